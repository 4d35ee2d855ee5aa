/-
  Proved: the statement of PlaceMoves; the parts before it hold what its proof needs.
-/
import Derived.Test.YtdbampcfmjbgmaaPlaceMovesQe
namespace Go.Proofs.Ytdbampcfmjbgmaa
set_option maxRecDepth 100000
set_option linter.unusedVariables false
set_option linter.unusedSimpArgs false
open Go.RowKit
theorem Uw (r:Al):(C4 r).Edges.length=4:=rfl
theorem VY (p:AF) (r:Int):(Dt p r).Edges.length=1:=rfl
def Kt (n:Nat) (l:List A1):Prop:=l.length<=n/\∀ g∈l,JQ g
theorem S8 {n:Nat} {c:Bool} {a b:List A1} (ha:Kt n a) (hb:Kt n b):Kt n (bif c then a else b):=by cases c <;> assumption
theorem S7 {n:Nat}:Kt n []:=⟨Nat.zero_le _,fun g hg=>by cases hg⟩
theorem QJ {n:Nat} {g:A1} {l:List A1} (hg:JQ g) (h:Kt n l):Kt (n+1) (g::l):=⟨Nat.succ_le_succ h.1,fun x hx=>(List.mem_cons.1 hx).elim (fun e=>e▸hg) (h.2 x)⟩
theorem cT {n:Nat} {g:A1} {l:List A1} (hg:JQ g) (h:Kt n l):Kt (n+1) (l++[g]):=⟨by rw [List.length_append];exact Nat.succ_le_succ h.1,fun x hx=>(List.mem_append.1 hx).elim (h.2 x) (fun e=>by rw [List.mem_singleton.1 e];exact hg)⟩
theorem UP {k:Int} {a c:Bm}:JQ (A1.mk k [a,c]):=(by decide:((2:Nat):Int)<=1000000)
theorem gs_up {n m:Nat} {l:List A1} (h:Kt n l) (k:n<=m):Kt m l:=⟨Nat.le_trans h.1 k,h.2⟩
theorem VP (l:List Int) (d:AE):Kt 3 (Z4F l d):=by
 have h1:Kt 2 (Z4r l d):=S8 (QJ UP S7) S7
 have h2:Kt 2 (Z4z l d):=S8 (QJ UP (QJ UP S7)) h1
 exact S8 (cT UP h2) (gs_up h2 (by decide))
theorem P7 (d:AE) (k:Int):((Z4h d k).length:Int)<=1000000:=by
 unfold Z4h Z4c Z4f
 cases decide ((AB (AB d 2).2 3).1=0) with
 | true=>rw [cond_true,Uw];decide
 | false =>
  rw [cond_false]
  cases decide ((AB (AB d 2).2 3).1=1) with
  | true=>rw [cond_true,VY];decide
  | false=>exact (by decide:((1:Nat):Int)<=1000000)
theorem OH (l:List Int) (name:ByteArray):∀ (n:Nat) (v:List A3) (d:AE) (k:Int),(∀ p∈v,Rx p)->(v.length:Int)<=1000000->((v.length:Int)+(W64 (2+(AB (AE.mk l 0) 5).1)-k)<=1000000)->((W64 (2+(AB (AE.mk l 0) 5).1))-k).toNat<n ->
  JO (Cq l name n v d k)
 | 0,v,d,k,_,_,_,h=>absurd h (Nat.not_lt_zero _)
 | n+1,v,d,k,hv,h0,h1,h2=>by
  unfold Cq
  by_cases h:k<W64 (2+(AB (AE.mk l 0) 5).1)
  ·rw [decide_eq_true h,cond_true]
   refine OH l name n _ _ (k+1) (fun p hp => ?_) (by simp only [List.length_append,List.length_cons,List.length_nil];omega) (by simp only [List.length_append,List.length_cons,List.length_nil];omega) (by omega)
   rcases List.mem_append.1 hp with hp | hp
   ·exact hv p hp
   rw [List.mem_singleton.1 hp]
   exact P7 d k
  rw [decide_eq_false h,cond_false]
  have hg:=VP l d
  exact ⟨h0,by have:=hg.1;show ((Z4F l d).length:Int)<=1000000;omega,hv,hg.2⟩
theorem RU (l:List Int) (name:ByteArray):JO (A2 l name):=by
 have hn:=Ct (AE.mk l 0) 5 (by decide) (by decide)
 have hw:W64 (2+(AB (AE.mk l 0) 5).1)=2+(AB (AE.mk l 0) 5).1:=Ap (by omega) (by omega)
 unfold A2
 exact OH l name _ [] _ 0 (fun p hp=>by cases hp) (by decide) (by simp only [List.length_nil];omega) (by omega)
theorem UA (l:List (List Int)) (v6_4:List AG) (v5:AE) (v8:Int) (a1 a3 a5:List Ab) (d1:AE) (v10:Int) (K0:List AG->AE->Int->(AH×(List AP))) (K1:List Ab->List Ab->List Ab->AE->Int->(AH×(List AP))) (hK:∀ a b c d,CN (K1 a b c d (v10+1)).2):∀ (n:Nat) (x y z:List Ab) (d:AE) (k:Int),0<=k->(((Bf [A2 (AR l 0) ({ data := #[82] }:ByteArray),A2 (AR l 1) ({ data := #[81] }:ByteArray)] (v6_4.getD v10.toNat default).Type').1.Pads.length:Int)-k).toNat<n->CN (C1 l v6_4 v5 v8 a1 a3 a5 d1 v10 K0 K1 n x y z d k).2
 | 0,x,y,z,d,k,_,h=>absurd h (Nat.not_lt_zero _)
 | n+1,x,y,z,d,k,k0,h=>by
  unfold C1
  show CN (bif decide ((k:Int)<((Bf [A2 (AR l 0) ({ data := #[82] }:ByteArray),A2 (AR l 1) ({ data := #[81] }:ByteArray)] (v6_4.getD v10.toNat default).Type').1.Pads.length:Int)) then (_:AH×List AP) else _).2
  by_cases hc:(k:Int)<((Bf [A2 (AR l 0) ({ data := #[82] }:ByteArray),A2 (AR l 1) ({ data := #[81] }:ByteArray)] (v6_4.getD v10.toNat default).Type').1.Pads.length:Int)
  ·rw [decide_eq_true hc]
   exact UA l v6_4 v5 v8 a1 a3 a5 d1 v10 K0 K1 hK n _ _ _ _ _ (by omega) (by omega)
  rw [decide_eq_false hc]
  exact hK _ _ _ _
theorem bA (a c:List Int) (x y:ByteArray):CN [A2 a x,A2 c y]:=by
 refine ⟨(by decide:((2:Nat):Int)<=1000000),fun t ht => ?_⟩
 simp only [List.mem_cons,List.not_mem_nil,or_false] at ht
 rcases ht with rfl | rfl <;> exact RU _ _
theorem UB (l:List (List Int)) (v6_4:List AG) (v5:AE) (v8:Int) (K0:List AG->AE->Int->(AH×(List AP))):∀ (n:Nat) (x y z:List Ab) (d:AE) (k:Int),0<=k->(W64 (1+(AB (AB (AE.mk (AR l 2) 0) 3).2 3).1)-k).toNat<n->CN (Cp l v6_4 v5 v8 K0 n x y z d k).2
 | 0,x,y,z,d,k,_,h=>absurd h (Nat.not_lt_zero _)
 | n+1,x,y,z,d,k,k0,h=>by
  unfold Cp
  by_cases hc:k<W64 (1+(AB (AB (AE.mk (AR l 2) 0) 3).2 3).1)
  ·simp only [hc,decide_true,cond_true]
   exact UA l v6_4 v5 v8 x y z d k K0 _ (fun a b c e=>UB l v6_4 v5 v8 K0 n a b c e (k+1) (by omega) (by omega)) _ _ _ _ _ 0 (by omega) (Nat.lt_succ_self _)
  simp only [hc,decide_false,cond_false]
  exact bA _ _ _ _
theorem UC (l:List (List Int)):∀ (n:Nat) (v:List AG) (d:AE) (k:Int),0<=k->(W64 (1+(AB (AB (AE.mk (AR l 2) 0) 3).2 3).1)-k).toNat<n->CN (CI l n v d k).2
 | 0,v,d,k,_,h=>absurd h (Nat.not_lt_zero _)
 | n+1,v,d,k,k0,h=>by
  unfold CI
  by_cases hc:k<W64 (1+(AB (AB (AE.mk (AR l 2) 0) 3).2 3).1)
  ·simp only [hc,decide_true,cond_true]
   exact UC l n _ _ _ (by omega) (by omega)
  simp only [hc,decide_false,cond_false]
  exact UB l v d k _ _ _ _ _ _ 0 (by omega) (Nat.lt_succ_self _)
theorem S1 (l:List (List Int)):CN (CW l).2:=by
 unfold CW
 exact UC l _ _ _ 0 (by omega) (Nat.lt_succ_self _)
def Ix {α:Type} [Inhabited α] (P:Nat->α->Prop) (v:List α):Prop:=∀ k,k<v.length->P k (v.getD k default)
theorem QA {α:Type} [Inhabited α] {P:Nat->α->Prop}:Ix P ([]:List α):=fun k h=>absurd h (Nat.not_lt_zero _)
theorem QC {α:Type} [Inhabited α] {P:Nat->α->Prop} {v:List α} {x:α} (h:Ix P v) (hx:P v.length x):Ix P (v++[x]):=by
 intro k hk
 by_cases h1:k<v.length
 ·rw [List.getD_eq_getElem?_getD,List.getElem?_append_left h1,<- List.getD_eq_getElem?_getD];exact h k h1
 have e:k=v.length:=by simp only [List.length_append,List.length_cons,List.length_nil] at hk;omega
 subst e
 rw [List.getD_eq_getElem?_getD,List.getElem?_append_right (Nat.le_refl _),Nat.sub_self];exact hx
theorem QB {α:Type} [Inhabited α] {P:Nat->α->Prop} {v:List α} {x:α} (h:Ix P v) (hx:x∈v):∃ k,k<v.length/\v.getD k default=x/\P k x:=by
 obtain ⟨k,hk,e⟩:=List.getElem_of_mem hx
 have e2:v.getD k default=x:=by rw [List.getD_eq_getElem?_getD,List.getElem?_eq_getElem hk];exact e
 exact ⟨k,hk,e2,e2▸h k hk⟩
structure Yh (k:Nat) (p:A3):Prop where
 lt:k<6
 name:p.Name=Ae k
 drill:0<=p.Drill/\p.Drill<=6
 shp:∃ y:Int,0<=y/\y<=10/\p.At=AF.mk (30*(k:Int)) y/\(p.Shape=C4 (Al.mk (30*(k:Int)-6) (y-6) (30*(k:Int)+6) (y+6))\/(∃ r:Int,4<=r/\r<=6/\p.Shape=Dt (AF.mk (30*(k:Int)) y) r)\/p.Shape=Ah.mk 1 [AO.mk 1 (AF.mk (30*(k:Int)-2) y) (AF.mk (30*(k:Int)+2) y) (AF.mk 0 0)] 4)
theorem CC {d:AE} {n:Int} (h0:0<n) (h1:n<=1000000):0<=(AB d n).1/\(AB d n).1<n:=Ct d n h0 (by omega)
theorem OJ (l:List Int) (name:ByteArray):∀ (n:Nat) (v:List A3) (d:AE) (k:Int),Ix Yh v->(v.length:Int)=k->k<=W64 (2+(AB (AE.mk l 0) 5).1)->(W64 (2+(AB (AE.mk l 0) 5).1)-k).toNat<n->Ix Yh (Cq l name n v d k).Pads
 | 0,v,d,k,_,_,_,h=>absurd h (Nat.not_lt_zero _)
 | n+1,v,d,k,hv,hl,hk,h=>by
  have hn:=CC (d:=AE.mk l 0) (n:=5) (by decide) (by decide)
  have hw:W64 (2+(AB (AE.mk l 0) 5).1)=2+(AB (AE.mk l 0) 5).1:=Ap (by omega) (by omega)
  unfold Cq
  by_cases hc:k<W64 (2+(AB (AE.mk l 0) 5).1)
  ·rw [decide_eq_true hc,cond_true]
   refine OJ l name n _ _ _ (QC hv ?_) (by simp only [List.length_append,List.length_cons,List.length_nil];omega) (by omega) (by omega)
   have hk6:v.length<6:=by omega
   have hy:=CC (d:=d) (n:=2) (by decide) (by decide)
   have hr:=CC (d:=(AB (AB d 2).2 3).2) (n:=3) (by decide) (by decide)
   have h4:=CC (d:=Z4g d) (n:=4) (by decide) (by decide)
   have h2:=CC (d:=(AB (Z4g d) 4).2) (n:=2) (by decide) (by decide)
   have e1:W64 (30*k)=30*(v.length:Int):=by rw [Ap (by omega) (by omega)];omega
   have e2:W64 (10*(AB d 2).1)=10*(AB d 2).1:=Ap (by omega) (by omega)
   refine ⟨hk6,by rw [<- hl],?_,10*(AB d 2).1,by omega,by omega,by show AF.mk _ _=_;rw [e1,e2],?_⟩
   ·show 0<=W64 (W64 (2*(AB (Z4g d) 4).1)*(AB (AB (Z4g d) 4).2 2).1)/\W64 (W64 (2*(AB (Z4g d) 4).1)*(AB (AB (Z4g d) 4).2 2).1)<=6
    rw [Ap (x:=2*(AB (Z4g d) 4).1) (by omega) (by omega)]
    have h01:(AB (AB (Z4g d) 4).2 2).1=0\/(AB (AB (Z4g d) 4).2 2).1=1:=by omega
    rcases h01 with h01 | h01 <;> rw [h01] <;> rw [Ap (by omega) (by omega)] <;> omega
   show (Ah.mk _ (Z4h d k) _=_)\/_
   unfold Z4h Z4c Z4f
   rw [e1,e2]
   cases decide ((AB (AB d 2).2 3).1=0) with
   | true =>
    simp only [cond_true]
    left
    rw [Ap (x:=30*(v.length:Int)-6) (by omega) (by omega),Ap (x:=10*(AB d 2).1-6) (by omega) (by omega),Ap (x:=30*(v.length:Int)+6) (by omega) (by omega),Ap (x:=10*(AB d 2).1+6) (by omega) (by omega)]
   | false =>
    simp only [cond_false]
    right
    cases decide ((AB (AB d 2).2 3).1=1) with
    | true =>
     simp only [cond_true]
     left
     exact ⟨W64 (4+(AB (AB (AB d 2).2 3).2 3).1),by rw [Ap (by omega) (by omega)];omega,by rw [Ap (by omega) (by omega)];omega,rfl⟩
    | false =>
     simp only [cond_false]
     right
     rw [Ap (x:=30*(v.length:Int)-2) (by omega) (by omega),Ap (x:=30*(v.length:Int)+2) (by omega) (by omega)]
  rw [decide_eq_false hc,cond_false]
  exact hv
theorem LH (l:List Int) (name:ByteArray):Ix Yh (A2 l name).Pads:=by
 have hn:=CC (d:=AE.mk l 0) (n:=5) (by decide) (by decide)
 have hw:W64 (2+(AB (AE.mk l 0) 5).1)=2+(AB (AE.mk l 0) 5).1:=Ap (by omega) (by omega)
 unfold A2
 exact OJ l name _ [] _ 0 QA rfl (by omega) (by omega)
abbrev nR:ByteArray:={ data := #[82] }
abbrev nQ:ByteArray:={ data := #[81] }
abbrev Qx:List ByteArray:=[({ data := #[82,49] }:ByteArray),({ data := #[82,50] }:ByteArray),({ data := #[120,47,82,49] }:ByteArray)]
structure Nb (k:Nat) (p:AG):Prop where
 id:p.Id=1+(k:Int)
 ref:p.Ref=Qx.getD k ⟨#[]⟩
 typ:p.Type'=nR\/p.Type'=nQ
 turn:0<=p.Turn/\p.Turn<4
 x:80<=p.At.X/\p.At.X<=300
 y:100<=p.At.Y/\p.At.Y<=270
abbrev I3 (l:List (List Int)):List AP:=[Z5g l,Z5h l]
theorem Uq (l:List (List Int)) {i:Int} (hi:0<=i/\i<2):((I3 l).getD i.toNat default).Name=nR\/((I3 l).getD i.toNat default).Name=nQ:=by
 have h01:i=0\/i=1:=by omega
 rcases h01 with rfl | rfl
 ·exact .inl (Ew _ _).1
 exact .inr (Ew _ _).1
theorem MQ (l:List (List Int)) {x:ByteArray} (h:x=nR\/x=nQ):∃ a,Bf (I3 l) x=(A2 a x,true)/\A2 a x∈I3 l:=by
 have h0:=(Ew (AR l 0) nR).1
 have h1:=(Ew (AR l 1) nQ).1
 rcases h with rfl | rfl
 ·refine ⟨AR l 0,?_,List.mem_cons_self ..⟩
  have:=OT (a:=Z5g l) (c:=Z5h l)
  rw [show (Z5g l).Name=nR from h0] at this
  exact this
 refine ⟨AR l 1,?_,List.mem_cons_of_mem _ (List.mem_cons_self ..)⟩
 have:=OR (a:=Z5g l) (c:=Z5h l) (by rw [show (Z5g l).Name=nR from h0,show (Z5h l).Name=nQ from h1];decide +kernel)
 rw [show (Z5h l).Name=nQ from h1] at this
 exact this
theorem Xt (l:List (List Int)) {x:ByteArray} (h:x=nR\/x=nQ):((Bf (I3 l) x).1.Pads.length:Int)<=6:=by
 obtain ⟨a,e,_⟩:=MQ l h
 rw [e]
 exact (Ew a x).2.2
theorem Mi (v5'':AE) (v:List Ab) (v6_4:List AG) (v10:Int) (l:List (List Int)) (v13:Int):(Z5Y v5'' v v6_4 v10 l v13).length<=v.length+1/\(Z5Z v5'' v v6_4 v10 l v13).length<=v.length+1/\(Z60 v5'' v v6_4 v10 l v13).length<=v.length+1:=by
 unfold Z5Y Z5Z Z60
 cases decide ((AB v5'' 5).1<3) <;> cases decide ((AB v5'' 5).1=0) <;> cases decide ((AB v5'' 5).1=1) <;> simp
theorem UH (l:List (List Int)) (v6_4:List AG) (v5:AE) (v8:Int) (a1 a3 a5:List Ab) (d1:AE) (v10:Int) (K0:List AG->AE->Int->(AH×(List AP))) (K1:List Ab->List Ab->List Ab->AE->Int->(AH×(List AP))) (Q:AH×List AP->Prop) (M:Nat) (hK:∀ a b c d,a.length<=M->b.length<=M->c.length<=M->Q (K1 a b c d (v10+1))) :
  ∀ (n:Nat) (x y z:List Ab) (d:AE) (k:Int),0<=k->(x.length:Int)+((Z5P l v6_4 v10).Pads.length-k)<=M->(y.length:Int)+((Z5P l v6_4 v10).Pads.length-k)<=M->(z.length:Int)+((Z5P l v6_4 v10).Pads.length-k)<=M->k<=(Z5P l v6_4 v10).Pads.length->(((Z5P l v6_4 v10).Pads.length:Int)-k).toNat<n->Q (C1 l v6_4 v5 v8 a1 a3 a5 d1 v10 K0 K1 n x y z d k)
 | 0,x,y,z,d,k,_,_,_,_,_,h=>absurd h (Nat.not_lt_zero _)
 | n+1,x,y,z,d,k,k0,hx,hy,hz,hk,h=>by
  unfold C1
  by_cases hc:(k:Int)<((Z5P l v6_4 v10).Pads.length:Int)
  ·rw [decide_eq_true hc,cond_true]
   have p1:=(Mi d x v6_4 v10 l k).1
   have p2:=(Mi d y v6_4 v10 l k).2.1
   have p3:=(Mi d z v6_4 v10 l k).2.2
   exact UH l v6_4 v5 v8 a1 a3 a5 d1 v10 K0 K1 Q M hK n _ _ _ _ _ (by omega) (by omega) (by omega) (by omega) (by omega) (by omega)
  rw [decide_eq_false hc,cond_false]
  exact hK _ _ _ _ (by omega) (by omega) (by omega)
theorem UI (l:List (List Int)) (v6_4:List AG) (v5:AE) (v8:Int) (K0:List AG->AE->Int->(AH×(List AP))) (Q:AH×List AP->Prop) (hp:Ix Nb v6_4) (hm:(v6_4.length:Int)=W64 (1+(AB (AB (AE.mk (AR l 2) 0) 3).2 3).1)) (h3:v6_4.length<=3) (hQ:∀ x y z:List Ab,x.length<=18->y.length<=18->z.length<=18->Q ((Z66 l v6_4 x y z).1,I3 l)) :
  ∀ (n:Nat) (x y z:List Ab) (d:AE) (k:Int),0<=k->(x.length:Int)<=6*k->(y.length:Int)<=6*k->(z.length:Int)<=6*k->k<=(v6_4.length:Int)->((v6_4.length:Int)-k).toNat<n->Q (Cp l v6_4 v5 v8 K0 n x y z d k)
 | 0,x,y,z,d,k,_,_,_,_,_,h=>absurd h (Nat.not_lt_zero _)
 | n+1,x,y,z,d,k,k0,hx,hy,hz,hk,h=>by
  unfold Cp
  rw [<- hm]
  by_cases hc:k<(v6_4.length:Int)
  ·rw [decide_eq_true hc,cond_true]
   have hg:=Xt l (hp k.toNat (by omega)).typ
   have hg:((Z5P l v6_4 k).Pads.length:Int)<=6:=hg
   exact UH l v6_4 v5 v8 x y z d k K0 _ Q (6*(k+1)).toNat (fun a b c e ha hb hc'=>UI l v6_4 v5 v8 K0 Q hp hm h3 hQ n a b c e (k+1) (by omega) (by omega) (by omega) (by omega) (by omega) (by omega)) _ _ _ _ _ 0 (by omega) (by omega) (by omega) (by omega) (by omega) (by omega)
  rw [decide_eq_false hc,cond_false]
  exact hQ _ _ _ (by omega) (by omega) (by omega)
theorem UJ (l:List (List Int)) (Q:AH×List AP->Prop) (hQ:∀ (v:List AG) (x y z:List Ab),Ix Nb v->1<=v.length->v.length<=3->x.length<=18->y.length<=18->z.length<=18->Q ((Z66 l v x y z).1,I3 l)) :
  ∀ (n:Nat) (v:List AG) (d:AE) (k:Int),Ix Nb v->(v.length:Int)=k->k<=W64 (1+(AB (AB (AE.mk (AR l 2) 0) 3).2 3).1)->(W64 (1+(AB (AB (AE.mk (AR l 2) 0) 3).2 3).1)-k).toNat<n->Q (CI l n v d k)
 | 0,v,d,k,_,_,_,h=>absurd h (Nat.not_lt_zero _)
 | n+1,v,d,k,hv,hl,hk,h=>by
  have hn:=CC (d:=(AB (AE.mk (AR l 2) 0) 3).2) (n:=3) (by decide) (by decide)
  have hw:W64 (1+(AB (AB (AE.mk (AR l 2) 0) 3).2 3).1)=1+(AB (AB (AE.mk (AR l 2) 0) 3).2 3).1:=Ap (by omega) (by omega)
  unfold CI
  by_cases hc:k<W64 (1+(AB (AB (AE.mk (AR l 2) 0) 3).2 3).1)
  ·rw [decide_eq_true hc,cond_true]
   refine UJ l Q hQ n _ _ _ (QC hv ?_) (by simp only [List.length_append,List.length_cons,List.length_nil];omega) (by omega) (by omega)
   have h2:=CC (d:=d) (n:=2) (by decide) (by decide)
   have h4:=CC (d:=(AB d 2).2) (n:=4) (by decide) (by decide)
   have h5:=CC (d:=Z5B d) (n:=5) (by decide) (by decide)
   have h6:=CC (d:=(AB (Z5B d) 5).2) (n:=3) (by decide) (by decide)
   have h7:=CC (d:=Z5E d) (n:=3) (by decide) (by decide)
   refine ⟨?_,by rw [<- hl];rfl,Uq l h2,h4,?_,?_⟩
   ·show W64 (1+k)=_
    rw [Ap (by omega) (by omega)];omega
   ·show 80<=W64 (W64 (80+W64 (100*k))+W64 (5*(AB (Z5B d) 5).1))/\W64 (W64 (80+W64 (100*k))+W64 (5*(AB (Z5B d) 5).1))<=300
    rw [Ap (x:=100*k) (by omega) (by omega),Ap (x:=80+100*k) (by omega) (by omega),Ap (x:=5*(AB (Z5B d) 5).1) (by omega) (by omega),Ap (by omega) (by omega)]
    omega
   show 100<=W64 (W64 (100+W64 (80*(AB (AB (Z5B d) 5).2 3).1))+W64 (5*(AB (Z5E d) 3).1))/\W64 (W64 (100+W64 (80*(AB (AB (Z5B d) 5).2 3).1))+W64 (5*(AB (Z5E d) 3).1))<=270
   rw [Ap (x:=80*(AB (AB (Z5B d) 5).2 3).1) (by omega) (by omega),Ap (x:=100+80*(AB (AB (Z5B d) 5).2 3).1) (by omega) (by omega),Ap (x:=5*(AB (Z5E d) 3).1) (by omega) (by omega),Ap (by omega) (by omega)]
   omega
  rw [decide_eq_false hc,cond_false]
  exact UI l v d k _ Q hv (by omega) (by omega) (fun x y z hx hy hz=>hQ v x y z hv (by omega) (by omega) hx hy hz) _ [] [] [] _ 0 (by omega) (by simp) (by simp) (by simp) (by omega) (by omega)
theorem My (l:List (List Int)) (Q:AH×List AP->Prop) (hQ:∀ (v:List AG) (x y z:List Ab),Ix Nb v->1<=v.length->v.length<=3->x.length<=18->y.length<=18->z.length<=18->Q ((Z66 l v x y z).1,I3 l)):Q (CW l):=by
 have hn:=CC (d:=(AB (AE.mk (AR l 2) 0) 3).2) (n:=3) (by decide) (by decide)
 have hw:W64 (1+(AB (AB (AE.mk (AR l 2) 0) 3).2 3).1)=1+(AB (AB (AE.mk (AR l 2) 0) 3).2 3).1:=Ap (by omega) (by omega)
 unfold CW
 exact UJ l Q hQ _ [] _ 0 QA rfl (by omega) (by omega)
def PtB (p:AF):Prop:=(-900<=p.X/\p.X<=900) /\ -900<=p.Y/\p.Y<=900
theorem Mv {x:Int} (h : -500<=x/\x<=500) : -500<=W64 (0-x)/\W64 (0-x)<=500:=by rw [Ap (by omega) (by omega)];omega
theorem Ye {x y:Int} (h : -500<=x/\x<=500) (k : -400<=y/\y<=400) : -900<=W64 (x+y)/\W64 (x+y)<=900:=by rw [Ap (by omega) (by omega)];omega
theorem Ya {m:AY} {p:AF} (hp:(-500<=p.X/\p.X<=500) /\ -500<=p.Y/\p.Y<=500) (ha:(-400<=m.At.X/\m.At.X<=400) /\ -400<=m.At.Y/\m.At.Y<=400):PtB (DW m p):=by
 have h1:(-500<=(Bh p m.Mirror).X/\(Bh p m.Mirror).X<=500) /\ -500<=(Bh p m.Mirror).Y/\(Bh p m.Mirror).Y<=500:=by
  unfold Bh
  cases m.Mirror with
  | true=>exact ⟨Mv hp.1,hp.2⟩
  | false=>exact hp
 have h2:∀ q:AF,((-500<=q.X/\q.X<=500) /\ -500<=q.Y/\q.Y<=500)->(-500<=(Bs q m.Turn).X/\(Bs q m.Turn).X<=500) /\ -500<=(Bs q m.Turn).Y/\(Bs q m.Turn).Y<=500:=fun q hq=>by
  unfold Bs
  cases decide (B3 m.Turn=1) with
  | true=>exact ⟨Mv hq.2,hq.1⟩
  | false =>
   cases decide (B3 m.Turn=2) with
   | true=>exact ⟨Mv hq.1,Mv hq.2⟩
   | false =>
    cases decide (B3 m.Turn=3) with
    | true=>exact ⟨hq.2,Mv hq.1⟩
    | false=>exact hq
 have h3:=h2 _ h1
 exact ⟨Ye h3.1 ha.1,Ye h3.2 ha.2⟩
theorem Yo (b:AH) (l:List (List Int)) (d:AE) (hP:Ix Nb b.Parts):PtB (Bn b (I3 l) d).1:=by
 have h12:=CC (d:=d) (n:=12) (by decide) (by decide)
 have h6:=CC (d:=(AB d 12).2) (n:=6) (by decide) (by decide)
 unfold Bn
 cases hq:(bif decide ((AB d 12).1<8) then decide ((0:Int)<(b.Parts.length:Int)) else false) with
 | true =>
  have hi:=Qp hq
  rw [cond_true]
  show PtB (Z1e b d (I3 l))
  have hp:=hP (Int.tmod (AB d 12).1 (b.Parts.length:Int)).toNat (by omega)
  obtain ⟨a,e,_⟩:=MQ l hp.typ
  have hx:=hp.x
  have hy:=hp.y
  unfold Z1e
  refine Ya ?_ (by show (-400<=(Z1c b d).At.X/\(Z1c b d).At.X<=400) /\ -400<=(Z1c b d).At.Y/\(Z1c b d).At.Y<=400;unfold Z1c;omega)
  unfold Z1d Z1c
  rw [e]
  generalize (Int.tmod (AB (AB d 12).2 6).1 _).toNat=k
  by_cases hk:k<(A2 a (b.Parts.getD (Int.tmod (AB d 12).1 (b.Parts.length:Int)).toNat default).Type').Pads.length
  ·obtain ⟨h1,_,_,y,hy0,hy1,hat,_⟩:=LH a _ k hk
   show (-500<=((A2 a (b.Parts.getD (Int.tmod (AB d 12).1 (b.Parts.length:Int)).toNat default).Type').Pads.getD k default).At.X/\_)/\_
   rw [hat]
   simp only
   omega
  rw [List.getD_eq_getElem?_getD,List.getElem?_eq_none (by show (A2 a (b.Parts.getD (Int.tmod (AB d 12).1 (b.Parts.length:Int)).toNat default).Type').Pads.length<=k;omega)]
  exact (by decide:(-500<=(0:Int)/\(0:Int)<=500) /\ -500<=(0:Int)/\(0:Int)<=500)
 | false =>
  rw [cond_false]
  show (-900<=W64 (30+Int.tmod (W64 (40*(AB d 12).1)) 360)/\W64 (30+Int.tmod (W64 (40*(AB d 12).1)) 360)<=900) /\ -900<=W64 (30+W64 (60*(AB (AB d 12).2 6).1))/\W64 (30+W64 (60*(AB (AB d 12).2 6).1))<=900
  rw [Ap (x:=40*(AB d 12).1) (by omega) (by omega),Int.tmod_eq_emod_of_nonneg (by omega),Ap (x:=60*(AB (AB d 12).2 6).1) (by omega) (by omega),Ap (by omega) (by omega),Ap (by omega) (by omega)]
  omega
structure NX (k:Nat) (t:Aj):Prop where
 id:t.Id=11+(k:Int)
 lay:1<=t.Layer/\t.Layer<=2
 kind:t.Shape.Kind=1
 r:3<=t.Shape.R/\t.Shape.R<=6
 edg:∃ a c d,PtB a/\PtB c/\t.Shape.Edges=(CM a c d).1
structure Zy (k:Nat) (v:Br):Prop where
 id:v.Id=21+(k:Int)
 lay:v.From=1/\v.To=2
 r:6<=v.R/\v.R<=10
 at_:PtB v.At
 drill:4<=v.Drill/\v.Drill<=8
def aV (s:Bb):Prop:=∃ r p,3<=r/\r<=6/\PtB p/\s.Shape=Ah.mk 1 [EM p (AF.mk (W64 (p.X+25)) (W64 (p.Y+10)))] r
def Uk (p:BB):Prop:=p.Rects.length<=2
def Ul (p:BS):Prop:=p.Shape.Edges.length=4
abbrev Uh (b:AH) (types:List AP):Prop:=∀ d,PtB (Bn (AH.mk b.Layers b.Outline b.Parts [] [] [] [] [] [] [] [] [] []) types d).1
abbrev Z0 (b:AH) (Q:AH->Prop):Prop:=∀ (v1:List Aj) (v2:List Br) (v3:List BB) (v4:List BS) (v5:List Bb),Ix NX v1->v1.length<=5->Ix Zy v2->v2.length<=2->v3.length<=2->v4.length<=1->v5.length<=1->(∀ s∈v5,aV s)->(∀ p∈v3,Uk p)->(∀ p∈v4,Ul p)->Q (AH.mk b.Layers b.Outline b.Parts b.Nets v1 v2 v3 v4 v5 [] [] [] [])
theorem XF (b:AH) (types:List AP) (l:List (List Int)) (v1:List Aj) (v6:AE) (v7:ByteArray) (v9:Int) (v2:List Br) (v6':AE) (v11:Int) (K0:List Aj->AE->ByteArray->Int->AH) (K1:List Br->AE->Int->AH) (Q:AH->Prop) (hs:Uh b types) (hQ:Z0 b Q) (h1:Ix NX v1) (h1l:v1.length<=5) (h2:Ix Zy v2) (h2l:v2.length<=2) :
  ∀ (n:Nat) (v:List BB) (d:AE) (k:Int),(∀ p∈v,Uk p)->0<=k->(v.length:Int)<=k->k<=(AB v6' 3).1->((AB v6' 3).1-k).toNat<n->Q (B6 b types l v1 v6 v7 v9 v2 v6' v11 K0 K1 n v d k)
 | 0,v,d,k,_,_,_,_,h=>absurd h (Nat.not_lt_zero _)
 | n+1,v,d,k,hv,k0,kv,kk,h=>by
  have hb:=CC (d:=v6') (n:=3) (by decide) (by decide)
  unfold B6
  by_cases hc:k<(AB v6' 3).1
  ·rw [decide_eq_true hc,cond_true]
   exact XF b types l v1 v6 v7 v9 v2 v6' v11 K0 K1 Q hs hQ h1 h1l h2 h2l n _ _ _ (fun p hp=>by
    rcases List.mem_append.1 hp with hp | hp
    ·exact hv p hp
    rw [List.mem_singleton.1 hp]
    show (Z2D b d).length<=2
    unfold Z2D
    cases decide ((AB (AB (Z2v b d) 6).2 3).1=0) <;> simp) (by omega) (by simp only [List.length_append,List.length_cons,List.length_nil];omega) (by omega) (by omega)
  rw [decide_eq_false hc,cond_false]
  have h4:(Z1A l b types).length<=1:=by
   unfold Z1A
   cases decide ((AB (AE.mk (AR l 6) 0) 3).1=0) <;> simp
  have h4k:∀ p∈Z1A l b types,Ul p:=by
   unfold Z1A
   cases decide ((AB (AE.mk (AR l 6) 0) 3).1=0) with
   | true=>intro p hp;rw [cond_true] at hp;rw [List.mem_singleton.1 hp];rfl
   | false=>intro p hp;cases hp
  cases decide ((AB (Z1z l b types) 3).1=0) with
  | true =>
   rw [cond_true]
   refine hQ _ _ _ _ _ h1 h1l h2 h2l (by omega) h4 (by simp) (fun s hm => ?_) hv h4k
   rw [List.mem_singleton.1 hm]
   have hr:=CC (d:=Z1F b types l) (n:=4) (by decide) (by decide)
   exact ⟨W64 (3+(AB (Z1F b types l) 4).1),Z1G b types l,by rw [Ap (by omega) (by omega)];omega,by rw [Ap (by omega) (by omega)];omega,hs _,rfl⟩
  | false =>
   rw [cond_false]
   exact hQ _ _ _ _ _ h1 h1l h2 h2l (by omega) h4 (by simp) (fun s hm=>by cases hm) hv h4k
theorem XG (b:AH) (types:List AP) (l:List (List Int)) (v1:List Aj) (v6:AE) (v7:ByteArray) (v9:Int) (K0:List Aj->AE->ByteArray->Int->AH) (Q:AH->Prop) (hs:Uh b types) (hQ:Z0 b Q) (h1:Ix NX v1) (h1l:v1.length<=5) :
  ∀ (n:Nat) (v:List Br) (d:AE) (k:Int),Ix Zy v->(v.length:Int)=k->k<=(AB (AE.mk (AR l 5) 0) 3).1->((AB (AE.mk (AR l 5) 0) 3).1-k).toNat<n->Q (CG b types l v1 v6 v7 v9 K0 n v d k)
 | 0,v,d,k,_,_,_,h=>absurd h (Nat.not_lt_zero _)
 | n+1,v,d,k,hv,kv,kk,h=>by
  have hb:=CC (d:=AE.mk (AR l 5) 0) (n:=3) (by decide) (by decide)
  unfold CG
  by_cases hc:k<(AB (AE.mk (AR l 5) 0) 3).1
  ·rw [decide_eq_true hc,cond_true]
   refine XG b types l v1 v6 v7 v9 K0 Q hs hQ h1 h1l n _ _ _ (QC hv ?_) (by simp only [List.length_append,List.length_cons,List.length_nil];omega) (by omega) (by omega)
   have h5:=CC (d:=Z2a b types d) (n:=5) (by decide) (by decide)
   have h3:=CC (d:=(AB (Z2a b types d) 5).2) (n:=3) (by decide) (by decide)
   refine ⟨?_,⟨rfl,rfl⟩,?_,hs _,?_⟩
   ·show W64 (21+k)=_
    rw [Ap (by omega) (by omega)];omega
   ·show 6<=W64 (6+_)/\W64 (6+_)<=10
    rw [Ap (by omega) (by omega)];omega
   show 4<=W64 (4+W64 (2*_))/\W64 (4+W64 (2*_))<=8
   rw [Ap (x:=2*_) (by omega) (by omega),Ap (by omega) (by omega)];omega
  rw [decide_eq_false hc,cond_false]
  have hd:=CC (d:=d) (n:=3) (by decide) (by decide)
  exact XF b types l v1 v6 v7 v9 v d k K0 _ Q hs hQ h1 h1l hv (by omega) _ [] _ 0 (fun p hp=>by cases hp) (by omega) (by simp) (by omega) (by omega)
theorem XH (b:AH) (types:List AP) (l:List (List Int)) (Q:AH->Prop) (hs:Uh b types) (hQ:Z0 b Q) :
  ∀ (n:Nat) (v:List Aj) (d:AE) (s:ByteArray) (k:Int),Ix NX v->(v.length:Int)=k->k<=(AB (Z1l b l) 6).1->((AB (Z1l b l) 6).1-k).toNat<n->Q (B1 b types l n v d s k)
 | 0,v,d,s,k,_,_,_,h=>absurd h (Nat.not_lt_zero _)
 | n+1,v,d,s,k,hv,kv,kk,h=>by
  have hb:=CC (d:=Z1l b l) (n:=6) (by decide) (by decide)
  unfold B1
  by_cases hc:k<(AB (Z1l b l) 6).1
  ·rw [decide_eq_true hc,cond_true]
   refine XH b types l Q hs hQ n _ _ _ _ (QC hv ?_) (by simp only [List.length_append,List.length_cons,List.length_nil];omega) (by omega) (by omega)
   have h2:=CC (d:=d) (n:=2) (by decide) (by decide)
   have h4:=CC (d:=(AB d 2).2) (n:=4) (by decide) (by decide)
   refine ⟨?_,?_,rfl,?_,_,_,_,?_,?_,rfl⟩
   ·show W64 (11+k)=_
    rw [Ap (by omega) (by omega)];omega
   ·show 1<=W64 (1+_)/\W64 (1+_)<=2
    rw [Ap (by omega) (by omega)];omega
   ·show 3<=W64 (3+_)/\W64 (3+_)<=6
    rw [Ap (by omega) (by omega)];omega
   ·exact hs _
   exact hs _
  rw [decide_eq_false hc,cond_false]
  exact XG b types l v d s k _ Q hs hQ hv (by omega) _ [] _ 0 QA rfl (by have:=CC (d:=AE.mk (AR l 5) 0) (n:=3) (by decide) (by decide);omega) (by omega)
theorem ZT (b:AH) (types:List AP) (l:List (List Int)) (Q:AH->Prop) (hs:Uh b types) (hQ:Z0 b Q):Q (BG b types l):=by
 have hb:=CC (d:=Z1l b l) (n:=6) (by decide) (by decide)
 unfold BG
 exact XH b types l Q hs hQ _ [] _ _ 0 QA rfl (by omega) (by omega)
structure FF (B:AH) (T:List AP) (l:List (List Int)):Prop where
 lay:B.Layers=2
 types:T=I3 l
 par:Ix Nb B.Parts
 parl:1<=B.Parts.length/\B.Parts.length<=3
 net:∃ p q r,B.Nets=[BA.mk nN1 p,BA.mk nN2 q,BA.mk ZZ r]/\p.length<=18/\q.length<=18/\r.length<=18
 trk:Ix NX B.Tracks
 trkl:B.Tracks.length<=5
 via:Ix Zy B.Vias
 vial:B.Vias.length<=2
 slot:∀ s∈B.Slots,aV s
 slotl:B.Slots.length<=1
 poul:B.Pours.length<=2
 keel:B.Keeps.length<=1
 pour:∀ p∈B.Pours,Uk p
 keep:∀ p∈B.Keeps,Ul p
theorem cE {α:Type} {c:Bool} {a b:AH×α} {T:List AP} {l:List (List Int)} (h:FF a.1 T l) (k:FF b.1 T l):FF (bif c then a else b).1 T l:=by cases c <;> assumption
theorem XW (l:List (List Int)):FF (CW l).1 (CW l).2 l:=by
 refine My l (fun x=>FF x.1 x.2 l) fun v x y z hv h1 h3 hx hy hz => ?_
 show FF (Z66 l v x y z).1 (I3 l) l
 unfold Z66
 have ho:=ZT (AH.mk 2 (Z5o l) v [BA.mk nN1 x,BA.mk nN2 y,BA.mk ZZ z] [] [] [] [] [] [] [] [] []) (I3 l) l
  (fun B=>FF B (I3 l) l) (fun d=>Yo _ l d hv) (fun v1 v2 v3 v4 v5 a b c e f g h i j k=>⟨rfl,rfl,hv,⟨h1,h3⟩,⟨x,y,z,rfl,hx,hy,hz⟩,a,b,c,e,i,h,f,g,j,k⟩)
 have ho:FF (Z64 l v x y z) (I3 l) l:=ho
 obtain ⟨a1,a2,a3,a4,a5,a6,a7,a8,a9,a10,a11,a12,a13,a14,a15⟩:=ho
 unfold Cb
 exact cE ⟨a1,a2,a3,a4,a5,a6,a7,a8,a9,a10,a11,a12,a13,a14,a15⟩ ⟨a1,a2,a3,a4,a5,a6,a7,a8,a9,a10,a11,a12,a13,a14,a15⟩
def Z7h (l:(List (List Int))):AH:=(CW (l.take (min (l.length:Int) 8:Int).toNat)).1
def AA (l:(List (List Int))):(AH×(List AP)):=(Z7h l,(CW (l.take (min (l.length:Int) 8:Int).toNat)).2)
abbrev R9 (l:List (List Int)):List Av:=[.agg (AH.c (AA l).1),.one (lst 3 AP.c (AA l).2)]
def QQ (l:(List (List Int))):CT:=(8,[.one (lst 1 (fun x=>[lst 1 eIn x]) l)],.val [] (.tup (R9 l)))
theorem ZB (l:(List (List Int))) (hl:(l.length:Int)<=9223372036854775807) (hll:∀ x∈l,(x.length:Int)<=9223372036854775807):PuP 8 (QQ l).2.1 (.tup [.agg (AH.c (AA l).1),.one (lst 3 AP.c (AA l).2)]):=by
 refine pwf Try.func8 fun W0 M0 => ?_
 refine AD<|rn ⟨[(0,.av (oL l)),(2,tP 2 0)],[(2,.cells Nv 42)]⟩<|AD ?_
 refine rc [(9,ceI [.one (.list false 1 ((min (l.length:Int) 8:Int).toNat-(0:Int).toNat) (fun i_ j_=>(AU (fun x=>[lst 1 eIn x]) l) (i_+(0:Int).toNat) j_))] (Ll (l.take (min (l.length:Int) 8:Int).toNat)))] [0<=(0:Int)/\(0:Int)<=(min (l.length:Int) 8:Int)/\(min (l.length:Int) 8:Int)<=((l.length:Nat):Int),Ay (ceI [.one (.list false 1 ((min (l.length:Int) 8:Int).toNat-(0:Int).toNat) (fun i_ j_=>(AU (fun x=>[lst 1 eIn x]) l) (i_+(0:Int).toNat) j_))] (Ll (l.take (min (l.length:Int) 8:Int).toNat))).2.1] ⟨[(2,tP 2 0),(3,tO (lst 3 AP.c (CW (l.take (min (l.length:Int) 8:Int).toNat)).2))],[(2,.cells (AH.c (Z7h l)) 42)]⟩ (.cons (CX (XD (l.take (min (l.length:Int) 8:Int).toNat) (by first | (exact fun x hx=>hll x (List.mem_of_mem_take hx)) | (simp only [List.length_take];omega) | with_reducible assumption | omega | decide | (simp only [List.length_cons,List.length_nil,List.length_append];omega) | assumption) (by first | (exact fun x hx=>hll x (List.mem_of_mem_take hx)) | (simp only [List.length_take];omega) | with_reducible assumption | omega | decide | (simp only [List.length_cons,List.length_nil,List.length_append];omega) | assumption)) (.cons (.one (Be false (Ur (b:=min (l.length:Int) 8) (A8 1 (fun x=>[lst 1 eIn x]) l) (by have hc:=(show 0<=(0:Int)/\(0:Int)<=(min (l.length:Int) 8:Int)/\(min (l.length:Int) 8:Int)<=((l.length:Nat):Int) from au1);exact hc.2.1) (by have hc:=(show 0<=(0:Int)/\(0:Int)<=(min (l.length:Int) 8:Int)/\(min (l.length:Int) 8:Int)<=((l.length:Nat):Int) from au1);exact hc.2.2)))) .nil)) .nil) (.cons au1 (.cons rfl .nil))<|AJ<|Af ?_
 exact xl (.tup [.agg (AH.c (Z7h l)),.one (lst 3 AP.c (CW (l.take (min (l.length:Int) 8:Int).toNat)).2)]) (An (by rfl))
theorem W9 (l:(List (List Int))) (hl:(l.length:Int)<=9223372036854775807) (hll:∀ x∈l,(x.length:Int)<=9223372036854775807):OKc (QQ l):=cPu<|ZB l hl hll
theorem Dw (l:List (List Int)):CN (AA l).2:=S1 _
theorem Mz (l:List (List Int)):Gt (AA l).1:=cH _
theorem Jm (l:List (List Int)):∃ k,FF (AA l).1 (AA l).2 k:=⟨_,XW _⟩
theorem LG (l:List (List Int)):((AA l).1.Nets.length:Int)<=1000000:=by
 obtain ⟨k,h⟩:=Jm l
 obtain ⟨p,q,r,e,_⟩:=h.net
 rw [e];show ((3:Nat):Int)<=1000000;decide
theorem LF (l:List (List Int)):∀ n∈(AA l).1.Nets,(n.Pins.length:Int)<=1000000:=by
 obtain ⟨k,h⟩:=Jm l
 obtain ⟨p,q,r,e,h1,h2,h3⟩:=h.net
 rw [e]
 intro n hn
 simp only [List.mem_cons,List.not_mem_nil,or_false] at hn
 rcases hn with rfl | rfl | rfl <;> (simp only;omega)
theorem LE (l:List (List Int)):((Ac (AA l).1 (AA l).2).length:Int)<=20000000:=by
 have h:=(Mz l).par
 exact OA (by omega) (Dw l)
theorem TN {α:Type} {c:Bool} {a b:BI×α} (h:Bt a.1) (k:Bt b.1):Bt (bif c then a else b).1:=by cases c <;> assumption
theorem Hx:Bt AK:=.inl ⟨_,rfl⟩
theorem UY (d:AE):Bt (BF d).1:=by
 unfold BF
 repeat (first | exact .inl ⟨_,rfl⟩ | exact .inr (.inl ⟨_,_,_,⟨_,_,_,_⟩,rfl⟩) | exact .inr (.inr ⟨_,_,_,⟨_,_,_,_⟩,_,_,_,⟨_,_,_,_⟩,rfl⟩) | refine TN ?_ ?_)
theorem N8 {l m:List Aq} (h:∀ r∈l,Bt r.A/\Bt r.B) (k:∀ r∈m,Bt r.A/\Bt r.B):∀ r∈l++m,Bt r.A/\Bt r.B:=fun r hr=>(List.mem_append.1 hr).elim (h r) (k r)
theorem N4 {a b:Aq} (h:Bt a.A/\Bt a.B) (k:Bt b.A/\Bt b.B):∀ r∈[a,b],Bt r.A/\Bt r.B:=fun r hr=>by
 simp only [List.mem_cons,List.not_mem_nil,or_false] at hr
 rcases hr with rfl | rfl <;> assumption
theorem Uu {a:Aq} (h:Bt a.A/\Bt a.B):∀ r∈[a],Bt r.A/\Bt r.B:=fun r hr=>by
 rw [List.mem_singleton.1 hr];exact h
theorem N7 {c:Bool} {l m:List Aq} (h:∀ r∈l,Bt r.A/\Bt r.B) (k:∀ r∈m,Bt r.A/\Bt r.B):∀ r∈(bif c then l else m),Bt r.A/\Bt r.B:=by cases c <;> assumption
theorem Qt (d:AE):∀ r∈Z3m d,Bt r.A/\Bt r.B:=by
 unfold Z3m
 have h2:=fun x y=>N4 (a:=Aq.mk ({ data := #[99,49] }:ByteArray) 1 1 AK AK x) (b:=Aq.mk ({ data := #[101,49] }:ByteArray) 1 3 AK AK y) ⟨Hx,Hx⟩ ⟨Hx,Hx⟩
 exact N7 (N8 (h2 _ _) (N4 ⟨Hx,Hx⟩ ⟨Hx,Hx⟩)) (h2 _ _)
theorem N5 (d:AE):∀ r∈Z3B d,Bt r.A/\Bt r.B:=by
 unfold Z3B
 exact N7 (N8 (Qt d) (Uu ⟨UY _,UY _⟩)) (Qt d)
theorem N6 (d:AE):(Z3B d).length<=5:=by
 unfold Z3B Z3m
 cases decide ((AB (Z3l d) 2).1=1) <;> cases decide ((AB (AB (AB d 10).2 8).2 2).1=1) <;> simp
structure Ve (b:AH):Prop where
 rul:QY b
 rull:b.Rules.length<=5
 cla:b.Classes.length<=1
 clan:∀ c∈b.Classes,c.Nets.length<=1
 wai:b.Waivers.length<=1
 mat:b.Matches.length<=1
 matn:∀ c∈b.Matches,c.Nets.length<=2
theorem dE (d:AE):(Z3G d).length<=1/\∀ c∈Z3G d,c.Nets.length<=1:=by
 unfold Z3G
 cases decide ((AB (Z3A d) 3).1=0) with
 | true=>exact ⟨by simp,fun c hc=>by rw [cond_true] at hc;rw [List.mem_singleton.1 hc];exact Nat.le_refl 1⟩
 | false=>exact ⟨by simp,fun c hc=>by cases hc⟩
theorem WU (d:AE) (b:AH):(Z3Q d b).length<=1:=by
 unfold Z3Q
 cases decide ((AB (AB (Z3A d) 3).2 4).1=0) <;> simp
theorem Wf {α:Type} {c:Bool} {a b:AH×α} (h:Ve a.1) (k:Ve b.1):Ve (bif c then a else b).1:=by cases c <;> assumption
theorem Yt (b:AH) (d:AE):Ve (Cb b d).1:=by
 unfold Cb
 have hc:=dE d
 refine Wf ⟨N5 d,N6 d,hc.1,hc.2,WU d b,?_,fun c h => ?_⟩ ⟨N5 d,N6 d,hc.1,hc.2,WU d b,?_,fun c h => ?_⟩
 ·exact Nat.le_refl 1
 ·rw [List.mem_singleton.1 h];exact Nat.le_refl 2
 ·exact Nat.zero_le 1
 cases h
theorem XV (l:List (List Int)):Ve (CW l).1:=My l (fun x=>Ve x.1) fun v x y z _ _ _ _ _ _=>Yt _ _
theorem G9 {α:Type} [Inhabited α] {l:List α} {f:α->Nat} (hd:f default<=1000000) (h:∀ x∈l,f x<=1000000) (k:Nat):((f (l.getD k default):Nat):Int)<=1000000:=by
 have:=FZ (p:=fun x=>f x<=1000000) hd h k
 omega
theorem Yu (b:AH) (d:AE):(Cb b d).1.Outline=b.Outline:=by
 unfold Cb
 cases decide ((AB (Z3P d b) 4).1=0) <;> rfl
theorem ZP (l:List (List Int)):((CW l).1.Outline.Edges.length:Int)<=1000000:=by
 refine My l (fun x=>(x.1.Outline.Edges.length:Int)<=1000000) fun v x y z _ _ _ _ _ _ => ?_
 show ((Z66 l v x y z).1.Outline.Edges.length:Int)<=1000000
 unfold Z66
 rw [Yu]
 show ((Z64 l v x y z).Outline.Edges.length:Int)<=1000000
 unfold Z64
 rw [(FX _ _ _).out]
 show ((Z5o l).Edges.length:Int)<=1000000
 unfold Z5o
 cases decide ((AB (AE.mk (AR l 2) 0) 3).1=0) with
 | true=>exact (by decide:((8:Nat):Int)<=1000000)
 | false=>exact (by decide:((4:Nat):Int)<=1000000)
theorem VO (l:List (List Int)):Qh (CW l).1:=by
 have h:=XW l
 have hr:=XV l
 have h1:=h.parl
 have h2:=h.trkl
 have h3:=h.vial
 have h4:=h.slotl
 have h5:=h.poul
 have h6:=h.keel
 have r1:=hr.rull
 have r2:=hr.cla
 have r3:=hr.wai
 have r4:=hr.mat
 obtain ⟨p,q,r,e,n1,n2,n3⟩:=h.net
 refine ⟨by omega,by rw [e];show ((3:Nat):Int)<=1000000;decide,by omega,by omega,by omega,by omega,by omega,by omega,by omega,by omega,by omega,ZP l,?_,?_,?_,?_,?_,?_,?_,hr.rul⟩
 ·refine G9 (f:=fun n:BA=>n.Pins.length) (by decide) fun n hn => ?_
  rw [e] at hn
  simp only [List.mem_cons,List.not_mem_nil,or_false] at hn
  rcases hn with rfl | rfl | rfl <;> (simp only;omega)
 ·refine G9 (f:=fun t:Aj=>t.Shape.Edges.length) (by decide) fun t ht => ?_
  obtain ⟨k,hk,_,hm⟩:=QB h.trk ht
  obtain ⟨a,c,d,_,_,e2⟩:=hm.edg
  rw [e2]
  have:=Oj a c d
  omega
 ·refine G9 (f:=fun t:BB=>t.Rects.length) (by decide) fun t ht => ?_
  have:=h.pour t ht
  unfold Uk at this
  omega
 ·refine G9 (f:=fun t:BS=>t.Shape.Edges.length) (by decide) fun t ht => ?_
  have:=h.keep t ht
  unfold Ul at this
  omega
 ·refine G9 (f:=fun t:Bb=>t.Shape.Edges.length) (by decide) fun t ht => ?_
  obtain ⟨r,p,_,_,_,e2⟩:=h.slot t ht
  rw [e2]
  show 1<=1000000;decide
 ·refine G9 (f:=fun t:BJ=>t.Nets.length) (by decide) fun t ht => ?_
  have:=hr.clan t ht
  omega
 refine G9 (f:=fun t:BW=>t.Nets.length) (by decide) fun t ht => ?_
 have:=hr.matn t ht
 omega
theorem Z8 (t:Int):A64 t 3=t % 4:=by
 unfold A64
 have h3:(BitVec.ofInt 64 3).toNat=2 ^ 2-1:=by decide
 rw [BitVec.toNat_and,h3,Nat.and_two_pow_sub_one_eq_mod,BitVec.toNat_ofInt,IntKind.wrap_i64]
 omega
theorem I4 (t:Int):B3 t=t % 4:=by
 unfold B3
 rcases Int.lt_or_le t 0 with h | h
 ·have b1:=Int.emod_nonneg (-t) (show (4:Int)≠0 by omega)
  rw [show t.tmod 4 = -((-t) % 4) by rw [<- Int.tmod_eq_emod_of_nonneg (by omega),Int.neg_tmod,Int.neg_neg]]
  rw [Ap (by omega) (by omega),Int.tmod_eq_emod_of_nonneg (by omega)]
  omega
 rw [Int.tmod_eq_emod_of_nonneg h,Ap (by omega) (by omega),Int.tmod_eq_emod_of_nonneg (by omega)]
 omega
theorem NK {α:Type} [Inhabited α] {l:List α} {k:Nat} (h:k<l.length):l.drop k=l.getD k default::l.drop (k+1):=by
 rw [List.drop_eq_getElem_cons h,List.getD_eq_getElem?_getD,List.getElem?_eq_getElem h]
 rfl
theorem RN (s:Ah) (m:AY):∀ (n k:Nat) (l:List AO),k<=s.Edges.length->s.Edges.length-k<n->l=(s.Edges.take k).map (fun e=>CS e m)++s.Edges.drop k->E0 s m n l (k:Int)=⟨s.Kind,s.Edges.map (fun e=>CS e m),s.R⟩
 | 0,k,l,hk,hn,_=>by omega
 | n+1,k,l,hk,hn,hl=>by
  unfold E0
  by_cases hlt:k<s.Edges.length
  ·rw [decide_eq_true (show (k:Int)<((s.Edges.length:Nat):Int) by omega)]
   simp only [cond_true,Int.toNat_natCast]
   rw [show ((k:Int)+1)=((k+1:Nat):Int) by omega]
   refine RN s m n (k+1) _ (by omega) (by omega) ?_
   subst hl
   have hlen:((s.Edges.take k).map (fun e=>CS e m)).length=k:=by simp;omega
   have hd:s.Edges.drop k=s.Edges[k]::s.Edges.drop (k+1):=List.drop_eq_getElem_cons hlt
   rw [hd]
   have h1:((s.Edges.take k).map (fun e=>CS e m)++s.Edges[k]::s.Edges.drop (k+1)).getD k default=s.Edges[k]:=by
    rw [List.getD_eq_getElem?_getD,List.getElem?_append_right (by omega),hlen,Nat.sub_self];rfl
   rw [h1,List.set_append_right _ _ (by omega),hlen,Nat.sub_self,List.set_cons_zero,List.take_succ_eq_append_getElem hlt,List.map_append,List.append_assoc]
   rfl
  rw [decide_eq_false (show ¬ (k:Int)<((s.Edges.length:Nat):Int) by omega)]
  subst hl
  rw [List.drop_of_length_le (by omega),List.take_of_length_le (by omega),List.append_nil]
  rfl
theorem Jk (s:Ah) (m:AY):Ch s m=⟨s.Kind,s.Edges.map (fun e=>CS e m),s.R⟩:=by
 unfold Ch
 have:=RN s m ((((s.Edges.length:Nat):Int)-0).toNat+1) 0 s.Edges (by omega) (by omega) (by simp)
 exact this
theorem OD (s:Ah) (m:AY):(Ch s m).Edges.length=s.Edges.length:=by rw [Jk];simp
theorem IM (m:AY) (p:AF):AW m p=DW m p:=by
 have ht:CE m=m.Turn % 4:=Z8 m.Turn
 unfold DW Z09 Bh Bs AW
 rw [I4]
 generalize (bif m.Mirror then (W64 (0-p.X)) else p.X)=x at *
 have h4:m.Turn % 4=0\/m.Turn % 4=1\/m.Turn % 4=2\/m.Turn % 4=3:=by omega
 rcases h4 with h | h | h | h <;> rw [h] at ht ⊢ <;> rw [ht]
 ·show B9 m p 1 ⟨x,p.Y⟩ 0=_
  simp only [B9,ht,Int.reduceLT,decide_false,cond_false,Fc,BE,Int.reduceEq,if_true]
 ·show B9 m p 2 ⟨x,p.Y⟩ 0=_
  simp only [B9,ht,Int.reduceLT,Int.reduceAdd,decide_true,cond_true,decide_false,cond_false,Fc,BE,Int.reduceEq,if_true,if_false]
 ·show B9 m p 3 ⟨x,p.Y⟩ 0=_
  simp only [B9,ht,Int.reduceLT,Int.reduceAdd,decide_true,cond_true,decide_false,cond_false,Fc,BE,Int.reduceEq,if_true,if_false]
 show B9 m p 4 ⟨x,p.Y⟩ 0=_
 have e:∀ u v:Int,W64 (W64 (0-W64 (0-u))+v)=W64 (u+v):=fun u v=>by simp only [C9];omega
 simp only [B9,ht,Int.reduceLT,Int.reduceAdd,decide_true,cond_true,decide_false,cond_false,Fc,BE,Int.reduceEq,if_false,e]
theorem Pt {types:List AP} (h:CN types) (b:AH) (k:Nat):(((Am b types).getD k default).Shape.Edges.length:Int)<=1000000:=by
 refine FZ (p:=fun s:A0=>(s.Shape.Edges.length:Int)<=1000000) (by decide) (fun x hx => ?_) k
 rw [J8] at hx
 obtain ⟨r,hr,rfl⟩:=List.mem_map.1 hx
 show ((Ch r.2.Shape (Ba r.1)).Edges.length:Int)<=1000000
 rw [OD]
 unfold Ac at hr
 obtain ⟨p,_,hp⟩:=List.mem_flatMap.1 hr
 unfold EZ at hp
 obtain ⟨q,hq,rfl⟩:=List.mem_map.1 hp
 show (q.Shape.Edges.length:Int)<=1000000
 rw [HM] at hq
 unfold Rl at hq
 cases hf:types.find? (fun t=>FT t p.Type') with
 | none=>rw [hf] at hq;cases hq
 | some t=>rw [hf] at hq;exact (h.2 t (List.mem_of_find?_eq_some hf)).2.2.1 q hq
theorem LN {γ:Type} {P:AH->Prop} (len:Nat) (g:Nat->γ->Int->AH) (step:γ->Int->γ) (K:Nat->γ->Int->AH) (h:∀ m acc (v:Int),g (m+1) acc v=bif decide (v<(len:Int)) then g m (step acc v) (v+1) else K m acc v) (hK:∀ m acc v,P (K m acc v)):∀ (n:Nat) (acc:γ) (v:Int),((len:Int)-v).toNat<n->P (g n acc v)
 | 0,acc,v,hn=>absurd hn (Nat.not_lt_zero _)
 | n+1,acc,v,hn=>by
  rw [h]
  by_cases hc:v<(len:Int)
  ·rw [decide_eq_true hc,cond_true];exact LN len g step K h hK n _ _ (by omega)
  rw [decide_eq_false hc,cond_false];exact hK _ _ _
structure CpP (b:AH) (nets:List BA) (B:AH):Prop where
 lay:B.Layers=b.Layers
 par:B.Parts=b.Parts
 net:B.Nets=nets
theorem NO (b:AH):CpP b b.Nets (AC b):=by
 have h7:∀ x0 k0 x1 k1 x2 k2 x3 k3 x4 k4 x5 k5 x6 k6 K0 K1 K2 K3 K4 K5 K6,CpP b x0 (EN b x0 k0 x1 k1 x2 k2 x3 k3 x4 k4 x5 k5 x6 k6 K0 K1 K2 K3 K4 K5 K6 (((b.Rules.length:Int)-0).toNat+1) [] 0):=fun x0 k0 x1 k1 x2 k2 x3 k3 x4 k4 x5 k5 x6 k6 K0 K1 K2 K3 K4 K5 K6 =>
  LN b.Rules.length (EN b x0 k0 x1 k1 x2 k2 x3 k3 x4 k4 x5 k5 x6 k6 K0 K1 K2 K3 K4 K5 K6) _ _ (fun _ _ _=>rfl) (fun _ _ _=>⟨rfl,rfl,rfl⟩) _ _ _ (Nat.lt_succ_self _)
 have h6:∀ x0 k0 x1 k1 x2 k2 x3 k3 x4 k4 x5 k5 K0 K1 K2 K3 K4 K5,CpP b x0 (Dc b x0 k0 x1 k1 x2 k2 x3 k3 x4 k4 x5 k5 K0 K1 K2 K3 K4 K5 (((b.Matches.length:Int)-0).toNat+1) [] 0):=fun x0 k0 x1 k1 x2 k2 x3 k3 x4 k4 x5 k5 K0 K1 K2 K3 K4 K5 =>
  LN b.Matches.length (Dc b x0 k0 x1 k1 x2 k2 x3 k3 x4 k4 x5 k5 K0 K1 K2 K3 K4 K5) _ _ (fun _ _ _=>rfl) (fun _ _ _=>h7 x0 k0 x1 k1 x2 k2 x3 k3 x4 k4 x5 k5 _ _ K0 K1 K2 K3 K4 K5 _) _ _ _ (Nat.lt_succ_self _)
 have h5:∀ x0 k0 x1 k1 x2 k2 x3 k3 x4 k4 K0 K1 K2 K3 K4,CpP b x0 (C2 b x0 k0 x1 k1 x2 k2 x3 k3 x4 k4 K0 K1 K2 K3 K4 (((b.Classes.length:Int)-0).toNat+1) [] 0):=fun x0 k0 x1 k1 x2 k2 x3 k3 x4 k4 K0 K1 K2 K3 K4 =>
  LN b.Classes.length (C2 b x0 k0 x1 k1 x2 k2 x3 k3 x4 k4 K0 K1 K2 K3 K4) _ _ (fun _ _ _=>rfl) (fun _ _ _=>h6 x0 k0 x1 k1 x2 k2 x3 k3 x4 k4 _ _ K0 K1 K2 K3 K4 _) _ _ _ (Nat.lt_succ_self _)
 have h4:∀ x0 k0 x1 k1 x2 k2 x3 k3 K0 K1 K2 K3,CpP b x0 (CK b x0 k0 x1 k1 x2 k2 x3 k3 K0 K1 K2 K3 (((b.Slots.length:Int)-0).toNat+1) [] 0):=fun x0 k0 x1 k1 x2 k2 x3 k3 K0 K1 K2 K3 =>
  LN b.Slots.length (CK b x0 k0 x1 k1 x2 k2 x3 k3 K0 K1 K2 K3) _ _ (fun _ _ _=>rfl) (fun _ _ _=>h5 x0 k0 x1 k1 x2 k2 x3 k3 _ _ K0 K1 K2 K3 _) _ _ _ (Nat.lt_succ_self _)
 have h3:∀ x0 k0 x1 k1 x2 k2 K0 K1 K2,CpP b x0 (Bc b x0 k0 x1 k1 x2 k2 K0 K1 K2 (((b.Keeps.length:Int)-0).toNat+1) [] 0):=fun x0 k0 x1 k1 x2 k2 K0 K1 K2 =>
  LN b.Keeps.length (Bc b x0 k0 x1 k1 x2 k2 K0 K1 K2) _ _ (fun _ _ _=>rfl) (fun _ _ _=>h4 x0 k0 x1 k1 x2 k2 _ _ K0 K1 K2 _) _ _ _ (Nat.lt_succ_self _)
 have h2:∀ x0 k0 x1 k1 K0 K1,CpP b x0 (Az b x0 k0 x1 k1 K0 K1 (((b.Pours.length:Int)-0).toNat+1) [] 0):=fun x0 k0 x1 k1 K0 K1 =>
  LN b.Pours.length (Az b x0 k0 x1 k1 K0 K1) _ _ (fun _ _ _=>rfl) (fun _ _ _=>h3 x0 k0 x1 k1 _ _ K0 K1 _) _ _ _ (Nat.lt_succ_self _)
 have h1:∀ x0 k0 K0,CpP b x0 (AZ b x0 k0 K0 (((b.Tracks.length:Int)-0).toNat+1) [] 0):=fun x0 k0 K0 =>
  LN b.Tracks.length (AZ b x0 k0 K0) _ _ (fun _ _ _=>rfl) (fun _ _ _=>h2 x0 k0 _ _ K0 _) _ _ _ (Nat.lt_succ_self _)
 have key:∀ (n v:Nat) (acc:List BA),b.Nets.length-v<n->acc++b.Nets.drop v=b.Nets->CpP b b.Nets (AL b n acc (v:Int)):=by
  intro n
  induction n with
  | zero=>intro v acc h;exact absurd h (Nat.not_lt_zero _)
  | succ n ih =>
   intro v acc hn he
   unfold AL
   by_cases hc:v<b.Nets.length
   ·rw [decide_eq_true (show (v:Int)<(b.Nets.length:Int) by omega),cond_true]
    refine ih (v+1) _ (by omega) ?_
    rw [NK hc] at he
    rw [List.append_assoc,Int.toNat_natCast]
    exact he
   rw [decide_eq_false (show ¬ (v:Int)<(b.Nets.length:Int) by omega),cond_false]
   rw [List.drop_eq_nil_of_le (by omega),List.append_nil] at he
   subst he
   exact h1 _ _ _
 exact key _ 0 [] (by omega) (by rw [List.drop_zero];rfl)
theorem RS (l:List (List Int)):Qh (AA l).1:=VO _
theorem Zq (l:List (List Int)):((AC (AA l).1).Nets.length:Int)<=1000000:=by rw [(NO _).net];exact LG l
theorem Zp (l:List (List Int)):∀ n∈(AC (AA l).1).Nets,(n.Pins.length:Int)<=1000000:=by rw [(NO _).net];exact LF l
theorem YJ (l:List (List Int)):(AC (AA l).1).Parts.length<20:=by
 rw [(NO _).par]
 have:=(Mz l).par
 omega
theorem TK (l:List (List Int)) (k:Nat) (x:AG):((AC (AA l).1).Parts.set k x).length<20:=by rw [List.length_set];exact YJ l
theorem Zo (l:List (List Int)) (k:Nat) (x:AG):(((AC (AA l).1).Parts.set k x).length:Int)<=1000000:=by have:=TK l k x;omega
theorem UX (l:List (List Int)) {B:AH} (h:B.Parts.length<20):((Ac B (AA l).2).length:Int)<=20000000:=OA h (Dw l)
theorem cZ (l:List (List Int)):(AC (AA l).1).Parts.length=(AA l).1.Parts.length:=by rw [(NO _).par]
theorem UT {v:List A0} (h:∀ x∈v,(x.Shape.Edges.length:Int)<=1000000) (k:Nat):((v.getD k default).Shape.Edges.length:Int)<=1000000:=FZ (p:=fun x:A0=>(x.Shape.Edges.length:Int)<=1000000) (by decide) h k
theorem Wy {types:List AP} (h:CN types) (b:AH):∀ x∈Am b types,(x.Shape.Edges.length:Int)<=1000000:=fun x hx=>by
 obtain ⟨k,hk,rfl⟩:=List.mem_iff_getElem.1 hx
 have:=Pt h b k
 rwa [List.getD_eq_getElem?_getD,List.getElem?_eq_getElem hk] at this
theorem YB {x:A0} (h:(x.Shape.Edges.length:Int)<=1000000):∀ k,((([x]:List A0).getD k default).Shape.Edges.length:Int)<=1000000:=UT fun y hy=>by rw [List.mem_singleton.1 hy];exact h
theorem Zn (l:List (List Int)) (b:AH) (a c:Nat):∀ k,(((((Am b (AA l).2).take a).drop c).getD k default).Shape.Edges.length:Int)<=1000000:=UT fun y hy=>Wy (Dw l) b y (List.mem_of_mem_take (List.mem_of_mem_drop hy))
theorem cW {s:Ah} (m:AY) (h:(s.Edges.length:Int)<=1000000):((Ch s m).Edges.length:Int)<=1000000:=by rw [OD];exact h
theorem idx_k (l:List (List Int)) (which:Int) (hw:0<=which/\which<=255):0<=Int.tmod (W64 which) ((AA l).1.Parts.length:Int)/\Int.tmod (W64 which) ((AA l).1.Parts.length:Int)<((AA l).1.Parts.length:Int):=by
 obtain ⟨q,h⟩:=Jm l
 have:=h.parl
 rw [Ap (by omega) (by omega)]
 exact ⟨Int.tmod_nonneg _ hw.1,Int.tmod_lt_of_pos _ (by omega)⟩
section
open Go.RowKit
variable (l:List (List Int)) (which v74:Int) (by_:AF)
def Z7i:AF:=((AA l).1.Parts.getD (Int.tmod (W64 which) ((AA l).1.Parts.length:Int)).toNat default).At
def Z7j:AF:=BE (Z7i l which) (AF.mk (Int.tmod by_.X 100) (Int.tmod by_.Y 100))
def Z7k:A0:=(Am (AA l).1 (AA l).2).getD v74.toNat default
def Z7l:AF:=(FAt (AA l).1 (AA l).2 (Ab.mk ((AA l).1.Parts.getD (Int.tmod (W64 which) ((AA l).1.Parts.length:Int)).toNat default).Ref (Z7k l v74).Pad)).1
def Z7m (l:(List (List Int))) (which:Int) (by_:AF) (v74:Int):AF:=(FAt (AH.mk (AC (AA l).1).Layers (AC (AA l).1).Outline ((AC (AA l).1).Parts.set (Int.tmod (W64 which) ((AA l).1.Parts.length:Int)).toNat (AG.mk ((AC (AA l).1).Parts.getD (Int.tmod (W64 which) ((AA l).1.Parts.length:Int)).toNat default).Id ((AC (AA l).1).Parts.getD (Int.tmod (W64 which) ((AA l).1.Parts.length:Int)).toNat default).Ref ((AC (AA l).1).Parts.getD (Int.tmod (W64 which) ((AA l).1.Parts.length:Int)).toNat default).Type' (Z7j l which by_) ((AC (AA l).1).Parts.getD (Int.tmod (W64 which) ((AA l).1.Parts.length:Int)).toNat default).Turn ((AC (AA l).1).Parts.getD (Int.tmod (W64 which) ((AA l).1.Parts.length:Int)).toNat default).Under)) (AC (AA l).1).Nets (AC (AA l).1).Tracks (AC (AA l).1).Vias (AC (AA l).1).Pours (AC (AA l).1).Keeps (AC (AA l).1).Slots (AC (AA l).1).Classes (AC (AA l).1).Rules (AC (AA l).1).Waivers (AC (AA l).1).Matches) (AA l).2 (Ab.mk ((AA l).1.Parts.getD (Int.tmod (W64 which) ((AA l).1.Parts.length:Int)).toNat default).Ref (Z7k l v74).Pad)).1
def Z7n:AF:=BE (Z7l l which v74) (AF.mk (Int.tmod by_.X 100) (Int.tmod by_.Y 100))
def Z7o:Ah:=Ch (Z7k l v74).Shape (AY.mk (AF.mk (Int.tmod by_.X 100) (Int.tmod by_.Y 100)) 0 false)
def Z7p (l:(List (List Int))) (v74:Int) (by_:AF) (which:Int):Bool:=Ee [A0.mk (Z7k l v74).Id (Z7k l v74).Pad (Z7k l v74).Kind (Z7k l v74).Net (Z7k l v74).From (Z7k l v74).To (Z7o l v74 by_)] (((Am (AH.mk (AC (AA l).1).Layers (AC (AA l).1).Outline ((AC (AA l).1).Parts.set (Int.tmod (W64 which) ((AA l).1.Parts.length:Int)).toNat (AG.mk ((AC (AA l).1).Parts.getD (Int.tmod (W64 which) ((AA l).1.Parts.length:Int)).toNat default).Id ((AC (AA l).1).Parts.getD (Int.tmod (W64 which) ((AA l).1.Parts.length:Int)).toNat default).Ref ((AC (AA l).1).Parts.getD (Int.tmod (W64 which) ((AA l).1.Parts.length:Int)).toNat default).Type' (Z7j l which by_) ((AC (AA l).1).Parts.getD (Int.tmod (W64 which) ((AA l).1.Parts.length:Int)).toNat default).Turn ((AC (AA l).1).Parts.getD (Int.tmod (W64 which) ((AA l).1.Parts.length:Int)).toNat default).Under)) (AC (AA l).1).Nets (AC (AA l).1).Tracks (AC (AA l).1).Vias (AC (AA l).1).Pours (AC (AA l).1).Keeps (AC (AA l).1).Slots (AC (AA l).1).Classes (AC (AA l).1).Rules (AC (AA l).1).Waivers (AC (AA l).1).Matches) (AA l).2).take (W64 (v74+1):Int).toNat).drop (v74:Int).toNat)
def Z7q (l:(List (List Int))) (v74:Int) (which:Int) (by_:AF):Bool:=Ee [Z7k l v74] (((Am (AH.mk (AC (AA l).1).Layers (AC (AA l).1).Outline ((AC (AA l).1).Parts.set (Int.tmod (W64 which) ((AA l).1.Parts.length:Int)).toNat (AG.mk ((AC (AA l).1).Parts.getD (Int.tmod (W64 which) ((AA l).1.Parts.length:Int)).toNat default).Id ((AC (AA l).1).Parts.getD (Int.tmod (W64 which) ((AA l).1.Parts.length:Int)).toNat default).Ref ((AC (AA l).1).Parts.getD (Int.tmod (W64 which) ((AA l).1.Parts.length:Int)).toNat default).Type' (Z7j l which by_) ((AC (AA l).1).Parts.getD (Int.tmod (W64 which) ((AA l).1.Parts.length:Int)).toNat default).Turn ((AC (AA l).1).Parts.getD (Int.tmod (W64 which) ((AA l).1.Parts.length:Int)).toNat default).Under)) (AC (AA l).1).Nets (AC (AA l).1).Tracks (AC (AA l).1).Vias (AC (AA l).1).Pours (AC (AA l).1).Keeps (AC (AA l).1).Slots (AC (AA l).1).Classes (AC (AA l).1).Rules (AC (AA l).1).Waivers (AC (AA l).1).Matches) (AA l).2).take (W64 (v74+1):Int).toNat).drop (v74:Int).toNat)
def BX (l:(List (List Int))) (which:Int) (by_:AF):Nat->Int->Bool
 | 0,_=>default
 | n0+1,v74=>bif decide ((v74:Int)<((Am (AA l).1 (AA l).2).length:Int)) then (bif decide (((Z7k l v74).Id:Int)=((AA l).1.Parts.getD (Int.tmod (W64 which) ((AA l).1.Parts.length:Int)).toNat default).Id) then (bif bif !(decide ((Z7m l which by_ v74).X=(Z7n l which v74 by_).X)&&(decide ((Z7m l which by_ v74).Y=(Z7n l which v74 by_).Y)&&true)) then true else !decide (((FAt (AA l).1 (AA l).2 (Ab.mk ((AA l).1.Parts.getD (Int.tmod (W64 which) ((AA l).1.Parts.length:Int)).toNat default).Ref (Z7k l v74).Pad)).2.1:Int)=(FAt (AH.mk (AC (AA l).1).Layers (AC (AA l).1).Outline ((AC (AA l).1).Parts.set (Int.tmod (W64 which) ((AA l).1.Parts.length:Int)).toNat (AG.mk ((AC (AA l).1).Parts.getD (Int.tmod (W64 which) ((AA l).1.Parts.length:Int)).toNat default).Id ((AC (AA l).1).Parts.getD (Int.tmod (W64 which) ((AA l).1.Parts.length:Int)).toNat default).Ref ((AC (AA l).1).Parts.getD (Int.tmod (W64 which) ((AA l).1.Parts.length:Int)).toNat default).Type' (Z7j l which by_) ((AC (AA l).1).Parts.getD (Int.tmod (W64 which) ((AA l).1.Parts.length:Int)).toNat default).Turn ((AC (AA l).1).Parts.getD (Int.tmod (W64 which) ((AA l).1.Parts.length:Int)).toNat default).Under)) (AC (AA l).1).Nets (AC (AA l).1).Tracks (AC (AA l).1).Vias (AC (AA l).1).Pours (AC (AA l).1).Keeps (AC (AA l).1).Slots (AC (AA l).1).Classes (AC (AA l).1).Rules (AC (AA l).1).Waivers (AC (AA l).1).Matches) (AA l).2 (Ab.mk ((AA l).1.Parts.getD (Int.tmod (W64 which) ((AA l).1.Parts.length:Int)).toNat default).Ref (Z7k l v74).Pad)).2.1) then false else (bif !(Z7p l v74 by_ which) then false else ((BX l which by_ n0) (v74+1)))) else (bif !(Z7q l v74 which by_) then false else ((BX l which by_ n0) (v74+1)))) else CF
def Dr (l:(List (List Int))) (which:Int) (by_:AF):Bool:=bif decide ((((AA l).1.Parts.length:Int):Int)=0) then CF else (bif !decide ((((Am (AA l).1 (AA l).2).length:Int):Int)=((Am (AH.mk (AC (AA l).1).Layers (AC (AA l).1).Outline ((AC (AA l).1).Parts.set (Int.tmod (W64 which) ((AA l).1.Parts.length:Int)).toNat (AG.mk ((AC (AA l).1).Parts.getD (Int.tmod (W64 which) ((AA l).1.Parts.length:Int)).toNat default).Id ((AC (AA l).1).Parts.getD (Int.tmod (W64 which) ((AA l).1.Parts.length:Int)).toNat default).Ref ((AC (AA l).1).Parts.getD (Int.tmod (W64 which) ((AA l).1.Parts.length:Int)).toNat default).Type' (Z7j l which by_) ((AC (AA l).1).Parts.getD (Int.tmod (W64 which) ((AA l).1.Parts.length:Int)).toNat default).Turn ((AC (AA l).1).Parts.getD (Int.tmod (W64 which) ((AA l).1.Parts.length:Int)).toNat default).Under)) (AC (AA l).1).Nets (AC (AA l).1).Tracks (AC (AA l).1).Vias (AC (AA l).1).Pours (AC (AA l).1).Keeps (AC (AA l).1).Slots (AC (AA l).1).Classes (AC (AA l).1).Rules (AC (AA l).1).Waivers (AC (AA l).1).Matches) (AA l).2).length:Int)) then false else (BX l which by_ ((((Am (AA l).1 (AA l).2).length:Int)-0).toNat+1) 0))
def Rs:CT:=(4,[.one (lst 1 (fun x=>[lst 1 eIn x]) l),.one (.val (.int .u8 which)),.agg (AF.c by_)],.val [] (.av (.one (.b (Dr l which by_)))))
abbrev Co:=AC (AA l).1
abbrev FO (which:Int) (l:List (List Int)):=(Int.tmod (W64 which) ((AA l).1.Parts.length:Int))
abbrev WR:=(AG.mk ((Co l).Parts.getD (FO which l).toNat default).Id ((Co l).Parts.getD (FO which l).toNat default).Ref ((Co l).Parts.getD (FO which l).toNat default).Type' (Z7j l which by_) ((Co l).Parts.getD (FO which l).toNat default).Turn ((Co l).Parts.getD (FO which l).toNat default).Under)
abbrev zzc1:List Cl:=[.i (Co l).Layers,.i (Co l).Outline.Kind,lst 7 AO.c (Co l).Outline.Edges,.i (Co l).Outline.R,lst 7 AG.c ((Co l).Parts.set (FO which l).toNat (AG.mk ((Co l).Parts.getD (FO which l).toNat default).Id ((Co l).Parts.getD (FO which l).toNat default).Ref ((Co l).Parts.getD (FO which l).toNat default).Type' (Z7j l which by_) ((Co l).Parts.getD (FO which l).toNat default).Turn ((Co l).Parts.getD (FO which l).toNat default).Under)),lst 2 BA.c (Co l).Nets,lst 6 Aj.c (Co l).Tracks,lst 8 Br.c (Co l).Vias,lst 8 BB.c (Co l).Pours,lst 5 BS.c (Co l).Keeps,lst 4 Bb.c (Co l).Slots,lst 2 BJ.c (Co l).Classes,lst 20 Aq.c (Co l).Rules,lst 3 Ao.c (Co l).Waivers,lst 3 BW.c (Co l).Matches]
abbrev Lx (which:Int) (l:List (List Int)):=(FO which l)
abbrev CZ:=AC (AA l).1
abbrev EP:Nat×Blk:=(5,.cells [.i (Int.tmod by_.X 100),.i (Int.tmod by_.Y 100)] 52)
abbrev Dh:Nat×Blk:=(8,.cells (AH.c (AA l).1) 42)
abbrev Kx:Nat×Tv:=(9,tO (lst 3 AP.c (AA l).2))
abbrev GW:Nat×Tv:=(73,tI ((Am (AA l).1 (AA l).2).length:Int))
abbrev GU:Nat×Tv:=(72,tO (lst 9 A0.c (Am (AA l).1 (AA l).2)))
abbrev Vo:List Cl:=[.i (Z7k l v74).Id,.s (Z7k l v74).Pad,.i (Z7k l v74).Kind,.s (Z7k l v74).Net,.i (Z7k l v74).From,.i (Z7k l v74).To,.i (Z7o l v74 by_).Kind,lst 7 AO.c (Z7o l v74 by_).Edges,.i (Z7o l v74 by_).R]
abbrev R4 (t_:List Cl):List Cl:=(.i (CZ l).Layers)::(.i (CZ l).Outline.Kind)::(lst 7 AO.c (CZ l).Outline.Edges)::(.i (CZ l).Outline.R)::t_
abbrev SN:List Cl:=(R4 l [lst 7 AG.c ((CZ l).Parts.set (Lx which l).toNat (WR l which by_)),lst 2 BA.c (CZ l).Nets,lst 6 Aj.c (CZ l).Tracks,lst 8 Br.c (CZ l).Vias,lst 8 BB.c (CZ l).Pours,lst 5 BS.c (CZ l).Keeps,lst 4 Bb.c (CZ l).Slots,lst 2 BJ.c (CZ l).Classes,lst 20 Aq.c (CZ l).Rules,lst 3 Ao.c (CZ l).Waivers,lst 3 BW.c (CZ l).Matches])
abbrev Gx:=AH.mk (CZ l).Layers (CZ l).Outline ((CZ l).Parts.set (Lx which l).toNat (WR l which by_)) (CZ l).Nets (CZ l).Tracks (CZ l).Vias (CZ l).Pours (CZ l).Keeps (CZ l).Slots (CZ l).Classes (CZ l).Rules (CZ l).Waivers (CZ l).Matches
abbrev WP:Nat×Blk:=(11,.cells (R4 l [.own 47 7 (CZ l).Parts.length,lst 2 BA.c (CZ l).Nets,lst 6 Aj.c (CZ l).Tracks,lst 8 Br.c (CZ l).Vias,lst 8 BB.c (CZ l).Pours,lst 5 BS.c (CZ l).Keeps,lst 4 Bb.c (CZ l).Slots,lst 2 BJ.c (CZ l).Classes,lst 20 Aq.c (CZ l).Rules,lst 3 Ao.c (CZ l).Waivers,lst 3 BW.c (CZ l).Matches]) 42)
abbrev ML:=Ab.mk ((AA l).1.Parts.getD (Lx which l).toNat default).Ref (Z7k l v74).Pad
abbrev Lu (t_:List (Nat×Tv)):List (Nat×Tv):=(5,tP 5 0)::(7,tB CF)::(8,tP 8 0)::t_
abbrev PU:List (Nat×Tv):=(Lu [(Kx l),(10,tI (Lx which l)),(11,tP 11 0)])
abbrev MF (which:Int) (l:List (List Int)):Nat×Tv:=(10,tI (Lx which l))
abbrev O3:Nat×Tv:=(1,.av (.one (.val (.int .u8 which))))
abbrev R7:Nat×Tv:=(13,tO (lst 9 A0.c (Am (Gx l which by_) (AA l).2)))
abbrev D1:Nat×Blk:=(11,.cells (SN l which by_) 42)
abbrev Er (t_:List (Nat×Tv)):List (Nat×Tv):=(5,tP 5 0)::(7,tB CF)::(8,tP 8 0)::(Kx l)::(MF which l)::(11,tP 11 0)::(R7 l which by_)::t_
abbrev R3 (v74:Int) (l:List (List Int)) (which:Int) (t_:List (Nat×Tv)):List (Nat×Tv):=(14,tI v74)::(15,tP 15 0)::(16,tP 16 0)::(17,tI (FAt (AA l).1 (AA l).2 (ML l which v74)).2.1)::t_
theorem au11 {p:Prop} (h:p:=by first | (with_reducible exact Dw l) | (with_reducible exact Pt (Dw l) _) | (with_reducible exact RS l) | (with_reducible exact hNp) | (with_reducible exact hNl) | (with_reducible exact hpl) | (with_reducible exact Zq l) | (with_reducible exact Zp l) | (with_reducible exact TK l _ _) | (with_reducible exact Zo l _ _) | (with_reducible exact UX l (TK l _ _)) | (with_reducible exact hPl9) | (with_reducible exact hed _) | (with_reducible exact hE1 _) | (with_reducible exact hE2 _ _ _) | (with_reducible exact Zn l _ _ _) | (with_reducible exact YB (hed _)) | with_reducible assumption | omega | decide | (simp only [List.length_cons,List.length_nil,List.length_append];omega) | (simp only;omega) | (exact UX l (by simp only;omega)) | assumption):p:=h
theorem au14 {p:Prop} (h:p:=by first | omega | (simp only [List.length_set];omega) | (simp only [C9];omega) | decide):p:=h
set_option maxHeartbeats 4000000 in
theorem Q3 (l:(List (List Int))) (which:Int) (by_:AF) (hl:(l.length:Int)<=9223372036854775807) (hll:∀ x∈l,(x.length:Int)<=9223372036854775807) (hw:0<=which/\which<=255):PuP 4 (Rs l which by_).2.1 (tO (.b (Dr l which by_))):=by
 refine pwf Try.func4 fun W0 M0 => ?_
 have hM:=Mz l
 have hP:=hM.par
 have hNl:(((AA l).1.Nets.length:Nat):Int)<=1000000:=LG l
 have hNp:=LF l
 have hpl:=LE l
 have hPl:(((Am (AA l).1 (AA l).2).length:Nat):Int)<=20000000:=by rw [Oq];exact hpl
 have hcl:=cZ l
 have hed:∀ k,(((Z7k l k).Shape.Edges.length:Nat):Int)<=1000000:=fun k=>Pt (Dw l) _ k.toNat
 have hE1:∀ v k,((([A0.mk (Z7k l v).Id (Z7k l v).Pad (Z7k l v).Kind (Z7k l v).Net (Z7k l v).From (Z7k l v).To (Z7o l v by_)].getD k default).Shape.Edges.length:Nat):Int)<=1000000:=fun v=>YB (cW _ (hed v))
 have hE2:=True.intro
 have hkk:=idx_k l which hw
 refine AD<|rn ⟨[(0,.av (oL l)),(O3 which),(5,tP 5 0)],[(5,.cells (AF.c by_) 52)]⟩<|AD ?_
 refine rs 22 Ki ⟨[(0,.av (oL l)),(O3 which),(5,tP 5 0),(7,tB CF)],[(5,.cells (AF.c by_) 52)]⟩ Ss<|AJ<|AD ?_
 refine rs 25 (QQ l) ⟨[(O3 which),(5,tP 5 0),(7,tB CF),(8,tP 8 0),(Kx l)],[(5,.cells (AF.c by_) 52),(Dh l)]⟩ (W9 l au11 au11)<|AJ ?_
 refine AD<|AD ?_
 refine rn ⟨[(O3 which),(5,tP 5 0),(7,tB CF),(8,tP 8 0),(Kx l),(31,tB (decide ((((AA l).1.Parts.length:Int):Int)=0)))],[(5,.cells (AF.c by_) 52),(Dh l)]⟩ ?_
 refine Aa _ rfl (fun h1 => ?_) (fun h1 => ?_)
 ·refine AD<|rn ⟨[(6,tB CF)],[]⟩ ?_
  refine Af<|BZ ?_
  exact xl (tO (.b CF)) (An (by simp only [Dr,h1,cond_true,cond_false] <;> rfl))
 have g1:=oF h1
 refine Ad<|AJ<|AD ?_
 refine rc [] [(((AA l).1.Parts.length:Int):Int)≠0] ⟨(Lu [(Kx l),(MF which l)]),[(5,.cells (AF.c by_) 52),(Dh l)]⟩ .nil (.cons au15 .nil)<|AJ<|AD ?_
 refine rc [] [(100:Int)≠0,(100:Int)≠0] ⟨(Lu [(Kx l),(MF which l)]),[(EP by_),(Dh l)]⟩ .nil (.cons au15 (.cons au15 .nil))<|AJ<|AD ?_
 refine rs 47 (Ud (AA l).1) ⟨(PU l which),[(EP by_),(Dh l),(WP l),(47,.row 7 (CZ l).Parts.length (AU AG.c (CZ l).Parts) 59)]⟩ (XE (AA l).1 au11)<|AJ<|AD ?_
 refine dw [] [(58,C5 (Z7i l which) (AF.mk (Int.tmod by_.X 100) (Int.tmod by_.Y 100)))] [0<=(Int.tmod (W64 which) ((AA l).1.Parts.length:Int):Int)/\(Int.tmod (W64 which) ((AA l).1.Parts.length:Int):Int)<(((AA l).1.Parts.length:Nat):Int),Ay (C5 (Z7i l which) (AF.mk (Int.tmod by_.X 100) (Int.tmod by_.Y 100))).2.1,0<=(Int.tmod (W64 which) ((AA l).1.Parts.length:Int):Int)/\(Int.tmod (W64 which) ((AA l).1.Parts.length:Int):Int)<(((AC (AA l).1).Parts.length:Nat):Int),(Int.tmod (W64 which) ((AA l).1.Parts.length:Int)).toNat<(AC (AA l).1).Parts.length] ⟨(PU l which),[(EP by_),(Dh l),(WP l),(47,.row 7 (CZ l).Parts.length (fun i_ j_=>if i_=(Lx which l).toNat/\3<=j_/\j_<3+2 then ((AF.c (Z7j l which by_)):List Cl).getD (j_-3) default else (AU AG.c (CZ l).Parts) i_ j_) 59)]⟩ (.cons (Ft (Z7i l which) (AF.mk (Int.tmod by_.X 100) (Int.tmod by_.Y 100))) .nil) (.cons au14 (.cons rfl (.cons au14 (.cons au14 .nil))))<|AJ ?_
 refine BL (Cv.trans (BH (⟨(PU l which),[(EP by_),(Dh l),(11,.cells (R4 l [.own 47 7 ((CZ l).Parts.set (Lx which l).toNat (WR l which by_)).length,lst 2 BA.c (CZ l).Nets,lst 6 Aj.c (CZ l).Tracks,lst 8 Br.c (CZ l).Vias,lst 8 BB.c (CZ l).Pours,lst 5 BS.c (CZ l).Keeps,lst 4 Bb.c (CZ l).Slots,lst 2 BJ.c (CZ l).Classes,lst 20 Aq.c (CZ l).Rules,lst 3 Ao.c (CZ l).Waivers,lst 3 BW.c (CZ l).Matches]) 42),(47,.row 7 ((CZ l).Parts.set (Lx which l).toNat (WR l which by_)).length (AU AG.c ((CZ l).Parts.set (Lx which l).toNat (WR l which by_))) 59)]⟩) lr (.cons ⟨rfl,.refl _⟩ (.cons ⟨rfl,.refl _⟩ (.cons ⟨rfl,.cells _ (rr4 (.cons (.own _ _ au0) (rr (rr (rr (rr (rr (rr (rr (rr (rr (rr .nil))))))))))))⟩ (.cons ⟨rfl,Ai 59 (JY (l:=(AF.c (Z7j l which by_))) (off:=3) (q:=2) (k:=(Int.tmod (W64 which) ((AA l).1.Parts.length:Int)).toNat) (A8 7 AG.c (AC (AA l).1).Parts) au14 (AG.mk ((AC (AA l).1).Parts.getD (Int.tmod (W64 which) ((AA l).1.Parts.length:Int)).toNat default).Id ((AC (AA l).1).Parts.getD (Int.tmod (W64 which) ((AA l).1.Parts.length:Int)).toNat default).Ref ((AC (AA l).1).Parts.getD (Int.tmod (W64 which) ((AA l).1.Parts.length:Int)).toNat default).Type' (Z7j l which by_) ((AC (AA l).1).Parts.getD (Int.tmod (W64 which) ((AA l).1.Parts.length:Int)).toNat default).Turn ((AC (AA l).1).Parts.getD (Int.tmod (W64 which) ((AA l).1.Parts.length:Int)).toNat default).Under) (GD kr))⟩ .nil))))) (Cv.refl _))<|AD ?_
 refine BL (Cv.trans (wf (⟨(PU l which),[(EP by_),(Dh l),(D1 l which by_)]⟩) 47 7 ((AC (AA l).1).Parts.set (Int.tmod (W64 which) ((AA l).1.Parts.length:Int)).toNat (AG.mk ((AC (AA l).1).Parts.getD (Int.tmod (W64 which) ((AA l).1.Parts.length:Int)).toNat default).Id ((AC (AA l).1).Parts.getD (Int.tmod (W64 which) ((AA l).1.Parts.length:Int)).toNat default).Ref ((AC (AA l).1).Parts.getD (Int.tmod (W64 which) ((AA l).1.Parts.length:Int)).toNat default).Type' (Z7j l which by_) ((AC (AA l).1).Parts.getD (Int.tmod (W64 which) ((AA l).1.Parts.length:Int)).toNat default).Turn ((AC (AA l).1).Parts.getD (Int.tmod (W64 which) ((AA l).1.Parts.length:Int)).toNat default).Under)).length (AU AG.c ((AC (AA l).1).Parts.set (Int.tmod (W64 which) ((AA l).1.Parts.length:Int)).toNat (AG.mk ((AC (AA l).1).Parts.getD (Int.tmod (W64 which) ((AA l).1.Parts.length:Int)).toNat default).Id ((AC (AA l).1).Parts.getD (Int.tmod (W64 which) ((AA l).1.Parts.length:Int)).toNat default).Ref ((AC (AA l).1).Parts.getD (Int.tmod (W64 which) ((AA l).1.Parts.length:Int)).toNat default).Type' (Z7j l which by_) ((AC (AA l).1).Parts.getD (Int.tmod (W64 which) ((AA l).1.Parts.length:Int)).toNat default).Turn ((AC (AA l).1).Parts.getD (Int.tmod (W64 which) ((AA l).1.Parts.length:Int)).toNat default).Under))) 59 hk0 (.cons ⟨rfl,rfl⟩ .nil)) (Cv.refl _)) ?_
 refine dw [] [(63,ceI (R9 l) (Ko (AA l).1 (AA l).2)),(66,ceI [.agg (SN l which by_),.one (lst 3 AP.c (AA l).2)] (Ko (Gx l which by_) (AA l).2))] [Ay (ceI (R9 l) (Ko (AA l).1 (AA l).2)).2.1,Ay (ceI [.agg (zzc1 l which by_),.one (lst 3 AP.c (AA l).2)] (Ko (AH.mk (AC (AA l).1).Layers (AC (AA l).1).Outline ((AC (AA l).1).Parts.set (Int.tmod (W64 which) ((AA l).1.Parts.length:Int)).toNat (AG.mk ((AC (AA l).1).Parts.getD (Int.tmod (W64 which) ((AA l).1.Parts.length:Int)).toNat default).Id ((AC (AA l).1).Parts.getD (Int.tmod (W64 which) ((AA l).1.Parts.length:Int)).toNat default).Ref ((AC (AA l).1).Parts.getD (Int.tmod (W64 which) ((AA l).1.Parts.length:Int)).toNat default).Type' (Z7j l which by_) ((AC (AA l).1).Parts.getD (Int.tmod (W64 which) ((AA l).1.Parts.length:Int)).toNat default).Turn ((AC (AA l).1).Parts.getD (Int.tmod (W64 which) ((AA l).1.Parts.length:Int)).toNat default).Under)) (AC (AA l).1).Nets (AC (AA l).1).Tracks (AC (AA l).1).Vias (AC (AA l).1).Pours (AC (AA l).1).Keeps (AC (AA l).1).Slots (AC (AA l).1).Classes (AC (AA l).1).Rules (AC (AA l).1).Waivers (AC (AA l).1).Matches) (AA l).2)).2.1] ⟨(Lu [(Kx l),(MF which l),(11,tP 11 0),(12,tO (lst 9 A0.c (Am (AA l).1 (AA l).2))),(R7 l which by_)]),[(EP by_),(Dh l),(D1 l which by_)]⟩ (.cons (CX (P1 (AA l).1 (AA l).2 au11 au11 au11 au11 au11) (.cons (.agg (rr9 (rr3 (.cons (.any _) (rr (rr .nil)))))) (.cons (AvE.refl _) .nil))) (.cons (CX (P1 (AH.mk (AC (AA l).1).Layers (AC (AA l).1).Outline ((AC (AA l).1).Parts.set (Int.tmod (W64 which) ((AA l).1.Parts.length:Int)).toNat (AG.mk ((AC (AA l).1).Parts.getD (Int.tmod (W64 which) ((AA l).1.Parts.length:Int)).toNat default).Id ((AC (AA l).1).Parts.getD (Int.tmod (W64 which) ((AA l).1.Parts.length:Int)).toNat default).Ref ((AC (AA l).1).Parts.getD (Int.tmod (W64 which) ((AA l).1.Parts.length:Int)).toNat default).Type' (Z7j l which by_) ((AC (AA l).1).Parts.getD (Int.tmod (W64 which) ((AA l).1.Parts.length:Int)).toNat default).Turn ((AC (AA l).1).Parts.getD (Int.tmod (W64 which) ((AA l).1.Parts.length:Int)).toNat default).Under)) (AC (AA l).1).Nets (AC (AA l).1).Tracks (AC (AA l).1).Vias (AC (AA l).1).Pours (AC (AA l).1).Keeps (AC (AA l).1).Slots (AC (AA l).1).Classes (AC (AA l).1).Rules (AC (AA l).1).Waivers (AC (AA l).1).Matches) (AA l).2 au11 au11 au11 au11 au11) (.cons (.agg (rr9 (rr3 (.cons (.any _) (rr (rr .nil)))))) (.cons (AvE.refl _) .nil))) .nil)) (.cons rfl (.cons rfl .nil))<|AJ ?_
 refine AD<|AD ?_
 refine rn ⟨(Lu [(Kx l),(MF which l),(11,tP 11 0),(12,tO (lst 9 A0.c (Am (AA l).1 (AA l).2))),(R7 l which by_),(71,tB (!decide ((((Am (AA l).1 (AA l).2).length:Int):Int)=((Am (AH.mk (AC (AA l).1).Layers (AC (AA l).1).Outline ((AC (AA l).1).Parts.set (Int.tmod (W64 which) ((AA l).1.Parts.length:Int)).toNat (AG.mk ((AC (AA l).1).Parts.getD (Int.tmod (W64 which) ((AA l).1.Parts.length:Int)).toNat default).Id ((AC (AA l).1).Parts.getD (Int.tmod (W64 which) ((AA l).1.Parts.length:Int)).toNat default).Ref ((AC (AA l).1).Parts.getD (Int.tmod (W64 which) ((AA l).1.Parts.length:Int)).toNat default).Type' (Z7j l which by_) ((AC (AA l).1).Parts.getD (Int.tmod (W64 which) ((AA l).1.Parts.length:Int)).toNat default).Turn ((AC (AA l).1).Parts.getD (Int.tmod (W64 which) ((AA l).1.Parts.length:Int)).toNat default).Under)) (AC (AA l).1).Nets (AC (AA l).1).Tracks (AC (AA l).1).Vias (AC (AA l).1).Pours (AC (AA l).1).Keeps (AC (AA l).1).Slots (AC (AA l).1).Classes (AC (AA l).1).Rules (AC (AA l).1).Waivers (AC (AA l).1).Matches) (AA l).2).length:Int))))]),[(EP by_),(Dh l),(D1 l which by_)]⟩ ?_
 refine Aa (!decide ((((Am (AA l).1 (AA l).2).length:Int):Int)=((Am (AH.mk (AC (AA l).1).Layers (AC (AA l).1).Outline ((AC (AA l).1).Parts.set (Int.tmod (W64 which) ((AA l).1.Parts.length:Int)).toNat (AG.mk ((AC (AA l).1).Parts.getD (Int.tmod (W64 which) ((AA l).1.Parts.length:Int)).toNat default).Id ((AC (AA l).1).Parts.getD (Int.tmod (W64 which) ((AA l).1.Parts.length:Int)).toNat default).Ref ((AC (AA l).1).Parts.getD (Int.tmod (W64 which) ((AA l).1.Parts.length:Int)).toNat default).Type' (Z7j l which by_) ((AC (AA l).1).Parts.getD (Int.tmod (W64 which) ((AA l).1.Parts.length:Int)).toNat default).Turn ((AC (AA l).1).Parts.getD (Int.tmod (W64 which) ((AA l).1.Parts.length:Int)).toNat default).Under)) (AC (AA l).1).Nets (AC (AA l).1).Tracks (AC (AA l).1).Vias (AC (AA l).1).Pours (AC (AA l).1).Keeps (AC (AA l).1).Slots (AC (AA l).1).Classes (AC (AA l).1).Rules (AC (AA l).1).Waivers (AC (AA l).1).Matches) (AA l).2).length:Int))) kr (fun h2 => ?_) (fun h2 => ?_)
 ·have g2:=DY h2
  refine AD<|rn ⟨[(6,tB false)],[]⟩ ?_
  refine Af<|BZ ?_
  exact xl (tO (.b false)) (An (by simp only [Dr,h1,h2,cond_true,cond_false] <;> rfl))
 have g2:=DL h2
 refine Ad<|AJ ?_
 refine AD<|AD ?_
 refine rn ⟨(Er l which by_ [(GU l),(GW l),(74,tI 0)]),[(EP by_),(Dh l),(D1 l which by_)]⟩<|AX ?_
 refine BN (ι:=Nat×Int) (fun x=>⟨(Er l which by_ [(GU l),(GW l),(74,tI x.2)]),[(EP by_),(Dh l),(D1 l which by_)]⟩) (fun x=>(((Am (AA l).1 (AA l).2).length:Int)-x.2).toNat<x.1/\(0<=x.2/\(x.2<=((Am (AA l).1 (AA l).2).length:Int)\/x.2=0))/\BX l which by_ x.1 x.2=Dr l which by_) (fun x=>x.1) ?_ ((((Am (AA l).1 (AA l).2).length:Int)-0).toNat+1,0) ⟨Nat.lt_succ_self _,⟨ax0,ax0⟩,(by simp only [Dr,h1,h2,cond_true,cond_false])⟩
 rintro ⟨n0,v74⟩ ⟨hm0,hinv0,hF0⟩
 try dsimp only at hm0 hinv0 hF0
 cases n0 with | zero=>exact nz hm0 | succ n0 => ?_
 have hw9:W64 (v74+1)=v74+1:=Ap oM oM
 refine AD<|rn ⟨(Er l which by_ [(GU l),(GW l),(74,tI v74),(75,tB (decide ((v74:Int)<((Am (AA l).1 (AA l).2).length:Int))))]),[(EP by_),(Dh l),(D1 l which by_)]⟩<|AD ?_
 refine Aa _ rfl (fun h3 => ?_) (fun h3 => ?_)
 ·have g3:=oT h3
  refine Ad<|AJ ?_
  refine AD<|AX<|AD ?_
  refine rc [] [0<=(v74:Int)/\(v74:Int)<(((Am (AA l).1 (AA l).2).length:Nat):Int)] ⟨(Er l which by_ [(14,tI v74),(15,tP 15 0),(GU l),(GW l),(74,tI v74)]),[(EP by_),(Dh l),(D1 l which by_),(15,.cells (A0.c (Z7k l v74)) 63)]⟩ .nil (.cons au14 .nil)<|AJ<|AD ?_
  refine dw [] [(91,ceI [.agg (AH.c (AA l).1),.one (lst 3 AP.c (AA l).2),.agg [.s ((AA l).1.Parts.getD (Lx which l).toNat default).Ref,.s (Z7k l v74).Pad]] (cAt (AA l).1 (AA l).2 (ML l which v74)))] [0<=(Int.tmod (W64 which) ((AA l).1.Parts.length:Int):Int)/\(Int.tmod (W64 which) ((AA l).1.Parts.length:Int):Int)<(((AA l).1.Parts.length:Nat):Int),Ay (ceI [.agg (AH.c (AA l).1),.one (lst 3 AP.c (AA l).2),.agg [.s ((AA l).1.Parts.getD (Int.tmod (W64 which) ((AA l).1.Parts.length:Int)).toNat default).Ref,.s (Z7k l v74).Pad]] (cAt (AA l).1 (AA l).2 (Ab.mk ((AA l).1.Parts.getD (Int.tmod (W64 which) ((AA l).1.Parts.length:Int)).toNat default).Ref (Z7k l v74).Pad))).2.1] ⟨(Er l which by_ (R3 v74 l which [(GU l),(GW l),(74,tI v74)])),[(EP by_),(Dh l),(D1 l which by_),(15,.cells (A0.c (Z7k l v74)) 63),(16,.cells (AF.c (Z7l l which v74)) 52)]⟩ (.cons (CX (cC (AA l).1 (AA l).2 (Ab.mk ((AA l).1.Parts.getD (Int.tmod (W64 which) ((AA l).1.Parts.length:Int)).toNat default).Ref (Z7k l v74).Pad) au11 au11) (.cons (.agg (rr9 (rr3 (.cons (.any _) (rr (rr .nil)))))) (.cons (AvE.refl _) (.cons (AvE.refl _) .nil)))) .nil) (.cons au14 (.cons rfl .nil))<|AJ<|AD ?_
  refine dw [] [(107,ceI [.agg (SN l which by_),.one (lst 3 AP.c (AA l).2),.agg [.s ((AA l).1.Parts.getD (Lx which l).toNat default).Ref,.s (Z7k l v74).Pad]] (cAt (Gx l which by_) (AA l).2 (ML l which v74)))] [0<=(Int.tmod (W64 which) ((AA l).1.Parts.length:Int):Int)/\(Int.tmod (W64 which) ((AA l).1.Parts.length:Int):Int)<(((AA l).1.Parts.length:Nat):Int),Ay (ceI [.agg (zzc1 l which by_),.one (lst 3 AP.c (AA l).2),.agg [.s ((AA l).1.Parts.getD (Int.tmod (W64 which) ((AA l).1.Parts.length:Int)).toNat default).Ref,.s (Z7k l v74).Pad]] (cAt (AH.mk (AC (AA l).1).Layers (AC (AA l).1).Outline ((AC (AA l).1).Parts.set (Int.tmod (W64 which) ((AA l).1.Parts.length:Int)).toNat (AG.mk ((AC (AA l).1).Parts.getD (Int.tmod (W64 which) ((AA l).1.Parts.length:Int)).toNat default).Id ((AC (AA l).1).Parts.getD (Int.tmod (W64 which) ((AA l).1.Parts.length:Int)).toNat default).Ref ((AC (AA l).1).Parts.getD (Int.tmod (W64 which) ((AA l).1.Parts.length:Int)).toNat default).Type' (Z7j l which by_) ((AC (AA l).1).Parts.getD (Int.tmod (W64 which) ((AA l).1.Parts.length:Int)).toNat default).Turn ((AC (AA l).1).Parts.getD (Int.tmod (W64 which) ((AA l).1.Parts.length:Int)).toNat default).Under)) (AC (AA l).1).Nets (AC (AA l).1).Tracks (AC (AA l).1).Vias (AC (AA l).1).Pours (AC (AA l).1).Keeps (AC (AA l).1).Slots (AC (AA l).1).Classes (AC (AA l).1).Rules (AC (AA l).1).Waivers (AC (AA l).1).Matches) (AA l).2 (Ab.mk ((AA l).1.Parts.getD (Int.tmod (W64 which) ((AA l).1.Parts.length:Int)).toNat default).Ref (Z7k l v74).Pad))).2.1] ⟨(Er l which by_ (R3 v74 l which [(19,tP 19 0),(20,tI (FAt (Gx l which by_) (AA l).2 (ML l which v74)).2.1),(GU l),(GW l),(74,tI v74)])),[(EP by_),(Dh l),(D1 l which by_),(15,.cells (A0.c (Z7k l v74)) 63),(16,.cells (AF.c (Z7l l which v74)) 52),(19,.cells (AF.c (Z7m l which by_ v74)) 52)]⟩ (.cons (CX (cC (AH.mk (AC (AA l).1).Layers (AC (AA l).1).Outline ((AC (AA l).1).Parts.set (Int.tmod (W64 which) ((AA l).1.Parts.length:Int)).toNat (AG.mk ((AC (AA l).1).Parts.getD (Int.tmod (W64 which) ((AA l).1.Parts.length:Int)).toNat default).Id ((AC (AA l).1).Parts.getD (Int.tmod (W64 which) ((AA l).1.Parts.length:Int)).toNat default).Ref ((AC (AA l).1).Parts.getD (Int.tmod (W64 which) ((AA l).1.Parts.length:Int)).toNat default).Type' (Z7j l which by_) ((AC (AA l).1).Parts.getD (Int.tmod (W64 which) ((AA l).1.Parts.length:Int)).toNat default).Turn ((AC (AA l).1).Parts.getD (Int.tmod (W64 which) ((AA l).1.Parts.length:Int)).toNat default).Under)) (AC (AA l).1).Nets (AC (AA l).1).Tracks (AC (AA l).1).Vias (AC (AA l).1).Pours (AC (AA l).1).Keeps (AC (AA l).1).Slots (AC (AA l).1).Classes (AC (AA l).1).Rules (AC (AA l).1).Waivers (AC (AA l).1).Matches) (AA l).2 (Ab.mk ((AA l).1.Parts.getD (Int.tmod (W64 which) ((AA l).1.Parts.length:Int)).toNat default).Ref (Z7k l v74).Pad) au11 au11) (.cons (.agg (rr9 (rr3 (.cons (.any _) (rr (rr .nil)))))) (.cons (AvE.refl _) (.cons (AvE.refl _) .nil)))) .nil) (.cons au14 (.cons rfl .nil))<|AJ ?_
  refine AD<|AD ?_
  refine dw [] [] [0<=(Int.tmod (W64 which) ((AA l).1.Parts.length:Int):Int)/\(Int.tmod (W64 which) ((AA l).1.Parts.length:Int):Int)<(((AA l).1.Parts.length:Nat):Int)] ⟨(Er l which by_ (R3 v74 l which [(19,tP 19 0),(20,tI (FAt (Gx l which by_) (AA l).2 (ML l which v74)).2.1),(GU l),(GW l),(74,tI v74),(119,tB (decide (((Z7k l v74).Id:Int)=((AA l).1.Parts.getD (Int.tmod (W64 which) ((AA l).1.Parts.length:Int)).toNat default).Id)))])),[(EP by_),(Dh l),(D1 l which by_),(15,.cells (A0.c (Z7k l v74)) 63),(16,.cells (AF.c (Z7l l which v74)) 52),(19,.cells (AF.c (Z7m l which by_ v74)) 52)]⟩ .nil (.cons au14 .nil)<|AJ ?_
  refine Aa _ rfl (fun h4 => ?_) (fun h4 => ?_)
  ·have g4:=oT h4
   refine AD<|AD ?_
   refine dw [] [(123,C5 (Z7l l which v74) (AF.mk (Int.tmod by_.X 100) (Int.tmod by_.Y 100)))] ((Ay (C5 (Z7l l which v74) (AF.mk (Int.tmod by_.X 100) (Int.tmod by_.Y 100))).2.1)::(i3 (!(decide ((Z7m l which by_ v74).X=(Z7n l which v74 by_).X)&&(decide ((Z7m l which by_ v74).Y=(Z7n l which v74 by_).Y)&&true))) [])) ⟨(Er l which by_ [(14,tI v74),(15,tP 15 0),(GU l),(GW l),(74,tI v74),(129,tB (bif !(decide ((Z7m l which by_ v74).X=(Z7n l which v74 by_).X)&&(decide ((Z7m l which by_ v74).Y=(Z7n l which v74 by_).Y)&&true)) then true else !decide (((FAt (AA l).1 (AA l).2 (Ab.mk ((AA l).1.Parts.getD (Int.tmod (W64 which) ((AA l).1.Parts.length:Int)).toNat default).Ref (Z7k l v74).Pad)).2.1:Int)=(FAt (AH.mk (AC (AA l).1).Layers (AC (AA l).1).Outline ((AC (AA l).1).Parts.set (Int.tmod (W64 which) ((AA l).1.Parts.length:Int)).toNat (AG.mk ((AC (AA l).1).Parts.getD (Int.tmod (W64 which) ((AA l).1.Parts.length:Int)).toNat default).Id ((AC (AA l).1).Parts.getD (Int.tmod (W64 which) ((AA l).1.Parts.length:Int)).toNat default).Ref ((AC (AA l).1).Parts.getD (Int.tmod (W64 which) ((AA l).1.Parts.length:Int)).toNat default).Type' (Z7j l which by_) ((AC (AA l).1).Parts.getD (Int.tmod (W64 which) ((AA l).1.Parts.length:Int)).toNat default).Turn ((AC (AA l).1).Parts.getD (Int.tmod (W64 which) ((AA l).1.Parts.length:Int)).toNat default).Under)) (AC (AA l).1).Nets (AC (AA l).1).Tracks (AC (AA l).1).Vias (AC (AA l).1).Pours (AC (AA l).1).Keeps (AC (AA l).1).Slots (AC (AA l).1).Classes (AC (AA l).1).Rules (AC (AA l).1).Waivers (AC (AA l).1).Matches) (AA l).2 (Ab.mk ((AA l).1.Parts.getD (Int.tmod (W64 which) ((AA l).1.Parts.length:Int)).toNat default).Ref (Z7k l v74).Pad)).2.1)))]),[(EP by_),(Dh l),(D1 l which by_),(15,.cells (A0.c (Z7k l v74)) 63)]⟩ (.cons (Ft (Z7l l which v74) (AF.mk (Int.tmod by_.X 100) (Int.tmod by_.Y 100))) .nil) (.cons rfl (c3 .nil))<|AJ ?_
   refine Aa (bif !(decide ((Z7m l which by_ v74).X=(Z7n l which v74 by_).X)&&(decide ((Z7m l which by_ v74).Y=(Z7n l which v74 by_).Y)&&true)) then true else !decide (((FAt (AA l).1 (AA l).2 (Ab.mk ((AA l).1.Parts.getD (Int.tmod (W64 which) ((AA l).1.Parts.length:Int)).toNat default).Ref (Z7k l v74).Pad)).2.1:Int)=(FAt (AH.mk (AC (AA l).1).Layers (AC (AA l).1).Outline ((AC (AA l).1).Parts.set (Int.tmod (W64 which) ((AA l).1.Parts.length:Int)).toNat (AG.mk ((AC (AA l).1).Parts.getD (Int.tmod (W64 which) ((AA l).1.Parts.length:Int)).toNat default).Id ((AC (AA l).1).Parts.getD (Int.tmod (W64 which) ((AA l).1.Parts.length:Int)).toNat default).Ref ((AC (AA l).1).Parts.getD (Int.tmod (W64 which) ((AA l).1.Parts.length:Int)).toNat default).Type' (Z7j l which by_) ((AC (AA l).1).Parts.getD (Int.tmod (W64 which) ((AA l).1.Parts.length:Int)).toNat default).Turn ((AC (AA l).1).Parts.getD (Int.tmod (W64 which) ((AA l).1.Parts.length:Int)).toNat default).Under)) (AC (AA l).1).Nets (AC (AA l).1).Tracks (AC (AA l).1).Vias (AC (AA l).1).Pours (AC (AA l).1).Keeps (AC (AA l).1).Slots (AC (AA l).1).Classes (AC (AA l).1).Rules (AC (AA l).1).Waivers (AC (AA l).1).Matches) (AA l).2 (Ab.mk ((AA l).1.Parts.getD (Int.tmod (W64 which) ((AA l).1.Parts.length:Int)).toNat default).Ref (Z7k l v74).Pad)).2.1)) kr (fun h5 => ?_) (fun h5 => ?_)
   ·refine AD<|rn ⟨[(6,tB false)],[]⟩ ?_
    refine Af<|BZ ?_
    refine BZ<|Ck ?_
    refine BZ<|BZ ?_
    refine Ck<|BZ ?_
    exact xl (tO (.b false)) (An (by rw [<- hF0];first | (simp only [BX,h3,h4,h5,cond_true,cond_false] <;> rfl)))
   refine Ad<|AJ ?_
   refine rs 134 (NR (Z7k l v74).Shape (AY.mk (AF.mk (Int.tmod by_.X 100) (Int.tmod by_.Y 100)) 0 false)) ⟨(Er l which by_ [(14,tI v74),(15,tP 15 0),(GU l),(GW l),(74,tI v74)]),[(EP by_),(Dh l),(D1 l which by_),(15,.cells (Vo l v74 by_) 63)]⟩ (Tx (Z7k l v74).Shape (AY.mk (AF.mk (Int.tmod by_.X 100) (Int.tmod by_.Y 100)) 0 false) au11)<|AJ<|AD ?_
   refine dw [] [(143,ceI [.one (.list true 9 1 (Au 9 1 (Vo l v74 by_))),.one (.list false 9 ((W64 (v74+1):Int).toNat-(v74:Int).toNat) (fun i_ j_=>(AU A0.c (Am (Gx l which by_) (AA l).2)) (i_+(v74:Int).toNat) j_))] (IH [A0.mk (Z7k l v74).Id (Z7k l v74).Pad (Z7k l v74).Kind (Z7k l v74).Net (Z7k l v74).From (Z7k l v74).To (Z7o l v74 by_)] (((Am (Gx l which by_) (AA l).2).take (W64 (v74+1):Int).toNat).drop (v74:Int).toNat)))] [0<=(v74:Int)/\(v74:Int)<=(W64 (v74+1):Int)/\(W64 (v74+1):Int)<=(((Am (AH.mk (AC (AA l).1).Layers (AC (AA l).1).Outline ((AC (AA l).1).Parts.set (Int.tmod (W64 which) ((AA l).1.Parts.length:Int)).toNat (AG.mk ((AC (AA l).1).Parts.getD (Int.tmod (W64 which) ((AA l).1.Parts.length:Int)).toNat default).Id ((AC (AA l).1).Parts.getD (Int.tmod (W64 which) ((AA l).1.Parts.length:Int)).toNat default).Ref ((AC (AA l).1).Parts.getD (Int.tmod (W64 which) ((AA l).1.Parts.length:Int)).toNat default).Type' (Z7j l which by_) ((AC (AA l).1).Parts.getD (Int.tmod (W64 which) ((AA l).1.Parts.length:Int)).toNat default).Turn ((AC (AA l).1).Parts.getD (Int.tmod (W64 which) ((AA l).1.Parts.length:Int)).toNat default).Under)) (AC (AA l).1).Nets (AC (AA l).1).Tracks (AC (AA l).1).Vias (AC (AA l).1).Pours (AC (AA l).1).Keeps (AC (AA l).1).Slots (AC (AA l).1).Classes (AC (AA l).1).Rules (AC (AA l).1).Waivers (AC (AA l).1).Matches) (AA l).2).length:Nat):Int),Ay (ceI [.one (.list true 9 1 (Au 9 1 (Vo l v74 by_))),.one (.list false 9 ((W64 (v74+1):Int).toNat-(v74:Int).toNat) (fun i_ j_=>(AU A0.c (Am (AH.mk (AC (AA l).1).Layers (AC (AA l).1).Outline ((AC (AA l).1).Parts.set (Int.tmod (W64 which) ((AA l).1.Parts.length:Int)).toNat (AG.mk ((AC (AA l).1).Parts.getD (Int.tmod (W64 which) ((AA l).1.Parts.length:Int)).toNat default).Id ((AC (AA l).1).Parts.getD (Int.tmod (W64 which) ((AA l).1.Parts.length:Int)).toNat default).Ref ((AC (AA l).1).Parts.getD (Int.tmod (W64 which) ((AA l).1.Parts.length:Int)).toNat default).Type' (Z7j l which by_) ((AC (AA l).1).Parts.getD (Int.tmod (W64 which) ((AA l).1.Parts.length:Int)).toNat default).Turn ((AC (AA l).1).Parts.getD (Int.tmod (W64 which) ((AA l).1.Parts.length:Int)).toNat default).Under)) (AC (AA l).1).Nets (AC (AA l).1).Tracks (AC (AA l).1).Vias (AC (AA l).1).Pours (AC (AA l).1).Keeps (AC (AA l).1).Slots (AC (AA l).1).Classes (AC (AA l).1).Rules (AC (AA l).1).Waivers (AC (AA l).1).Matches) (AA l).2)) (i_+(v74:Int).toNat) j_))] (IH [A0.mk (Z7k l v74).Id (Z7k l v74).Pad (Z7k l v74).Kind (Z7k l v74).Net (Z7k l v74).From (Z7k l v74).To (Z7o l v74 by_)] (((Am (AH.mk (AC (AA l).1).Layers (AC (AA l).1).Outline ((AC (AA l).1).Parts.set (Int.tmod (W64 which) ((AA l).1.Parts.length:Int)).toNat (AG.mk ((AC (AA l).1).Parts.getD (Int.tmod (W64 which) ((AA l).1.Parts.length:Int)).toNat default).Id ((AC (AA l).1).Parts.getD (Int.tmod (W64 which) ((AA l).1.Parts.length:Int)).toNat default).Ref ((AC (AA l).1).Parts.getD (Int.tmod (W64 which) ((AA l).1.Parts.length:Int)).toNat default).Type' (Z7j l which by_) ((AC (AA l).1).Parts.getD (Int.tmod (W64 which) ((AA l).1.Parts.length:Int)).toNat default).Turn ((AC (AA l).1).Parts.getD (Int.tmod (W64 which) ((AA l).1.Parts.length:Int)).toNat default).Under)) (AC (AA l).1).Nets (AC (AA l).1).Tracks (AC (AA l).1).Vias (AC (AA l).1).Pours (AC (AA l).1).Keeps (AC (AA l).1).Slots (AC (AA l).1).Classes (AC (AA l).1).Rules (AC (AA l).1).Waivers (AC (AA l).1).Matches) (AA l).2).take (W64 (v74+1):Int).toNat).drop (v74:Int).toNat))).2.1] ⟨(Er l which by_ [(GU l),(GW l),(74,tI v74),(144,tB (!(Z7p l v74 by_ which)))]),[(EP by_),(Dh l),(D1 l which by_)]⟩ (.cons (CX (RG [A0.mk (Z7k l v74).Id (Z7k l v74).Pad (Z7k l v74).Kind (Z7k l v74).Net (Z7k l v74).From (Z7k l v74).To (Z7o l v74 by_)] (((Am (AH.mk (AC (AA l).1).Layers (AC (AA l).1).Outline ((AC (AA l).1).Parts.set (Int.tmod (W64 which) ((AA l).1.Parts.length:Int)).toNat (AG.mk ((AC (AA l).1).Parts.getD (Int.tmod (W64 which) ((AA l).1.Parts.length:Int)).toNat default).Id ((AC (AA l).1).Parts.getD (Int.tmod (W64 which) ((AA l).1.Parts.length:Int)).toNat default).Ref ((AC (AA l).1).Parts.getD (Int.tmod (W64 which) ((AA l).1.Parts.length:Int)).toNat default).Type' (Z7j l which by_) ((AC (AA l).1).Parts.getD (Int.tmod (W64 which) ((AA l).1.Parts.length:Int)).toNat default).Turn ((AC (AA l).1).Parts.getD (Int.tmod (W64 which) ((AA l).1.Parts.length:Int)).toNat default).Under)) (AC (AA l).1).Nets (AC (AA l).1).Tracks (AC (AA l).1).Vias (AC (AA l).1).Pours (AC (AA l).1).Keeps (AC (AA l).1).Slots (AC (AA l).1).Classes (AC (AA l).1).Rules (AC (AA l).1).Waivers (AC (AA l).1).Matches) (AA l).2).take (W64 (v74+1):Int).toNat).drop (v74:Int).toNat) au11 au11 au11) (.cons (.one (Be true (Ar (c:=A0.c) (xs:=([A0.mk (Z7k l v74).Id (Z7k l v74).Pad (Z7k l v74).Kind (Z7k l v74).Net (Z7k l v74).From (Z7k l v74).To (Z7o l v74 by_)]:List A0)) rfl kr))) (.cons (.one (Be false (Gy (a:=v74) (b:=W64 (v74+1)) (A8 9 A0.c (Am (AH.mk (AC (AA l).1).Layers (AC (AA l).1).Outline ((AC (AA l).1).Parts.set (Int.tmod (W64 which) ((AA l).1.Parts.length:Int)).toNat (AG.mk ((AC (AA l).1).Parts.getD (Int.tmod (W64 which) ((AA l).1.Parts.length:Int)).toNat default).Id ((AC (AA l).1).Parts.getD (Int.tmod (W64 which) ((AA l).1.Parts.length:Int)).toNat default).Ref ((AC (AA l).1).Parts.getD (Int.tmod (W64 which) ((AA l).1.Parts.length:Int)).toNat default).Type' (Z7j l which by_) ((AC (AA l).1).Parts.getD (Int.tmod (W64 which) ((AA l).1.Parts.length:Int)).toNat default).Turn ((AC (AA l).1).Parts.getD (Int.tmod (W64 which) ((AA l).1.Parts.length:Int)).toNat default).Under)) (AC (AA l).1).Nets (AC (AA l).1).Tracks (AC (AA l).1).Vias (AC (AA l).1).Pours (AC (AA l).1).Keeps (AC (AA l).1).Slots (AC (AA l).1).Classes (AC (AA l).1).Rules (AC (AA l).1).Waivers (AC (AA l).1).Matches) (AA l).2)) (by have hc:=(show 0<=(v74:Int)/\(v74:Int)<=(W64 (v74+1):Int)/\(W64 (v74+1):Int)<=(((Am (AH.mk (AC (AA l).1).Layers (AC (AA l).1).Outline ((AC (AA l).1).Parts.set (Int.tmod (W64 which) ((AA l).1.Parts.length:Int)).toNat (AG.mk ((AC (AA l).1).Parts.getD (Int.tmod (W64 which) ((AA l).1.Parts.length:Int)).toNat default).Id ((AC (AA l).1).Parts.getD (Int.tmod (W64 which) ((AA l).1.Parts.length:Int)).toNat default).Ref ((AC (AA l).1).Parts.getD (Int.tmod (W64 which) ((AA l).1.Parts.length:Int)).toNat default).Type' (Z7j l which by_) ((AC (AA l).1).Parts.getD (Int.tmod (W64 which) ((AA l).1.Parts.length:Int)).toNat default).Turn ((AC (AA l).1).Parts.getD (Int.tmod (W64 which) ((AA l).1.Parts.length:Int)).toNat default).Under)) (AC (AA l).1).Nets (AC (AA l).1).Tracks (AC (AA l).1).Vias (AC (AA l).1).Pours (AC (AA l).1).Keeps (AC (AA l).1).Slots (AC (AA l).1).Classes (AC (AA l).1).Rules (AC (AA l).1).Waivers (AC (AA l).1).Matches) (AA l).2).length:Nat):Int) from au14);exact hc.1) (by have hc:=(show 0<=(v74:Int)/\(v74:Int)<=(W64 (v74+1):Int)/\(W64 (v74+1):Int)<=(((Am (AH.mk (AC (AA l).1).Layers (AC (AA l).1).Outline ((AC (AA l).1).Parts.set (Int.tmod (W64 which) ((AA l).1.Parts.length:Int)).toNat (AG.mk ((AC (AA l).1).Parts.getD (Int.tmod (W64 which) ((AA l).1.Parts.length:Int)).toNat default).Id ((AC (AA l).1).Parts.getD (Int.tmod (W64 which) ((AA l).1.Parts.length:Int)).toNat default).Ref ((AC (AA l).1).Parts.getD (Int.tmod (W64 which) ((AA l).1.Parts.length:Int)).toNat default).Type' (Z7j l which by_) ((AC (AA l).1).Parts.getD (Int.tmod (W64 which) ((AA l).1.Parts.length:Int)).toNat default).Turn ((AC (AA l).1).Parts.getD (Int.tmod (W64 which) ((AA l).1.Parts.length:Int)).toNat default).Under)) (AC (AA l).1).Nets (AC (AA l).1).Tracks (AC (AA l).1).Vias (AC (AA l).1).Pours (AC (AA l).1).Keeps (AC (AA l).1).Slots (AC (AA l).1).Classes (AC (AA l).1).Rules (AC (AA l).1).Waivers (AC (AA l).1).Matches) (AA l).2).length:Nat):Int) from au14);exact hc.2.1) (by have hc:=(show 0<=(v74:Int)/\(v74:Int)<=(W64 (v74+1):Int)/\(W64 (v74+1):Int)<=(((Am (AH.mk (AC (AA l).1).Layers (AC (AA l).1).Outline ((AC (AA l).1).Parts.set (Int.tmod (W64 which) ((AA l).1.Parts.length:Int)).toNat (AG.mk ((AC (AA l).1).Parts.getD (Int.tmod (W64 which) ((AA l).1.Parts.length:Int)).toNat default).Id ((AC (AA l).1).Parts.getD (Int.tmod (W64 which) ((AA l).1.Parts.length:Int)).toNat default).Ref ((AC (AA l).1).Parts.getD (Int.tmod (W64 which) ((AA l).1.Parts.length:Int)).toNat default).Type' (Z7j l which by_) ((AC (AA l).1).Parts.getD (Int.tmod (W64 which) ((AA l).1.Parts.length:Int)).toNat default).Turn ((AC (AA l).1).Parts.getD (Int.tmod (W64 which) ((AA l).1.Parts.length:Int)).toNat default).Under)) (AC (AA l).1).Nets (AC (AA l).1).Tracks (AC (AA l).1).Vias (AC (AA l).1).Pours (AC (AA l).1).Keeps (AC (AA l).1).Slots (AC (AA l).1).Classes (AC (AA l).1).Rules (AC (AA l).1).Waivers (AC (AA l).1).Matches) (AA l).2).length:Nat):Int) from au14);exact hc.2.2)))) .nil))) .nil) (.cons au14 (.cons rfl .nil))<|AJ ?_
   refine Aa _ rfl (fun h6 => ?_) (fun h6 => ?_)
   ·refine AD<|rn ⟨[(6,tB false)],[]⟩ ?_
    refine Af<|Ck ?_
    refine BZ<|BZ ?_
    refine Ck<|BZ ?_
    exact xl (tO (.b false)) (An (by rw [<- hF0];first | (simp only [BX,h3,h4,h5,h6,cond_true,cond_false] <;> rfl)))
   refine Ad<|Bg<|AJ ?_
   refine rg ⟨(Er l which by_ [(GU l),(GW l),(74,tI (W64 (v74+1)))]),[(EP by_),(Dh l),(D1 l which by_)]⟩ ?_
   (try rw [(show W64 (v74+1)=v74+1 from Ap oM au8)])
   refine AJ ?_
   refine ⟨(n0,v74+1),⟨?_,?_,(by rw [<- hF0];simp only [BX,h3,h4,h5,h6,cond_true,cond_false])⟩,Nat.lt_succ_self _,A9 kr⟩
   ·show (((Am (AA l).1 (AA l).2).length:Int)-(v74+1)).toNat<n0;omega
   exact ⟨ax0,ax0⟩
  have g4:=oF h4
  refine Ad<|AJ<|AD ?_
  refine dw [] [(143,ceI [.one (.list true 9 1 (Au 9 1 (A0.c (Z7k l v74)))),.one (.list false 9 ((W64 (v74+1):Int).toNat-(v74:Int).toNat) (fun i_ j_=>(AU A0.c (Am (Gx l which by_) (AA l).2)) (i_+(v74:Int).toNat) j_))] (IH [Z7k l v74] (((Am (Gx l which by_) (AA l).2).take (W64 (v74+1):Int).toNat).drop (v74:Int).toNat)))] [0<=(v74:Int)/\(v74:Int)<=(W64 (v74+1):Int)/\(W64 (v74+1):Int)<=(((Am (AH.mk (AC (AA l).1).Layers (AC (AA l).1).Outline ((AC (AA l).1).Parts.set (Int.tmod (W64 which) ((AA l).1.Parts.length:Int)).toNat (AG.mk ((AC (AA l).1).Parts.getD (Int.tmod (W64 which) ((AA l).1.Parts.length:Int)).toNat default).Id ((AC (AA l).1).Parts.getD (Int.tmod (W64 which) ((AA l).1.Parts.length:Int)).toNat default).Ref ((AC (AA l).1).Parts.getD (Int.tmod (W64 which) ((AA l).1.Parts.length:Int)).toNat default).Type' (Z7j l which by_) ((AC (AA l).1).Parts.getD (Int.tmod (W64 which) ((AA l).1.Parts.length:Int)).toNat default).Turn ((AC (AA l).1).Parts.getD (Int.tmod (W64 which) ((AA l).1.Parts.length:Int)).toNat default).Under)) (AC (AA l).1).Nets (AC (AA l).1).Tracks (AC (AA l).1).Vias (AC (AA l).1).Pours (AC (AA l).1).Keeps (AC (AA l).1).Slots (AC (AA l).1).Classes (AC (AA l).1).Rules (AC (AA l).1).Waivers (AC (AA l).1).Matches) (AA l).2).length:Nat):Int),Ay (ceI [.one (.list true 9 1 (Au 9 1 (A0.c (Z7k l v74)))),.one (.list false 9 ((W64 (v74+1):Int).toNat-(v74:Int).toNat) (fun i_ j_=>(AU A0.c (Am (AH.mk (AC (AA l).1).Layers (AC (AA l).1).Outline ((AC (AA l).1).Parts.set (Int.tmod (W64 which) ((AA l).1.Parts.length:Int)).toNat (AG.mk ((AC (AA l).1).Parts.getD (Int.tmod (W64 which) ((AA l).1.Parts.length:Int)).toNat default).Id ((AC (AA l).1).Parts.getD (Int.tmod (W64 which) ((AA l).1.Parts.length:Int)).toNat default).Ref ((AC (AA l).1).Parts.getD (Int.tmod (W64 which) ((AA l).1.Parts.length:Int)).toNat default).Type' (Z7j l which by_) ((AC (AA l).1).Parts.getD (Int.tmod (W64 which) ((AA l).1.Parts.length:Int)).toNat default).Turn ((AC (AA l).1).Parts.getD (Int.tmod (W64 which) ((AA l).1.Parts.length:Int)).toNat default).Under)) (AC (AA l).1).Nets (AC (AA l).1).Tracks (AC (AA l).1).Vias (AC (AA l).1).Pours (AC (AA l).1).Keeps (AC (AA l).1).Slots (AC (AA l).1).Classes (AC (AA l).1).Rules (AC (AA l).1).Waivers (AC (AA l).1).Matches) (AA l).2)) (i_+(v74:Int).toNat) j_))] (IH [Z7k l v74] (((Am (AH.mk (AC (AA l).1).Layers (AC (AA l).1).Outline ((AC (AA l).1).Parts.set (Int.tmod (W64 which) ((AA l).1.Parts.length:Int)).toNat (AG.mk ((AC (AA l).1).Parts.getD (Int.tmod (W64 which) ((AA l).1.Parts.length:Int)).toNat default).Id ((AC (AA l).1).Parts.getD (Int.tmod (W64 which) ((AA l).1.Parts.length:Int)).toNat default).Ref ((AC (AA l).1).Parts.getD (Int.tmod (W64 which) ((AA l).1.Parts.length:Int)).toNat default).Type' (Z7j l which by_) ((AC (AA l).1).Parts.getD (Int.tmod (W64 which) ((AA l).1.Parts.length:Int)).toNat default).Turn ((AC (AA l).1).Parts.getD (Int.tmod (W64 which) ((AA l).1.Parts.length:Int)).toNat default).Under)) (AC (AA l).1).Nets (AC (AA l).1).Tracks (AC (AA l).1).Vias (AC (AA l).1).Pours (AC (AA l).1).Keeps (AC (AA l).1).Slots (AC (AA l).1).Classes (AC (AA l).1).Rules (AC (AA l).1).Waivers (AC (AA l).1).Matches) (AA l).2).take (W64 (v74+1):Int).toNat).drop (v74:Int).toNat))).2.1] ⟨(Er l which by_ [(GU l),(GW l),(74,tI v74),(144,tB (!(Z7q l v74 which by_)))]),[(EP by_),(Dh l),(D1 l which by_)]⟩ (.cons (CX (RG [Z7k l v74] (((Am (AH.mk (AC (AA l).1).Layers (AC (AA l).1).Outline ((AC (AA l).1).Parts.set (Int.tmod (W64 which) ((AA l).1.Parts.length:Int)).toNat (AG.mk ((AC (AA l).1).Parts.getD (Int.tmod (W64 which) ((AA l).1.Parts.length:Int)).toNat default).Id ((AC (AA l).1).Parts.getD (Int.tmod (W64 which) ((AA l).1.Parts.length:Int)).toNat default).Ref ((AC (AA l).1).Parts.getD (Int.tmod (W64 which) ((AA l).1.Parts.length:Int)).toNat default).Type' (Z7j l which by_) ((AC (AA l).1).Parts.getD (Int.tmod (W64 which) ((AA l).1.Parts.length:Int)).toNat default).Turn ((AC (AA l).1).Parts.getD (Int.tmod (W64 which) ((AA l).1.Parts.length:Int)).toNat default).Under)) (AC (AA l).1).Nets (AC (AA l).1).Tracks (AC (AA l).1).Vias (AC (AA l).1).Pours (AC (AA l).1).Keeps (AC (AA l).1).Slots (AC (AA l).1).Classes (AC (AA l).1).Rules (AC (AA l).1).Waivers (AC (AA l).1).Matches) (AA l).2).take (W64 (v74+1):Int).toNat).drop (v74:Int).toNat) au11 au11 au11) (.cons (.one (Be true (Ar (c:=A0.c) (xs:=([Z7k l v74]:List A0)) rfl kr))) (.cons (.one (Be false (Gy (a:=v74) (b:=W64 (v74+1)) (A8 9 A0.c (Am (AH.mk (AC (AA l).1).Layers (AC (AA l).1).Outline ((AC (AA l).1).Parts.set (Int.tmod (W64 which) ((AA l).1.Parts.length:Int)).toNat (AG.mk ((AC (AA l).1).Parts.getD (Int.tmod (W64 which) ((AA l).1.Parts.length:Int)).toNat default).Id ((AC (AA l).1).Parts.getD (Int.tmod (W64 which) ((AA l).1.Parts.length:Int)).toNat default).Ref ((AC (AA l).1).Parts.getD (Int.tmod (W64 which) ((AA l).1.Parts.length:Int)).toNat default).Type' (Z7j l which by_) ((AC (AA l).1).Parts.getD (Int.tmod (W64 which) ((AA l).1.Parts.length:Int)).toNat default).Turn ((AC (AA l).1).Parts.getD (Int.tmod (W64 which) ((AA l).1.Parts.length:Int)).toNat default).Under)) (AC (AA l).1).Nets (AC (AA l).1).Tracks (AC (AA l).1).Vias (AC (AA l).1).Pours (AC (AA l).1).Keeps (AC (AA l).1).Slots (AC (AA l).1).Classes (AC (AA l).1).Rules (AC (AA l).1).Waivers (AC (AA l).1).Matches) (AA l).2)) (by have hc:=(show 0<=(v74:Int)/\(v74:Int)<=(W64 (v74+1):Int)/\(W64 (v74+1):Int)<=(((Am (AH.mk (AC (AA l).1).Layers (AC (AA l).1).Outline ((AC (AA l).1).Parts.set (Int.tmod (W64 which) ((AA l).1.Parts.length:Int)).toNat (AG.mk ((AC (AA l).1).Parts.getD (Int.tmod (W64 which) ((AA l).1.Parts.length:Int)).toNat default).Id ((AC (AA l).1).Parts.getD (Int.tmod (W64 which) ((AA l).1.Parts.length:Int)).toNat default).Ref ((AC (AA l).1).Parts.getD (Int.tmod (W64 which) ((AA l).1.Parts.length:Int)).toNat default).Type' (Z7j l which by_) ((AC (AA l).1).Parts.getD (Int.tmod (W64 which) ((AA l).1.Parts.length:Int)).toNat default).Turn ((AC (AA l).1).Parts.getD (Int.tmod (W64 which) ((AA l).1.Parts.length:Int)).toNat default).Under)) (AC (AA l).1).Nets (AC (AA l).1).Tracks (AC (AA l).1).Vias (AC (AA l).1).Pours (AC (AA l).1).Keeps (AC (AA l).1).Slots (AC (AA l).1).Classes (AC (AA l).1).Rules (AC (AA l).1).Waivers (AC (AA l).1).Matches) (AA l).2).length:Nat):Int) from au14);exact hc.1) (by have hc:=(show 0<=(v74:Int)/\(v74:Int)<=(W64 (v74+1):Int)/\(W64 (v74+1):Int)<=(((Am (AH.mk (AC (AA l).1).Layers (AC (AA l).1).Outline ((AC (AA l).1).Parts.set (Int.tmod (W64 which) ((AA l).1.Parts.length:Int)).toNat (AG.mk ((AC (AA l).1).Parts.getD (Int.tmod (W64 which) ((AA l).1.Parts.length:Int)).toNat default).Id ((AC (AA l).1).Parts.getD (Int.tmod (W64 which) ((AA l).1.Parts.length:Int)).toNat default).Ref ((AC (AA l).1).Parts.getD (Int.tmod (W64 which) ((AA l).1.Parts.length:Int)).toNat default).Type' (Z7j l which by_) ((AC (AA l).1).Parts.getD (Int.tmod (W64 which) ((AA l).1.Parts.length:Int)).toNat default).Turn ((AC (AA l).1).Parts.getD (Int.tmod (W64 which) ((AA l).1.Parts.length:Int)).toNat default).Under)) (AC (AA l).1).Nets (AC (AA l).1).Tracks (AC (AA l).1).Vias (AC (AA l).1).Pours (AC (AA l).1).Keeps (AC (AA l).1).Slots (AC (AA l).1).Classes (AC (AA l).1).Rules (AC (AA l).1).Waivers (AC (AA l).1).Matches) (AA l).2).length:Nat):Int) from au14);exact hc.2.1) (by have hc:=(show 0<=(v74:Int)/\(v74:Int)<=(W64 (v74+1):Int)/\(W64 (v74+1):Int)<=(((Am (AH.mk (AC (AA l).1).Layers (AC (AA l).1).Outline ((AC (AA l).1).Parts.set (Int.tmod (W64 which) ((AA l).1.Parts.length:Int)).toNat (AG.mk ((AC (AA l).1).Parts.getD (Int.tmod (W64 which) ((AA l).1.Parts.length:Int)).toNat default).Id ((AC (AA l).1).Parts.getD (Int.tmod (W64 which) ((AA l).1.Parts.length:Int)).toNat default).Ref ((AC (AA l).1).Parts.getD (Int.tmod (W64 which) ((AA l).1.Parts.length:Int)).toNat default).Type' (Z7j l which by_) ((AC (AA l).1).Parts.getD (Int.tmod (W64 which) ((AA l).1.Parts.length:Int)).toNat default).Turn ((AC (AA l).1).Parts.getD (Int.tmod (W64 which) ((AA l).1.Parts.length:Int)).toNat default).Under)) (AC (AA l).1).Nets (AC (AA l).1).Tracks (AC (AA l).1).Vias (AC (AA l).1).Pours (AC (AA l).1).Keeps (AC (AA l).1).Slots (AC (AA l).1).Classes (AC (AA l).1).Rules (AC (AA l).1).Waivers (AC (AA l).1).Matches) (AA l).2).length:Nat):Int) from au14);exact hc.2.2)))) .nil))) .nil) (.cons au14 (.cons rfl .nil))<|AJ ?_
  refine Aa _ rfl (fun h5 => ?_) (fun h5 => ?_)
  ·refine AD<|rn ⟨[(6,tB false)],[]⟩ ?_
   refine Af<|Ck ?_
   refine BZ<|BZ ?_
   refine Ck<|BZ ?_
   exact xl (tO (.b false)) (An (by rw [<- hF0];first | (simp only [BX,h3,h4,h5,cond_true,cond_false] <;> rfl)))
  refine Ad<|Bg<|AJ ?_
  refine rg ⟨(Er l which by_ [(GU l),(GW l),(74,tI (W64 (v74+1)))]),[(EP by_),(Dh l),(D1 l which by_)]⟩ ?_
  (try rw [(show W64 (v74+1)=v74+1 from Ap oM au8)])
  refine AJ ?_
  refine ⟨(n0,v74+1),⟨?_,?_,(by rw [<- hF0];simp only [BX,h3,h4,h5,cond_true,cond_false])⟩,Nat.lt_succ_self _,A9 kr⟩
  ·show (((Am (AA l).1 (AA l).2).length:Int)-(v74+1)).toNat<n0;omega
  exact ⟨ax0,ax0⟩
 refine BO<|BD ?_
 refine BD<|BP ?_
 refine AJ<|AD ?_
 refine rn ⟨[(6,tB CF)],[]⟩<|Af ?_
 exact xl (tO (.b CF)) (An (by rw [<- hF0];first | (simp only [BX,h3,cond_true,cond_false] <;> rfl)))
end
theorem ON {α:Type} [Inhabited α] (lt:α->α->Bool) (l:List α) (h:∀ k,k+1<l.length->lt (l.getD (k+1) default) (l.getD k default)=false):Fu lt l=l:=by
 have key:∀ n,n<=l.length->Fu lt (l.take n)=l.take n:=by
  intro n
  induction n with
  | zero=>intro _;rfl
  | succ n ih =>
   intro hn
   have e:l.take (n+1)=l.take n++[l.getD n default]:=by
    rw [List.take_succ_eq_append_getElem (by omega),List.getD_eq_getElem?_getD,List.getElem?_eq_getElem (by omega)];rfl
   rw [e,LM,ih (by omega)]
   have hl:(l.take n).length=n:=by rw [List.length_take];omega
   have hp:G3 (lt (l.getD n default)) (l.take n) (l.take n).length=n:=by
    rw [hl]
    cases n with
    | zero=>rfl
    | succ m =>
     unfold G3
     rw [show (l.take (m+1)).getD m default=l.getD m default by rw [List.getD_eq_getElem?_getD,List.getElem?_take_of_lt (by omega),<- List.getD_eq_getElem?_getD],h m (by omega)]
     rfl
   unfold Ra
   rw [hp,List.take_of_length_le (by omega),List.drop_eq_nil_of_le (by omega)]
 have:=key l.length (Nat.le_refl _)
 rwa [List.take_length] at this
theorem YN {x y:Int} (h:y<=x):decide (DU x y<0)=false:=by
 unfold DU Ez
 by_cases h2:y<x
 ·simp [show ¬ x<y by omega,h2]
 simp [show ¬ x<y by omega,h2]
theorem Mx {B:AH} {T:List AP} {l:List (List Int)} (h:FF B T l):CA B.Parts=B.Parts:=by
 rw [R0]
 exact ON _ _ fun k hk=>YN (by rw [(h.par k (by omega)).id,(h.par (k+1) hk).id];omega)
theorem XX {B:AH} {T:List AP} {l:List (List Int)} (h:FF B T l) {p:AG} (hp:p∈B.Parts):∃ a,CJ T p.Type'=(A2 a p.Type',true):=by
 obtain ⟨k,_,_,hm⟩:=QB h.par hp
 obtain ⟨a,e,_⟩:=MQ l hm.typ
 rw [<- Vf,h.types]
 exact ⟨a,e⟩
theorem RJ:∀ k:Nat,k<6->((Ae (k:Int)).toList.getD 1 0).toNat=49+k:=by
 intro k hk
 have:k=0\/k=1\/k=2\/k=3\/k=4\/k=5:=by omega
 rcases this with rfl | rfl | rfl | rfl | rfl | rfl <;> decide +kernel
theorem VL {k j:Nat} (hk:k<6) (hj:j<6) (h:Ae (k:Int)=Ae (j:Int)):k=j:=by
 have h1:=RJ k hk
 have h2:=RJ j hj
 rw [h] at h1
 omega
theorem X4 {α:Type} [Inhabited α] {f:α->Bool} {l:List α} {i:Nat} (hi:i<l.length) (ht:f (l.getD i default)=true) (hf:∀ k,k<i->f (l.getD k default)=false):l.findIdx? f=some i:=by
 rw [List.findIdx?_eq_some_iff_getElem]
 refine ⟨hi,?_,fun j hj => ?_⟩
 ·rw [List.getD_eq_getElem?_getD,List.getElem?_eq_getElem hi] at ht;exact ht
 have:=hf j hj
 rw [List.getD_eq_getElem?_getD,List.getElem?_eq_getElem (by omega)] at this
 have:f l[j]=false:=this
 rw [this];decide
theorem Xf {α:Type} [Inhabited α] {f:α->Bool} {l:List α} {i:Nat} (hi:i<l.length) (ht:f (l.getD i default)=true) (hf:∀ k,k<i->f (l.getD k default)=false):ixI f l=(i:Int):=by
 unfold ixI
 rw [X4 hi ht hf]
theorem Y4 (i j:Nat) (hi:i<3) (hj:j<3) (h:i≠j):((Qx.getD i ⟨#[]⟩).toList==(Qx.getD j ⟨#[]⟩).toList)=false:=by
 have key:∀ i:Fin 3,∀ j:Fin 3,i≠j->((Qx.getD i.val ⟨#[]⟩).toList==(Qx.getD j.val ⟨#[]⟩).toList)=false:=by decide +kernel
 exact key ⟨i,hi⟩ ⟨j,hj⟩ fun e=>h (Fin.mk.inj e)
theorem Ue (a:ByteArray):(a.toList==a.toList)=true:=by simp
theorem dL {a c:ByteArray} (h:a≠c):(a.toList==c.toList)=false:=by
 cases hq:(a.toList==c.toList) with
 | false=>rfl
 | true=>exact absurd (aT hq) h
theorem UD {B:AH} {T:List AP} {l:List (List Int)} (h:FF B T l) {i:Nat} (hi:i<B.Parts.length) (s:ByteArray):Cn B.Parts ⟨(B.Parts.getD i default).Ref,s⟩=(i:Int):=by
 have h3:=h.parl
 rw [H1]
 refine Xf hi (Ue _) fun k hk => ?_
 show ((B.Parts.getD k default).Ref.toList==(B.Parts.getD i default).Ref.toList)=false
 rw [(h.par k (by omega)).ref,(h.par i hi).ref]
 exact Y4 k i (by omega) (by omega) (by omega)
theorem Zc {t:AP} (h:Ix Yh t.Pads) {j:Nat} (hj:j<t.Pads.length):Eo t (t.Pads.getD j default).Name=(t.Pads.getD j default,true):=by
 have e:En t.Pads (t.Pads.getD j default).Name=(j:Int):=by
  rw [Rz]
  refine Xf hj (Ue _) fun k hk => ?_
  show ((t.Pads.getD k default).Name.toList==(t.Pads.getD j default).Name.toList)=false
  have hk':=h k (by omega)
  have hj':=h j hj
  rw [hk'.name,hj'.name]
  exact dL fun q=>absurd (VL hk'.lt hj'.lt q) (by omega)
 unfold Eo Z0m
 rw [e,decide_eq_false (by omega),cond_false,Int.toNat_natCast]
theorem Zd {B:AH} {T:List AP} {l:List (List Int)} (h:FF B T l) {i:Nat} (hi:i<B.Parts.length) {q:A3} (hq:q∈(CJ T (B.Parts.getD i default).Type').1.Pads) :
  FAt B T ⟨(B.Parts.getD i default).Ref,q.Name⟩=(AW (Ba (B.Parts.getD i default)) q.At,Cf B (B.Parts.getD i default),true):=by
 obtain ⟨a,e⟩:=XX h (p:=B.Parts.getD i default) (by rw [List.getD_eq_getElem?_getD,List.getElem?_eq_getElem hi];exact List.getElem_mem hi)
 have hx:Ix Yh (CJ T (B.Parts.getD i default).Type').1.Pads:=by rw [e];exact LH _ _
 obtain ⟨j,hj,ej,_⟩:=QB hx hq
 subst ej
 have e0:=UD h hi ((CJ T (B.Parts.getD i default).Type').1.Pads.getD j default).Name
 have e1:Z0q B ⟨(B.Parts.getD i default).Ref,((CJ T (B.Parts.getD i default).Type').1.Pads.getD j default).Name⟩=B.Parts.getD i default:=by unfold Z0q;rw [e0,Int.toNat_natCast]
 have e2:Z0p T B ⟨(B.Parts.getD i default).Ref,((CJ T (B.Parts.getD i default).Type').1.Pads.getD j default).Name⟩=(CJ T (B.Parts.getD i default).Type').1:=by unfold Z0p;rw [e0,Int.toNat_natCast]
 unfold FAt Z0r
 rw [e0,e1,e2,Zc hx hj,decide_eq_false (by omega),cond_false]
 rfl
theorem U9 {B:AH} {T:List AP} {l:List (List Int)} (h:FF B T l) {x:AG×A3} (hx:x∈Ac B T):∃ i,i<B.Parts.length/\B.Parts.getD i default=x.1/\x.2∈(CJ T x.1.Type').1.Pads:=by
 unfold Ac at hx
 rw [Mx h] at hx
 obtain ⟨p,hp,hx⟩:=List.mem_flatMap.1 hx
 unfold EZ at hx
 obtain ⟨q,hq,rfl⟩:=List.mem_map.1 hx
 obtain ⟨i,hi,e,_⟩:=QB h.par hp
 exact ⟨i,hi,e,hq⟩
theorem SY (a:Ah):H3 a a=true:=by
 have key:∀ n k:Nat,a.Edges.length-k<n->EU a a n (k:Int)=true:=by
  intro n
  induction n with
  | zero=>intro k h;omega
  | succ n ih =>
   intro k h
   rw [EU]
   by_cases hc:(k:Int)<(a.Edges.length:Int)
   ·rw [decide_eq_true hc,cond_true]
    have:=ih (k+1) (by omega)
    rw [show ((k+1:Nat):Int)=(k:Int)+1 by omega] at this
    simp only [decide_true,Bool.and_true,Bool.not_true,cond_false]
    exact this
   rw [decide_eq_false hc,cond_false]
 unfold H3
 simp only [decide_true,Bool.not_true,cond_false]
 exact key _ 0 (by omega)
theorem K8 (a:List A0):Ee a a=true:=by
 have key:∀ n k:Nat,a.length-k<n->Dq a a n (k:Int)=true:=by
  intro n
  induction n with
  | zero=>intro k h;omega
  | succ n ih =>
   intro k h
   rw [Dq]
   by_cases hc:(k:Int)<(a.length:Int)
   ·rw [decide_eq_true hc,cond_true]
    have:=ih (k+1) (by omega)
    rw [show ((k+1:Nat):Int)=(k:Int)+1 by omega] at this
    unfold Z0v
    simp only [SY,decide_true,Bool.not_true,cond_false,beq_self_eq_true]
    exact this
   rw [decide_eq_false hc,cond_false]
 unfold Ee
 simp only [decide_true,Bool.not_true,cond_false]
 exact key _ 0 (by omega)
structure Chg (g:AG->AG):Prop where
 id:∀ p,(g p).Id=p.Id
 ref:∀ p,(g p).Ref=p.Ref
 typ:∀ p,(g p).Type'=p.Type'
 und:∀ p,(g p).Under=p.Under
theorem ID {α:Type} [Inhabited α] (g:α->α) {l:List α} {i:Nat} (h:i<l.length):(l.map g).getD i default=g (l.getD i default):=by
 rw [List.getD_eq_getElem?_getD,List.getElem?_map,List.getElem?_eq_getElem h,List.getD_eq_getElem?_getD,List.getElem?_eq_getElem h];rfl
theorem Sl (t:List AP) {g:AG->AG} (hg:Chg g) (p:AG):EZ t (g p)=(EZ t p).map fun x=>(g x.1,x.2):=by
 unfold EZ
 rw [hg.typ,List.map_map]
 rfl
theorem VA {B B2:AH} {T:List AP} {l:List (List Int)} (h:FF B T l) {g:AG->AG} (hg:Chg g) (hB:B2.Parts=B.Parts.map g):Ac B2 T=(Ac B T).map fun x=>(g x.1,x.2):=by
 have e2:CA B2.Parts=B2.Parts:=by
  rw [R0,hB]
  refine ON _ _ fun k hk => ?_
  rw [List.length_map] at hk
  refine YN ?_
  rw [ID g (show k<B.Parts.length by omega),ID g hk,hg.id,hg.id,(h.par k (by omega)).id,(h.par (k+1) hk).id]
  omega
 unfold Ac
 rw [e2,Mx h,hB]
 generalize B.Parts=v
 induction v with
 | nil=>rfl
 | cons p v ih=>rw [List.map_cons,List.flatMap_cons,List.flatMap_cons,List.map_append,ih,Sl T hg]
theorem Xi {B B2:AH} {g:AG->AG} (hg:Chg g) (hl:B2.Layers=B.Layers) (v:List (Ab×ByteArray)) (x:AG×A3):D5 B2 v (g x.1,x.2)=A0.mk (D5 B v x).Id (D5 B v x).Pad (D5 B v x).Kind (D5 B v x).Net (D5 B v x).From (D5 B v x).To (Ch x.2.Shape (Ba (g x.1))):=by
 have hs:Cf B2 (g x.1)=Cf B x.1:=by unfold Cf;rw [hg.und,hl]
 unfold D5
 simp only
 rw [hs,hg.id,hg.ref,hl]
theorem XT {B B2:AH} (hn:B2.Nets=B.Nets):LC B2=LC B:=by unfold LC;rw [hn]
theorem Wx {B B2:AH} {T:List AP} {l:List (List Int)} (h:FF B T l) {g:AG->AG} (hg:Chg g) (hB:B2.Parts=B.Parts.map g) (hl:B2.Layers=B.Layers) (hn:B2.Nets=B.Nets) :
  (Am B2 T).length=(Am B T).length/\∀ j,j<(Am B T).length->∃ x:AG×A3,(x∈Ac B T)/\(Am B T).getD j default=D5 B (LC B) x /\
   ∀ s,Ch x.2.Shape (Ba (g x.1))=s->(((Am B2 T).take (j+1)).drop j)=[A0.mk ((Am B T).getD j default).Id ((Am B T).getD j default).Pad ((Am B T).getD j default).Kind ((Am B T).getD j default).Net ((Am B T).getD j default).From ((Am B T).getD j default).To s]:=by
 have e2:Am B2 T=(Ac B T).map fun x=>D5 B2 (LC B) (g x.1,x.2):=by
  rw [J8,VA h hg hB,XT hn,List.map_map]
  rfl
 have e1:=J8 B T
 have hlen:(Am B2 T).length=(Am B T).length:=by rw [e1,e2,List.length_map,List.length_map]
 refine ⟨hlen,fun j hj => ?_⟩
 have hj2:j<(Ac B T).length:=by rw [e1,List.length_map] at hj;exact hj
 have g1:(Am B T).getD j default=D5 B (LC B) ((Ac B T)[j]):=by
  rw [e1,List.getD_eq_getElem?_getD,List.getElem?_map,List.getElem?_eq_getElem hj2];rfl
 refine ⟨(Ac B T)[j],List.getElem_mem hj2,g1,fun s hs => ?_⟩
 have h2:j<(Am B2 T).length:=by omega
 rw [List.drop_take,Nat.add_sub_cancel_left,NK h2,List.take_succ_cons,List.take_zero,g1]
 have e3:(Am B2 T)[j]? = some (D5 B2 (LC B) (g ((Ac B T)[j]).1,((Ac B T)[j]).2)):=by
  rw [e2,List.getElem?_map,List.getElem?_eq_getElem hj2];rfl
 rw [List.getD_eq_getElem?_getD,e3,Option.getD_some,Xi hg hl,hs]
theorem Zi {α:Type} {f:α->Bool} {g:α->α} (hf:∀ x,f (g x)=f x) (l:List α):ixI f (l.map g)=ixI f l:=by
 unfold ixI
 rw [List.findIdx?_map,show f ∘ g=f from funext hf]
theorem YY {B B2:AH} (T:List AP) {g:AG->AG} (hg:Chg g) (hB:B2.Parts=B.Parts.map g) (hl:B2.Layers=B.Layers) (q:Ab) :
  (FAt B2 T q=(⟨0,0⟩,0,false)/\FAt B T q=(⟨0,0⟩,0,false))\/(∃ a,FAt B T q=(AW (Ba (Z0q B q)) a,Cf B (Z0q B q),true)/\FAt B2 T q=(AW (Ba (g (Z0q B q))) a,Cf B (Z0q B q),true)/\Z0q B q∈B.Parts):=by
 have hx:Cn B2.Parts q=Cn B.Parts q:=by rw [H1,H1,hB];exact Zi (fun x=>by show ((g x).Ref.toList==_)=(x.Ref.toList==_);rw [hg.ref]) _
 by_cases h0:Cn B.Parts q<0
 ·refine .inl ?_
  unfold FAt
  rw [hx,decide_eq_true h0,cond_true,cond_true]
  exact ⟨rfl,rfl⟩
 have hb:0<=Cn B.Parts q/\Cn B.Parts q<(B.Parts.length:Int):=by rw [H1] at h0 ⊢;exact UL h0
 have hi:(Cn B.Parts q).toNat<B.Parts.length:=by omega
 have e1:Z0q B2 q=g (Z0q B q):=by unfold Z0q;rw [hx,hB,ID g hi]
 have e0:Z0p T B2 q=Z0p T B q:=by unfold Z0p;rw [hx,hB,ID g hi,hg.typ]
 have es:Cf B2 (g (Z0q B q))=Cf B (Z0q B q):=by unfold Cf;rw [hg.und,hl]
 have hm:Z0q B q∈B.Parts:=by unfold Z0q;rw [List.getD_eq_getElem?_getD,List.getElem?_eq_getElem hi];exact List.getElem_mem hi
 unfold FAt Z0r
 rw [hx,decide_eq_false h0,cond_false,cond_false,e0,e1,es]
 cases hf:(Eo (Z0p T B q) q.Pad).2 with
 | false=>exact .inl ⟨rfl,rfl⟩
 | true=>exact .inr ⟨_,rfl,rfl,hm⟩
theorem TU (a c d:AF):BE (BE a c) d=BE a (BE c d):=by
 unfold BE
 simp only [AF.mk.injEq,C9]
 omega
structure Cmp (m a c:AY):Prop where
 mi:c.Mirror=a.Mirror
 no:m.Mirror=false
 pt:∀ p,AW m (AW a p)=AW c p
theorem XU {m a c:AY} (h:Cmp m a c) (e:AO):CS (CS e a) m=CS e c:=by
 by_cases h1:e.Kind=1
 ·have k1:∀ m,CS e m=Kw e.A e.B e.C m:=fun m=>by unfold CS;rw [if_pos h1]
  rw [k1,k1]
  show CS (AO.mk 1 _ _ _) m=_
  unfold CS Kw
  simp only [if_true,h.pt]
 by_cases h2:e.Kind=2
 ·have k1:∀ m,CS e m=JS e.A e.B e.C m:=fun m=>by unfold CS;rw [if_neg h1,if_pos h2]
  rw [k1,k1]
  unfold CS JS JR
  simp only [h.no,h.mi]
  cases a.Mirror <;> simp [h.pt]
 by_cases h3:e.Kind=3
 ·have k1:∀ m,CS e m=JR e.A e.B e.C m:=fun m=>by unfold CS;rw [if_neg h1,if_neg h2,if_pos h3]
  rw [k1,k1]
  unfold CS JS JR
  simp only [h.no,h.mi]
  cases a.Mirror <;> simp [h.pt]
 have k1:∀ m,CS e m=H4 e m:=fun m=>by unfold CS;rw [if_neg h1,if_neg h2,if_neg h3]
 have k2:∀ e',e'.Kind=e.Kind->CS e' m=H4 e' m:=fun e' q=>by unfold CS;rw [if_neg (q▸h1),if_neg (q▸h2),if_neg (q▸h3)]
 rw [k1,k1,k2 (H4 e a) rfl]
 unfold H4
 simp [h.pt,h1]
theorem VM {m a c:AY} (h:Cmp m a c) (s:Ah):Ch (Ch s a) m=Ch s c:=by
 rw [Jk,Jk,Jk,List.map_map]
 congr 1
 exact List.map_congr_left fun e _=>XU h e
abbrev kM (l:List (List Int)) (which:Int):Nat:=(Int.tmod (W64 which) ((AA l).1.Parts.length:Int)).toNat
abbrev cM (by_:AF):AF:=⟨Int.tmod by_.X 100,Int.tmod by_.Y 100⟩
abbrev tM (by_:AF):AY:=⟨cM by_,0,false⟩
abbrev pM (l:List (List Int)) (which:Int):AG:=(AA l).1.Parts.getD (kM l which) default
def bM (l:List (List Int)) (which:Int) (by_:AF):AH:=AH.mk (AC (AA l).1).Layers (AC (AA l).1).Outline ((AC (AA l).1).Parts.set (kM l which) (AG.mk ((AC (AA l).1).Parts.getD (kM l which) default).Id ((AC (AA l).1).Parts.getD (kM l which) default).Ref ((AC (AA l).1).Parts.getD (kM l which) default).Type' (BE (pM l which).At (cM by_)) ((AC (AA l).1).Parts.getD (kM l which) default).Turn ((AC (AA l).1).Parts.getD (kM l which) default).Under)) (AC (AA l).1).Nets (AC (AA l).1).Tracks (AC (AA l).1).Vias (AC (AA l).1).Pours (AC (AA l).1).Keeps (AC (AA l).1).Slots (AC (AA l).1).Classes (AC (AA l).1).Rules (AC (AA l).1).Waivers (AC (AA l).1).Matches
def gM (P:AG) (c:AF) (p:AG):AG:=if p.Id=P.Id then ⟨p.Id,p.Ref,p.Type',BE p.At c,p.Turn,p.Under⟩ else p
theorem cU (P:AG) (c:AF):Chg (gM P c):=by
 constructor <;> intro p <;> unfold gM <;> split <;> rfl
theorem Sy (l:List (List Int)) (which:Int) (by_:AF) (n:Nat) (v:Int):BX l which by_ (n+1) v=bif decide (v<((Am (AA l).1 (AA l).2).length:Int)) then
  (bif decide (((Am (AA l).1 (AA l).2).getD v.toNat default).Id=(pM l which).Id) then
   (bif bif !(decide ((FAt (bM l which by_) (AA l).2 ⟨(pM l which).Ref,((Am (AA l).1 (AA l).2).getD v.toNat default).Pad⟩).1.X=(BE (FAt (AA l).1 (AA l).2 ⟨(pM l which).Ref,((Am (AA l).1 (AA l).2).getD v.toNat default).Pad⟩).1 (cM by_)).X)&&(decide ((FAt (bM l which by_) (AA l).2 ⟨(pM l which).Ref,((Am (AA l).1 (AA l).2).getD v.toNat default).Pad⟩).1.Y=(BE (FAt (AA l).1 (AA l).2 ⟨(pM l which).Ref,((Am (AA l).1 (AA l).2).getD v.toNat default).Pad⟩).1 (cM by_)).Y)&&true)) then true else !decide ((FAt (AA l).1 (AA l).2 ⟨(pM l which).Ref,((Am (AA l).1 (AA l).2).getD v.toNat default).Pad⟩).2.1=(FAt (bM l which by_) (AA l).2 ⟨(pM l which).Ref,((Am (AA l).1 (AA l).2).getD v.toNat default).Pad⟩).2.1) then false
   else (bif !(Ee [A0.mk ((Am (AA l).1 (AA l).2).getD v.toNat default).Id ((Am (AA l).1 (AA l).2).getD v.toNat default).Pad ((Am (AA l).1 (AA l).2).getD v.toNat default).Kind ((Am (AA l).1 (AA l).2).getD v.toNat default).Net ((Am (AA l).1 (AA l).2).getD v.toNat default).From ((Am (AA l).1 (AA l).2).getD v.toNat default).To (Ch ((Am (AA l).1 (AA l).2).getD v.toNat default).Shape (tM by_))] (((Am (bM l which by_) (AA l).2).take (W64 (v+1)).toNat).drop v.toNat)) then false else BX l which by_ n (v+1)))
  else (bif !(Ee [(Am (AA l).1 (AA l).2).getD v.toNat default] (((Am (bM l which by_) (AA l).2).take (W64 (v+1)).toNat).drop v.toNat)) then false else BX l which by_ n (v+1)))
  else CF:=by
 rw [BX]
 unfold Z7p Z7q Z7o Z7n Z7m Z7l Z7k Z7j Z7i bM
 rfl
theorem YM (a:AY) (c:AF):Cmp ⟨c,0,false⟩ a ⟨BE a.At c,a.Turn,a.Mirror⟩:=by
 refine ⟨rfl,rfl,fun p => ?_⟩
 rw [IM,IM,IM]
 have h0:∀ q,Z09 q ⟨c,0,false⟩=q:=fun q=>by
  unfold Z09 Bh Bs
  rw [I4]
  rfl
 show BE (Z09 _ ⟨c,0,false⟩) c=_
 rw [h0]
 exact TU _ _ _
theorem bE {v:List AG} (h:Ix Nb v) {k:Nat} (hk:k<v.length) (c:AF):v.set k ⟨(v.getD k default).Id,(v.getD k default).Ref,(v.getD k default).Type',BE (v.getD k default).At c,(v.getD k default).Turn,(v.getD k default).Under⟩=v.map (gM (v.getD k default) c):=by
 refine List.ext_getElem? fun i => ?_
 rw [List.getElem?_map,List.getElem?_set]
 by_cases hi:i<v.length
 ·have e:v[i]? = some (v.getD i default):=by rw [List.getD_eq_getElem?_getD,List.getElem?_eq_getElem hi];rfl
  rw [e,Option.map_some]
  by_cases hik:k=i
  ·subst hik
   rw [if_pos rfl,if_pos hi]
   unfold gM
   rw [if_pos rfl]
  rw [if_neg hik]
  unfold gM
  rw [if_neg]
  rw [(h i hi).id,(h k hk).id]
  omega
 rw [if_neg (by omega),List.getElem?_eq_none (by omega)]
 rfl
theorem RM (l:List (List Int)) (which:Int) (by_:AF) {q:List (List Int)} (h:FF (AA l).1 (AA l).2 q):∀ (n j:Nat),(Am (AA l).1 (AA l).2).length-j<n->BX l which by_ n (j:Int)=true/\(Am (bM l which by_) (AA l).2).length=(Am (AA l).1 (AA l).2).length
 | 0,j,hn=>absurd hn (Nat.not_lt_zero _)
 | n+1,j,hn=>by
  have hcp:=NO (AA l).1
  have h3:=h.parl
  have hk:kM l which<(AA l).1.Parts.length:=by
   have:=Int.tmod_lt_of_pos (W64 which) (show (0:Int)<((AA l).1.Parts.length:Int) by omega)
   show (Int.tmod (W64 which) ((AA l).1.Parts.length:Int)).toNat<_
   omega
  have hB:(bM l which by_).Parts=(AA l).1.Parts.map (gM (pM l which) (cM by_)):=by
   show (AC (AA l).1).Parts.set _ _=_
   rw [hcp.par]
   exact bE h.par hk _
  have hg:=cU (pM l which) (cM by_)
  obtain ⟨hlen,hp⟩:=Wx h hg hB hcp.lay hcp.net
  refine ⟨?_,hlen⟩
  rw [Sy]
  by_cases hc:j<(Am (AA l).1 (AA l).2).length
  ·rw [decide_eq_true (show (j:Int)<((Am (AA l).1 (AA l).2).length:Int) by omega),cond_true,Int.toNat_natCast]
   have hb:((Am (AA l).1 (AA l).2).length:Int)<=20000000:=by rw [Oq];exact LE l
   have ew:(W64 ((j:Int)+1)).toNat=j+1:=by rw [Ap (by omega) (by omega)];omega
   have ih:=(RM l which by_ h n (j+1) (by omega)).1
   rw [show ((j+1:Nat):Int)=(j:Int)+1 by omega] at ih
   rw [ew,ih]
   obtain ⟨x,hx,ex,hs⟩:=hp j hc
   have hsh:((Am (AA l).1 (AA l).2).getD j default).Shape=Ch x.2.Shape (Ba x.1):=by rw [ex];rfl
   have hid:((Am (AA l).1 (AA l).2).getD j default).Id=x.1.Id:=by rw [ex];rfl
   have hpad:((Am (AA l).1 (AA l).2).getD j default).Pad=x.2.Name:=by rw [ex];rfl
   by_cases hi:((Am (AA l).1 (AA l).2).getD j default).Id=(pM l which).Id
   ·rw [decide_eq_true hi,cond_true]
    have hgx:Ba (gM (pM l which) (cM by_) x.1)=⟨BE (Ba x.1).At (cM by_),(Ba x.1).Turn,(Ba x.1).Mirror⟩:=by
     unfold gM
     rw [if_pos (hid▸hi)]
     rfl
    rw [hs (Ch ((Am (AA l).1 (AA l).2).getD j default).Shape (tM by_)) (by rw [hsh,VM (YM (Ba x.1) (cM by_)),hgx]),K8]
    obtain ⟨i2,hi2,e2,hq⟩:=U9 h hx
    have hii:i2=kM l which:=by
     have h1:x.1.Id=((AA l).1.Parts.getD (kM l which) default).Id:=hid▸hi
     rw [<- e2,(h.par i2 hi2).id,(h.par _ hk).id] at h1
     omega
    subst hii
    rw [<- e2] at hq
    have hat:=Zd h hk hq
    rw [hpad]
    rcases YY (AA l).2 hg hB hcp.lay ⟨(pM l which).Ref,x.2.Name⟩ with ⟨_,c2⟩ | ⟨a,c1,c2,c3⟩
    ·rw [hat] at c2
     exact absurd (congrArg (fun z=>z.2.2) c2) (by simp)
    rw [c1,c2]
    have hpl:Z0q (AA l).1 ⟨(pM l which).Ref,x.2.Name⟩=pM l which:=by
     unfold Z0q
     rw [UD h hk,Int.toNat_natCast]
    rw [hpl]
    have hgp:Ba (gM (pM l which) (cM by_) (pM l which))=⟨BE (Ba (pM l which)).At (cM by_),(Ba (pM l which)).Turn,(Ba (pM l which)).Mirror⟩:=by
     unfold gM
     rw [if_pos rfl]
     rfl
    rw [hgp,<- (YM (Ba (pM l which)) (cM by_)).pt a]
    have ht:∀ z,AW (tM by_) z=BE z (cM by_):=fun z=>by
     rw [IM]
     have h0:Z09 z ⟨cM by_,0,false⟩=z:=by
      unfold Z09 Bh Bs
      rw [I4]
      rfl
     show BE (Z09 z ⟨cM by_,0,false⟩) (cM by_)=_
     rw [h0]
    rw [ht]
    simp
   rw [decide_eq_false hi,cond_false]
   have hgx:gM (pM l which) (cM by_) x.1=x.1:=by
    unfold gM
    rw [if_neg (fun e=>hi (hid.trans e))]
   rw [hs ((Am (AA l).1 (AA l).2).getD j default).Shape (by rw [hgx,hsh]),K8]
   rfl
  rw [decide_eq_false (show ¬ (j:Int)<((Am (AA l).1 (AA l).2).length:Int) by omega),cond_false]
  exact Wc
theorem La (l:List (List Int)) (which:Int) (by_:AF):Dr l which by_=true:=by
 obtain ⟨q,h⟩:=Jm l
 obtain ⟨h1,h2⟩:=RM l which by_ h ((((Am (AA l).1 (AA l).2).length:Int)-0).toNat+1) 0 (by omega)
 show (bif decide (((AA l).1.Parts.length:Int)=0) then CF else (bif !decide (((Am (AA l).1 (AA l).2).length:Int)=((Am (bM l which by_) (AA l).2).length:Int)) then false else BX l which by_ ((((Am (AA l).1 (AA l).2).length:Int)-0).toNat+1) 0))=true
 rw [show ((0:Nat):Int)=0 from rfl] at h1
 rw [h2,h1,Wc,decide_eq_true rfl]
 cases decide (((AA l).1.Parts.length:Int)=0) <;> rfl
section
open Go.ChangeShapes Go.WideShapes Go.ChangeAt Go.RowKit
theorem Jc (os:Os) (started:os.Started) (H:Type) (enc:TypeId×Value->H) :
  ReturnsInHanded {} Try.checked os 4 .any (Rows.placeMovesSpec.pre6 enc Try.prog Try.f4 Rows.placeMovesRow.domain false) (Rows.placeMovesSpec.post enc Try.prog Try.f4 false true false false):=by
 refine returnsInHanded_of_change (C:=Try.checked) own started kr Try.func4
  (ChangeSpec.witness6 (enc:=enc) (C:=Try.checked) false ⟨#[],#[.slice none 0 0,.int .u8 0,.agg #[.int .i64 0,.int .i64 0]],[]⟩ 8 kr kr kr kr) ?_
 intro W base args ds gs before hval0 hW hcnd _
 have hval:∀ (j:Nat) t v,Try.f4.params[j]? = some t->args[j]? = some v->Value.okWide Try.prog W .any base t v:=hval0
 have hW':=hW
 obtain ⟨p,q,hA0,hV,rfl,hfz,hnd⟩:=hW
 have hA:DataW.TrodAll enc Try.prog W 0 (fun _=>true) true Try.f4.params.toList args.toList ds p:=hA0
 rw [Try.params4] at hA hval
 obtain ⟨v0,vs0,d0,ds0,p0,q0,hargs,rfl,rfl,h0,r0⟩:=trodAll_cons hA
 obtain ⟨v1,vs1,d1,ds1,p1,q1,rfl,rfl,rfl,h1,r1⟩:=trodAll_cons r0
 obtain ⟨v2,vs2,d2,ds2,p2,q2,rfl,rfl,rfl,h2,r2⟩:=trodAll_cons r1
 obtain ⟨rfl,rfl,rfl⟩:=trodAll_nil r2
 obtain rfl:args = #[v0,v1,v2]:=by cases args;simp_all
 obtain ⟨l,kl,x0⟩:=Q8 opT22 (.inl ⟨_,Try.underlying22⟩) (hval 0 22 v0 rfl rfl) h0
 obtain ⟨which,kwhich,x1⟩:=Q8 (H7 Try.underlying5) (.inr (.inl ⟨_,Try.underlying5⟩)) (hval 1 5 v1 rfl rfl) h1
 obtain ⟨by_,kby_,x2⟩:=W7 opT52 (.inl ⟨_,Try.underlying52⟩) (hval 2 52 v2 rfl rfl) h2
 clear hA0 hval0
 refine (RW (Q3 l which by_ (RP kl.1) (fun x hx=>RP (kl.2 x hx).1) (bounds_u8 kwhich)) (La l which by_) (.cons x0 (.cons x1 (.cons x2 .nil)))).mono fun e W' ⟨he,hb⟩ => ?_
 subst he
 exact ⟨_,rfl,Xa hW' rfl rfl Zg (by rw [Try.params4];exact List.forall_mem_cons.2 ⟨⟨by kernel_rfl,oT (by kernel_rfl)⟩,List.forall_mem_cons.2 ⟨⟨by kernel_rfl,oT (by kernel_rfl)⟩,List.forall_mem_cons.2 ⟨⟨by kernel_rfl,oT (by kernel_rfl)⟩,List.forall_mem_nil _⟩⟩⟩) rfl Try.underlying4 hb⟩
theorem placeMoves_holds:Rows.PlaceMovesSaid :=
 OpenClaim.holds_of_wide 4 Try.f4 rfl rfl rfl rfl rfl rfl rfl ⟨rfl,rfl,rfl,rfl,rfl⟩ rfl rfl rfl rfl rfl kr Try.func4 kr
  (oT (by kernel_rfl)) (by unfold Func.isWrapper;first | (rw [if_pos (by decide +kernel)];kernel_rfl) | (rw [if_neg (by decide +kernel)];exact ⟨rfl,rfl⟩))
  (fun os started H enc _=>Jc os started H enc)
#print axioms placeMoves_holds
end
end Go.Proofs.Ytdbampcfmjbgmaa
