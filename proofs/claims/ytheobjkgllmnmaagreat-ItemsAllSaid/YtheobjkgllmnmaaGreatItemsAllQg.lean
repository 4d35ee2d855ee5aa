/-
  No statement is proved in this text. It holds a part of what the proof of ItemsAll needs.
-/
import Derived.Test.YtheobjkgllmnmaaGreatItemsAllQf
namespace Go.Proofs.YtheobjkgllmnmaaGreat
set_option maxRecDepth 100000
set_option linter.unusedVariables false
set_option linter.unusedSimpArgs false
open Go.RowKit
section
open Go.RowKit
def Cl.only(L:List Nat):Cl->Bool
 |.ptr n _=>A6 L n
 |.own n _ _=>A6 L n
 |.rptr n _ _ _=>A6 L n
 |.osl n _ _ _=>A6 L n
 |.om n=>A6 L n
 |.clo _ k caps=>(List.range k).all fun i=>(caps i).only L
 |_=>true
def Av.only(L:List Nat):Av->Bool
 |.one c=>c.only L
 |.agg l=>l.all (Cl.only L)
def Tv.only(L:List Nat):Tv->Bool
 |.av x=>x.only L
 |.tup l=>l.all (Av.only L)
 |.grd _ x=>x.only L
def Blk.only(L:List Nat):Blk->Bool
 |.cells l _=>l.all (Cl.only L)
 |.rowx _ _ _ _ hs=>hs.all fun p=>p.2.all (Cl.only L)
 |_=>true
theorem Iw{L:List Nat}{n d:Nat}(h:A6 L n=true)(hd:(!Nat.beq n d)=false):A6 L d=true:=by
 have:Nat.beq n d=true:=by cases hb:Nat.beq n d;rw[hb]at hd;cases hd;rfl
 rw[<- lx this];exact h
theorem Kq{L:List Nat}{d:Nat}:∀ {c:Cl},c.only L=true->c.no d=false->A6 L d=true
 |.ptr ..,h,hd=>Iw h hd
 |.own ..,h,hd=>Iw h hd
 |.rptr ..,h,hd=>Iw h hd
 |.osl ..,h,hd=>Iw h hd
 |.om ..,h,hd=>Iw h hd
 |.clo f k caps,h,hd=>by
  simp only[Cl.no]at hd;rw[kw]at hd;obtain⟨i,hi,hn⟩:=hd;simp only[Cl.only,ku]at h;exact Kq (h i hi) (by cases hq:(caps i).no d;rfl;exact absurd hq hn)
 |.val ..,_,hd=>by cases hd
 |.list ..,_,hd=>by cases hd
 |.eptr ..,_,hd=>by cases hd
 |.mp ..,_,hd=>by cases hd
 |.any,_,hd=>by cases hd
theorem Tk{α:Type}{p q:α->Bool}{l:List α}(h:l.all p=true)(hd:l.all q=false):∃x,p x=true/\q x=false:=by
 rw[kw]at hd;obtain⟨x,hx,hn⟩:=hd;exact⟨x,List.all_eq_true.1 h x hx,by cases hq:q x;rfl;exact absurd hq hn⟩
theorem Su{L:List Nat}{d:Nat}:∀ {x:Av},x.only L=true->x.no d=false->A6 L d=true
 |.one _,h,hd=>Kq h hd
 |.agg _,h,hd=>by obtain⟨x,h1,h2⟩:=Tk h hd;exact Kq h1 h2
theorem YN{L:List Nat}{d:Nat}:∀ {x:Tv},x.only L=true->x.no d=false->A6 L d=true
 |.av _,h,hd=>Su h hd
 |.tup _,h,hd=>by obtain⟨x,h1,h2⟩:=Tk h hd;exact Su h1 h2
 |.grd _ _,h,hd=>Su h hd
theorem YO{L:List Nat}{d:Nat}:∀ {x:Blk},x.only L=true->x.no d=false->A6 L d=true
 |.cells _ _,h,hd=>by obtain⟨x,h1,h2⟩:=Tk h hd;exact Kq h1 h2
 |.row ..,_,hd=>by cases hd
 |.omap ..,_,hd=>by cases hd
 |.rowx ..,h,hd=>by obtain⟨x,h1,h2⟩:=Tk h hd;obtain⟨y,h3,h4⟩:=Tk h1 h2;exact Kq h3 h4
def EQ(v:Nat->Value):Nat->List Bool->List Cl->List Cl
 |i,true::m,_::l=>.val (v i)::EQ v (i+1) m l
 |i,false::m,c::l=>c::EQ v (i+1) m l
 |_,_,l=>l
def S5:List Bool->List Cl->List Cl->List Cl
 |true::m,a::l,_::l'=>a::S5 m l l'
 |false::m,_::l,b::l'=>b::S5 m l l'
 |_,_,l'=>l'
def Pq(p:Cl->Bool):List Bool->List Cl->Bool
 |true::m,a::l=>p a&&Pq p m l
 |false::m,_::l=>Pq p m l
 |_,_=>true
section
variable {M M':m5}{σ σ' σ2:Nat→Loc}
theorem Uq(v:Nat->Value):∀(m:List Bool) (i:Nat) (l:List Cl) (c:List Value),(∀j,v (i+j)=c.getD j undef)->L2 (R M σ) l c->L2 (R M σ) (EQ v i m l) c
 |[],i,l,c,_,h=>by unfold EQ;exact h
 |b::m,i,[],c,_,h=>by cases b<;>exact h
 |b::m,i,a::l,c,hv,h=>by
  cases h with
  |cons h1 h2 =>
   rename_i u us;have ht:=Uq v m (i+1) l us (fun j=>by have:=hv (j+1);rw[show i+(j+1)=i+1+j by omega]at this;exact this) h2;cases b with
   |true =>
    have h0:v i=u:=hv 0;exact .cons ⟨h0.symm,by rw[h0];exact MK h1⟩ ht
   |false=>exact .cons h1 ht
theorem cO(v:Nat->Value)(hm:∀c V,R M σ c V->(∀d,c.no d=false->σ2 d=σ d)->R M' σ2 c V){L:List Nat}(hl:∀d,A6 L d=true->σ2 d=σ' d) :
  ∀(m:List Bool) (i:Nat) (l:List Cl) (c:List Value) (l':List Cl) (c':List Value),(∀j,v (i+j)=c.getD j undef)->L2 (R M σ) l c->L2 (R M' σ') (EQ v i m l') c'->l'.length=l.length ->
   (∀d,Pq (fun x=>x.no d) m l=false->σ2 d=σ d)->(∀x∈EQ v i m l',x.only L=true)->L2 (R M' σ2) (S5 m l l') c'
 |[],i,l,c,l',c',_,_,h',_,_,ho=>by
  simp only[S5];simp only[EQ]at h' ho;exact h'.mono fun a ha b hb=>DO (fun _ _ h=>h) (fun d hd=>hl d (Kq (ho a ha) hd)) hb
 |b::m,i,[],c,l',c',_,_,h',hlen,_,ho=>by
  have:l'=[]:=List.eq_nil_of_length_eq_zero (by simpa using hlen);subst this;cases b<;>(simp only[S5];simp only[EQ]at h';cases h';exact .nil)
 |b::m,i,a::l,c,[],c',_,_,h',hlen,_,ho=>by simp at hlen
 |b::m,i,a::l,c,a'::l',c',hv,h,h',hlen,hd,ho=>by
  cases h with
  |cons h1 h2 =>
   rename_i u us;have hv':∀j,v (i+1+j)=us.getD j undef:=fun j=>by have:=hv (j+1);rw[show i+(j+1)=i+1+j by omega]at this;exact this
   have hlen':l'.length=l.length:=by simpa using hlen
   cases b with
   |true =>
    simp only[EQ]at h' ho;simp only[S5];cases h' with
    |cons k1 k2 =>
     rename_i u' us';have e1:u'=v i:=k1.1;have e2:v i=u:=hv 0;subst e1;refine .cons ?_ (cO v hm hl m (i+1) l us l' us' hv' h2 k2 hlen' (fun d hn=>hd d (by simp only[Pq,hn,Bool.and_false])) (fun x hx=>ho x (lh _ hx)));rw[e2];exact hm _ _ h1 fun d hn=>hd d (by simp only[Pq,hn,Bool.false_and])
   |false =>
    simp only[EQ]at h' ho;simp only[S5];cases h' with
    |cons k1 k2 =>
     rename_i u' us';refine .cons ?_ (cO v hm hl m (i+1) l us l' us' hv' h2 k2 hlen' (fun d hn=>hd d hn) (fun x hx=>ho x (lh _ hx)));exact DO (fun _ _ h=>h) (fun d hn=>hl d (Kq (ho _ (li ..)) hn)) k1
end
def LK{α:Type}(ks:List Nat):List (Nat×α)->List (Nat×α)
 |[]=>[]
 |(k,v)::r=>bif A6 ks k then LK ks r else(k,v)::LK ks r
theorem Py{α:Type}(ks:List Nat):∀(l:List (Nat×α)) (n:Nat) (v:α),get (LK ks l) n=some v->get l n=some v/\A6 ks n=false
 |[],n,v,h=>by cases h
 |(k,u)::r,n,v,h=>by
  simp only[LK]at h;cases hk:A6 ks k with
  |true =>
   rw[hk]at h;simp only[mi]at h;obtain⟨h1,h2⟩:=Py ks r n v h;refine⟨?_,h2⟩;simp only[get,Cb]
   by_cases e:k=n
   ·subst e;rw[hk]at h2;cases h2
   simp[e,h1]
  |false =>
   rw[hk]at h;simp only[mj,get,Cb]at h
   by_cases e:k=n
   ·subst e;simp at h;subst h;refine⟨by simp[get,Nat.beq_refl],hk⟩
   simp[e]at h;obtain⟨h1,h2⟩:=Py ks r n v h;refine⟨?_,h2⟩;simp only[get,Cb];simp[e,h1]
theorem XF{α:Type}(l m:List (Nat×α))(n:Nat):get (l++m) n=match get l n with|some v=>some v|none=>get m n:=by
 induction l with
 |nil=>rfl
 |cons p r ih =>
  obtain⟨k,v⟩:=p;simp only[List.cons_append,get,Cb]
  by_cases h:k=n
  ·simp[h]
  simp only[h,mm,mj,ih]
def Iy{α:Type}:List (Nat×α)->List Nat
 |[]=>[]
 |(k,_)::r=>k::Iy r
theorem TK{α:Type}:∀ {l:List (Nat×α)} {n:Nat} {v:α},get l n=some v->A6 (Iy l) n=true
 |(k,u)::r,n,v,h=>by
  simp only[get,Cb]at h;simp only[Iy,A6,Cb]
  by_cases e:k=n
  ·simp[e]
  simp only[e,mm,mj]at h ⊢;exact TK h
def je(q:Nat)(K1:List Nat)(m:List Bool)(s:AS)(l:List Cl)(tE:List (Nat×Tv))(lE:List Cl)(hE:List (Nat×Blk)):Bool :=
 let L:=q::Iy hE
 let F:=LK (q::K1) s.h
 Nat.beq lE.length l.length && !A6 L 299999&&F.all (fun p=>!A6 L p.1&&L.all fun d=>p.2.no d)&&(L.all fun d=>Pq (fun x=>x.no d) m l) &&
  tE.all (fun p=>p.2.only L)&&(EQ (fun _=>undef) 0 m lE).all (Cl.only L)&&hE.all (fun p=>p.2.only L)
theorem Px{L:List Nat}(v v':Nat->Value):∀(m:List Bool) (i:Nat) (l:List Cl),(EQ v i m l).all (Cl.only L)=true->(EQ v' i m l).all (Cl.only L)=true
 |[],i,l,h=>h
 |b::m,i,[],h=>by cases b<;>exact h
 |b::m,i,a::l,h=>by
  cases b<;>simp only[EQ,List.all_cons,me]at h ⊢
  ·exact⟨h.1,Px v v' m _ l h.2⟩
  exact⟨rfl,Px v v' m _ l h.2⟩
section
variable {P:Program}{rd:Option Nat}{N:Nat}{W0:World}{X:m6}{M0:m5}{Q:Exit→AS→Prop}{s:AS}
set_option maxHeartbeats 1000000 in
theorem wM{c:Code}{ι:Type}(q:Nat)(l:List Cl)(ty:TypeId)(m:List Bool)(T1 K1:List Nat)(hX:DJ X W0 [])(hF:Tu X)(I:ι->Prop)(tE:ι->List (Nat×Tv))(lE:ι->List Cl)(hE:ι->List (Nat×Blk))
 (hq:get s.h q=some (.cells l ty))(hN:(q::K1).all (fun n=>Nat.ble N n)=true)(hN2:Nat.ble N 299999=true)(hno:noD 299999 s=true)(hK:A6 (q::K1) 299999=false)(hchk:∀x,je q K1 m s l (tE x) (lE x) (hE x)=true)
 (core:∀(W1:World) (M1:m5) (X1:m6) (v:Nat->Value),DJ X1 W1 (q::K1)->Tu X1->AWp P rd N W1 X1 M1 c (fun e s'=>e=.normal/\∃x,I x/\s'=⟨tE x,(q,.cells (EQ v 0 m (lE x)) ty)::hE x⟩) ⟨Fz s.t T1,(q,.cells (EQ v 0 m l) ty)::Fz s.h K1⟩)
 (hQ:∀x,I x->Q .normal ⟨tE x,(q,.cells (S5 m l (lE x)) ty)::(hE x++LK (q::K1) s.h)⟩):AWp P rd N W0 X M0 c Q s:=by
 intro M σ a w hs;obtain⟨hqn,cq,hcq,hlq⟩:=hs.blk q _ hq;obtain⟨v,hv⟩:∃v:Nat->Value,∀j,v (0+j)=cq.getD j undef:=⟨fun j=>cq.getD j undef,fun j=>by rw[mw]⟩;obtain⟨X1,hX1⟩:∃X1:m6,X1=fun n=>bif A6 (q::K1) n&&(get s.h n).isSome && !(σ n).nil then some (σ n)else bif Nat.beq n 299999 then some ⟨w.heap.size,424242,true⟩else none:=⟨_,rfl⟩;obtain⟨σ1,hσ1⟩:∃σ1,σ1=upd σ 299999 ⟨w.heap.size,424242,true⟩:=⟨_,rfl⟩;have hg9:get s.h 299999=none:=gE hno;have hs1:∀n,n≠299999->σ1 n=σ n:=fun n hn=>by rw[hσ1];exact CW _ _ hn
 have hk9:∀n b,get s.h n=some b->n≠299999:=fun n b h e=>by rw[e,hg9]at h;cases h
 have pins:∀n x,X1 n=some x->(A6 (q::K1) n=true/\(get s.h n).isSome=true/\(σ n).nil=false/\x=σ n)\/(n=299999/\x=⟨w.heap.size,424242,true⟩):=fun n x h=>by
  rw[hX1]at h;simp only at h;cases hb:(A6 (q::K1) n&&(get s.h n).isSome && !(σ n).nil)with
  |true =>
   rw[hb]at h;simp only[mi,l7]at h;simp only[me,Bool.not_eq_true']at hb;exact .inl ⟨hb.1.1,hb.1.2,hb.2,h.symm⟩
  |false =>
   rw[hb]at h;simp only[mj]at h;cases h9:Nat.beq n 299999 with
   |false=>rw[h9]at h;cases h
   |true=>rw[h9]at h;simp only[mi,l7]at h;exact .inr ⟨lx h9,h.symm⟩
 have hflat:Tu X1:=⟨299999,⟨w.heap.size,424242,true⟩,by rw[hX1];simp only[hK,Bool.false_and,mj,Nat.beq_refl,mi],rfl,rfl⟩;have hpins:DJ X1 w (q::K1):=fun n x h=>by
  rcases pins n x h with ⟨h1,_⟩|⟨h1,h2⟩
  ·exact .inl h1
  exact .inr ⟨h1,by rw[h2];exact lu _⟩
 have hpinned:∀n,A6 (q::K1) n=true->(get s.h n).isSome=true->(σ n).nil=false->X1 n=some (σ n):=fun n h1 h2 h3=>by rw[hX1];simp only[h1,h2,h3,md,Bool.and_true,mi]
 have hdef:a.defers=[]:=hs.defers.2 hF;have hC:∀n b,get ((q,Blk.cells (EQ v 0 m l) ty)::Fz s.h K1) n=some b->A6 (q::K1) n=true/\∃b0,get s.h n=some b0/\((n=q/\b=.cells (EQ v 0 m l) ty)\/(n≠q/\b=b0)):=fun n b h=>by
  simp only[get,Cb]at h
  by_cases e:q=n
  ·simp only[e,ml,mi,l7]at h;refine⟨by rw[<- e];simp[A6,Nat.beq_refl],_,by rw[<- e];exact hq,.inl ⟨e.symm,h.symm⟩⟩
  simp only[e,mm,mj]at h;refine⟨?_,b,HP _ _ _ _ h,.inr ⟨fun h'=>e h'.symm,rfl⟩⟩;have:∀(ks:List Nat),get (Fz s.h ks) n=some b->A6 ks n=true:=by
   intro ks;induction ks with
   |nil=>intro h;cases h
   |cons k ks ih =>
    intro h;simp only[Fz]at h;simp only[A6,Cb]
    by_cases ek:k=n
    ·simp[ek]
    simp only[ek,mm,mj];split at h
    ·simp only[get,Cb,ek,mm,mj]at h;exact ih h
    exact ih h
  simp only[A6,Cb,e,mm,mj];exact this K1 h
 have hsim:Sim N w X1 M M σ1 (get (Fz s.t T1)) (get ((q,Blk.cells (EQ v 0 m l) ty)::Fz s.h K1)) a w:=by
  have hR:∀(c:Cl) (V:Value),c.no 299999=true->R M σ c V->R M σ1 c V:=fun c V hc h=>DO (fun _ _ h=>h) (fun d hd=>hs1 d (fun e=>by rw[e,hc]at hd;cases hd)) h;refine⟨rfl,rfl,rfl,lu _,fun _ _ _=>rfl,fun _ _ h=>h,fun _ _ h h'=>by(rw[h]at h';cases h'),fun n x h=>?_,by rw[hdef];exact KM.nil,hs.room,fun i t ht=>?_,hs.imm,fun n b h=>?_,fun n b h=>?_,fun n n' b b' h h' hne=>?_⟩
  ·rcases pins n x h with ⟨h1,h2,h3,rfl⟩|⟨rfl,rfl⟩
   ·obtain⟨b0,hb0⟩:=Option.isSome_iff_exists.1 h2;exact⟨mr (List.all_eq_true.1 hN n (Ma h1)),hs1 n (hk9 n b0 hb0)⟩
   exact⟨mr hN2,by rw[hσ1];exact BH _ _ _⟩
  ·have h0:=HP _ _ _ _ ht;exact D6 (fun _ _ h=>h) (fun d hd=>hs1 d (fun e=>by rw[e,gC hno h0]at hd;cases hd)) (hs.tmps i t h0)
  ·obtain⟨_,b0,hb0,⟨rfl,rfl⟩|⟨hne,rfl⟩⟩:=hC n b h
   ·rw[hs1 _ (hk9 _ _ hb0)];have hnl:∀c∈l,c.no 299999=true:=fun c hc=>(List.all_eq_true.1 (Yd hno hq)) c hc;exact⟨hqn,cq,hcq,Uq v m 0 l cq hv (hlq.mono fun c hc V hV=>hR c V (hnl c hc) hV)⟩
   rw[hs1 _ (hk9 _ _ hb0)];exact Bl.mono (fun _ _ h=>h) (fun d hd=>hs1 d (fun e=>by rw[e,Yd hno hb0]at hd;cases hd)) (fun _=>rfl) (hs.blk n _ hb0)
  ·obtain⟨h1,b0,hb0,_⟩:=hC n b h;rw[hs1 _ (hk9 _ _ hb0)];cases hnil:(σ n).nil with
   |true=>exact .inl rfl
   |false =>
    rcases hs.loc n b0 hb0 with h2|⟨h2,_⟩
    ·rw[hnil]at h2;cases h2
    exact .inr ⟨h2,.inr ⟨n,σ n,hpinned n h1 (by rw[hb0];rfl) hnil,rfl⟩⟩
  obtain⟨_,b0,hb0,_⟩:=hC n b h;obtain⟨_,b1,hb1,_⟩:=hC n' b' h';rw[hs1 _ (hk9 _ _ hb0),hs1 _ (hk9 _ _ hb1)];exact hs.inj n n' b0 b1 hb0 hb1 hne
 refine wpIn_mono (core w M X1 v hpins hflat M σ1 a w hsim) ?_;rintro e a' w' ⟨s',M',σ',⟨rfl,x,hI,rfl⟩,hs'⟩;have hok:=hchk x;unfold je at hok;simp only[me,Bool.not_eq_true']at hok;obtain⟨⟨⟨⟨⟨⟨ok1,ok2⟩,ok3⟩,ok4⟩,ok5⟩,ok6⟩,ok7⟩:=hok;obtain⟨L,hL⟩:∃L,L=q::Iy (hE x):=⟨_,rfl⟩;rw[<- hL]at ok2 ok3 ok4 ok5 ok6 ok7;have hlen:(lE x).length=l.length:=lx ok1;obtain⟨σ2,hσ2⟩:∃σ2:Nat->Loc,σ2=fun n=>bif A6 L n then σ' n else σ n:=⟨_,rfl⟩;have hin:∀n,A6 L n=true->σ2 n=σ' n:=fun n h=>by rw[hσ2];simp only[h,mi]
 have hout:∀n,A6 L n=false->σ2 n=σ n:=fun n h=>by rw[hσ2];simp only[h,mj]
 have hMM:∀b o,M b=some o->M' b=some o:=hs'.sub
 -- where the small state's blocks lie
 have hX1in:∀b,inX X1 b->(∃k b0,A6 (q::K1) k=true/\get s.h k=some b0/\(σ k).nil=false/\(σ k).b=b)\/b=w.heap.size:=fun b ⟨n,y,h1,h2⟩=>by
  rcases pins n y h1 with ⟨h3,h4,h5,rfl⟩|⟨_,rfl⟩
  ·obtain⟨b0,hb0⟩:=Option.isSome_iff_exists.1 h4;exact .inl ⟨n,b0,h3,hb0,h5,h2⟩
  exact .inr h2.symm
 have hnew0:∀k b0,get s.h k=some b0->(σ k).nil=false->W0.heap.size<=(σ k).b:=fun k b0 hk hnil=>by
  rcases hs.loc k b0 hk with h1|⟨_,h1|⟨n,y,h1,h2⟩⟩
  ·rw[hnil]at h1;cases h1
  ·exact h1
  rcases hX n y h1 with h3|⟨_,h3⟩
  ·cases h3
  rw[<- h2];exact h3
 have hE0:∀n b,get ((q,Blk.cells (EQ v 0 m (lE x)) ty)::hE x) n=some b->A6 L n=true:=fun n b h=>by
  rw[hL];have:=TK h;exact this
 have hloc':∀n b,get ((q,Blk.cells (EQ v 0 m (lE x)) ty)::hE x) n=some b->(σ' n).nil=true\/(M' (σ' n).b=none/\(w.heap.size<=(σ' n).b\/∃k b0,A6 (q::K1) k=true/\get s.h k=some b0/\(σ k).nil=false/\(σ k).b=(σ' n).b)):=fun n b h=>by
  rcases hs'.loc n b h with h1|⟨h1,h2|h2⟩
  ·exact .inl h1
  ·exact .inr ⟨h1,.inl h2⟩
  rcases hX1in _ h2 with h3|h3
  ·exact .inr ⟨h1,.inr h3⟩
  exact .inr ⟨h1,.inl (by rw[h3];exact lu _)⟩
 have hFr:∀n b,get (LK (q::K1) s.h) n=some b->get s.h n=some b/\A6 (q::K1) n=false/\A6 L n=false/\∀d,A6 L d=true->b.no d=true:=fun n b h=>by
  obtain⟨h1,h2⟩:=Py _ _ _ _ h;have h3:=List.all_eq_true.1 ok3 _ (DH h);simp only[me,Bool.not_eq_true']at h3;exact⟨h1,h2,h3.1,fun d hd=>List.all_eq_true.1 h3.2 d (Ma hd)⟩
 have hFrlt:∀n b,get (LK (q::K1) s.h) n=some b->(σ n).nil=false->(σ n).b<w.heap.size/\¬ inX X1 (σ n).b:=fun n b h hnil=>by
  obtain⟨h1,h2,_⟩:=hFr n b h;have hlt:=(hs.blk n b h1).lt hnil;refine⟨hlt,fun hi=>?_⟩;rcases hX1in _ hi with ⟨k,b0,h3,h4,h5,h6⟩|h3
  ·have hne:n≠k:=fun e=>by rw[e,h3]at h2;cases h2
   rcases hs.inj n k b b0 h1 h4 hne with h7|h7|h7
   ·rw[hnil]at h7;cases h7
   ·rw[h5]at h7;cases h7
   exact h7 h6.symm
  omega
 have hG:∀n b,get ((q,Blk.cells (S5 m l (lE x)) ty)::(hE x++LK (q::K1) s.h)) n=some b->(A6 L n=true/\((n=q/\b=.cells (S5 m l (lE x)) ty)\/(n≠q/\get (hE x) n=some b))/\∃b',get ((q,Blk.cells (EQ v 0 m (lE x)) ty)::hE x) n=some b')\/get (LK (q::K1) s.h) n=some b:=fun n b h=>by
  simp only[get,Cb]at h
  by_cases e:q=n
  ·simp only[e,ml,mi,l7]at h;subst e;refine .inl ⟨by rw[hL];simp[A6,Nat.beq_refl],.inl ⟨rfl,h.symm⟩,Blk.cells (EQ v 0 m (lE x)) ty,?_⟩;simp only[get,Nat.beq_refl,mi]
  simp only[e,mm,mj]at h;rw[XF]at h;cases hg:get (hE x) n with
  |none=>rw[hg]at h;exact .inr h
  |some b2 =>
   rw[hg]at h;simp only[l7]at h;subst h;have hg2:get ((q,Blk.cells (EQ v 0 m (lE x)) ty)::hE x) n=some b2:=by simp only[get,Cb,e,mm,mj];exact hg
   exact .inl ⟨hE0 n b2 hg2,.inr ⟨fun h'=>e h'.symm,rfl⟩,b2,hg2⟩
 have hqL:A6 L q=true:=by rw[hL];simp[A6,Nat.beq_refl]
 refine⟨_,M',σ2,hQ x hI,hs'.os.trans hs.os,hs'.tape.trans hs.tape,hs'.output.trans hs.output,ln hs.size hs'.size,fun b hb hnb=>?_,fun b o h=>hMM b o (hs.sub b o h),fun b o h1 h2=>?_,fun n y h=>?_,?_,hs'.room,fun i t ht=>?_,hs'.imm,fun n b h=>?_,fun n b h=>?_,fun n n' b b' h h' hne=>?_⟩
 ·refine(hs'.old b (lp hb hs.size) fun hi=>?_).trans (hs.old b hb hnb);rcases hX1in _ hi with ⟨k,b0,_,h4,h5,h6⟩|h3
  ·have:=hnew0 k b0 h4 h5;omega
  have:=hs.size;omega
 ·cases hM:M b with
  |none=>exact ln hs.size (hs'.new b o h1 hM)
  |some o'=>exact hs.new b o' hM h2
 ·obtain⟨h1,h2⟩:=hs.pin n y h;refine⟨h1,?_⟩;rcases hX n y h with h3|⟨rfl,_⟩
  ·cases h3
  rw[hout _ ok2];exact h2
 ·have:a'.defers=[]:=hs'.defers.2 hflat;rw[this];exact KM.nil
 ·have h1:=List.all_eq_true.1 ok5 _ (DH ht);exact D6 (fun _ _ h=>h) (fun d hd=>hin d (YN h1 hd)) (hs'.tmps i t ht)
 ·rcases hG n b h with ⟨hn,hb,b',hb'⟩|hfr
  ·rw[hin n hn];rcases hb with ⟨rfl,rfl⟩|⟨hne,hb⟩
   ·have hq':=hs'.blk n (.cells (EQ v 0 m (lE x)) ty) (by simp only[get,Nat.beq_refl,mi]);obtain⟨hn1,c',hc',hl'⟩:=hq';refine⟨hn1,c',hc',?_⟩;have honly:=List.all_eq_true.1 (Px (fun _=>undef) v m 0 (lE x) ok6);refine cO v (σ2:=σ2) (fun c V h1 h2=>DO hMM h2 h1) hin m 0 l cq (lE x) c' hv hlq hl' hlen (fun d hd=>?_) honly;refine hout d ?_;cases hdL:A6 L d with
    |false=>rfl
    |true=>rw[List.all_eq_true.1 ok4 d (Ma hdL)]at hd;cases hd
   have hb2:get ((q,Blk.cells (EQ v 0 m (lE x)) ty)::hE x) n=some b:=by simp only[get,Cb,Ne.symm hne,mm,mj];exact hb
   have h1:=List.all_eq_true.1 ok7 _ (DH hb);exact Bl.mono (fun _ _ h=>h) (fun d hd=>hin d (YO h1 hd)) (fun _=>rfl) (hs'.blk n b hb2)
  obtain⟨h1,h2,h3,h4⟩:=hFr n b hfr;rw[hout n h3];refine Bl.mono hMM (fun d hd=>hout d ?_) (fun hnil=>?_) (hs.blk n b h1)
  ·cases hdL:A6 L d with
   |false=>rfl
   |true=>rw[h4 d hdL]at hd;cases hd
  obtain⟨h5,h6⟩:=hFrlt n b hfr hnil;exact hs'.old _ h5 h6
 ·rcases hG n b h with ⟨hn,_,b',hb'⟩|hfr
  ·rw[hin n hn];rcases hloc' n b' hb' with h1|⟨h1,h2|⟨k,b0,_,h4,h5,h6⟩⟩
   ·exact .inl h1
   ·exact .inr ⟨h1,.inl (ln hs.size h2)⟩
   exact .inr ⟨h1,.inl (by rw[<- h6];exact hnew0 k b0 h4 h5)⟩
  obtain⟨h1,h2,h3,_⟩:=hFr n b hfr;rw[hout n h3];cases hnil:(σ n).nil with
  |true=>exact .inl rfl
  |false =>
   have h4:=hFrlt n b hfr hnil;refine .inr ⟨?_,.inl (hnew0 n b h1 hnil)⟩;cases hM':M' (σ n).b with
   |none=>rfl
   |some o =>
    have hM:M (σ n).b=none:=by
     rcases hs.loc n b h1 with h5|⟨h5,_⟩
     ·rw[hnil]at h5;cases h5
     exact h5
    have:=hs'.new _ o hM' hM;omega
 have NA:∀(n n':Nat) (b':Blk),(A6 L n=true/\∃b2,get ((q,Blk.cells (EQ v 0 m (lE x)) ty)::hE x) n=some b2)->get (LK (q::K1) s.h) n'=some b'->(σ2 n).nil=true\/(σ2 n').nil=true\/(σ2 n).b≠(σ2 n').b:=fun n n' b' ⟨hn,b2,hb2⟩ hfr=>by
  obtain⟨h1,h2,h3,_⟩:=hFr n' b' hfr;rw[hin n hn,hout n' h3];cases hnil:(σ n').nil with
  |true=>exact .inr (.inl rfl)
  |false =>
   obtain⟨h4,h5⟩:=hFrlt n' b' hfr hnil;rcases hloc' n b2 hb2 with h6|⟨_,h6|⟨k,b0,h7,h8,h9,h10⟩⟩
   ·exact .inl h6
   ·exact .inr (.inr mz)
   refine .inr (.inr ?_);have hne:n'≠k:=fun e=>by rw[e,h7]at h2;cases h2
   rcases hs.inj n' k b' b0 h1 h8 hne with h11|h11|h11
   ·rw[hnil]at h11;cases h11
   ·rw[h9]at h11;cases h11
   rw[<- h10];exact fun e=>h11 e.symm
 rcases hG n b h with ⟨hn,_,b2,hb2⟩|hfr
 ·rcases hG n' b' h' with ⟨hn',_,b3,hb3⟩|hfr'
  ·rw[hin n hn,hin n' hn'];exact hs'.inj n n' b2 b3 hb2 hb3 hne
  exact NA n n' b' ⟨hn,b2,hb2⟩ hfr'
 rcases hG n' b' h' with ⟨hn',_,b3,hb3⟩|hfr'
 ·rcases NA n' n b ⟨hn',b3,hb3⟩ hfr with h1|h1|h1
  ·exact .inr (.inl h1)
  ·exact .inl h1
  exact .inr (.inr (Ne.symm h1))
 obtain⟨h1,_,h3,_⟩:=hFr n b hfr;obtain⟨h4,_,h6,_⟩:=hFr n' b' hfr';rw[hout n h3,hout n' h6];exact hs.inj n n' b b' h1 h4 hne
end
end
section
open Go.RowKit
def mkX(w:World):m6:=fun n=>bif Nat.beq n 299999 then some ⟨w.heap.size,424242,true⟩else none
theorem S4{w:World}{n:Nat}{x:Loc}(h:mkX w n=some x):n=299999/\x=⟨w.heap.size,424242,true⟩:=by
 unfold mkX at h;cases h9:Nat.beq n 299999 with
 |false=>rw[h9]at h;cases h
 |true=>rw[h9]at h;simp only[mi,l7]at h;exact⟨lx h9,h.symm⟩
theorem tA(w:World):Tu (mkX w):=⟨299999,⟨w.heap.size,424242,true⟩,by simp only[mkX,Nat.beq_refl,mi],rfl,rfl⟩
theorem sY(w:World):DJ (mkX w) w []:=fun n x h=>by
 obtain⟨h1,rfl⟩:=S4 h;exact .inr ⟨h1,lu _⟩
theorem sZ{w:World}{b:Nat}(h:inX (mkX w) b):b=w.heap.size:=by
 obtain⟨n,x,h1,h2⟩:=h;obtain⟨_,rfl⟩:=S4 h1;exact h2.symm
section
variable {P:Program}
def Frs(P:Program)(f:FuncId)(xs:List Av){ι:Type}(I:ι->Prop)(V:ι->Tv)(hE:ι->List (Nat×Blk)):Prop:=∀(M:m5) (σ:Nat->Loc) (w:World) (args:List Value),(∀b o,M b=some o->w.heap[b]? = some o)->L2 (RA M σ) xs args ->
 Calls P f args.toArray w fun en w'=>∃U,en=.returned U/\∃(x:ι) (M':m5) (σ':Nat->Loc),I x/\Gk w w' M M' M7/\(∀n b,get (hE x) n=some b->Bl M' σ' w' (σ' n) b/\((σ' n).nil=true\/(w.heap.size<=(σ' n).b/\M' (σ' n).b=none))) /\
  (∀n m b c,get (hE x) n=some b->get (hE x) m=some c->n≠m->(σ' n).nil=true\/(σ' m).nil=true\/(σ' n).b≠(σ' m).b)/\RT M' σ' (V x) U
theorem Mm{f:FuncId}{fn:Func}{c:Code}(hf:P.funcs[f]? = some fn)(hb:fn.body=some c){xs:List Av}{ι:Type}{I:ι->Prop}{V:ι->Tv}{hE:ι->List (Nat×Blk)}(hN:Nat.ble xs.length fn.ntmps=true)(hN2:Nat.ble fn.ntmps 299999=true)(hdv:xs.all Av.dv=true)
 (h:∀(W0:World) (M0:m5) (X:m6),DJ X W0 []->Tu X->AWp P none fn.ntmps W0 X M0 c (My P fn.ntmps W0 X M0 fn fun r' s'=>∃x,I x/\TvE r' (V x)/\∀n b,get (hE x) n=some b->∃b',get s'.h n=some b'/\Ic b' b) ⟨FP 0 xs,[]⟩):Frs P f xs I V hE:=by
 intro M σ w args himm hargs;have hargs':L2 (RA M (upd σ 299999 ⟨w.heap.size,424242,true⟩)) xs args:=hargs.mono fun x hx u hu=>IL (r:=.av x) (List.all_eq_true.1 hdv x hx) hu;refine Ew (X:=mkX w) (σ:=upd σ 299999 ⟨w.heap.size,424242,true⟩) (h0:=[]) hf hb (mr hN) himm hargs' (fun n b h=>by cases h) (fun n b h=>by cases h) (fun n x h=>?_) (fun n m b c h=>by cases h) (EG (h w M (mkX w) (sY w) (tA w))) ?_
 ·obtain⟨rfl,rfl⟩:=S4 h;exact⟨mr hN2,BH _ _ _⟩
 rintro r' s' M' σ' a' w' U ⟨x,hI,he,hbs⟩ hs hR;have hnew:∀b,b<w.heap.size->¬ inX (mkX w) b:=fun b hb hi=>by have:=sZ hi;omega
 refine⟨U,rfl,x,M',σ',hI,⟨hs.os,hs.tape,hs.output,hs.size,fun b hb _=>hs.old b hb (hnew b hb),hs.sub,hs.new,hs.imm⟩,fun n b hn=>?_,fun n m b c hn hm hne=>?_,ML he hR⟩
 ·obtain⟨b',hb',hbe⟩:=hbs n b hn;refine⟨JR hbe (hs.blk n _ hb'),?_⟩;rcases hs.loc n _ hb' with h1|⟨h1,h2|h2⟩
  ·exact .inl h1
  ·exact .inr ⟨h2,h1⟩
  exact .inr ⟨by rw[sZ h2];exact lu _,h1⟩
 obtain⟨b',hb',_⟩:=hbs n b hn;obtain⟨c',hc',_⟩:=hbs m c hm;exact hs.inj n m b' c' hb' hc' hne
def jk(N:Nat)(K:List Nat)(d:Nat)(V:Tv)(hE:List (Nat×Blk))(s:AS):Bool :=
 Nat.ble (d+1) N&&(Iy hE).all (fun k=>LR K k&&noD k s)&&V.only (Iy hE)&&hE.all fun p=>p.2.only (Iy hE)
def xP(d:Nat)(V:Tv)(hE:List (Nat×Blk))(s:AS):AS:=⟨put s.t d V,hE++s.h⟩
variable {rd:Option Nat}{N:Nat}{W0:World}{X:m6}{M0 M M':m5}{σ σ':Nat→Loc}{w w':World}{a:Act}{Q:Exit→AS→Prop}{s:AS}
theorem jE{K:List Nat}{d:Nat}{V:Tv}{hE:List (Nat×Blk)}{U:Value}(hX:DJ X W0 K)(hok:jk N K d V hE s=true)(hs:Sim N W0 X M0 M σ (get s.t) (get s.h) a w)(hk:Gk w w' M M' M7)
 (hb:∀n b,get hE n=some b->Bl M' σ' w' (σ' n) b/\((σ' n).nil=true\/(w.heap.size<=(σ' n).b/\M' (σ' n).b=none)))
 (hi:∀n m b c,get hE n=some b->get hE m=some c->n≠m->(σ' n).nil=true\/(σ' m).nil=true\/(σ' n).b≠(σ' m).b)(hR:RT M' σ' V U) :
  Sim N W0 X M0 M' (fun n=>bif A6 (Iy hE) n then σ' n else σ n) (get (xP d V hE s).t) (get (xP d V hE s).h) (a.put (some d) U) w':=by
 unfold jk at hok;simp only[me]at hok;obtain⟨⟨⟨hdN,hks⟩,hV⟩,hEo⟩:=hok;have hdN:=mr hdN;have hkeys:∀n b,get hE n=some b->A6 (Iy hE) n=true:=fun n b h=>TK h;generalize Iy hE=L at *;obtain⟨σ2,hσ2⟩:∃σ2:Nat->Loc,σ2=fun n=>bif A6 L n then σ' n else σ n:=⟨_,rfl⟩;rw[<- hσ2];have hin:∀n,A6 L n=true->σ2 n=σ' n:=fun n h=>by rw[hσ2];simp only[h,mi]
 have hout:∀n,A6 L n=false->σ2 n=σ n:=fun n h=>by rw[hσ2];simp only[h,mj]
 have hk1:∀n,A6 L n=true->LR K n=true/\noD n s=true:=fun n h=>by
  have:=List.all_eq_true.1 hks n (Ma h);simpa only [me]using this
 have hno:∀n,A6 L n=true->get s.h n=none:=fun n h=>gE (hk1 n h).2;have hold:∀(x:Nat),(A6 L x=true->False)->σ2 x=σ x:=fun x h=>hout x (by cases hm:A6 L x;rfl;exact(h hm).elim);have hG:∀n b,get (xP d V hE s).h n=some b->(A6 L n=true/\get hE n=some b)\/(A6 L n=false/\get s.h n=some b):=fun n b h=>by
  have h:get (hE++s.h) n=some b:=h;rw[XF]at h;cases hg:get hE n with
  |some b2=>rw[hg]at h;simp only at h;exact .inl ⟨hkeys n b2 hg,h⟩
  |none =>
   rw[hg]at h;simp only at h;cases hm:A6 L n with
   |true=>rw[hno n hm]at h;cases h
   |false=>exact .inr ⟨rfl,h⟩
 have hMn:∀b,b<w.heap.size->M b=none->M' b=none:=fun b hb h0=>by
  cases h1:M' b with
  |none=>rfl
  |some o=>have:=hk.new b o h1 h0;omega
 refine⟨hk.os.trans hs.os,hk.tape.trans hs.tape,hk.output.trans hs.output,ln hs.size hk.size,fun b hb hnx=>(hk.old b (lp hb hs.size) (fun h=>h)).trans (hs.old b hb hnx),fun b o h=>hk.sub b o (hs.sub b o h),fun b o h h0=>?_,fun n u hu=>⟨(hs.pin n u hu).1,?_⟩,hs.defers.mono hk.sub,by simpa [Act.put]using hs.room,fun i v hv=>?_,hk.imm,fun n b hn=>?_,fun n b hn=>?_,fun n m b c hn hm hne=>?_⟩
 ·cases h1:M b with
  |some o'=>exact hs.new b o' h1 h0
  |none=>exact ln hs.size (hk.new b o h h1)
 ·rw[hold n fun h=>Ws hX (hk1 n h).1 hu rfl];exact(hs.pin n u hu).2
 ·have hv:get (put s.t d V) i=some v:=hv;rw[JK]at hv;have hput:(a.put (some d) U).tmps.getD i undef=if d=i then U else a.tmps.getD i undef:=I0 hs.room mz U i
  rw[hput]
  by_cases hdi:d=i
  ·rw[if_pos hdi]at hv ⊢;simp only[l7]at hv;subst hv;exact D6 (fun _ _ h=>h) (fun k hk'=>hin k (YN hV hk')) hR
  rw[if_neg hdi]at hv ⊢;exact D6 hk.sub (fun k hk'=>hold k fun h=>by rw[gC (hk1 k h).2 hv]at hk';cases hk') (hs.tmps i v hv)
 ·rcases hG n b hn with ⟨h1,h2⟩|⟨h1,h2⟩
  ·rw[hin n h1];exact(hb n b h2).1.mono (fun _ _ h=>h) (fun k hk'=>hin k (YO (List.all_eq_true.1 hEo _ (DH h2)) hk')) (fun _=>rfl)
  rw[hout n h1];exact(hs.blk n b h2).mono hk.sub (fun k hk'=>hold k fun h=>by rw[Yd (hk1 k h).2 h2]at hk';cases hk') (fun hnil=>hk.old _ ((hs.blk n b h2).lt hnil) (fun h=>h))
 ·rcases hG n b hn with ⟨h1,h2⟩|⟨h1,h2⟩
  ·rw[hin n h1];rcases(hb n b h2).2 with h3|⟨h3,h4⟩
   ·exact .inl h3
   exact .inr ⟨h4,.inl (ln hs.size h3)⟩
  rw[hout n h1];cases hnil:(σ n).nil with
  |true=>exact .inl rfl
  |false =>
   rcases hs.loc n b h2 with h3|⟨h3,h4⟩
   ·rw[hnil]at h3;cases h3
   exact .inr ⟨hMn _ ((hs.blk n b h2).lt hnil) h3,h4⟩
 have NA:∀(n m:Nat) (b c:Blk),get hE n=some b->get s.h m=some c->(σ' n).nil=true\/(σ m).nil=true\/(σ' n).b≠(σ m).b:=fun n m b c h1 h2=>by
  rcases(hb n b h1).2 with h3|⟨h3,_⟩
  ·exact .inl h3
  cases hnil:(σ m).nil with
  |true=>exact .inr (.inl rfl)
  |false=>have:=(hs.blk m c h2).lt hnil;exact .inr (.inr mz)
 rcases hG n b hn with ⟨h1,h2⟩|⟨h1,h2⟩<;>rcases hG m c hm with ⟨h3,h4⟩|⟨h3,h4⟩
 ·rw[hin n h1,hin m h3];exact hi n m b c h2 h4 hne
 ·rw[hin n h1,hout m h3];exact NA n m b c h2 h4
 ·rw[hout n h1,hin m h3];rcases NA m n c b h4 h2 with h|h|h
  ·exact .inr (.inl h)
  ·exact .inl h
  exact .inr (.inr (Ne.symm h))
 rw[hout n h1,hout m h3];exact hs.inj n m b c h2 h4 hne
structure CallS (P:Program) (o:Oper) (s:AS) (f:FuncId) (xs:List Av) (d:Nat):Prop where
 op:∃ c g,o.op=.call c/\c.callee=.value g/\(∃ caps,evT (get s.t) g=some (.av (.one (.clo f 0 caps))))/\FQ (evT (get s.t)) c.args.toList=some xs
 eg:∀ args w,(callFunc f args).run P w=.ok (.enter f args) w
 gd:o.guard=none
 dst:o.dst=some d
theorem KF{K:List Nat}{ops:Array Oper}{o:Oper}{l:List Oper}{Kk:AS->Prop}{f:FuncId}{xs:List Av}{d:Nat}{ι:Type}{I:ι->Prop}{V:ι->Tv}{hE:ι->List (Nat×Blk)}(S:ι->AS)(hX:DJ X W0 K)(hc:CallS P o s f xs d)(hF:Frs P f xs I V hE)(hok:∀x,jk N K d (V x) (hE x) s=true)(hS:∀x,xP d (V x) (hE x) s=S x)
 (h:∀x,I x->AWL P rd N W0 X M0 ops l Kk (S x)):AWL P rd N W0 X M0 ops (o::l) Kk s:=by
 intro M σ a w hs Q' hQ';refine wpListIn_step fun K0 hK' => ?_;obtain⟨⟨c,g,ho,hcf,⟨caps,hf⟩,hxs⟩,heg,hgd,hdst⟩:=hc;rw[if_pos (by simp[Region.wanted,hgd])];have hev:∀x v,evT (get s.t) x=some v->RT M σ v (a.eval x):=fun x v hv=>HQ hs.tmps hv;obtain⟨caps',hfv,hsz,hcaps⟩:=hev g _ hf;have hargs:=JO hev _ _ hxs;have hce:caps' = #[]:=Array.eq_empty_of_size_eq_zero (by simpa using hsz);subst hce;have hmap:c.args.map a.eval=(c.args.toList.map a.eval).toArray:=by apply Array.ext';simp
 have hres:(resolve a.eval c o.type).run P w=.ok { target:=.fn (.func f) #[],args:=(c.args.toList.map a.eval).toArray } w:=by
  simp only[resolve,hcf,hfv,Deferred.ofValue,hmap];simp
 have hd:Zl P o a w fun U w'=>∃(x:ι) (M':m5) (σ':Nat->Loc),I x/\Gk w w' M M' M7/\(∀n b,get (hE x) n=some b->Bl M' σ' w' (σ' n) b/\((σ' n).nil=true\/(w.heap.size<=(σ' n).b/\M' (σ' n).b=none))) /\
  (∀n m b c,get (hE x) n=some b->get (hE x) m=some c->n≠m->(σ' n).nil=true\/(σ' m).nil=true\/(σ' n).b≠(σ' m).b)/\RT M' σ' (V x) U:=by
  refine .inr (.inr ⟨f,(c.args.toList.map a.eval).toArray,?_,?_⟩)
  ·simp only[execOp,ho,Sem.run_bind,hres,Result.andThen_ok,invoke,Array.append_empty];exact heg _ _
  exact hF M σ w _ hs.imm hargs
 refine hd.wp (fun U w' ⟨x,M',σ',h1,h2,h3,h4,h5⟩=>?_) (fun c' hc'=>by rw[ho]at hc';cases hc');rw[hdst];have:=jE hX (hok x) hs h2 h3 h4 h5;rw[hS x]at this;exact hK' _ _ (h x h1 _ _ _ _ this Q' hQ')
end
open Go.RowKit
def HI:List Bool->Code->Option Code
 |[],c=>some c
 |false::p,.seq c _=>HI p c
 |true::p,.seq _ c=>HI p c
 |_,_=>none
section
variable {P:Program}{rd:Option Nat}{N:Nat}{W0:World}{X:m6}{M0:m5}{Q:Exit→AS→Prop}{s:AS}
def Q4(P:Program)(N:Nat)(L:List Nat)(c:Code){ι:Type}(I:ι->Prop)(S0:(Nat->Value)->AS)(S1:(Nat->Value)->ι->AS):Prop :=
 ∀(W1:World) (M1:m5) (X1:m6) (v:Nat->Value),DJ X1 W1 L->Tu X1->AWp P none N W1 X1 M1 c (fun e s'=>∃t,Cv N W1 X1 M1 s' t/\e=.normal/\∃x,I x/\t=S1 v x) (S0 v)
theorem CL{c:Code}{ι:Type}{I:ι->Prop}{S0:(Nat->Value)->AS}{S1:(Nat->Value)->ι->AS}(q:Nat)(l:List Cl)(ty:TypeId)(m:List Bool)(T1 K1:List Nat)(tE:ι->List (Nat×Tv))(lE:ι->List Cl)(hE:ι->List (Nat×Blk))(S:ι->AS)(hX:DJ X W0 [])(hF:Tu X)(core:Q4 P N (q::K1) c I S0 S1)(hQ:∀x,I x->Q .normal (S x))
 (hq:get s.h q=some (.cells l ty):=by kernel_rfl)(hN:(q::K1).all (fun n=>Nat.ble N n)=true:=by kernel_rfl)(hN2:Nat.ble N 299999=true:=by kernel_rfl)(hno:noD 299999 s=true:=by kernel_rfl)(hK:A6 (q::K1) 299999=false:=by kernel_rfl)(hchk:∀x,je q K1 m s l (tE x) (lE x) (hE x)=true:=by intro _;kernel_rfl)
 (h0:∀v,(⟨Fz s.t T1,(q,.cells (EQ v 0 m l) ty)::Fz s.h K1⟩:AS)=S0 v:=by intro _;kernel_rfl)(h1:∀v x,S1 v x=⟨tE x,(q,.cells (EQ v 0 m (lE x)) ty)::hE x⟩:=by intro _ _;kernel_rfl)
 (h2:∀x,(⟨tE x,(q,.cells (S5 m l (lE x)) ty)::(hE x++LK (q::K1) s.h)⟩:AS)=S x:=by intro _;kernel_rfl):AWp P none N W0 X M0 c Q s:=by
 refine wM q l ty m T1 K1 hX hF I tE lE hE hq hN hN2 hno hK hchk (fun W1 M1 X1 v hP hFl=>EG ?_) fun x hx=>by rw[h2 x];exact hQ x hx
 rw[h0 v];refine bw (core W1 M1 X1 v hP hFl) ?_;rintro e s' ⟨t,h3,h4,x,h5,h6⟩;exact⟨t,h3,h4,x,h5,by rw[h6,h1 v x]⟩
end
open Go.RowKit
def mkB(n k:Nat):List Bool:=(List.range n).map fun i=>!Nat.beq i k
def lEB(n k:Nat)(c:Cl):List Cl:=(List.range n).map fun i=>bif Nat.beq i k then c else .any
theorem uM{α:Type}{l m:List (Nat×α)}{n:Nat}{v:α}(h:get l n=some v):get (l++m) n=some v:=by
 rw[XF,h]
open Go.RowKit
theorem be{V:Tv}{h l m:List (Nat×Blk)}(hh:h=l++m):∃x:Unit,True/\TvE V V/\∀n b,get l n=some b->∃b',get h n=some b'/\Ic b' b :=
 ⟨(),trivial,.refl _,fun n b h'=>⟨b,by rw[hh];exact uM h',.refl _⟩⟩
open Go.RowKit
def fzL:List Nat->AS->AS
 |[],s=>s
 |n::r,s=>fzL r (fzN n s)
def ba(K:List Nat):List Nat->AS->Bool
 |[],_=>true
 |n::r,s=>fzK K n s&&ba K r (fzN n s)
def yM:List Nat->AS->List (List (Nat×Nat))
 |[],_=>[]
 |n::r,s=>prS n s::yM r (fzN n s)
def bc:List Nat->AS->List (List (Nat×Nat))
 |[],_=>[]
 |n::r,s=>fzE n s::bc r (fzN n s)
theorem jh{N:Nat}{W0:World}{X:m6}{M0:m5}{K:List Nat}(l:List Nat)(hX:DJ X W0 K):∀ {s:AS},ba K l s=true->yM l s=bc l s->Cv N W0 X M0 s (fzL l s):=by
 induction l with
 |nil=>exact fun _ _=>Cv.refl _
 |cons n r ih =>
  intro s h1 h2;simp only[ba,me]at h1;simp only[yM,bc,List.cons.injEq]at h2;exact Cv.trans (dK n hX h1.1 h2.1) (ih h1.2 h2.2)
theorem CC{N:Nat}{W0:World}{X:m6}{M0:m5}{K:List Nat}{s:AS}(l:List Nat)(hX:DJ X W0 K)(hk:ba K l s=true:=by kernel_rfl)(he:yM l s=bc l s:=by kernel_rfl):Cv N W0 X M0 s (fzL l s):=jh l hX hk he
end
section
open Go.RowKit
def Z7T:Blk:=.cells IA 41
variable (v:Nat->Value)(b:AC)(CB:List AX)(CA:List BG)(B9:List A5)(B1:List BI)(Cf:List A7)(Ce:List AM)(CJ:List A8)(Cd:List BA)(ob nr v4 v5 v9:Int)
def Z7U:Blk:=.row 2 Cf.length (AL A7.c Cf) 120
abbrev GL(t_:List Cl):List Cl:=(.val (v 0))::(.val (v 1))::(.val (v 2))::(.val (v 3))::(.val (v 4))::t_
def Z7V:Blk:=.cells (GL v [.own 2000 2 Cf.length,.val (v 6),.val (v 7),.val (v 8),.val (v 9),.val (v 10),.val (v 11),.val (v 12),.val (v 13),.val (v 14)]) 41
def Z7W(Cf:List A7)(b:AC)(v4:Int):Blk:=.row 2 (Cf++[b.Nets.getD v4.toNat default]).length (AL A7.c (Cf++[b.Nets.getD v4.toNat default])) 120
def Z7Y:Blk:=.cells (GL v [.own 3100 2 Cf.length,.val (v 6),.val (v 7),.val (v 8),.val (v 9),.val (v 10),.val (v 11),.val (v 12),.val (v 13),.val (v 14)]) 41
def GT(b:AC):Nat->List A7->Int->(List A7)
 |0,_,_=>default
 |n0+1,Cf,v4=>bif decide ((v4:Int)<(b.Nets.length:Int))then((GT b n0) (Cf++[b.Nets.getD v4.toNat default]) (v4+1))else Cf
def A4(b:AC):(List A7):=GT b (((b.Nets.length:Int)-0).toNat+1) ([]:List A7) 0
abbrev Bi(t_:List (Nat×Tv)):List (Nat×Tv):=(1,tP 3001 0)::(2,tP 3002 0)::(3,tP 3003 0)::t_
abbrev BJ:List (Nat×Tv):=(Bi [])
abbrev A1:Nat×Blk:=(3001,.cells (AC.c b) 41)
abbrev C7:Nat×Blk:=(3002,.cells IA 41)
abbrev fH(b:AC)(v:Nat->Value)(xs:List A7):AS:=⟨BJ,[(3003,.cells (GL v [.own 3100 2 xs.length,.val (v 6),.val (v 7),.val (v 8),.val (v 9),.val (v 10),.val (v 11),.val (v 12),.val (v 13),.val (v 14)]) 41),(A1 b),C7,(3100,.row 2 xs.length (AL A7.c xs) 120)]⟩
abbrev E6:=b.Nets.getD v4.toNat default
abbrev LT:List (Nat×Tv):=(Bi [(4,tI 0)])
abbrev JS(v:Nat→Value)(t_:List Cl):List Cl:=(.val (v 0))::(.val (v 1))::(.val (v 2))::(.val (v 3))::(.val (v 4))::t_
abbrev eL(v:Nat→Value):Nat×Blk:=(3003,.cells (JS v [vN,.val (v 6),.val (v 7),.val (v 8),.val (v 9),.val (v 10),.val (v 11),.val (v 12),.val (v 13),.val (v 14)]) 41)
set_option maxHeartbeats 4000000 in
theorem XH(b:AC)(hc:Ct b){c:Code}(hpc:Tryz.f46.body.bind (HI [true,true,false,true])=some c):Q4 Tryz.prog 229 [3003,3001,3002] c (fun _:Unit=>True) (fun v=>⟨[(1,tP 3001 0),(2,tP 3002 0),(3,tP 3003 0),(4,tI 0)],[(3003,.cells [.val (v 0),.val (v 1),.val (v 2),.val (v 3),.val (v 4),vN,.val (v 6),.val (v 7),.val (v 8),.val (v 9),.val (v 10),.val (v 11),.val (v 12),.val (v 13),.val (v 14)] 41),(3001,.cells (AC.c b) 41),(3002,.cells [.i 0,.i 0,vN,.i 0,vN,vN,vN,vN,vN,vN,vN,vN,vN,vN,vN] 41)]⟩) (fun v _=>fH b v (A4 b)):=by
 cases hpc;intro W0 M0 X v hP hFl;show AWp _ _ _ _ _ _ _ _ ⟨LT,[(eL v),(A1 b),C7]⟩;have ⟨p0,p1,p2,p3,p4,p5,p6,p7,p8,p9,p10,_,_,_,_,_,_,_,_,_⟩:=hc;have hr:=hc.rok;refine AJ<|AZ (Cv.trans (CK [1,2,3,4] [3001,3002,3003] (⟨LT,[(A1 b),(3002,Z7T),(eL v)]⟩) kr) (Cv.trans (Gw (⟨LT,[(2000,.row 2 0 m8 120),(A1 b),(3002,Z7T),(3003,.cells (JS v [.own 2000 2 0,.val (v 6),.val (v 7),.val (v 8),.val (v 9),.val (v 10),.val (v 11),.val (v 12),.val (v 13),.val (v 14)]) 41)]⟩) 2000 2 m8 120 [] [(3003,[5])] (K:=[3003,3001,3002]) hP rfl kr kr) (GJ (⟨LT,[(2000,.row 2 ([]:List A7).length (AL A7.c ([]:List A7)) 120),(A1 b),(3002,Z7T),(3003,.cells (JS v [.own 2000 2 ([]:List A7).length,.val (v 6),.val (v 7),.val (v 8),.val (v 9),.val (v 10),.val (v 11),.val (v 12),.val (v 13),.val (v 14)]) 41)]⟩) 2000 (Bh 2 m8 A7.c)))) ?_;refine lpC (κ:=List A7×Int) (fun x=>⟨(Bi [(4,tI x.2.2)]),[(2000,.row 2 x.2.1.length (AL A7.c x.2.1) 120),(A1 b),(3002,Z7T),(3003,.cells (JS v [.own 2000 2 x.2.1.length,.val (v 6),.val (v 7),.val (v 8),.val (v 9),.val (v 10),.val (v 11),.val (v 12),.val (v 13),.val (v 14)]) 41)]⟩) (fun x=>((b.Nets.length:Int)-x.2.2).toNat) (fun x=>(0<=x.2.2/\(x.2.2<=(b.Nets.length:Int)\/x.2.2=0)/\(x.2.1.length:Int)<=0+1*(x.2.2-0))/\GT b x.1 x.2.1 x.2.2=A4 b) ?_ (((b.Nets.length:Int)-0).toNat+1,([]:List A7),0) ⟨lz _,⟨ax0,ax0,ax0⟩,(by simp only[A4,mi,mj])⟩;rintro n0 ⟨Cf,v4⟩ nq ⟨nm,ng⟩
 try dsimp only at nq nm ng
 have hb:=hc.pin v4.toNat;refine AA<|AA<|on<|kb (decide ((v4:Int)<(b.Nets.length:Int))) (fun h1=>?_) (fun h1=>?_)
 ·have g1:=oT h1;refine AP<|AE<|AA<|AJ<|od [1000051] [] [0<=(v4:Int)/\(v4:Int)<(b.Nets.length:Int),0<=(v4:Int)/\(v4:Int)<(b.Nets.length:Int),(b.Nets.getD v4.toNat default).Pins.length<=maxLen,(b.Nets.getD v4.toNat default).Pins.length*32<=140737488355328,Cf.length=Cf.length,Cf.length+1<=maxLen,(Cf.length+1)*40<=140737488355328] .nil (H7 au0 au0 au4 au4 rfl (au4 (h:=by first|omega|(unfold maxLen;omega))) au4)<|Ao<|AE<|AZ (Ag 61 (Ac (AU 2 A7.c Cf) (Ai 2 A7.c ([b.Nets.getD v4.toNat default]:List A7))))<|rg ⟨(Bi [(4,tI (W64 (v4+1)))]),[(61,Z7W Cf b v4),(A1 b),(3002,Z7T),(3003,.cells (GL v [.own 61 2 (Cf++[b.Nets.getD v4.toNat default]).length,.val (v 6),.val (v 7),.val (v 8),.val (v 9),.val (v 10),.val (v 11),.val (v 12),.val (v 13),.val (v 14)]) 41)]⟩ ?_
  (try rw[(show W64 (v4+1)=v4+1 from Ae mz au5)])
  refine AE ?_;refine⟨(n0,Cf++[b.Nets.getD v4.toNat default],v4+1),⟨?_,?_,(by rw[<- ng];simp only[GT,h1,mi,mj])⟩,lz _,Cv.trans (CR (⟨(Bi [(4,tI (v4+1))]),[(2000,Z7W Cf b v4),(A1 b),(3002,Z7T),(3003,.cells (JS v [.own 2000 2 (Cf++[b.Nets.getD v4.toNat default]).length,.val (v 6),.val (v 7),.val (v 8),.val (v 9),.val (v 10),.val (v 11),.val (v 12),.val (v 13),.val (v 14)]) 41)]⟩) 61 2000 (K:=[3003,3001,3002]) hP rfl rfl kr kr) (Az kr)⟩
  ·dsimp only;omega
  exact⟨ax0,ax0,ax0⟩
 have g1:=oF h1;refine Aw<|Aj<|Aj<|Ay ?_;exact⟨_,Cv.trans (CK [1,2,3] [2000,3001,3002,3003] (⟨BJ,[(2000,Z7U Cf),(A1 b),(3002,Z7T),(3003,Z7V v Cf)]⟩) kr) (Cv.trans (CR (⟨BJ,[(3100,Z7U Cf),(A1 b),(3002,Z7T),(3003,Z7Y v Cf)]⟩) 2000 3100 (K:=[3003,3001,3002]) hP rfl rfl kr kr) (CK [1,2,3] [3003,3001,3002,3100] (⟨BJ,[(3003,Z7Y v Cf),(A1 b),(3002,Z7T),(3100,Z7U Cf)]⟩) kr)),rfl,(),trivial,congrArg (fH b v) (show Cf=_ from(by rw[<- ng];first|(simp only[GT,h1,mi,mj]<;>rfl)))⟩
def Z7Z:Blk:=.cells IA 41
def Z80:Blk:=.row 6 Ce.length (AL AM.c Ce) 131
def Z81:Blk:=.cells (GL v [.val (v 5),.own 2000 6 Ce.length,.val (v 7),.val (v 8),.val (v 9),.val (v 10),.val (v 11),.val (v 12),.val (v 13),.val (v 14)]) 41
def Z82:AQ:=E3 (b.Tracks.getD v5.toNat default).Shape
abbrev Pf:=[AM.mk (DB b v5).Id (DB b v5).Net (DB b v5).Layer (Z82 b v5)]
def Z83(Ce:List AM)(b:AC)(v5:Int):Blk:=.row 6 (Ce++(Pf b v5)).length (AL AM.c (Ce++(Pf b v5))) 131
def Z85:Blk:=.cells (GL v [.val (v 5),.own 3102 6 Ce.length,.val (v 7),.val (v 8),.val (v 9),.val (v 10),.val (v 11),.val (v 12),.val (v 13),.val (v 14)]) 41
def E4(b:AC):Nat->List AM->Int->(List AM)
 |0,_,_=>default
 |n0+1,Ce,v5=>bif decide ((v5:Int)<(b.Tracks.length:Int))then((E4 b n0) (Ce++[AM.mk (b.Tracks.getD v5.toNat default).Id (b.Tracks.getD v5.toNat default).Net (b.Tracks.getD v5.toNat default).Layer (Z82 b v5)]) (v5+1))else Ce
def AR(b:AC):(List AM):=E4 b (((b.Tracks.length:Int)-0).toNat+1) ([]:List AM) 0
abbrev UU(b:AC)(v:Nat->Value)(xs:List AM):AS:=⟨BJ,[(3003,.cells (GL v [.val (v 5),.own 3102 6 xs.length,.val (v 7),.val (v 8),.val (v 9),.val (v 10),.val (v 11),.val (v 12),.val (v 13),.val (v 14)]) 41),(A1 b),C7,(3102,.row 6 xs.length (AL AM.c xs) 131)]⟩
abbrev Lq:List (Nat×Tv):=(Bi [(5,tI 0)])
abbrev oW(v:Nat→Value):Nat×Blk:=(3003,.cells (JS v [.val (v 5),vN,.val (v 7),.val (v 8),.val (v 9),.val (v 10),.val (v 11),.val (v 12),.val (v 13),.val (v 14)]) 41)
theorem au34{p:Prop}(h:p:=by first|(with_reducible exact hc.ted _)|(with_reducible exact hc.ked _)|(with_reducible exact hc.sed _)|(with_reducible exact hc.out)|with_reducible assumption|omega|decide|(simp only[j8,j9,d9];omega)|assumption):p:=h
set_option maxHeartbeats 4000000 in
theorem Ml(b:AC)(hc:Ct b){c:Code}(hpc:Tryz.f46.body.bind (HI [true,true,true,false,true])=some c):Q4 Tryz.prog 229 [3003,3001,3002] c (fun _:Unit=>True) (fun v=>⟨[(1,tP 3001 0),(2,tP 3002 0),(3,tP 3003 0),(5,tI 0)],[(3003,.cells [.val (v 0),.val (v 1),.val (v 2),.val (v 3),.val (v 4),.val (v 5),vN,.val (v 7),.val (v 8),.val (v 9),.val (v 10),.val (v 11),.val (v 12),.val (v 13),.val (v 14)] 41),(3001,.cells (AC.c b) 41),(3002,.cells [.i 0,.i 0,vN,.i 0,vN,vN,vN,vN,vN,vN,vN,vN,vN,vN,vN] 41)]⟩) (fun v _=>UU b v (AR b)):=by
 cases hpc;intro W0 M0 X v hP hFl;show AWp _ _ _ _ _ _ _ _ ⟨Lq,[(oW v),(A1 b),C7]⟩;have ⟨p0,p1,p2,p3,p4,p5,p6,p7,p8,p9,p10,_,_,_,_,_,_,_,_,_⟩:=hc;have hr:=hc.rok;refine AJ<|AZ (Cv.trans (CK [1,2,3,5] [3001,3002,3003] (⟨Lq,[(A1 b),(3002,Z7Z),(oW v)]⟩) kr) (Cv.trans (Gw (⟨Lq,[(2000,.row 6 0 m8 131),(A1 b),(3002,Z7Z),(3003,.cells (JS v [.val (v 5),.own 2000 6 0,.val (v 7),.val (v 8),.val (v 9),.val (v 10),.val (v 11),.val (v 12),.val (v 13),.val (v 14)]) 41)]⟩) 2000 6 m8 131 [] [(3003,[6])] (K:=[3003,3001,3002]) hP rfl kr kr) (GJ (⟨Lq,[(2000,.row 6 ([]:List AM).length Vu 131),(A1 b),(3002,Z7Z),(3003,.cells (JS v [.val (v 5),.own 2000 6 ([]:List AM).length,.val (v 7),.val (v 8),.val (v 9),.val (v 10),.val (v 11),.val (v 12),.val (v 13),.val (v 14)]) 41)]⟩) 2000 (Bh 6 m8 AM.c)))) ?_;refine lpC (κ:=List AM×Int) (fun x=>⟨(Bi [(5,tI x.2.2)]),[(2000,.row 6 x.2.1.length (AL AM.c x.2.1) 131),(A1 b),(3002,Z7Z),(3003,.cells (JS v [.val (v 5),.own 2000 6 x.2.1.length,.val (v 7),.val (v 8),.val (v 9),.val (v 10),.val (v 11),.val (v 12),.val (v 13),.val (v 14)]) 41)]⟩) (fun x=>((b.Tracks.length:Int)-x.2.2).toNat) (fun x=>(0<=x.2.2/\(x.2.2<=(b.Tracks.length:Int)\/x.2.2=0)/\(x.2.1.length:Int)<=0+1*(x.2.2-0))/\E4 b x.1 x.2.1 x.2.2=AR b) ?_ (((b.Tracks.length:Int)-0).toNat+1,([]:List AM),0) ⟨lz _,⟨ax0,ax0,ax0⟩,(by simp only[AR,mi,mj])⟩;rintro n0 ⟨Ce,v5⟩ nq ⟨nm,ng⟩
 try dsimp only at nq nm ng
 refine AA<|AA<|on<|kb (decide ((v5:Int)<(b.Tracks.length:Int))) (fun h1=>?_) (fun h1=>?_)
 ·have g1:=oT h1;refine AP<|AE<|AA<|AJ<|AA<|oc [] [0<=(v5:Int)/\(v5:Int)<(b.Tracks.length:Int)] .nil (H1 au0)<|AE<|AA<|oo _ [none] (J1 77 (EX (DB b v5).Shape au34)) .nil<|AE<|oc [] [Ce.length=Ce.length,Ce.length+1<=maxLen,(Ce.length+1)*72<=140737488355328] .nil (H3 rfl au4 au4)<|Ao<|AE<|AZ (Ag 83 (Ac (AU 6 AM.c Ce) (Ai 6 AM.c ((Pf b v5):List AM))))<|rg ⟨(Bi [(5,tI (W64 (v5+1)))]),[(83,Z83 Ce b v5),(A1 b),(3002,Z7Z),(3003,.cells (GL v [.val (v 5),.own 83 6 (Ce++(Pf b v5)).length,.val (v 7),.val (v 8),.val (v 9),.val (v 10),.val (v 11),.val (v 12),.val (v 13),.val (v 14)]) 41)]⟩ ?_
  (try rw[(show W64 (v5+1)=v5+1 from Ae mz au5)])
  refine AE ?_;refine⟨(n0,Ce++(Pf b v5),v5+1),⟨?_,?_,(by rw[<- ng];simp only[E4,h1,mi,mj])⟩,lz _,Cv.trans (CR (⟨(Bi [(5,tI (v5+1))]),[(2000,Z83 Ce b v5),(A1 b),(3002,Z7Z),(3003,.cells (JS v [.val (v 5),.own 2000 6 (Ce++(Pf b v5)).length,.val (v 7),.val (v 8),.val (v 9),.val (v 10),.val (v 11),.val (v 12),.val (v 13),.val (v 14)]) 41)]⟩) 83 2000 (K:=[3003,3001,3002]) hP rfl rfl kr kr) (Az kr)⟩
  ·dsimp only;omega
  exact⟨ax0,ax0,ax0⟩
 have g1:=oF h1;refine Aw<|Aj<|Aj<|Ay ?_;exact⟨_,Cv.trans (CK [1,2,3] [2000,3001,3002,3003] (⟨BJ,[(2000,Z80 Ce),(A1 b),(3002,Z7Z),(3003,Z81 v Ce)]⟩) kr) (Cv.trans (CR (⟨BJ,[(3102,Z80 Ce),(A1 b),(3002,Z7Z),(3003,Z85 v Ce)]⟩) 2000 3102 (K:=[3003,3001,3002]) hP rfl rfl kr kr) (CK [1,2,3] [3003,3001,3002,3102] (⟨BJ,[(3003,Z85 v Ce),(A1 b),(3002,Z7Z),(3102,Z80 Ce)]⟩) kr)),rfl,(),trivial,congrArg (UU b v) (show Ce=_ from(by rw[<- ng];first|(simp only[E4,h1,mi,mj]<;>rfl)))⟩
def Z86:Blk:=.cells IA 41
def Z87:Blk:=.row 8 CJ.length (AL A8.c CJ) 97
abbrev C6(t_:List Cl):List Cl:=(.val (v 0))::(.val (v 1))::(.val (v 2))::(.val (v 3))::(.val (v 4))::(.val (v 5))::(.val (v 6))::(.val (v 7))::t_
def Z88:Blk:=.cells (C6 v [.own 2000 8 CJ.length,.val (v 9),.val (v 10),.val (v 11),.val (v 12),.val (v 13),.val (v 14)]) 41
def Z89(CJ:List A8)(b:AC)(v7:Int):Blk:=.row 8 (CJ++[b.Pours.getD v7.toNat default]).length (AL A8.c (CJ++[b.Pours.getD v7.toNat default])) 97
def Z8b:Blk:=.cells (C6 v [.own 3104 8 CJ.length,.val (v 9),.val (v 10),.val (v 11),.val (v 12),.val (v 13),.val (v 14)]) 41
def Gi(b:AC):Nat->List A8->Int->(List A8)
 |0,_,_=>default
 |n0+1,CJ,v7=>bif decide ((v7:Int)<(b.Pours.length:Int))then((Gi b n0) (CJ++[b.Pours.getD v7.toNat default]) (v7+1))else CJ
def BQ(b:AC):(List A8):=Gi b (((b.Pours.length:Int)-0).toNat+1) ([]:List A8) 0
abbrev X9(b:AC)(v:Nat->Value)(xs:List A8):AS:=⟨BJ,[(3003,.cells (C6 v [.own 3104 8 xs.length,.val (v 9),.val (v 10),.val (v 11),.val (v 12),.val (v 13),.val (v 14)]) 41),(A1 b),C7,(3104,.row 8 xs.length (AL A8.c xs) 97)]⟩
abbrev C5(v:Nat→Value)(t_:List Cl):List Cl:=(.val (v 0))::(.val (v 1))::(.val (v 2))::(.val (v 3))::(.val (v 4))::(.val (v 5))::(.val (v 6))::(.val (v 7))::t_
abbrev eM(v:Nat→Value):Nat×Blk:=(3003,.cells (C5 v [vN,.val (v 9),.val (v 10),.val (v 11),.val (v 12),.val (v 13),.val (v 14)]) 41)
abbrev Jo:List (Nat×Tv):=(Bi [(7,tI 0)])
set_option maxHeartbeats 4000000 in
theorem ZF(b:AC)(hc:Ct b){c:Code}(hpc:Tryz.f46.body.bind (HI [true,true,true,true,false,true])=some c):Q4 Tryz.prog 229 [3003,3001,3002] c (fun _:Unit=>True) (fun v=>⟨[(1,tP 3001 0),(2,tP 3002 0),(3,tP 3003 0),(7,tI 0)],[(3003,.cells [.val (v 0),.val (v 1),.val (v 2),.val (v 3),.val (v 4),.val (v 5),.val (v 6),.val (v 7),vN,.val (v 9),.val (v 10),.val (v 11),.val (v 12),.val (v 13),.val (v 14)] 41),(3001,.cells (AC.c b) 41),(3002,.cells [.i 0,.i 0,vN,.i 0,vN,vN,vN,vN,vN,vN,vN,vN,vN,vN,vN] 41)]⟩) (fun v _=>X9 b v (BQ b)):=by
 cases hpc;intro W0 M0 X v hP hFl;show AWp _ _ _ _ _ _ _ _ ⟨Jo,[(eM v),(A1 b),C7]⟩;have ⟨p0,p1,p2,p3,p4,p5,p6,p7,p8,p9,p10,_,_,_,_,_,_,_,_,_⟩:=hc;have hr:=hc.rok;refine AJ<|AZ (Cv.trans (CK [1,2,3,7] [3001,3002,3003] (⟨Jo,[(A1 b),(3002,Z86),(eM v)]⟩) kr) (Cv.trans (Gw (⟨Jo,[(2000,.row 8 0 m8 97),(A1 b),(3002,Z86),(3003,.cells (C5 v [.own 2000 8 0,.val (v 9),.val (v 10),.val (v 11),.val (v 12),.val (v 13),.val (v 14)]) 41)]⟩) 2000 8 m8 97 [] [(3003,[8])] (K:=[3003,3001,3002]) hP rfl kr kr) (GJ (⟨Jo,[(2000,.row 8 ([]:List A8).length (AL A8.c ([]:List A8)) 97),(A1 b),(3002,Z86),(3003,.cells (C5 v [.own 2000 8 ([]:List A8).length,.val (v 9),.val (v 10),.val (v 11),.val (v 12),.val (v 13),.val (v 14)]) 41)]⟩) 2000 (Bh 8 m8 A8.c)))) ?_;refine lpC (κ:=List A8×Int) (fun x=>⟨(Bi [(7,tI x.2.2)]),[(2000,.row 8 x.2.1.length (AL A8.c x.2.1) 97),(A1 b),(3002,Z86),(3003,.cells (C5 v [.own 2000 8 x.2.1.length,.val (v 9),.val (v 10),.val (v 11),.val (v 12),.val (v 13),.val (v 14)]) 41)]⟩) (fun x=>((b.Pours.length:Int)-x.2.2).toNat) (fun x=>(0<=x.2.2/\(x.2.2<=(b.Pours.length:Int)\/x.2.2=0)/\(x.2.1.length:Int)<=0+1*(x.2.2-0))/\Gi b x.1 x.2.1 x.2.2=BQ b) ?_ (((b.Pours.length:Int)-0).toNat+1,([]:List A8),0) ⟨lz _,⟨ax0,ax0,ax0⟩,(by simp only[BQ,mi,mj])⟩;rintro n0 ⟨CJ,v7⟩ nq ⟨nm,ng⟩
 try dsimp only at nq nm ng
 have hb:=hc.rec' v7.toNat;refine AA<|AA<|on<|kb (decide ((v7:Int)<(b.Pours.length:Int))) (fun h1=>?_) (fun h1=>?_)
 ·have g1:=oT h1;refine AP<|AE<|AA<|AJ<|AA<|rc [] [0<=(v7:Int)/\(v7:Int)<(b.Pours.length:Int)] ⟨(Bi [(7,tI v7),(8,tP 8 0)]),[(8,.cells (A8.c (Kb b v7)) 97),(2000,Z87 CJ),(A1 b),(3002,Z86),(3003,Z88 v CJ)]⟩ .nil (H1 au0)<|AE<|AA<|DE C8 [1000097] [] [] [1,2,3,7,8] [8,2000,3001,3002,3003] [(b.Pours.getD v7.toNat default).Rects.length<=maxLen,(b.Pours.getD v7.toNat default).Rects.length*32<=140737488355328] ⟨(Bi [(7,tI v7),(8,tP 8 0)]),[(8,.cells (A8.c (Kb b v7)) 97),(2000,Z87 CJ),(A1 b),(3002,Z86),(3003,Z88 v CJ)]⟩ .nil kr (.cons au4 (.cons au4 .nil))<|AE<|oc [] [CJ.length=CJ.length,CJ.length+1<=maxLen,(CJ.length+1)*88<=140737488355328] .nil (H3 rfl (au4 (h:=by first|omega|(unfold maxLen;omega))) au4)<|Ao<|AE<|AZ (Ag 106 (Ac (AU 8 A8.c CJ) (Ai 8 A8.c ([b.Pours.getD v7.toNat default]:List A8))))<|rg ⟨(Bi [(7,tI (W64 (v7+1)))]),[(106,Z89 CJ b v7),(A1 b),(3002,Z86),(3003,.cells (C6 v [.own 106 8 (CJ++[b.Pours.getD v7.toNat default]).length,.val (v 9),.val (v 10),.val (v 11),.val (v 12),.val (v 13),.val (v 14)]) 41)]⟩ ?_
  (try rw[(show W64 (v7+1)=v7+1 from Ae mz au5)])
  refine AE ?_;refine⟨(n0,CJ++[b.Pours.getD v7.toNat default],v7+1),⟨?_,?_,(by rw[<- ng];simp only[Gi,h1,mi,mj])⟩,lz _,Cv.trans (CR (⟨(Bi [(7,tI (v7+1))]),[(2000,Z89 CJ b v7),(A1 b),(3002,Z86),(3003,.cells (C5 v [.own 2000 8 (CJ++[b.Pours.getD v7.toNat default]).length,.val (v 9),.val (v 10),.val (v 11),.val (v 12),.val (v 13),.val (v 14)]) 41)]⟩) 106 2000 (K:=[3003,3001,3002]) hP rfl rfl kr kr) (Az kr)⟩
  ·dsimp only;omega
  exact⟨ax0,ax0,ax0⟩
 have g1:=oF h1;refine Aw<|Aj<|Aj<|Ay ?_;exact⟨_,Cv.trans (CK [1,2,3] [2000,3001,3002,3003] (⟨BJ,[(2000,Z87 CJ),(A1 b),(3002,Z86),(3003,Z88 v CJ)]⟩) kr) (Cv.trans (CR (⟨BJ,[(3104,Z87 CJ),(A1 b),(3002,Z86),(3003,Z8b v CJ)]⟩) 2000 3104 (K:=[3003,3001,3002]) hP rfl rfl kr kr) (CK [1,2,3] [3003,3001,3002,3104] (⟨BJ,[(3003,Z8b v CJ),(A1 b),(3002,Z86),(3104,Z87 CJ)]⟩) kr)),rfl,(),trivial,congrArg (X9 b v) (show CJ=_ from(by rw[<- ng];first|(simp only[Gi,h1,mi,mj]<;>rfl)))⟩
def Z8c:Blk:=.cells IA 41
def Z8d:Blk:=.row 5 Cd.length (AL BA.c Cd) 136
def Z8e:Blk:=.cells (C6 v [.val (v 8),.own 2000 5 Cd.length,.val (v 10),.val (v 11),.val (v 12),.val (v 13),.val (v 14)]) 41
def Z8f:AQ:=E3 (b.Keeps.getD v9.toNat default).Shape
abbrev D9:=b.Keeps.getD v9.toNat default
abbrev PZ:=[BA.mk (D9 b v9).Id (D9 b v9).Layer (Z8f b v9)]
def Z8g(Cd:List BA)(b:AC)(v9:Int):Blk:=.row 5 (Cd++(PZ b v9)).length (AL BA.c (Cd++(PZ b v9))) 136
def Z8i:Blk:=.cells (C6 v [.val (v 8),.own 3106 5 Cd.length,.val (v 10),.val (v 11),.val (v 12),.val (v 13),.val (v 14)]) 41
def Gj(b:AC):Nat->List BA->Int->(List BA)
 |0,_,_=>default
 |n0+1,Cd,v9=>bif decide ((v9:Int)<(b.Keeps.length:Int))then((Gj b n0) (Cd++[BA.mk (b.Keeps.getD v9.toNat default).Id (b.Keeps.getD v9.toNat default).Layer (Z8f b v9)]) (v9+1))else Cd
def BK(b:AC):(List BA):=Gj b (((b.Keeps.length:Int)-0).toNat+1) ([]:List BA) 0
abbrev YA(b:AC)(v:Nat->Value)(xs:List BA):AS:=⟨BJ,[(3003,.cells (C6 v [.val (v 8),.own 3106 5 xs.length,.val (v 10),.val (v 11),.val (v 12),.val (v 13),.val (v 14)]) 41),(A1 b),C7,(3106,.row 5 xs.length (AL BA.c xs) 136)]⟩
abbrev Lp:List (Nat×Tv):=(Bi [(9,tI 0)])
abbrev oX(v:Nat→Value):Nat×Blk:=(3003,.cells (C5 v [.val (v 8),vN,.val (v 10),.val (v 11),.val (v 12),.val (v 13),.val (v 14)]) 41)
set_option maxHeartbeats 4000000 in
theorem Od(b:AC)(hc:Ct b){c:Code}(hpc:Tryz.f46.body.bind (HI [true,true,true,true,true,false,true])=some c):Q4 Tryz.prog 229 [3003,3001,3002] c (fun _:Unit=>True) (fun v=>⟨[(1,tP 3001 0),(2,tP 3002 0),(3,tP 3003 0),(9,tI 0)],[(3003,.cells [.val (v 0),.val (v 1),.val (v 2),.val (v 3),.val (v 4),.val (v 5),.val (v 6),.val (v 7),.val (v 8),vN,.val (v 10),.val (v 11),.val (v 12),.val (v 13),.val (v 14)] 41),(3001,.cells (AC.c b) 41),(3002,.cells [.i 0,.i 0,vN,.i 0,vN,vN,vN,vN,vN,vN,vN,vN,vN,vN,vN] 41)]⟩) (fun v _=>YA b v (BK b)):=by
 cases hpc;intro W0 M0 X v hP hFl;show AWp _ _ _ _ _ _ _ _ ⟨Lp,[(oX v),(A1 b),C7]⟩;have ⟨p0,p1,p2,p3,p4,p5,p6,p7,p8,p9,p10,_,_,_,_,_,_,_,_,_⟩:=hc;have hr:=hc.rok;refine AJ<|AZ (Cv.trans (CK [1,2,3,9] [3001,3002,3003] (⟨Lp,[(A1 b),(3002,Z8c),(oX v)]⟩) kr) (Cv.trans (Gw (⟨Lp,[(2000,.row 5 0 m8 136),(A1 b),(3002,Z8c),(3003,.cells (C5 v [.val (v 8),.own 2000 5 0,.val (v 10),.val (v 11),.val (v 12),.val (v 13),.val (v 14)]) 41)]⟩) 2000 5 m8 136 [] [(3003,[9])] (K:=[3003,3001,3002]) hP rfl kr kr) (GJ (⟨Lp,[(2000,.row 5 ([]:List BA).length (AL BA.c ([]:List BA)) 136),(A1 b),(3002,Z8c),(3003,.cells (C5 v [.val (v 8),.own 2000 5 ([]:List BA).length,.val (v 10),.val (v 11),.val (v 12),.val (v 13),.val (v 14)]) 41)]⟩) 2000 (Bh 5 m8 BA.c)))) ?_;refine lpC (κ:=List BA×Int) (fun x=>⟨(Bi [(9,tI x.2.2)]),[(2000,.row 5 x.2.1.length (AL BA.c x.2.1) 136),(A1 b),(3002,Z8c),(3003,.cells (C5 v [.val (v 8),.own 2000 5 x.2.1.length,.val (v 10),.val (v 11),.val (v 12),.val (v 13),.val (v 14)]) 41)]⟩) (fun x=>((b.Keeps.length:Int)-x.2.2).toNat) (fun x=>(0<=x.2.2/\(x.2.2<=(b.Keeps.length:Int)\/x.2.2=0)/\(x.2.1.length:Int)<=0+1*(x.2.2-0))/\Gj b x.1 x.2.1 x.2.2=BK b) ?_ (((b.Keeps.length:Int)-0).toNat+1,([]:List BA),0) ⟨lz _,⟨ax0,ax0,ax0⟩,(by simp only[BK,mi,mj])⟩;rintro n0 ⟨Cd,v9⟩ nq ⟨nm,ng⟩
 try dsimp only at nq nm ng
 refine AA<|AA<|on<|kb (decide ((v9:Int)<(b.Keeps.length:Int))) (fun h1=>?_) (fun h1=>?_)
 ·have g1:=oT h1;refine AP<|AE<|AA<|AJ<|AA<|oc [] [0<=(v9:Int)/\(v9:Int)<(b.Keeps.length:Int)] .nil (H1 au0)<|AE<|AA<|oo _ [none] (J1 122 (EX (D9 b v9).Shape au34)) .nil<|AE<|oc [] [Cd.length=Cd.length,Cd.length+1<=maxLen,(Cd.length+1)*56<=140737488355328] .nil (H3 rfl au4 au4)<|Ao<|AE<|AZ (Ag 128 (Ac (AU 5 BA.c Cd) (Ai 5 BA.c ((PZ b v9):List BA))))<|rg ⟨(Bi [(9,tI (W64 (v9+1)))]),[(128,Z8g Cd b v9),(A1 b),(3002,Z8c),(3003,.cells (C6 v [.val (v 8),.own 128 5 (Cd++(PZ b v9)).length,.val (v 10),.val (v 11),.val (v 12),.val (v 13),.val (v 14)]) 41)]⟩ ?_
  (try rw[(show W64 (v9+1)=v9+1 from Ae mz au5)])
  refine AE ?_;refine⟨(n0,Cd++(PZ b v9),v9+1),⟨?_,?_,(by rw[<- ng];simp only[Gj,h1,mi,mj])⟩,lz _,Cv.trans (CR (⟨(Bi [(9,tI (v9+1))]),[(2000,Z8g Cd b v9),(A1 b),(3002,Z8c),(3003,.cells (C5 v [.val (v 8),.own 2000 5 (Cd++(PZ b v9)).length,.val (v 10),.val (v 11),.val (v 12),.val (v 13),.val (v 14)]) 41)]⟩) 128 2000 (K:=[3003,3001,3002]) hP rfl rfl kr kr) (Az kr)⟩
  ·dsimp only;omega
  exact⟨ax0,ax0,ax0⟩
 have g1:=oF h1;refine Aw<|Aj<|Aj<|Ay ?_;exact⟨_,Cv.trans (CK [1,2,3] [2000,3001,3002,3003] (⟨BJ,[(2000,Z8d Cd),(A1 b),(3002,Z8c),(3003,Z8e v Cd)]⟩) kr) (Cv.trans (CR (⟨BJ,[(3106,Z8d Cd),(A1 b),(3002,Z8c),(3003,Z8i v Cd)]⟩) 2000 3106 (K:=[3003,3001,3002]) hP rfl rfl kr kr) (CK [1,2,3] [3003,3001,3002,3106] (⟨BJ,[(3003,Z8i v Cd),(A1 b),(3002,Z8c),(3106,Z8d Cd)]⟩) kr)),rfl,(),trivial,congrArg (YA b v) (show Cd=_ from(by rw[<- ng];first|(simp only[Gj,h1,mi,mj]<;>rfl)))⟩
def Z8j:Blk:=.cells IA 41
def Z8k:Blk:=.row 4 CB.length (AL AX.c CB) 112
def Z8l:Blk:=.cells (C6 v [.val (v 8),.val (v 9),.own 2000 4 CB.length,.val (v 11),.val (v 12),.val (v 13),.val (v 14)]) 41
def Z8m:AQ:=E3 (b.Slots.getD ob.toNat default).Shape
abbrev Pc:=[AX.mk (b.Slots.getD ob.toNat default).Id (Z8m b ob)]
def Z8n(CB:List AX)(b:AC)(ob:Int):Blk:=.row 4 (CB++(Pc b ob)).length (AL AX.c (CB++(Pc b ob))) 112
def Z8p:Blk:=.cells (C6 v [.val (v 8),.val (v 9),.own 3108 4 CB.length,.val (v 11),.val (v 12),.val (v 13),.val (v 14)]) 41
def Ff(b:AC):Nat->List AX->Int->(List AX)
 |0,_,_=>default
 |n0+1,CB,ob=>bif decide ((ob:Int)<(b.Slots.length:Int))then((Ff b n0) (CB++[AX.mk (b.Slots.getD ob.toNat default).Id (Z8m b ob)]) (ob+1))else CB
def BP(b:AC):(List AX):=Ff b (((b.Slots.length:Int)-0).toNat+1) ([]:List AX) 0
abbrev X7(b:AC)(v:Nat->Value)(xs:List AX):AS:=⟨BJ,[(3003,.cells (C6 v [.val (v 8),.val (v 9),.own 3108 4 xs.length,.val (v 11),.val (v 12),.val (v 13),.val (v 14)]) 41),(A1 b),C7,(3108,.row 4 xs.length (AL AX.c xs) 112)]⟩
abbrev Lw:List (Nat×Tv):=(Bi [(11,tI 0)])
abbrev oS(v:Nat→Value):Nat×Blk:=(3003,.cells (C5 v [.val (v 8),.val (v 9),vN,.val (v 11),.val (v 12),.val (v 13),.val (v 14)]) 41)
set_option maxHeartbeats 4000000 in
theorem Ob(b:AC)(hc:Ct b){c:Code}(hpc:Tryz.f46.body.bind (HI [true,true,true,true,true,true,false,true])=some c):Q4 Tryz.prog 229 [3003,3001,3002] c (fun _:Unit=>True) (fun v=>⟨[(1,tP 3001 0),(2,tP 3002 0),(3,tP 3003 0),(11,tI 0)],[(3003,.cells [.val (v 0),.val (v 1),.val (v 2),.val (v 3),.val (v 4),.val (v 5),.val (v 6),.val (v 7),.val (v 8),.val (v 9),vN,.val (v 11),.val (v 12),.val (v 13),.val (v 14)] 41),(3001,.cells (AC.c b) 41),(3002,.cells [.i 0,.i 0,vN,.i 0,vN,vN,vN,vN,vN,vN,vN,vN,vN,vN,vN] 41)]⟩) (fun v _=>X7 b v (BP b)):=by
 cases hpc;intro W0 M0 X v hP hFl;show AWp _ _ _ _ _ _ _ _ ⟨Lw,[(oS v),(A1 b),C7]⟩;have ⟨p0,p1,p2,p3,p4,p5,p6,p7,p8,p9,p10,_,_,_,_,_,_,_,_,_⟩:=hc;have hr:=hc.rok;refine AJ<|AZ (Cv.trans (CK [1,2,3,11] [3001,3002,3003] (⟨Lw,[(A1 b),(3002,Z8j),(oS v)]⟩) kr) (Cv.trans (Gw (⟨Lw,[(2000,.row 4 0 m8 112),(A1 b),(3002,Z8j),(3003,.cells (C5 v [.val (v 8),.val (v 9),.own 2000 4 0,.val (v 11),.val (v 12),.val (v 13),.val (v 14)]) 41)]⟩) 2000 4 m8 112 [] [(3003,[10])] (K:=[3003,3001,3002]) hP rfl kr kr) (GJ (⟨Lw,[(2000,.row 4 ([]:List AX).length (AL AX.c ([]:List AX)) 112),(A1 b),(3002,Z8j),(3003,.cells (C5 v [.val (v 8),.val (v 9),.own 2000 4 ([]:List AX).length,.val (v 11),.val (v 12),.val (v 13),.val (v 14)]) 41)]⟩) 2000 (Bh 4 m8 AX.c)))) ?_;refine lpC (κ:=List AX×Int) (fun x=>⟨(Bi [(11,tI x.2.2)]),[(2000,.row 4 x.2.1.length (AL AX.c x.2.1) 112),(A1 b),(3002,Z8j),(3003,.cells (C5 v [.val (v 8),.val (v 9),.own 2000 4 x.2.1.length,.val (v 11),.val (v 12),.val (v 13),.val (v 14)]) 41)]⟩) (fun x=>((b.Slots.length:Int)-x.2.2).toNat) (fun x=>(0<=x.2.2/\(x.2.2<=(b.Slots.length:Int)\/x.2.2=0)/\(x.2.1.length:Int)<=0+1*(x.2.2-0))/\Ff b x.1 x.2.1 x.2.2=BP b) ?_ (((b.Slots.length:Int)-0).toNat+1,([]:List AX),0) ⟨lz _,⟨ax0,ax0,ax0⟩,(by simp only[BP,mi,mj])⟩;rintro n0 ⟨CB,ob⟩ nq ⟨nm,ng⟩
 try dsimp only at nq nm ng
 refine AA<|AA<|on<|kb (decide ((ob:Int)<(b.Slots.length:Int))) (fun h1=>?_) (fun h1=>?_)
 ·have g1:=oT h1;refine AP<|AE<|AA<|AJ<|AA<|oc [] [0<=(ob:Int)/\(ob:Int)<(b.Slots.length:Int)] .nil (H1 au0)<|AE<|AA<|oo _ [none] (J1 144 (EX (m7 b.Slots ob).Shape au34)) .nil<|AE<|oc [] [CB.length=CB.length,CB.length+1<=maxLen,(CB.length+1)*48<=140737488355328] .nil (H3 rfl au4 au4)<|Ao<|AE<|AZ (Ag 150 (Ac (AU 4 AX.c CB) (Ai 4 AX.c ((Pc b ob):List AX))))<|rg ⟨(Bi [(11,tI (W64 (ob+1)))]),[(150,Z8n CB b ob),(A1 b),(3002,Z8j),(3003,.cells (C6 v [.val (v 8),.val (v 9),.own 150 4 (CB++(Pc b ob)).length,.val (v 11),.val (v 12),.val (v 13),.val (v 14)]) 41)]⟩ ?_
  (try rw[(show W64 (ob+1)=ob+1 from Ae mz au5)])
  refine AE ?_;refine⟨(n0,CB++(Pc b ob),ob+1),⟨?_,?_,(by rw[<- ng];simp only[Ff,h1,mi,mj])⟩,lz _,Cv.trans (CR (⟨(Bi [(11,tI (ob+1))]),[(2000,Z8n CB b ob),(A1 b),(3002,Z8j),(3003,.cells (C5 v [.val (v 8),.val (v 9),.own 2000 4 (CB++(Pc b ob)).length,.val (v 11),.val (v 12),.val (v 13),.val (v 14)]) 41)]⟩) 150 2000 (K:=[3003,3001,3002]) hP rfl rfl kr kr) (Az kr)⟩
  ·dsimp only;omega
  exact⟨ax0,ax0,ax0⟩
 have g1:=oF h1;refine Aw<|Aj<|Aj<|Ay ?_;exact⟨_,Cv.trans (CK [1,2,3] [2000,3001,3002,3003] (⟨BJ,[(2000,Z8k CB),(A1 b),(3002,Z8j),(3003,Z8l v CB)]⟩) kr) (Cv.trans (CR (⟨BJ,[(3108,Z8k CB),(A1 b),(3002,Z8j),(3003,Z8p v CB)]⟩) 2000 3108 (K:=[3003,3001,3002]) hP rfl rfl kr kr) (CK [1,2,3] [3003,3001,3002,3108] (⟨BJ,[(3003,Z8p v CB),(A1 b),(3002,Z8j),(3108,Z8k CB)]⟩) kr)),rfl,(),trivial,congrArg (X7 b v) (show CB=_ from(by rw[<- ng];first|(simp only[Ff,h1,mi,mj]<;>rfl)))⟩
def Z8q:Blk:=.cells IA 41
def Z8r:Blk:=.row 2 CA.length (AL BG.c CA) 138
abbrev Hz(t_:List Cl):List Cl:=(.val (v 8))::(.val (v 9))::(.val (v 10))::t_
def Z8s:Blk:=.cells (C6 v (Hz v [.own 2000 2 CA.length,.val (v 12),.val (v 13),.val (v 14)])) 41
def Z8t(CA:List BG)(b:AC)(nb:Int):Blk:=.row 2 (CA++[b.Classes.getD nb.toNat default]).length (AL BG.c (CA++[b.Classes.getD nb.toNat default])) 138
def Z8v:Blk:=.cells (C6 v (Hz v [.own 3110 2 CA.length,.val (v 12),.val (v 13),.val (v 14)])) 41
def FK(b:AC):Nat->List BG->Int->(List BG)
 |0,_,_=>default
 |n0+1,CA,nb=>bif decide ((nb:Int)<(b.Classes.length:Int))then((FK b n0) (CA++[b.Classes.getD nb.toNat default]) (nb+1))else CA
def A0(b:AC):(List BG):=FK b (((b.Classes.length:Int)-0).toNat+1) ([]:List BG) 0
abbrev Sd(b:AC)(v:Nat->Value)(xs:List BG):AS:=⟨BJ,[(3003,.cells (C6 v (Hz v [.own 3110 2 xs.length,.val (v 12),.val (v 13),.val (v 14)])) 41),(A1 b),C7,(3110,.row 2 xs.length (AL BG.c xs) 138)]⟩
abbrev Lu:List (Nat×Tv):=(Bi [(13,tI 0)])
abbrev F3(v:Nat→Value)(t_:List Cl):List Cl:=(.val (v 8))::(.val (v 9))::(.val (v 10))::t_
abbrev oU(v:Nat→Value):Nat×Blk:=(3003,.cells (C5 v (F3 v [vN,.val (v 12),.val (v 13),.val (v 14)])) 41)
set_option maxHeartbeats 4000000 in
theorem Kx(b:AC)(hc:Ct b){c:Code}(hpc:Tryz.f46.body.bind (HI [true,true,true,true,true,true,true,false,true])=some c):Q4 Tryz.prog 229 [3003,3001,3002] c (fun _:Unit=>True) (fun v=>⟨[(1,tP 3001 0),(2,tP 3002 0),(3,tP 3003 0),(13,tI 0)],[(3003,.cells [.val (v 0),.val (v 1),.val (v 2),.val (v 3),.val (v 4),.val (v 5),.val (v 6),.val (v 7),.val (v 8),.val (v 9),.val (v 10),vN,.val (v 12),.val (v 13),.val (v 14)] 41),(3001,.cells (AC.c b) 41),(3002,.cells [.i 0,.i 0,vN,.i 0,vN,vN,vN,vN,vN,vN,vN,vN,vN,vN,vN] 41)]⟩) (fun v _=>Sd b v (A0 b)):=by
 cases hpc;intro W0 M0 X v hP hFl;show AWp _ _ _ _ _ _ _ _ ⟨Lu,[(oU v),(A1 b),C7]⟩;have ⟨p0,p1,p2,p3,p4,p5,p6,p7,p8,p9,p10,_,_,_,_,_,_,_,_,_⟩:=hc;have hr:=hc.rok;refine AJ<|AZ (Cv.trans (CK [1,2,3,13] [3001,3002,3003] (⟨Lu,[(A1 b),(3002,Z8q),(oU v)]⟩) kr) (Cv.trans (Gw (⟨Lu,[(2000,.row 2 0 m8 138),(A1 b),(3002,Z8q),(3003,.cells (C5 v (F3 v [.own 2000 2 0,.val (v 12),.val (v 13),.val (v 14)])) 41)]⟩) 2000 2 m8 138 [] [(3003,[11])] (K:=[3003,3001,3002]) hP rfl kr kr) (GJ (⟨Lu,[(2000,.row 2 ([]:List BG).length (AL BG.c ([]:List BG)) 138),(A1 b),(3002,Z8q),(3003,.cells (C5 v (F3 v [.own 2000 2 ([]:List BG).length,.val (v 12),.val (v 13),.val (v 14)])) 41)]⟩) 2000 (Bh 2 m8 BG.c))))<|lpC (κ:=List BG×Int) (fun x=>⟨(Bi [(13,tI x.2.2)]),[(2000,.row 2 x.2.1.length (AL BG.c x.2.1) 138),(A1 b),(3002,Z8q),(3003,.cells (C5 v (F3 v [.own 2000 2 x.2.1.length,.val (v 12),.val (v 13),.val (v 14)])) 41)]⟩) (fun x=>((b.Classes.length:Int)-x.2.2).toNat) (fun x=>(0<=x.2.2/\(x.2.2<=(b.Classes.length:Int)\/x.2.2=0)/\(x.2.1.length:Int)<=0+1*(x.2.2-0))/\FK b x.1 x.2.1 x.2.2=A0 b) ?_ (((b.Classes.length:Int)-0).toNat+1,([]:List BG),0) ⟨lz _,⟨ax0,ax0,ax0⟩,(by simp only[A0,mi,mj])⟩;rintro n0 ⟨CA,nb⟩ nq ⟨nm,ng⟩
 try dsimp only at nq nm ng
 have hb:=hc.cnt nb.toNat;refine AA<|AA<|on<|kb (decide ((nb:Int)<(b.Classes.length:Int))) (fun h1=>?_) (fun h1=>?_)
 ·have g1:=oT h1;refine AP<|AE<|AA<|AJ<|od [1000167] [] [0<=(nb:Int)/\(nb:Int)<(b.Classes.length:Int),0<=(nb:Int)/\(nb:Int)<(b.Classes.length:Int),(b.Classes.getD nb.toNat default).Nets.length<=maxLen,(b.Classes.getD nb.toNat default).Nets.length*16<=140737488355328,CA.length=CA.length,CA.length+1<=maxLen,(CA.length+1)*40<=140737488355328] .nil (H7 au0 au0 au4 au4 rfl au4 au4)<|Ao<|AE<|AZ (Ag 177 (Ac (AU 2 BG.c CA) (Ai 2 BG.c ([b.Classes.getD nb.toNat default]:List BG))))<|rg ⟨(Bi [(13,tI (W64 (nb+1)))]),[(177,Z8t CA b nb),(A1 b),(3002,Z8q),(3003,.cells (C6 v (Hz v [.own 177 2 (CA++[b.Classes.getD nb.toNat default]).length,.val (v 12),.val (v 13),.val (v 14)])) 41)]⟩ ?_
  (try rw[(show W64 (nb+1)=nb+1 from Ae mz au5)])
  refine AE ?_;refine⟨(n0,CA++[b.Classes.getD nb.toNat default],nb+1),⟨?_,?_,(by rw[<- ng];simp only[FK,h1,mi,mj])⟩,lz _,Cv.trans (CR (⟨(Bi [(13,tI (nb+1))]),[(2000,Z8t CA b nb),(A1 b),(3002,Z8q),(3003,.cells (C5 v (F3 v [.own 2000 2 (CA++[b.Classes.getD nb.toNat default]).length,.val (v 12),.val (v 13),.val (v 14)])) 41)]⟩) 177 2000 (K:=[3003,3001,3002]) hP rfl rfl kr kr) (Az kr)⟩
  ·dsimp only;omega
  exact⟨ax0,ax0,ax0⟩
 have g1:=oF h1;refine Aw<|Aj<|Aj<|Ay ?_;exact⟨_,Cv.trans (CK [1,2,3] [2000,3001,3002,3003] (⟨BJ,[(2000,Z8r CA),(A1 b),(3002,Z8q),(3003,Z8s v CA)]⟩) kr) (Cv.trans (CR (⟨BJ,[(3110,Z8r CA),(A1 b),(3002,Z8q),(3003,Z8v v CA)]⟩) 2000 3110 (K:=[3003,3001,3002]) hP rfl rfl kr kr) (CK [1,2,3] [3003,3001,3002,3110] (⟨BJ,[(3003,Z8v v CA),(A1 b),(3002,Z8q),(3110,Z8r CA)]⟩) kr)),rfl,(),trivial,congrArg (Sd b v) (show CA=_ from(by rw[<- ng];first|(simp only[FK,h1,mi,mj]<;>rfl)))⟩
def Z8w:Blk:=.cells IA 41
def Z8x:Blk:=.row 3 B1.length (AL BI.c B1) 140
def Z8y:Blk:=.cells (C6 v (Hz v [.val (v 11),.val (v 12),.val (v 13),.own 2000 3 B1.length])) 41
def Z8z(B1:List BI)(b:AC)(o7:Int):Blk:=.row 3 (B1++[b.Matches.getD o7.toNat default]).length (AL BI.c (B1++[b.Matches.getD o7.toNat default])) 140
def Z8B:Blk:=.cells (C6 v (Hz v [.val (v 11),.val (v 12),.val (v 13),.own 3112 3 B1.length])) 41
def FJ(b:AC):Nat->List BI->Int->(List BI)
 |0,_,_=>default
 |n0+1,B1,o7=>bif decide ((o7:Int)<(b.Matches.length:Int))then((FJ b n0) (B1++[b.Matches.getD o7.toNat default]) (o7+1))else B1
def Ar(b:AC):(List BI):=FJ b (((b.Matches.length:Int)-0).toNat+1) ([]:List BI) 0
abbrev Sc(b:AC)(v:Nat->Value)(xs:List BI):AS:=⟨BJ,[(3003,.cells (C6 v (Hz v [.val (v 11),.val (v 12),.val (v 13),.own 3112 3 xs.length])) 41),(A1 b),C7,(3112,.row 3 xs.length (AL BI.c xs) 140)]⟩
abbrev Ls:List (Nat×Tv):=(Bi [(14,tI 0)])
abbrev PC(v:Nat→Value)(t_:List Cl):List Cl:=(.val (v 11))::(.val (v 12))::(.val (v 13))::t_
set_option maxHeartbeats 4000000 in
theorem Kw(b:AC)(hc:Ct b){c:Code}(hpc:Tryz.f46.body.bind (HI [true,true,true,true,true,true,true,true,false,true])=some c):Q4 Tryz.prog 229 [3003,3001,3002] c (fun _:Unit=>True) (fun v=>⟨[(1,tP 3001 0),(2,tP 3002 0),(3,tP 3003 0),(14,tI 0)],[(3003,.cells [.val (v 0),.val (v 1),.val (v 2),.val (v 3),.val (v 4),.val (v 5),.val (v 6),.val (v 7),.val (v 8),.val (v 9),.val (v 10),.val (v 11),.val (v 12),.val (v 13),vN] 41),(3001,.cells (AC.c b) 41),(3002,.cells [.i 0,.i 0,vN,.i 0,vN,vN,vN,vN,vN,vN,vN,vN,vN,vN,vN] 41)]⟩) (fun v _=>Sc b v (Ar b)):=by
 cases hpc;intro W0 M0 X v hP hFl;show AWp _ _ _ _ _ _ _ _ ⟨Ls,[((3003,.cells (C5 v (F3 v (PC v [vN]))) 41)),(A1 b),C7]⟩;have ⟨p0,p1,p2,p3,p4,p5,p6,p7,p8,p9,p10,_,_,_,_,_,_,_,_,_⟩:=hc;have hr:=hc.rok;refine AJ<|AZ (Cv.trans (CK [1,2,3,14] [3001,3002,3003] (⟨Ls,[(A1 b),(3002,Z8w),((3003,.cells (C5 v (F3 v (PC v [vN]))) 41))]⟩) kr) (Cv.trans (Gw (⟨Ls,[(2000,.row 3 0 m8 140),(A1 b),(3002,Z8w),(3003,.cells (C5 v (F3 v (PC v [.own 2000 3 0]))) 41)]⟩) 2000 3 m8 140 [] [(3003,[14])] (K:=[3003,3001,3002]) hP rfl kr kr) (GJ (⟨Ls,[(2000,.row 3 ([]:List BI).length (AL BI.c ([]:List BI)) 140),(A1 b),(3002,Z8w),(3003,.cells (C5 v (F3 v (PC v [.own 2000 3 ([]:List BI).length]))) 41)]⟩) 2000 (Bh 3 m8 BI.c))))<|lpC (κ:=List BI×Int) (fun x=>⟨(Bi [(14,tI x.2.2)]),[(2000,.row 3 x.2.1.length (AL BI.c x.2.1) 140),(A1 b),(3002,Z8w),(3003,.cells (C5 v (F3 v (PC v [.own 2000 3 x.2.1.length]))) 41)]⟩) (fun x=>((b.Matches.length:Int)-x.2.2).toNat) (fun x=>(0<=x.2.2/\(x.2.2<=(b.Matches.length:Int)\/x.2.2=0)/\(x.2.1.length:Int)<=0+1*(x.2.2-0))/\FJ b x.1 x.2.1 x.2.2=Ar b) ?_ (((b.Matches.length:Int)-0).toNat+1,([]:List BI),0) ⟨lz _,⟨ax0,ax0,ax0⟩,(by simp only[Ar,mi,mj])⟩;rintro n0 ⟨B1,o7⟩ nq ⟨nm,ng⟩
 try dsimp only at nq nm ng
 have hb:=hc.mnt o7.toNat;refine AA<|AA<|on<|kb (decide ((o7:Int)<(b.Matches.length:Int))) (fun h1=>?_) (fun h1=>?_)
 ·have g1:=oT h1;refine AP<|AE<|AA<|AJ<|AA<|rc [] [0<=(o7:Int)/\(o7:Int)<(b.Matches.length:Int)] ⟨(Bi [(14,tI o7),(15,tP 15 0)]),[(15,.cells (BI.c (b.Matches.getD o7.toNat default)) 140),(2000,Z8x B1),(A1 b),(3002,Z8w),(3003,Z8y v B1)]⟩ .nil (H1 au0)<|AE<|AA<|DE C8 [1000191] [] [] [1,2,3,14,15] [15,2000,3001,3002,3003] [(b.Matches.getD o7.toNat default).Nets.length<=maxLen,(b.Matches.getD o7.toNat default).Nets.length*16<=140737488355328] ⟨(Bi [(14,tI o7),(15,tP 15 0)]),[(15,.cells (BI.c (b.Matches.getD o7.toNat default)) 140),(2000,Z8x B1),(A1 b),(3002,Z8w),(3003,Z8y v B1)]⟩ .nil kr (.cons au4 (.cons au4 .nil))<|AE<|oc [] [B1.length=B1.length,B1.length+1<=maxLen,(B1.length+1)*48<=140737488355328] .nil (H3 rfl au4 au4)<|Ao<|AE<|AZ (Ag 200 (Ac (AU 3 BI.c B1) (Ai 3 BI.c ([b.Matches.getD o7.toNat default]:List BI))))<|rg ⟨(Bi [(14,tI (W64 (o7+1)))]),[(200,Z8z B1 b o7),(A1 b),(3002,Z8w),(3003,.cells (C6 v (Hz v [.val (v 11),.val (v 12),.val (v 13),.own 200 3 (B1++[b.Matches.getD o7.toNat default]).length])) 41)]⟩ ?_
  (try rw[(show W64 (o7+1)=o7+1 from Ae mz au5)])
  refine AE ?_;refine⟨(n0,B1++[b.Matches.getD o7.toNat default],o7+1),⟨?_,?_,(by rw[<- ng];simp only[FJ,h1,mi,mj])⟩,lz _,Cv.trans (CR (⟨(Bi [(14,tI (o7+1))]),[(2000,Z8z B1 b o7),(A1 b),(3002,Z8w),(3003,.cells (C5 v (F3 v (PC v [.own 2000 3 (B1++[b.Matches.getD o7.toNat default]).length]))) 41)]⟩) 200 2000 (K:=[3003,3001,3002]) hP rfl rfl kr kr) (Az kr)⟩
  ·dsimp only;omega
  exact⟨ax0,ax0,ax0⟩
 have g1:=oF h1;refine Aw<|Aj<|Aj<|Ay ?_;exact⟨_,Cv.trans (CK [1,2,3] [2000,3001,3002,3003] (⟨BJ,[(2000,Z8x B1),(A1 b),(3002,Z8w),(3003,Z8y v B1)]⟩) kr) (Cv.trans (CR (⟨BJ,[(3112,Z8x B1),(A1 b),(3002,Z8w),(3003,Z8B v B1)]⟩) 2000 3112 (K:=[3003,3001,3002]) hP rfl rfl kr kr) (CK [1,2,3] [3003,3001,3002,3112] (⟨BJ,[(3003,Z8B v B1),(A1 b),(3002,Z8w),(3112,Z8x B1)]⟩) kr)),rfl,(),trivial,congrArg (Sc b v) (show B1=_ from(by rw[<- ng];first|(simp only[FJ,h1,mi,mj]<;>rfl)))⟩
def Z8C:Blk:=.cells IA 41
def Z8D:Blk:=.row 20 B9.length (AL A5.c B9) 147
def Z8E:Blk:=.cells (C6 v (Hz v [.val (v 11),.own 2000 20 B9.length,.val (v 13),.val (v 14)])) 41
def Z8F:Bu:=Mt (b.Rules.getD nr.toNat default).A
def Z8G:Bu:=Mt (b.Rules.getD nr.toNat default).B
abbrev PR:=b.Rules.getD nr.toNat default
abbrev UL:=[A5.mk (PR b nr).Name (PR b nr).Priority (PR b nr).What (Z8F b nr) (Z8G b nr) (PR b nr).Value]
def Z8H(B9:List A5)(b:AC)(nr:Int):Blk:=.row 20 (B9++(UL b nr)).length (AL A5.c (B9++(UL b nr))) 147
def Z8J:Blk:=.cells (C6 v (Hz v [.val (v 11),.own 3114 20 B9.length,.val (v 13),.val (v 14)])) 41
def Gh(b:AC):Nat->List A5->Int->(List A5)
 |0,_,_=>default
 |n0+1,B9,nr=>bif decide ((nr:Int)<(b.Rules.length:Int))then((Gh b n0) (B9++[A5.mk (b.Rules.getD nr.toNat default).Name (b.Rules.getD nr.toNat default).Priority (b.Rules.getD nr.toNat default).What (Z8F b nr) (Z8G b nr) (b.Rules.getD nr.toNat default).Value]) (nr+1))else B9
def A2(b:AC):(List A5):=Gh b (((b.Rules.length:Int)-0).toNat+1) ([]:List A5) 0
abbrev X8(b:AC)(v:Nat->Value)(xs:List A5):AS:=⟨BJ,[(3003,.cells (C6 v (Hz v [.val (v 11),.own 3114 20 xs.length,.val (v 13),.val (v 14)])) 41),(A1 b),C7,(3114,.row 20 xs.length (AL A5.c xs) 147)]⟩
abbrev Lr:List (Nat×Tv):=(Bi [(16,tI 0)])
abbrev oV(v:Nat→Value):Nat×Blk:=(3003,.cells (C5 v (F3 v [.val (v 11),vN,.val (v 13),.val (v 14)])) 41)
set_option maxHeartbeats 4000000 in
theorem Oc(b:AC)(hc:Ct b){c:Code}(hpc:Tryz.f46.body.bind (HI [true,true,true,true,true,true,true,true,true,false,true])=some c):Q4 Tryz.prog 229 [3003,3001,3002] c (fun _:Unit=>True) (fun v=>⟨[(1,tP 3001 0),(2,tP 3002 0),(3,tP 3003 0),(16,tI 0)],[(3003,.cells [.val (v 0),.val (v 1),.val (v 2),.val (v 3),.val (v 4),.val (v 5),.val (v 6),.val (v 7),.val (v 8),.val (v 9),.val (v 10),.val (v 11),vN,.val (v 13),.val (v 14)] 41),(3001,.cells (AC.c b) 41),(3002,.cells [.i 0,.i 0,vN,.i 0,vN,vN,vN,vN,vN,vN,vN,vN,vN,vN,vN] 41)]⟩) (fun v _=>X8 b v (A2 b)):=by
 cases hpc;intro W0 M0 X v hP hFl;show AWp _ _ _ _ _ _ _ _ ⟨Lr,[(oV v),(A1 b),C7]⟩;have ⟨p0,p1,p2,p3,p4,p5,p6,p7,p8,p9,p10,_,_,_,_,_,_,_,_,_⟩:=hc;have hr:=hc.rok;refine AJ<|AZ (Cv.trans (CK [1,2,3,16] [3001,3002,3003] (⟨Lr,[(A1 b),(3002,Z8C),(oV v)]⟩) kr) (Cv.trans (Gw (⟨Lr,[(2000,.row 20 0 m8 147),(A1 b),(3002,Z8C),(3003,.cells (C5 v (F3 v [.val (v 11),.own 2000 20 0,.val (v 13),.val (v 14)])) 41)]⟩) 2000 20 m8 147 [] [(3003,[12])] (K:=[3003,3001,3002]) hP rfl kr kr) (GJ (⟨Lr,[(2000,.row 20 ([]:List A5).length (AL A5.c ([]:List A5)) 147),(A1 b),(3002,Z8C),(3003,.cells (C5 v (F3 v [.val (v 11),.own 2000 20 ([]:List A5).length,.val (v 13),.val (v 14)])) 41)]⟩) 2000 (Bh 20 m8 A5.c))))<|lpC (κ:=List A5×Int) (fun x=>⟨(Bi [(16,tI x.2.2)]),[(2000,.row 20 x.2.1.length (AL A5.c x.2.1) 147),(A1 b),(3002,Z8C),(3003,.cells (C5 v (F3 v [.val (v 11),.own 2000 20 x.2.1.length,.val (v 13),.val (v 14)])) 41)]⟩) (fun x=>((b.Rules.length:Int)-x.2.2).toNat) (fun x=>(0<=x.2.2/\(x.2.2<=(b.Rules.length:Int)\/x.2.2=0)/\(x.2.1.length:Int)<=0+1*(x.2.2-0))/\Gh b x.1 x.2.1 x.2.2=A2 b) ?_ (((b.Rules.length:Int)-0).toNat+1,([]:List A5),0) ⟨lz _,⟨ax0,ax0,ax0⟩,(by simp only[A2,mi,mj])⟩;rintro n0 ⟨B9,nr⟩ nq ⟨nm,ng⟩
 try dsimp only at nq nm ng
 refine AA<|AA<|on<|kb (decide ((nr:Int)<(b.Rules.length:Int))) (fun h1=>?_) (fun h1=>?_)
 ·have g1:=oT h1;refine AP<|AE<|AA<|AJ<|AA<|oc [] [0<=(nr:Int)/\(nr:Int)<(b.Rules.length:Int)] .nil (H1 au0)<|AE<|AA<|oo _ [none] (J1 216 (Sw (PR b nr).A (by first|exact(OM hr _).1|exact(OM hr _).2))) .nil<|AE<|AA<|oo _ [none] (J1 220 (Sw (PR b nr).B (by first|exact(OM hr _).1|exact(OM hr _).2))) .nil<|AE<|oc [] [B9.length=B9.length,B9.length+1<=maxLen,(B9.length+1)*216<=140737488355328] .nil (H3 rfl au4 au4)<|Ao<|AE<|AZ (Ag 226 (Ac (AU 20 A5.c B9) (Ai 20 A5.c ((UL b nr):List A5))))<|rg ⟨(Bi [(16,tI (W64 (nr+1)))]),[(226,Z8H B9 b nr),(A1 b),(3002,Z8C),(3003,.cells (C6 v (Hz v [.val (v 11),.own 226 20 (B9++(UL b nr)).length,.val (v 13),.val (v 14)])) 41)]⟩ ?_
  (try rw[(show W64 (nr+1)=nr+1 from Ae mz au5)])
  refine AE ?_;refine⟨(n0,B9++(UL b nr),nr+1),⟨?_,?_,(by rw[<- ng];simp only[Gh,h1,mi,mj])⟩,lz _,Cv.trans (CR (⟨(Bi [(16,tI (nr+1))]),[(2000,Z8H B9 b nr),(A1 b),(3002,Z8C),(3003,.cells (C5 v (F3 v [.val (v 11),.own 2000 20 (B9++(UL b nr)).length,.val (v 13),.val (v 14)])) 41)]⟩) 226 2000 (K:=[3003,3001,3002]) hP rfl rfl kr kr) (Az kr)⟩
  ·dsimp only;omega
  exact⟨ax0,ax0,ax0⟩
 have g1:=oF h1;refine Aw<|Aj<|Aj<|Ay ?_;exact⟨_,Cv.trans (CK [1,2,3] [2000,3001,3002,3003] (⟨BJ,[(2000,Z8D B9),(A1 b),(3002,Z8C),(3003,Z8E v B9)]⟩) kr) (Cv.trans (CR (⟨BJ,[(3114,Z8D B9),(A1 b),(3002,Z8C),(3003,Z8J v B9)]⟩) 2000 3114 (K:=[3003,3001,3002]) hP rfl rfl kr kr) (CK [1,2,3] [3003,3001,3002,3114] (⟨BJ,[(3003,Z8J v B9),(A1 b),(3002,Z8C),(3114,Z8D B9)]⟩) kr)),rfl,(),trivial,congrArg (X8 b v) (show B9=_ from(by rw[<- ng];first|(simp only[Gh,h1,mi,mj]<;>rfl)))⟩
end
section
open Go.RowKit
def Z8K:Blk:=.cells IA 41
variable (b:AC)
abbrev LI:=E3 b.Outline
abbrev LV(t_:List Cl):List Cl:=(.i b.Layers)::(.i (LI b).Kind)::(lst 7 AK.c (LI b).Edges)::(.i (LI b).R)::(.own 26 7 b.Parts.length)::t_
abbrev Jm:List Cl:=(LV b [vN,vN,.own 30 8 b.Vias.length,vN,vN,vN,vN,vN,.own 34 3 b.Waivers.length,vN])
def Z8L:Blk:=.cells (Jm b) 41
def Z8M:Blk:=.row 7 b.Parts.length (IC b) 78
abbrev JY:=AL Ak.c b.Vias
def Z8N:Blk:=.row 8 b.Vias.length (JY b) 133
abbrev Jc:=AL As.c b.Waivers
def Z8O:Blk:=.row 3 b.Waivers.length (Jc b) 142
abbrev Nh:List Cl:=(LV b [.own 3100 2 (A4 b).length,vN,.own 30 8 b.Vias.length,vN,vN,vN,vN,vN,.own 34 3 b.Waivers.length,vN])
def Z8P:Blk:=.cells (Nh b) 41
abbrev Ja:=AL A7.c (A4 b)
def Z8Q:Blk:=.row 2 (A4 b).length (Ja b) 120
abbrev PB:Cl:=.own 3102 6 (AR b).length
abbrev DN(t_:List Cl):List Cl:=(.i b.Layers)::(.i (LI b).Kind)::(lst 7 AK.c (LI b).Edges)::(.i (LI b).R)::(.own 26 7 b.Parts.length)::(.own 3100 2 (A4 b).length)::(PB b)::(.own 30 8 b.Vias.length)::t_
abbrev Pi:List Cl:=(DN b [vN,vN,vN,vN,vN,.own 34 3 b.Waivers.length,vN])
def Z8R:Blk:=.cells (Pi b) 41
abbrev KW:=AL AM.c (AR b)
def Z8S:Blk:=.row 6 (AR b).length (KW b) 131
abbrev mC:List Cl:=[.own 3104 8 (BQ b).length,vN,vN,vN,vN,.own 34 3 b.Waivers.length,vN]
def Z8T:Blk:=.cells ((DN b (mC b))) 41
abbrev Lb:=AL A8.c (BQ b)
def Z8U:Blk:=.row 8 (BQ b).length (Lb b) 97
abbrev mD:List Cl:=[.own 3104 8 (BQ b).length,.own 3106 5 (BK b).length,vN,vN,vN,.own 34 3 b.Waivers.length,vN]
def Z8V:Blk:=.cells ((DN b (mD b))) 41
abbrev KZ:=AL BA.c (BK b)
def Z8W:Blk:=.row 5 (BK b).length (KZ b) 136
abbrev NG:Cl:=.own 3106 5 (BK b).length
abbrev NF:Cl:=.own 3108 4 (BP b).length
abbrev H0(t_:List Cl):List Cl:=(.own 3104 8 (BQ b).length)::(NG b)::(NF b)::t_
abbrev Vb:List Cl:=[vN,vN,.own 34 3 b.Waivers.length,vN]
def Z8X:Blk:=.cells ((DN b (H0 b (Vb b)))) 41
abbrev KX:=AL AX.c (BP b)
def Z8Y:Blk:=.row 4 (BP b).length (KX b) 112
abbrev PA:Cl:=.own 3110 2 (A0 b).length
abbrev JT(t_:List Cl):List Cl:=(PA b)::vN::(.own 34 3 b.Waivers.length)::t_
abbrev aP:List Cl:=(DN b (H0 b (JT b [vN])))
def Z8Z:Blk:=.cells (aP b) 41
abbrev Je:=AL BG.c (A0 b)
def Z90:Blk:=.row 2 (A0 b).length (Je b) 138
abbrev KO:List Cl:=[.own 3112 3 (Ar b).length]
abbrev aS:List Cl:=(DN b (H0 b (JT b (KO b))))
def Z91:Blk:=.cells (aS b) 41
abbrev Jd:=AL BI.c (Ar b)
def Z92:Blk:=.row 3 (Ar b).length (Jd b) 140
abbrev PD(t_:List Cl):List Cl:=(PA b)::(.own 3114 20 (A2 b).length)::(.own 34 3 b.Waivers.length)::t_
abbrev Ki:List Cl:=(DN b (H0 b (PD b (KO b))))
def Z93:Blk:=.cells (Ki b) 41
abbrev KY:=AL A5.c (A2 b)
def Z94:Blk:=.row 20 (A2 b).length (KY b) 147
def vCpA(b:AC):Tv:=.av (.agg (Ki b))
def hCpA(b:AC):List (Nat×Blk):=[(26,.row 7 b.Parts.length (AL AD.c b.Parts) 78),(3100,.row 2 (A4 b).length (AL A7.c (A4 b)) 120),(3102,.row 6 (AR b).length (AL AM.c (AR b)) 131),(30,.row 8 b.Vias.length (AL Ak.c b.Vias) 133),(3104,.row 8 (BQ b).length (AL A8.c (BQ b)) 97),(3106,.row 5 (BK b).length (AL BA.c (BK b)) 136),(3108,.row 4 (BP b).length (AL AX.c (BP b)) 112),(3110,.row 2 (A0 b).length (AL BG.c (A0 b)) 138),(3114,.row 20 (A2 b).length (AL A5.c (A2 b)) 147),(34,.row 3 b.Waivers.length (AL As.c b.Waivers) 142),(3112,.row 3 (Ar b).length (AL BI.c (Ar b)) 140)]
abbrev D2(t_:List (Nat×Tv)):List (Nat×Tv):=(1,tP 1 0)::(2,tP 2 0)::(3,tP 3 0)::t_
abbrev Pd:List (Nat×Tv):=(D2 [(4,tI 0)])
abbrev LZ(t_:List (Nat×Blk)):List (Nat×Blk):=(26,Z8M b)::(30,Z8N b)::(34,Z8O b)::(A1 b)::(3002,Z8K)::t_
abbrev oN:List (Nat×Blk):=(LZ b [(3003,Z91 b),(3100,Z8Q b),(3102,Z8S b),(3104,Z8U b),(3106,Z8W b),(3108,Z8Y b),(3110,Z90 b),(3112,Z92 b)])
abbrev WB:List (Nat×Blk):=[(A1 b),C7,(3114,.row 20 (A2 b).length (KY b) 147)]
abbrev WA:List (Nat×Blk):=[(A1 b),C7,(3102,.row 6 (AR b).length (KW b) 131)]
abbrev V9:List (Nat×Blk):=[(A1 b),C7,(3106,.row 5 (BK b).length (KZ b) 136)]
abbrev V8:List (Nat×Blk):=[(A1 b),C7,(3108,.row 4 (BP b).length (KX b) 112)]
abbrev V7:List (Nat×Blk):=[(A1 b),C7,(3110,.row 2 (A0 b).length (Je b) 138)]
abbrev V6:List (Nat×Blk):=[(A1 b),C7,(3112,.row 3 (Ar b).length (Jd b) 140)]
abbrev oC:List (Nat×Blk):=(LZ b [(3003,Z8Z b),(3100,Z8Q b),(3102,Z8S b),(3104,Z8U b),(3106,Z8W b),(3108,Z8Y b),(3110,Z90 b)])
abbrev nU:List (Nat×Blk):=(LZ b [(3003,Z8X b),(3100,Z8Q b),(3102,Z8S b),(3104,Z8U b),(3106,Z8W b),(3108,Z8Y b)])
abbrev nM:List (Nat×Blk):=(LZ b [(3003,Z8V b),(3100,Z8Q b),(3102,Z8S b),(3104,Z8U b),(3106,Z8W b)])
abbrev nF:List (Nat×Blk):=(LZ b [(3003,Z8T b),(3100,Z8Q b),(3102,Z8S b),(3104,Z8U b)])
abbrev mZ:List (Nat×Blk):=(LZ b [(3003,Z8R b),(3100,Z8Q b),(3102,Z8S b)])
abbrev Vp:Cl:=.own 3114 20 (A2 b).length
abbrev Zp:List (Nat×Blk):=[(A1 b),C7,(3100,.row 2 (A4 b).length (Ja b) 120)]
theorem au31{p:Prop}(h:p:=by first|(with_reducible exact hc.out)|with_reducible assumption|omega|decide|(simp only[j8,j9,d9];omega)|assumption):p:=h
set_option maxHeartbeats 4000000 in
theorem qCpA(b:AC)(hc:Ct b):Frs Tryz.prog 46 [.agg (AC.c b)] (fun _:Unit=>True) (fun _=>vCpA b) (fun _=>hCpA b):=by
 refine Mm Tryz.func46 rfl kr kr kr fun W0 M0 X hP hFl=>?_;have ⟨p0,p1,p2,p3,p4,p5,p6,p7,p8,p9,p10,_,_,_,_,_,_,_,_,_⟩:=hc;have hr:=hc.rok;refine AA<|on<|AA<|oe [23,27,31] _ [none,0=0,0+b.Parts.length<=maxLen,(0+b.Parts.length)*72<=140737488355328,0=0,0+b.Vias.length<=maxLen,(0+b.Vias.length)*72<=140737488355328,0=0,0+b.Waivers.length<=maxLen,(0+b.Waivers.length)*32<=140737488355328] (J1 22 (EX b.Outline au31)) (.cons rfl (.cons au4 (.cons au4 (.cons rfl (.cons au4 (.cons au4 (.cons rfl (.cons au4 (.cons au4 .nil)))))))))<|AE<|AZ (Cv.trans (Ag 26 (Ac (Ai 7 AD.c (([]:List AD):List AD)) (AU 7 AD.c b.Parts))) (Cv.trans (Ag 30 (Ac (Ai 8 Ak.c (([]:List Ak):List Ak)) (AU 8 Ak.c b.Vias))) (Ag 34 (Ac (Ai 3 As.c (([]:List As):List As)) (AU 3 As.c b.Waivers)))))<|AA<|AA<|rn ⟨Pd,[(1,.cells (AC.c b) 41),(2,Z8K),(3,Z8L b),(26,Z8M b),(30,Z8N b),(34,Z8O b)]⟩<|AZ (Cv.trans (vr 3 3003 (K:=[]) hP) (Cv.trans (vr 1 3001 (K:=[]) hP) (wr (⟨LT,[(A1 b),(3002,Z8K),(3003,Z8L b),(26,Z8M b),(30,Z8N b),(34,Z8O b)]⟩) 2 3002 (K:=[]) hP))) ?_;refine CL (ι:=Unit) (I:=fun _=>True) 3003 (Jm b) 41 (mkB 15 5) [1,2,3,4] [3001,3002] (fun _=>BJ) (fun _=>lEB 15 5 (.own 3100 2 (A4 b).length)) (fun _=>(Zp b)) (fun _=>⟨BJ,[(3003,Z8P b),(A1 b),(3002,Z8K),(3100,Z8Q b),(26,Z8M b),(30,Z8N b),(34,Z8O b)]⟩) hP hFl (XH b hc kr) (fun _ _=>?_)
 refine AE<|AZ (ck (⟨BJ,((LZ b [(3003,Z8P b),(3100,Z8Q b)]))⟩))<|AA<|AA<|rn ⟨Lq,((LZ b [(3003,Z8P b),(3100,Z8Q b)]))⟩<|CL (ι:=Unit) (I:=fun _=>True) 3003 (Nh b) 41 (mkB 15 6) [1,2,3,5] [3001,3002] (fun _=>BJ) (fun _=>lEB 15 6 (PB b)) (fun _=>(WA b)) (fun _=>⟨BJ,[(3003,Z8R b),(A1 b),(3002,Z8K),(3102,Z8S b),(26,Z8M b),(30,Z8N b),(34,Z8O b),(3100,Z8Q b)]⟩) hP hFl (Ml b hc kr) (fun _ _=>?_);refine AE<|AZ (ck (⟨BJ,(mZ b)⟩))<|AA<|AA<|rn ⟨Jo,(mZ b)⟩<|CL (ι:=Unit) (I:=fun _=>True) 3003 (Pi b) 41 (mkB 15 8) [1,2,3,7] [3001,3002] (fun _=>BJ) (fun _=>lEB 15 8 (.own 3104 8 (BQ b).length)) (fun _=>[(A1 b),C7,(3104,.row 8 (BQ b).length (Lb b) 97)]) (fun _=>⟨BJ,[(3003,Z8T b),(A1 b),(3002,Z8K),(3104,Z8U b),(26,Z8M b),(30,Z8N b),(34,Z8O b),(3100,Z8Q b),(3102,Z8S b)]⟩) hP hFl (ZF b hc kr) (fun _ _=>?_);refine AE<|AZ (ck (⟨BJ,(nF b)⟩))<|AA<|AA<|rn ⟨Lp,(nF b)⟩<|CL (ι:=Unit) (I:=fun _=>True) 3003 ((DN b (mC b))) 41 (mkB 15 9) [1,2,3,9] [3001,3002] (fun _=>BJ) (fun _=>lEB 15 9 (NG b)) (fun _=>(V9 b)) (fun _=>⟨BJ,[(3003,Z8V b),(A1 b),(3002,Z8K),(3106,Z8W b),(26,Z8M b),(30,Z8N b),(34,Z8O b),(3100,Z8Q b),(3102,Z8S b),(3104,Z8U b)]⟩) hP hFl (Od b hc kr) (fun _ _=>?_)
 refine AE<|AZ (ck (⟨BJ,(nM b)⟩))<|AA<|AA<|rn ⟨Lw,(nM b)⟩<|CL (ι:=Unit) (I:=fun _=>True) 3003 ((DN b (mD b))) 41 (mkB 15 10) [1,2,3,11] [3001,3002] (fun _=>BJ) (fun _=>lEB 15 10 (NF b)) (fun _=>(V8 b)) (fun _=>⟨BJ,[(3003,Z8X b),(A1 b),(3002,Z8K),(3108,Z8Y b),(26,Z8M b),(30,Z8N b),(34,Z8O b),(3100,Z8Q b),(3102,Z8S b),(3104,Z8U b),(3106,Z8W b)]⟩) hP hFl (Ob b hc kr) (fun _ _=>?_);refine AE<|AZ (ck (⟨BJ,(nU b)⟩))<|AA<|AA<|rn ⟨Lu,(nU b)⟩<|CL (ι:=Unit) (I:=fun _=>True) 3003 ((DN b (H0 b (Vb b)))) 41 (mkB 15 11) [1,2,3,13] [3001,3002] (fun _=>BJ) (fun _=>lEB 15 11 (PA b)) (fun _=>(V7 b)) (fun _=>⟨BJ,[(3003,Z8Z b),(A1 b),(3002,Z8K),(3110,Z90 b),(26,Z8M b),(30,Z8N b),(34,Z8O b),(3100,Z8Q b),(3102,Z8S b),(3104,Z8U b),(3106,Z8W b),(3108,Z8Y b)]⟩) hP hFl (Kx b hc kr) (fun _ _=>?_);refine AE<|AZ (ck (⟨BJ,(oC b)⟩))<|AA<|AA<|rn ⟨Ls,(oC b)⟩<|CL (ι:=Unit) (I:=fun _=>True) 3003 (aP b) 41 (mkB 15 14) [1,2,3,14] [3001,3002] (fun _=>BJ) (fun _=>lEB 15 14 (.own 3112 3 (Ar b).length)) (fun _=>(V6 b)) (fun _=>⟨BJ,[(3003,Z91 b),(A1 b),(3002,Z8K),(3112,Z92 b),(26,Z8M b),(30,Z8N b),(34,Z8O b),(3100,Z8Q b),(3102,Z8S b),(3104,Z8U b),(3106,Z8W b),(3108,Z8Y b),(3110,Z90 b)]⟩) hP hFl (Kw b hc kr) (fun _ _=>?_)
 refine AE<|AZ (ck (⟨BJ,(oN b)⟩))<|AA<|AA<|rn ⟨Lr,(oN b)⟩<|CL (ι:=Unit) (I:=fun _=>True) 3003 (aS b) 41 (mkB 15 12) [1,2,3,16] [3001,3002] (fun _=>BJ) (fun _=>lEB 15 12 (Vp b)) (fun _=>(WB b)) (fun _=>⟨BJ,[(3003,Z93 b),(A1 b),(3002,Z8K),(3114,Z94 b),(26,Z8M b),(30,Z8N b),(34,Z8O b),(3100,Z8Q b),(3102,Z8S b),(3104,Z8U b),(3106,Z8W b),(3108,Z8Y b),(3110,Z90 b),(3112,Z92 b)]⟩) hP hFl (Oc b hc kr) (fun _ _=>?_);refine AE<|AZ (ck (⟨BJ,(LZ b [(3003,Z93 b),(3100,Z8Q b),(3102,Z8S b),(3104,Z8U b),(3106,Z8W b),(3108,Z8Y b),(3110,Z90 b),(3112,Z92 b),(3114,Z94 b)])⟩))<|AA<|rn ⟨[(2,tP 3002 0)],[(26,Z8M b),(30,Z8N b),(34,Z8O b),(3002,Z93 b),(3100,Z8Q b),(3102,Z8S b),(3104,Z8U b),(3106,Z8W b),(3108,Z8Y b),(3110,Z90 b),(3112,Z92 b),(3114,Z94 b)]⟩<|AO ?_;refine⟨_,Cv.trans (ck (⟨[(2,tP 3002 0)],[(26,Z8M b),(3100,Z8Q b),(3102,Z8S b),(30,Z8N b),(3104,Z8U b),(3106,Z8W b),(3108,Z8Y b),(3110,Z90 b),(3114,Z94 b),(34,Z8O b),(3112,Z92 b),(3002,Z93 b)]⟩)) (Cv.refl _),.inl rfl,vCpA b,by kernel_rfl,be (m:=[(3002,.cells (Ki b) 41)]) kr⟩
end
theorem II{α:Type}(len:Nat)(g:Nat->List α->Int->List α)(e:Int->α)(h:∀m acc (v:Int),g (m+1) acc v=bif decide (v<(len:Int))then g m (acc++[e v]) (v+1)else acc) :
  ∀(n:Nat) (acc:List α) (v:Nat),len-v<n->g n acc (v:Int)=acc++(List.range' v (len-v)).map fun(k:Nat)=>e (k:Int)
 |0,acc,v,hn=>absurd hn (lw _)
 |n+1,acc,v,hn=>by
  rw[h]
  by_cases hc:v<len
  ·rw[lj mz,mi,show((v:Int)+1)=((v+1:Nat):Int)by omega,II len g e h n _ (v+1) mz,show len-v=(len-(v+1))+1 by omega,List.range'_succ,List.map_cons,List.append_assoc,List.singleton_append]
  rw[lk mz,mj,show len-v=0 by omega];simp
theorem tR(b:AC):(A4 b).length=b.Nets.length:=by
 have h:=II b.Nets.length (GT b) _ (fun _ _ _=>rfl) (((b.Nets.length:Int)-0).toNat+1) [] 0 mz;have h2:A4 b=_:=h;rw[h2];simp
theorem cS(b:AC):(AR b).length=b.Tracks.length:=by
 have h:=II b.Tracks.length (E4 b) _ (fun _ _ _=>rfl) (((b.Tracks.length:Int)-0).toNat+1) [] 0 mz;have h2:AR b=_:=h;rw[h2];simp
theorem Ul(b:AC):(BQ b).length=b.Pours.length:=by
 have h:=II b.Pours.length (Gi b) _ (fun _ _ _=>rfl) (((b.Pours.length:Int)-0).toNat+1) [] 0 mz;have h2:BQ b=_:=h;rw[h2];simp
theorem Um(b:AC):(BK b).length=b.Keeps.length:=by
 have h:=II b.Keeps.length (Gj b) _ (fun _ _ _=>rfl) (((b.Keeps.length:Int)-0).toNat+1) [] 0 mz;have h2:BK b=_:=h;rw[h2];simp
theorem kS(b:AC):(BP b).length=b.Slots.length:=by
 have h:=II b.Slots.length (Ff b) _ (fun _ _ _=>rfl) (((b.Slots.length:Int)-0).toNat+1) [] 0 mz;have h2:BP b=_:=h;rw[h2];simp
theorem Ys(b:AC):(A0 b).length=b.Classes.length:=by
 have h:=II b.Classes.length (FK b) _ (fun _ _ _=>rfl) (((b.Classes.length:Int)-0).toNat+1) [] 0 mz;have h2:A0 b=_:=h;rw[h2];simp
theorem Yr(b:AC):(Ar b).length=b.Matches.length:=by
 have h:=II b.Matches.length (FJ b) _ (fun _ _ _=>rfl) (((b.Matches.length:Int)-0).toNat+1) [] 0 mz;have h2:Ar b=_:=h;rw[h2];simp
theorem kT(b:AC):(A2 b).length=b.Rules.length:=by
 have h:=II b.Rules.length (Gh b) _ (fun _ _ _=>rfl) (((b.Rules.length:Int)-0).toNat+1) [] 0 mz;have h2:A2 b=_:=h;rw[h2];simp
theorem tmb{x n:Int}(hx:0<=x):0<n->0<=Int.tmod x n/\Int.tmod x n<n:=fun hn=>⟨Int.tmod_nonneg _ hx,Int.tmod_lt_of_pos _ hn⟩
theorem oz{n:Nat}(h:(0:Int)<(n:Int)):(n:Int)≠0:=by omega
theorem oi2{K:Int}{n:Nat}(hK:0<=K)(h:(0:Int)<(n:Int)):(Int.tmod K (n:Int)).toNat<n:=by have:=tmb hK h;omega
theorem oi3{K:Int}{n:Nat}(hK:0<=K)(h:(0:Int)<(n:Int)):(Int.tmod K (n:Int)).toNat-(0:Int).toNat<=n:=by have:=tmb hK h;omega
theorem oi4{K:Int}{n:Nat}(hK:0<=K)(h:(0:Int)<(n:Int)):0<=(0:Int)/\(0:Int)<=Int.tmod K (n:Int)/\Int.tmod K (n:Int)<=(n:Int):=by have:=tmb hK h;omega
theorem oi5{N:Int}{n:Nat}(hN:0<=N):0<=(0:Int)/\(0:Int)<=min (n:Int) (Int.tmod N 4)/\min (n:Int) (Int.tmod N 4)<=(n:Int):=by have:=tmb hN (n:=4) m4;omega
theorem ow{K:Int}{n:Nat}(hK:0<=K)(h:(0:Int)<(n:Int))(hl:(n:Int)<=2000000):W64 (Int.tmod K (n:Int)+1)=Int.tmod K (n:Int)+1:=by have:=tmb hK h;exact Ae mz mz
theorem oi6{K:Int}{n:Nat}(hK:0<=K)(h:(0:Int)<(n:Int))(hl:(n:Int)<=2000000):(W64 (Int.tmod K (n:Int)+1)).toNat+(((n:Nat):Int).toNat-(W64 (Int.tmod K (n:Int)+1)).toNat)<=n:=by rw[ow hK h hl];have:=tmb hK h;omega
theorem oi7{K:Int}{n:Nat}(hK:0<=K)(h:(0:Int)<(n:Int))(hl:(n:Int)<=2000000):0<=W64 (Int.tmod K (n:Int)+1)/\W64 (Int.tmod K (n:Int)+1)<=(n:Int)/\(n:Int)<=(n:Int):=by rw[ow hK h hl];have:=tmb hK h;omega
theorem oi8{N:Int}(hN:0<=N):0<=Int.tmod N 4/\Int.tmod N 4<((4:Nat):Int):=tmb hN m4
theorem oi9{N:Int}(hN:0<=N):0<=Int.tmod N 6/\Int.tmod N 6<((6:Nat):Int):=tmb hN m4
theorem ol1{n c:Nat}(hl:(n:Int)<=2000000)(hc:c<=100):(n+1)*c<=140737488355328:=ln (Nat.mul_le_mul (show n+1<=2000001 by omega) hc) m4
theorem ol2{n:Nat}(hl:(n:Int)<=2000000):n+1<=maxLen:=by unfold maxLen;omega
theorem ol0{K:Int}{n:Nat}(hK:0<=K)(h:(0:Int)<(n:Int))(hl:(n:Int)<=2000000):((Int.tmod K (n:Int)).toNat-(0:Int).toNat)+(((n:Nat):Int).toNat-(W64 (Int.tmod K (n:Int)+1)).toNat)<=2000000:=by rw[ow hK h hl];have:=tmb hK h;omega
theorem ol3{K:Int}{n:Nat}(hK:0<=K)(h:(0:Int)<(n:Int))(hl:(n:Int)<=2000000):((Int.tmod K (n:Int)).toNat-(0:Int).toNat)+(((n:Nat):Int).toNat-(W64 (Int.tmod K (n:Int)+1)).toNat)<=maxLen:=ln (ol0 hK h hl) (by unfold maxLen;decide)
theorem ol4{K:Int}{n:Nat}(hK:0<=K)(h:(0:Int)<(n:Int))(hl:(n:Int)<=2000000):(((Int.tmod K (n:Int)).toNat-(0:Int).toNat)+(((n:Nat):Int).toNat-(W64 (Int.tmod K (n:Int)+1)).toNat))*72<=140737488355328:=ln (Nat.mul_le_mul (ol0 hK h hl) (lu _)) m4
theorem w79{N:Int}(hN:0<=N):0<=W64 (79+Int.tmod N 4)/\W64 (79+Int.tmod N 4)<=82:=by have:=tmb hN (n:=4) m4;rw[Ae mz mz];omega
theorem tT{b:AC}(hc:Ct b):((A4 b).length:Int)<=2000000:=by rw[tR];have:=hc.lNets;omega
theorem cT{b:AC}(hc:Ct b):((AR b).length:Int)<=2000000:=by rw[cS];have:=hc.lTracks;omega
theorem kW{b:AC}(hc:Ct b):((BQ b).length:Int)<=2000000:=by rw[Ul];have:=hc.lPours;omega
theorem kY{b:AC}(hc:Ct b):((BK b).length:Int)<=2000000:=by rw[Um];have:=hc.lKeeps;omega
theorem kU{b:AC}(hc:Ct b):((BP b).length:Int)<=2000000:=by rw[kS];have:=hc.lSlots;omega
theorem Yv{b:AC}(hc:Ct b):((A0 b).length:Int)<=2000000:=by rw[Ys];have:=hc.lClasses;omega
theorem Yu{b:AC}(hc:Ct b):((Ar b).length:Int)<=2000000:=by rw[Yr];have:=hc.lMatches;omega
theorem kV{b:AC}(hc:Ct b):((A2 b).length:Int)<=2000000:=by rw[kT];have:=hc.lRules;omega
theorem kX{b:AC}(hc:Ct b):(b.Parts.length:Int)<=2000000:=by have:=hc.lParts;omega
theorem tS{b:AC}(hc:Ct b):(b.Vias.length:Int)<=2000000:=by have:=hc.lVias;omega
theorem Yt{b:AC}(hc:Ct b):(b.Waivers.length:Int)<=2000000:=by have:=hc.lWaivers;omega
abbrev Cx(b:AC):AC:=AC.mk b.Layers (E3 b.Outline) b.Parts (A4 b) (AR b) b.Vias (BQ b) (BK b) (BP b) (A0 b) (A2 b) b.Waivers (Ar b)
section
open Go.RowKit
def Z95:Blk:=.cells IA 41
variable (b:AC)(pi:List BA)(q:Ee)(na:Int)
def Z96:Blk:=.row 7 b.Parts.length (IC b) 78
def Z97:Blk:=.row 2 (A4 b).length (Ja b) 120
def Z98:Blk:=.row 6 (AR b).length (KW b) 131
def Z99:Blk:=.row 8 b.Vias.length (JY b) 133
def Z9a:Blk:=.row 8 (BQ b).length (Lb b) 97
def Z9b:Blk:=.row 5 (BK b).length (KZ b) 136
def Z9c:Blk:=.row 4 (BP b).length (KX b) 112
def Z9d:Blk:=.row 2 (A0 b).length (Je b) 138
def Z9e:Blk:=.row 20 (A2 b).length (KY b) 147
def Z9f:Blk:=.row 3 b.Waivers.length (Jc b) 142
def Z9g:Blk:=.row 3 (Ar b).length (Jd b) 140
def Z9h:Blk:=.cells (Ki b) 41
abbrev mqa(q:Ee):Int:=Bw q.e1 48
abbrev mqb(q:Ee):Int:=Bw q.e2 64
abbrev tqb(q:Ee)(n:Int):Int:=Int.tmod (mqb q) n
abbrev NT:=Int.tmod (mqa q) 6
abbrev zzc564(t_:List Cl):List Cl:=(.i b.Layers)::(.i (LI b).Kind)::(lst 7 AK.c (LI b).Edges)::(.i (LI b).R)::t_
def Z9x:Blk:=.cells (LV b [lst 2 A7.c ((A4 b).take (min ((A4 b).length:Int) (Int.tmod (mqa q) 4):Int).toNat),.own 3102 6 (AR b).length,.own 30 8 b.Vias.length,.own 3104 8 (BQ b).length,.own 3106 5 (BK b).length,.own 3108 4 (BP b).length,.own 3110 2 (A0 b).length,.own 3114 20 (A2 b).length,.own 34 3 b.Waivers.length,.own 3112 3 (Ar b).length]) 41
abbrev mB:=Int.tmod (mqa q) 9
abbrev Pe:=[Al.mk (tqb q 7) 1 (W64 (2+(Int.tmod (mqa q) 8))) 3]
abbrev Vv:=[BG.mk (A3 (mqa q)) [A3 (mqb q)]]
def Z9P:Blk:=.cells (DN b (H0 b [.own 411 2 ((A0 b)++(Vv q)).length,.own 3114 20 (A2 b).length,.own 34 3 b.Waivers.length,.own 3112 3 (Ar b).length])) 41
def Z9Q:Blk:=.row 2 ((A0 b)++(Vv q)).length (AL BG.c ((A0 b)++(Vv q))) 138
def Z9R:Blk:=.cells (DN b (H0 b (PD b [.own 426 3 ((Ar b)++[BI.mk (A3 (mqa q)) [(⟨#[78,49]⟩:my),A3 (mqb q)] (W64 ((mqb q)-1))]).length]))) 41
def Z9S:Blk:=.row 3 ((Ar b)++[BI.mk (A3 (mqa q)) [(⟨#[78,49]⟩:my),A3 (mqb q)] (W64 ((mqb q)-1))]).length (AL BI.c ((Ar b)++[BI.mk (A3 (mqa q)) [(⟨#[78,49]⟩:my),A3 (mqb q)] (W64 ((mqb q)-1))])) 140
abbrev R8:=[BA.mk (W64 (100+na)) 0 (IP (AG.mk na 0) 1)]
def Za2:Blk:=.cells (DN b [.own 3104 8 (BQ b).length,.own 38 5 (pi++(R8 na)).length,.own 3108 4 (BP b).length,.own 3110 2 (A0 b).length,.own 3114 20 (A2 b).length,.own 34 3 b.Waivers.length,.own 3112 3 (Ar b).length]) 41
def Za3:Blk:=.row 5 (pi++(R8 na)).length (AL BA.c (pi++(R8 na))) 136
def Gc(b:AC)(q:Ee):Nat->List BA->Int->AC
 |0,_,_=>default
 |n0+1,pi,na=>bif decide ((na:Int)<(W64 (79+(Int.tmod (mqa q) 4))))then((Gc b q n0) (pi++[BA.mk (W64 (100+na)) 0 (IP (AG.mk na 0) 1)]) (na+1))else({ Cx b with Keeps:=pi })
def CG(b:AC)(q:Ee):AC:=bif decide (((Bw q.e0 26):Int)=0)then({ Cx b with Layers:=Int.tmod (mqa q) 6 })else(bif decide (((Bw q.e0 26):Int)=1)then({ Cx b with Outline:=DP (mqa q) })else(bif decide (((Bw q.e0 26):Int)=2)then(bif decide ((0:Int)<(b.Parts.length:Int))then({ Cx b with Parts:=b.Parts.set (tqb q (b.Parts.length:Int)).toNat (AD.mk (W64 ((mqa q)-1)) (b.Parts.getD (tqb q (b.Parts.length:Int)).toNat default).Ref (b.Parts.getD (tqb q (b.Parts.length:Int)).toNat default).Type' (b.Parts.getD (tqb q (b.Parts.length:Int)).toNat default).At (b.Parts.getD (tqb q (b.Parts.length:Int)).toNat default).Turn (b.Parts.getD (tqb q (b.Parts.length:Int)).toNat default).Under) })else(Cx b))else(bif decide (((Bw q.e0 26):Int)=3)then(bif decide ((0:Int)<(b.Parts.length:Int))then({ Cx b with Parts:=b.Parts.set (tqb q (b.Parts.length:Int)).toNat (AD.mk (b.Parts.getD (tqb q (b.Parts.length:Int)).toNat default).Id (A3 (mqa q)) (b.Parts.getD (tqb q (b.Parts.length:Int)).toNat default).Type' (b.Parts.getD (tqb q (b.Parts.length:Int)).toNat default).At (b.Parts.getD (tqb q (b.Parts.length:Int)).toNat default).Turn (b.Parts.getD (tqb q (b.Parts.length:Int)).toNat default).Under) })else(Cx b))else(bif decide (((Bw q.e0 26):Int)=4)then(bif decide ((0:Int)<(b.Parts.length:Int))then({ Cx b with Parts:=b.Parts.set (tqb q (b.Parts.length:Int)).toNat (AD.mk (b.Parts.getD (tqb q (b.Parts.length:Int)).toNat default).Id (b.Parts.getD (tqb q (b.Parts.length:Int)).toNat default).Ref (b.Parts.getD (tqb q (b.Parts.length:Int)).toNat default).Type' (b.Parts.getD (tqb q (b.Parts.length:Int)).toNat default).At (W64 ((mqa q)-1)) (b.Parts.getD (tqb q (b.Parts.length:Int)).toNat default).Under) })else(Cx b))else(bif decide (((Bw q.e0 26):Int)=5)then(bif decide ((0:Int)<(b.Parts.length:Int))then({ Cx b with Parts:=b.Parts.set (tqb q (b.Parts.length:Int)).toNat (AD.mk (b.Parts.getD (tqb q (b.Parts.length:Int)).toNat default).Id (b.Parts.getD (tqb q (b.Parts.length:Int)).toNat default).Ref (b.Parts.getD (tqb q (b.Parts.length:Int)).toNat default).Type' (AG.mk (([Bw q.e1 48,67108864,67108664,(-67108865)]:List Int).getD (Int.tmod (mqa q) 4).toNat 0) (b.Parts.getD (tqb q (b.Parts.length:Int)).toNat default).At.Y) (b.Parts.getD (tqb q (b.Parts.length:Int)).toNat default).Turn (b.Parts.getD (tqb q (b.Parts.length:Int)).toNat default).Under) })else(Cx b))else(bif decide (((Bw q.e0 26):Int)=6)then(bif decide ((0:Int)<((A4 b).length:Int))then({ Cx b with Nets:=(A4 b).set (tqb q ((A4 b).length:Int)).toNat (A7.mk (A3 (mqa q)) ((A4 b).getD (tqb q ((A4 b).length:Int)).toNat default).Pins) })else(Cx b))else(bif decide (((Bw q.e0 26):Int)=8)then({ Cx b with Nets:=(A4 b)++[A7.mk (A3 (mqa q)) [Ab.mk (⟨#[82,49]⟩:my) (⟨#[80,50]⟩:my)]] })else(bif decide (((Bw q.e0 26):Int)=9)then({ Cx b with Nets:=(A4 b).take (min ((A4 b).length:Int) (Int.tmod (mqa q) 4):Int).toNat })else(bif decide (((Bw q.e0 26):Int)=10)then({ Cx b with Tracks:=(AR b)++[AM.mk (W64 (10+(mqa q))) (A3 (mqb q)) (W64 (1+(tqb q 3))) (DP (mqa q))] })else(bif decide (((Bw q.e0 26):Int)=11)then(bif decide ((0:Int)<((AR b).length:Int))then({ Cx b with Tracks:=(AR b).set (tqb q ((AR b).length:Int)).toNat (AM.mk ((AR b).getD (tqb q ((AR b).length:Int)).toNat default).Id ((AR b).getD (tqb q ((AR b).length:Int)).toNat default).Net (W64 ((Int.tmod (mqa q) 4)+1)) ((AR b).getD (tqb q ((AR b).length:Int)).toNat default).Shape) })else(Cx b))else(bif decide (((Bw q.e0 26):Int)=12)then(bif decide ((0:Int)<((AR b).length:Int))then({ Cx b with Tracks:=UF (AR b) ((tqb q ((AR b).length:Int):Int).toNat-(0:Int).toNat) (W64 ((tqb q ((AR b).length:Int))+1):Int).toNat ((((AR b).length:Int):Int).toNat-(W64 ((tqb q ((AR b).length:Int))+1):Int).toNat) })else(Cx b))else(bif decide (((Bw q.e0 26):Int)=13)then({ Cx b with Vias:=b.Vias++[Ak.mk (W64 (60+(mqa q))) (⟨#[71,78,68]⟩:my) (AG.mk (W64 (10*(mqa q))) (W64 (5*(mqb q)))) (W64 (8-(Int.tmod (mqa q) 9))) (tqb q 9) (W64 (1+(tqb q 2))) (W64 (2+(W64 (Int.tdiv (Int.tmod (mqa q) 3) 2))))] })else(bif decide (((Bw q.e0 26):Int)=14)then(bif decide ((0:Int)<(b.Vias.length:Int))then({ Cx b with Vias:=b.Vias.set (tqb q (b.Vias.length:Int)).toNat (Ak.mk (b.Vias.getD (tqb q (b.Vias.length:Int)).toNat default).Id (b.Vias.getD (tqb q (b.Vias.length:Int)).toNat default).Net (AG.mk (W64 ((b.Vias.getD (tqb q (b.Vias.length:Int)).toNat default).At.X+(W64 (3*(mqa q))))) (b.Vias.getD (tqb q (b.Vias.length:Int)).toNat default).At.Y) (b.Vias.getD (tqb q (b.Vias.length:Int)).toNat default).R (b.Vias.getD (tqb q (b.Vias.length:Int)).toNat default).Drill (b.Vias.getD (tqb q (b.Vias.length:Int)).toNat default).From (b.Vias.getD (tqb q (b.Vias.length:Int)).toNat default).To) })else(Cx b))else(bif decide (((Bw q.e0 26):Int)=15)then({ Cx b with Pours:=(BQ b)++[A8.mk (W64 (70+(mqa q))) (⟨#[78,49]⟩:my) (W64 (1+(tqb q 3))) (([20,0,1,33554432,10,134217728]:List Int).getD (Int.tmod (mqa q) 6).toNat 0) 0 (W64 ((tqb q 5)-1)) 3 [Al.mk (tqb q 7) 1 (W64 (2+(Int.tmod (mqa q) 8))) 3]] })else(bif decide (((Bw q.e0 26):Int)=17)then({ Cx b with Keeps:=(BK b)++[BA.mk (W64 (80+(mqa q))) (W64 ((tqb q 5)-1)) (DP (mqa q))] })else(bif decide (((Bw q.e0 26):Int)=18)then({ Cx b with Slots:=(BP b)++[AX.mk (W64 (90+(mqa q))) (DP (mqa q))] })else(bif decide (((Bw q.e0 26):Int)=19)then({ Cx b with Classes:=(A0 b)++[BG.mk (A3 (mqa q)) [A3 (mqb q)]] })else(bif decide (((Bw q.e0 26):Int)=20)then({ Cx b with Matches:=(Ar b)++[BI.mk (A3 (mqa q)) [(⟨#[78,49]⟩:my),A3 (mqb q)] (W64 ((mqb q)-1))] })else(bif decide (((Bw q.e0 26):Int)=21)then({ Cx b with Waivers:=b.Waivers++[As.mk (W64 (1+(mqa q))) (tqb q 13) (⟨#[99,50]⟩:my)] })else(bif decide (((Bw q.e0 26):Int)=22)then(bif decide ((0:Int)<((A2 b).length:Int))then({ Cx b with Rules:=(A2 b).set (tqb q ((A2 b).length:Int)).toNat (A5.mk ((A2 b).getD (tqb q ((A2 b).length:Int)).toNat default).Name ((A2 b).getD (tqb q ((A2 b).length:Int)).toNat default).Priority ((A2 b).getD (tqb q ((A2 b).length:Int)).toNat default).What ((A2 b).getD (tqb q ((A2 b).length:Int)).toNat default).A ((A2 b).getD (tqb q ((A2 b).length:Int)).toNat default).B (W64 ((mqa q)-1))) })else(Cx b))else(bif decide (((Bw q.e0 26):Int)=23)then(bif decide ((0:Int)<(b.Parts.length:Int))then({ Cx b with Parts:=UF b.Parts ((tqb q (b.Parts.length:Int):Int).toNat-(0:Int).toNat) (W64 ((tqb q (b.Parts.length:Int))+1):Int).toNat (((b.Parts.length:Int):Int).toNat-(W64 ((tqb q (b.Parts.length:Int))+1):Int).toNat) })else(Cx b))else(bif decide (((Bw q.e0 26):Int)=24)then(bif decide ((0:Int)<((AR b).length:Int))then({ Cx b with Tracks:=(AR b).set (tqb q ((AR b).length:Int)).toNat (AM.mk ((AR b).getD (tqb q ((AR b).length:Int)).toNat default).Id (A3 (mqa q)) ((AR b).getD (tqb q ((AR b).length:Int)).toNat default).Layer ((AR b).getD (tqb q ((AR b).length:Int)).toNat default).Shape) })else(Cx b))else(Gc b q (((W64 (79+(Int.tmod (mqa q) 4)))-0).toNat+1) (BK b) 0)))))))))))))))))))))))
abbrev Rc:List Av:=[.agg (AC.c b),.agg (Ee.c q)]
def dS:CT:=(11,(Rc b q),.val [] (.av (.agg (AC.c (CG b q)))))
abbrev eK:List (Nat×Blk):=[(4,Z95),(5,Z9h b),(26,Z96 b),(30,Z99 b),(34,Z9f b),(3100,Z97 b),(3102,Z98 b),(3104,Z9a b),(3106,Z9b b),(3108,Z9c b),(3110,Z9d b),(3112,Z9g b),(3114,Z9e b)]
abbrev Ek:Nat×Blk:=(3,.cells (Ee.c q) 23)
abbrev R3:Nat×Tv:=(11,.av (.agg (AC.c b)))
abbrev R5:List (Nat×Tv):=[(3,tP 3 0),(4,tP 4 0),(R3 b)]
abbrev Rz:List (Nat×Tv):=[(3,tP 3 0),(4,tP 4 0),(5,tP 5 0)]
abbrev JW(t_:List (Nat×Tv)):List (Nat×Tv):=(4,tP 4 0)::(5,tP 5 0)::(6,tI (mqa q))::(7,tI (mqb q))::t_
abbrev nI:List (Nat×Tv):=(JW q [(21,tI (Bw q.e0 26)),(178,tB (decide (((Bw q.e0 26):Int)=9)))])
abbrev mR:=A9 4 1 [.i (tqb q 7),.i 1,.i (W64 (2+(Int.tmod (mqa q) 8))),.i 3]
theorem au24{p:Prop}(h:p:=by first|(with_reducible exact hc)|(with_reducible exact hN)|(with_reducible exact hK)|(with_reducible exact hN.1)|(with_reducible exact hK.1)|with_reducible assumption|omega|decide|(simp only[j8,j9,d9];omega)|assumption):p:=h
theorem au16{p:Prop}(h:p:=by first|decide|with_reducible exact oz (by with_reducible assumption)):p:=h
theorem au8{p:Prop}(h:p:=by first|with_reducible exact tmb hK.1 (by with_reducible assumption)|with_reducible exact oi2 hK.1 (by with_reducible assumption)|with_reducible exact oi4 hK.1 (by with_reducible assumption)|with_reducible exact oi3 hK.1 (by with_reducible assumption)|with_reducible exact oi5 hN.1|with_reducible exact oi8 hN.1|with_reducible exact oi9 hN.1|with_reducible exact oi7 hK.1 (by with_reducible assumption) (by with_reducible assumption)|with_reducible exact oi6 hK.1 (by with_reducible assumption) (by with_reducible assumption)|omega):p:=h
theorem au18{p:Prop}(h:p:=by first|with_reducible exact ol1 (by with_reducible assumption) m4|with_reducible exact ol2 (by with_reducible assumption)|with_reducible exact ol4 hK.1 (by with_reducible assumption) (by with_reducible assumption)|with_reducible exact ol3 hK.1 (by with_reducible assumption) (by with_reducible assumption)|omega):p:=h
set_option maxHeartbeats 40000000 in
theorem ft(b:AC)(q:Ee)(hc:Ct b)(hq7:¬ (Bw q.e0 26:Int)=7)(hq16:¬ (Bw q.e0 26:Int)=16):PuP 11 (dS b q).2.1 (.av (.agg (AC.c (CG b q)))):=by
 refine pwf Tryz.func11 fun W0 M0=>?_;have hN:0<=(mqa q)/\(mqa q)<48:=LJ _ _ m4 m4;have hK0:=LJ q.e2 64 m4 m4;have hK:0<=(mqb q)/\(mqb q)<64:=hK0;have hlNets:=tT hc;have hlTracks:=cT hc;have hlPours:=kW hc;have hlKeeps:=kY hc;have hlSlots:=kU hc;have hlClasses:=Yv hc;have hlMatches:=Yu hc;have hlRules:=kV hc;have hlParts:=kX hc;have hlVias:=tS hc;have hlWaivers:=Yt hc;refine AA<|rn ⟨Hk,[(DT b),(Ek q),(4,Z95)]⟩<|AA<|DZ<|Fk C8 1 [] [] [] [3,4,11] [3,4] [] ⟨(R5 b),[(Ek q),(4,Z95)]⟩ .nil kr .nil<|KF (ι:=Unit) (I:=fun _=>True) (fun _=>⟨[(3,tP 3 0),(4,tP 4 0),(R3 b),(12,.av (.agg (Ki b)))],[(26,Z96 b),(3100,Z97 b),(3102,Z98 b),(30,Z99 b),(3104,Z9a b),(3106,Z9b b),(3108,Z9c b),(3110,Z9d b),(3114,Z9e b),(34,Z9f b),(3112,Z9g b),(Ek q),(4,Z95)]⟩) hk0 ⟨⟨_,_,rfl,rfl,⟨fun _=>default,by kernel_rfl⟩,by kernel_rfl⟩,fun _ _=>by kernel_rfl,rfl,rfl⟩ (qCpA b au24) (fun _=>by kernel_rfl) (fun _=>by kernel_rfl) (fun _ _=>?_)
 refine Er C8 [] [] [] [3,4,5] [3,4,5,26,30,34,3100,3102,3104,3106,3108,3110,3112,3114] [] ⟨Rz,[(Ek q),(4,Z95),(5,Z9h b),(26,Z96 b),(30,Z99 b),(34,Z9f b),(3100,Z97 b),(3102,Z98 b),(3104,Z9a b),(3106,Z9b b),(3108,Z9c b),(3110,Z9d b),(3112,Z9g b),(3114,Z9e b)]⟩ .nil kr .nil<|AE<|AA<|oo _ [0<=(1:Int)/\(1:Int)<(3:Int),none] (J1 15 (IR q.e1 48 au24)) (H1 m4)<|AE<|AA<|oo _ [0<=(2:Int)/\(2:Int)<(3:Int),none] (J1 18 (IR q.e2 64 au24)) (H1 m4)<|AE<|AA<|AA<|oo _ [0<=(0:Int)/\(0:Int)<(3:Int),none] (J1 21 (IR q.e0 26 au24)) (H1 m4)<|AE<|AJ<|AA<|on<|kb (decide (((Bw q.e0 26):Int)=0)) (fun h1=>?_) (fun h1=>?_)
 ·have g1:=oT h1;exact oc [] [(6:Int)≠0] .nil (H1 au16)<|Ao<|AE<|AA<|on<|AO<|zy (CC [26,3100,3102,30,3104,3106,3108,3110,3114,34,3112] hk0) (by simp only[CG,h1,mi,mj]<;>kernel_rfl)
 have g1:=oF h1;refine AA<|on<|kb (decide (((Bw q.e0 26):Int)=1)) (fun h2=>?_) (fun h2=>?_)
 ·exact oq 48 _ (MU (mqa q))<|Ao<|AE<|AA<|on<|AO<|zy (CC [26,3100,3102,30,3104,3106,3108,3110,3114,34,3112] hk0) (by simp only[CG,h1,h2,mi,mj]<;>kernel_rfl)
 have g2:=oF h2;refine AA<|on<|kb (decide (((Bw q.e0 26):Int)=2)) (fun h3=>?_) (fun h3=>?_)
 ·have g3:=oT h3;refine AA<|on<|kb (decide ((0:Int)<(b.Parts.length:Int))) (fun h4=>?_) (fun h4=>?_)
  ·have g4:=oT h4;exact od [] [] [((b.Parts.length:Int):Int)≠0,0<=(tqb q (b.Parts.length:Int):Int)/\(tqb q (b.Parts.length:Int):Int)<(b.Parts.length:Int),(tqb q (b.Parts.length:Int)).toNat<b.Parts.length] .nil (H3 au16 au8 au8)<|Ao<|AE<|AZ (Ag 26 (DU (l:=[.i (W64 ((mqa q)-1))]) (off:=0) (q:=1) (k:=(tqb q (b.Parts.length:Int)).toNat) (AU 7 AD.c b.Parts) au8 (AD.mk (W64 ((mqa q)-1)) (b.Parts.getD (tqb q (b.Parts.length:Int)).toNat default).Ref (b.Parts.getD (tqb q (b.Parts.length:Int)).toNat default).Type' (b.Parts.getD (tqb q (b.Parts.length:Int)).toNat default).At (b.Parts.getD (tqb q (b.Parts.length:Int)).toNat default).Turn (b.Parts.getD (tqb q (b.Parts.length:Int)).toNat default).Under) (Do kr)))<|AA<|on<|AO<|zy (CC [26,3100,3102,30,3104,3106,3108,3110,3114,34,3112] hk0) (by simp only[CG,h1,h2,h3,h4,mi,mj]<;>kernel_rfl)
  exact AP<|Ao<|AE<|AA<|on<|AO<|zy (CC [26,3100,3102,30,3104,3106,3108,3110,3114,34,3112] hk0) (by simp only[CG,h1,h2,h3,h4,mi,mj]<;>kernel_rfl)
 have g3:=oF h3;refine AA<|on<|kb (decide (((Bw q.e0 26):Int)=3)) (fun h4=>?_) (fun h4=>?_)
 ·have g4:=oT h4;refine AA<|on<|kb (decide ((0:Int)<(b.Parts.length:Int))) (fun h5=>?_) (fun h5=>?_)
  ·have g5:=oT h5;exact oe [] _ [((b.Parts.length:Int):Int)≠0,none,0<=(tqb q (b.Parts.length:Int):Int)/\(tqb q (b.Parts.length:Int):Int)<(b.Parts.length:Int),(tqb q (b.Parts.length:Int)).toNat<b.Parts.length] (J1 81 (E8 (mqa q) au24)) (H3 au16 au8 au8)<|Ao<|AE<|AZ (Ag 26 (DU (l:=[.s (A3 (mqa q))]) (off:=1) (q:=1) (k:=(tqb q (b.Parts.length:Int)).toNat) (AU 7 AD.c b.Parts) au8 (AD.mk (b.Parts.getD (tqb q (b.Parts.length:Int)).toNat default).Id (A3 (mqa q)) (b.Parts.getD (tqb q (b.Parts.length:Int)).toNat default).Type' (b.Parts.getD (tqb q (b.Parts.length:Int)).toNat default).At (b.Parts.getD (tqb q (b.Parts.length:Int)).toNat default).Turn (b.Parts.getD (tqb q (b.Parts.length:Int)).toNat default).Under) (Do kr)))<|AA<|on<|AO<|zy (CC [26,3100,3102,30,3104,3106,3108,3110,3114,34,3112] hk0) (by simp only[CG,h1,h2,h3,h4,h5,mi,mj]<;>kernel_rfl)
  exact AP<|Ao<|AE<|AA<|on<|AO<|zy (CC [26,3100,3102,30,3104,3106,3108,3110,3114,34,3112] hk0) (by simp only[CG,h1,h2,h3,h4,h5,mi,mj]<;>kernel_rfl)
 have g4:=oF h4;refine AA<|on<|kb (decide (((Bw q.e0 26):Int)=4)) (fun h5=>?_) (fun h5=>?_)
 ·have g5:=oT h5;refine AA<|on<|kb (decide ((0:Int)<(b.Parts.length:Int))) (fun h6=>?_) (fun h6=>?_)
  ·have g6:=oT h6;exact od [] [] [((b.Parts.length:Int):Int)≠0,0<=(tqb q (b.Parts.length:Int):Int)/\(tqb q (b.Parts.length:Int):Int)<(b.Parts.length:Int),(tqb q (b.Parts.length:Int)).toNat<b.Parts.length] .nil (H3 au16 au8 au8)<|Ao<|AE<|AZ (Ag 26 (DU (l:=[.i (W64 ((mqa q)-1))]) (off:=5) (q:=1) (k:=(tqb q (b.Parts.length:Int)).toNat) (AU 7 AD.c b.Parts) au8 (AD.mk (b.Parts.getD (tqb q (b.Parts.length:Int)).toNat default).Id (b.Parts.getD (tqb q (b.Parts.length:Int)).toNat default).Ref (b.Parts.getD (tqb q (b.Parts.length:Int)).toNat default).Type' (b.Parts.getD (tqb q (b.Parts.length:Int)).toNat default).At (W64 ((mqa q)-1)) (b.Parts.getD (tqb q (b.Parts.length:Int)).toNat default).Under) (Do kr)))<|AA<|on<|AO<|zy (CC [26,3100,3102,30,3104,3106,3108,3110,3114,34,3112] hk0) (by simp only[CG,h1,h2,h3,h4,h5,h6,mi,mj]<;>kernel_rfl)
  exact AP<|Ao<|AE<|AA<|on<|AO<|zy (CC [26,3100,3102,30,3104,3106,3108,3110,3114,34,3112] hk0) (by simp only[CG,h1,h2,h3,h4,h5,h6,mi,mj]<;>kernel_rfl)
 have g5:=oF h5;refine AA<|on<|kb (decide (((Bw q.e0 26):Int)=5)) (fun h6=>?_) (fun h6=>?_)
 ·have g6:=oT h6;refine AA<|on<|kb (decide ((0:Int)<(b.Parts.length:Int))) (fun h7=>?_) (fun h7=>?_)
  ·have g7:=oT h7;refine od [] [] [((b.Parts.length:Int):Int)≠0,(4:Int)≠0,0<=(Int.tmod (mqa q) 4:Int)/\(Int.tmod (mqa q) 4:Int)<((4:Nat):Int),0<=(tqb q (b.Parts.length:Int):Int)/\(tqb q (b.Parts.length:Int):Int)<(b.Parts.length:Int),(tqb q (b.Parts.length:Int)).toNat<b.Parts.length] .nil (H5 au16 au16 au8 au8 au8)<|Ao<|AE<|AZ (Ag 26 (DU (l:=[.i (([(mqa q),67108864,67108664,(-67108865)]:List Int).getD (Int.tmod (mqa q) 4).toNat 0)]) (off:=3) (q:=1) (k:=(tqb q (b.Parts.length:Int)).toNat) (AU 7 AD.c b.Parts) au8 (AD.mk (b.Parts.getD (tqb q (b.Parts.length:Int)).toNat default).Id (b.Parts.getD (tqb q (b.Parts.length:Int)).toNat default).Ref (b.Parts.getD (tqb q (b.Parts.length:Int)).toNat default).Type' (AG.mk (([(mqa q),67108864,67108664,(-67108865)]:List Int).getD (Int.tmod (mqa q) 4).toNat 0) (b.Parts.getD (tqb q (b.Parts.length:Int)).toNat default).At.Y) (b.Parts.getD (tqb q (b.Parts.length:Int)).toNat default).Turn (b.Parts.getD (tqb q (b.Parts.length:Int)).toNat default).Under) (Do kr)))<|AA<|on<|AO ?_;exact zy (CC [26,3100,3102,30,3104,3106,3108,3110,3114,34,3112] hk0) (by simp only[CG,h1,h2,h3,h4,h5,h6,h7,mi,mj]<;>kernel_rfl)
  exact AP<|Ao<|AE<|AA<|on<|AO<|zy (CC [26,3100,3102,30,3104,3106,3108,3110,3114,34,3112] hk0) (by simp only[CG,h1,h2,h3,h4,h5,h6,h7,mi,mj]<;>kernel_rfl)
 have g6:=oF h6;refine AA<|on<|kb (decide (((Bw q.e0 26):Int)=6)) (fun h7=>?_) (fun h7=>?_)
 ·have g7:=oT h7;refine AA<|on<|kb (decide ((0:Int)<((A4 b).length:Int))) (fun h8=>?_) (fun h8=>?_)
  ·have g8:=oT h8;exact oe [] _ [(((A4 b).length:Int):Int)≠0,none,0<=(tqb q ((A4 b).length:Int):Int)/\(tqb q ((A4 b).length:Int):Int)<((A4 b).length:Int),(tqb q ((A4 b).length:Int)).toNat<(A4 b).length] (J1 137 (E8 (mqa q) au24)) (H3 au16 au8 au8)<|Ao<|AE<|AZ (Ag 3100 (DU (l:=[.s (A3 (mqa q))]) (off:=0) (q:=1) (k:=(tqb q ((A4 b).length:Int)).toNat) (AU 2 A7.c (A4 b)) au8 (A7.mk (A3 (mqa q)) ((A4 b).getD (tqb q ((A4 b).length:Int)).toNat default).Pins) (Do kr)))<|AA<|on<|AO<|zy (CC [26,3100,3102,30,3104,3106,3108,3110,3114,34,3112] hk0) (by simp only[CG,h1,h2,h3,h4,h5,h6,h7,h8,mi,mj]<;>kernel_rfl)
  exact AP<|Ao<|AE<|AA<|on<|AO<|zy (CC [26,3100,3102,30,3104,3106,3108,3110,3114,34,3112] hk0) (by simp only[CG,h1,h2,h3,h4,h5,h6,h7,h8,mi,mj]<;>kernel_rfl)
 have g7:=oF h7;refine AA<|rn ⟨(JW q [(21,tI (Bw q.e0 26)),(140,tB (decide (((Bw q.e0 26):Int)=7)))]),(eK b)⟩ ?_;have h8:(decide (((Bw q.e0 26):Int)=7))=false:=(lk hq7);have g8:=oF h8;refine BC _ rfl (fun h=>absurd (h8.symm.trans h) m4) (fun _=>?_);refine AA<|on<|kb (decide (((Bw q.e0 26):Int)=8)) (fun h9=>?_) (fun h9=>?_)
 ·have g9:=oT h9;refine dO [] _ [none,(A4 b).length=(A4 b).length,(A4 b).length+1<=maxLen,((A4 b).length+1)*40<=140737488355328] ⟨E5,[(4,Z95),(5,.cells (LV b [.own 176 2 ((A4 b).length+1),.own 3102 6 (AR b).length,.own 30 8 b.Vias.length,.own 3104 8 (BQ b).length,.own 3106 5 (BK b).length,.own 3108 4 (BP b).length,.own 3110 2 (A0 b).length,.own 3114 20 (A2 b).length,.own 34 3 b.Waivers.length,.own 3112 3 (Ar b).length]) 41),(26,Z96 b),(30,Z99 b),(34,Z9f b),(176,.row 2 ((A4 b).length+1) (fun i_ j_=>if i_<(A4 b).length then(Ja b) i_ j_ else(A9 2 1 [.s (A3 (mqa q)),.list true 2 1 (A9 2 1 [.s (⟨#[82,49]⟩:my),.s (⟨#[80,50]⟩:my)])]) (i_-(A4 b).length) j_) 120),(3102,Z98 b),(3104,Z9a b),(3106,Z9b b),(3108,Z9c b),(3110,Z9d b),(3112,Z9g b),(3114,Z9e b)]⟩ (J1 171 (E8 (mqa q) au24)) (H3 rfl au18 au18)<|Ao<|AE ?_
  refine AZ (DD (⟨E5,[(4,Z95),(5,.cells (LV b [.own 176 2 ((A4 b)++[A7.mk (A3 (mqa q)) [Ab.mk (⟨#[82,49]⟩:my) (⟨#[80,50]⟩:my)]]).length,.own 3102 6 (AR b).length,.own 30 8 b.Vias.length,.own 3104 8 (BQ b).length,.own 3106 5 (BK b).length,.own 3108 4 (BP b).length,.own 3110 2 (A0 b).length,.own 3114 20 (A2 b).length,.own 34 3 b.Waivers.length,.own 3112 3 (Ar b).length]) 41),(26,Z96 b),(30,Z99 b),(34,Z9f b),(176,.row 2 ((A4 b)++[A7.mk (A3 (mqa q)) [Ab.mk (⟨#[82,49]⟩:my) (⟨#[80,50]⟩:my)]]).length (AL A7.c ((A4 b)++[A7.mk (A3 (mqa q)) [Ab.mk (⟨#[82,49]⟩:my) (⟨#[80,50]⟩:my)]])) 120),(3102,Z98 b),(3104,Z9a b),(3106,Z9b b),(3108,Z9c b),(3110,Z9d b),(3112,Z9g b),(3114,Z9e b)]⟩) lr (rz (.cons ⟨rfl,.cells _ (rr5 (.cons (.own _ _ au17) (rr (rr (rr (rr (rr (rr (rr (rr (rr .nil)))))))))))⟩ (rz (rz (rz (.cons ⟨rfl,CS 120 (Ac (AU 2 A7.c (A4 b)) (Dn (c:=A7.c) (xs:=([A7.mk (A3 (mqa q)) [Ab.mk (⟨#[82,49]⟩:my) (⟨#[80,50]⟩:my)]]:List A7)) (y:=[[.s (A3 (mqa q)),.list true 2 1 (A9 2 1 [.s (⟨#[82,49]⟩:my),.s (⟨#[80,50]⟩:my)])]]) (z:=[[.s (A3 (mqa q)),lst 2 Ab.c [Ab.mk (⟨#[82,49]⟩:my) (⟨#[80,50]⟩:my)]]]) rfl kr kr (.cons (rr (.cons (BO true (BN (c:=Ab.c) (xs:=([Ab.mk (⟨#[82,49]⟩:my) (⟨#[80,50]⟩:my)]:List Ab)) rfl kr)) .nil)) .nil)))⟩ lr)))))))<|AA ?_;exact on<|AO<|zy (CC [26,176,3102,30,3104,3106,3108,3110,3114,34,3112] hk0) (by simp only[CG,h1,h2,h3,h4,h5,h6,h7,h8,h9,mi,mj]<;>kernel_rfl)
 have g9:=oF h9;refine AA<|rn ⟨(nI q),(eK b)⟩<|BC _ rfl (fun h10=>?_) (fun h10=>?_)
 ·have g10:=oT h10;refine AZ (KD (⟨(nI q),[(4,Z95),(5,.cells (LV b [lst 2 A7.c (A4 b),.own 3102 6 (AR b).length,.own 30 8 b.Vias.length,.own 3104 8 (BQ b).length,.own 3106 5 (BK b).length,.own 3108 4 (BP b).length,.own 3110 2 (A0 b).length,.own 3114 20 (A2 b).length,.own 34 3 b.Waivers.length,.own 3112 3 (Ar b).length]) 41),(26,Z96 b),(30,Z99 b),(34,Z9f b),(3102,Z98 b),(3104,Z9a b),(3106,Z9b b),(3108,Z9c b),(3110,Z9d b),(3112,Z9g b),(3114,Z9e b)]⟩) 3100 hk0) ?_;refine rc [] [(4:Int)≠0,0<=(0:Int)/\(0:Int)<=(min ((A4 b).length:Int) (Int.tmod (mqa q) 4):Int)/\(min ((A4 b).length:Int) (Int.tmod (mqa q) 4):Int)<=((A4 b).length:Int)] ⟨E5,[(4,Z95),(5,.cells (LV b [.list false 2 ((min ((A4 b).length:Int) (Int.tmod (mqa q) 4):Int).toNat-(0:Int).toNat) (fun i_ j_=>(Ja b) (i_+(0:Int).toNat) j_),.own 3102 6 (AR b).length,.own 30 8 b.Vias.length,.own 3104 8 (BQ b).length,.own 3106 5 (BK b).length,.own 3108 4 (BP b).length,.own 3110 2 (A0 b).length,.own 3114 20 (A2 b).length,.own 34 3 b.Waivers.length,.own 3112 3 (Ar b).length]) 41),(26,Z96 b),(30,Z99 b),(34,Z9f b),(3102,Z98 b),(3104,Z9a b),(3106,Z9b b),(3108,Z9c b),(3110,Z9d b),(3112,Z9g b),(3114,Z9e b)]⟩ .nil (H2 au16 au8)<|Ao<|AE ?_
  exact AZ (DD (⟨E5,[(4,Z95),(5,Z9x b q),(26,Z96 b),(30,Z99 b),(34,Z9f b),(3102,Z98 b),(3104,Z9a b),(3106,Z9b b),(3108,Z9c b),(3110,Z9d b),(3112,Z9g b),(3114,Z9e b)]⟩) lr (rz (.cons ⟨rfl,.cells _ (rr5 (.cons (BO false (FF (b:=min ((A4 b).length:Int) (Int.tmod (mqa q) 4)) (AU 2 A7.c (A4 b)) (by have hc:=(show 0<=(0:Int)/\(0:Int)<=(min ((A4 b).length:Int) (Int.tmod (mqa q) 4):Int)/\(min ((A4 b).length:Int) (Int.tmod (mqa q) 4):Int)<=((A4 b).length:Int)from au8);exact hc.2.1) (by have hc:=(show 0<=(0:Int)/\(0:Int)<=(min ((A4 b).length:Int) (Int.tmod (mqa q) 4):Int)/\(min ((A4 b).length:Int) (Int.tmod (mqa q) 4):Int)<=((A4 b).length:Int)from au8);exact hc.2.2))) (rr (rr (rr (rr (rr (rr (rr (rr (rr .nil)))))))))))⟩ lr)))<|AA<|on<|AO<|zy (CC [26,3102,30,3104,3106,3108,3110,3114,34,3112] hk0) (by simp only[CG,h1,h2,h3,h4,h5,h6,h7,h8,h9,h10,mi,mj]<;>kernel_rfl)
 have g10:=oF h10;refine AA<|on<|kb (decide (((Bw q.e0 26):Int)=10)) (fun h11=>?_) (fun h11=>?_)
 ·have g11:=oT h11;exact oe [] _ [none,(3:Int)≠0,none,(AR b).length=(AR b).length,(AR b).length+1<=maxLen,((AR b).length+1)*72<=140737488355328] (J2 197 202 (E8 (mqb q) au24) (MU (mqa q))) (H4 au16 rfl au18 au18)<|Ao<|AE<|AZ (Ag 205 (Ac (AU 6 AM.c (AR b)) (Ai 6 AM.c ([AM.mk (W64 (10+(mqa q))) (A3 (mqb q)) (W64 (1+(tqb q 3))) (DP (mqa q))]:List AM))))<|AA<|on<|AO<|zy (CC [26,3100,205,30,3104,3106,3108,3110,3114,34,3112] hk0) (by simp only[CG,h1,h2,h3,h4,h5,h6,h7,h8,h9,h10,h11,mi,mj]<;>kernel_rfl)
 have g11:=oF h11;refine AA<|on<|kb (decide (((Bw q.e0 26):Int)=11)) (fun h12=>?_) (fun h12=>?_)
 ·have g12:=oT h12;refine AA<|on<|kb (decide ((0:Int)<((AR b).length:Int))) (fun h13=>?_) (fun h13=>?_)
  ·have g13:=oT h13;exact od [] [] [(((AR b).length:Int):Int)≠0,(4:Int)≠0,0<=(tqb q ((AR b).length:Int):Int)/\(tqb q ((AR b).length:Int):Int)<((AR b).length:Int),(tqb q ((AR b).length:Int)).toNat<(AR b).length] .nil (H4 au16 au16 au8 au8)<|Ao<|AE<|AZ (Ag 3102 (DU (l:=[.i (W64 ((Int.tmod (mqa q) 4)+1))]) (off:=2) (q:=1) (k:=(tqb q ((AR b).length:Int)).toNat) (AU 6 AM.c (AR b)) au8 (AM.mk ((AR b).getD (tqb q ((AR b).length:Int)).toNat default).Id ((AR b).getD (tqb q ((AR b).length:Int)).toNat default).Net (W64 ((Int.tmod (mqa q) 4)+1)) ((AR b).getD (tqb q ((AR b).length:Int)).toNat default).Shape) (Do kr)))<|AA<|on<|AO<|zy (CC [26,3100,3102,30,3104,3106,3108,3110,3114,34,3112] hk0) (by simp only[CG,h1,h2,h3,h4,h5,h6,h7,h8,h9,h10,h11,h12,h13,mi,mj]<;>kernel_rfl)
  exact AP<|Ao<|AE<|AA<|on<|AO<|zy (CC [26,3100,3102,30,3104,3106,3108,3110,3114,34,3112] hk0) (by simp only[CG,h1,h2,h3,h4,h5,h6,h7,h8,h9,h10,h11,h12,h13,mi,mj]<;>kernel_rfl)
 have g12:=oF h12;refine AA<|on<|kb (decide (((Bw q.e0 26):Int)=12)) (fun h13=>?_) (fun h13=>?_)
 ·have g13:=oT h13;refine AA<|on<|kb (decide ((0:Int)<((AR b).length:Int))) (fun h14=>?_) (fun h14=>?_)
  ·have g14:=oT h14;refine od [] [] [(((AR b).length:Int):Int)≠0,(AR b).length=(AR b).length,0<=(0:Int)/\(0:Int)<=(tqb q ((AR b).length:Int):Int)/\(tqb q ((AR b).length:Int):Int)<=((AR b).length:Int),(((AR b).length:Int):Int)≠0,(AR b).length=(AR b).length,0<=(W64 ((tqb q ((AR b).length:Int))+1):Int)/\(W64 ((tqb q ((AR b).length:Int))+1):Int)<=(((AR b).length:Int):Int)/\(((AR b).length:Int):Int)<=((AR b).length:Int),(0:Int).toNat=0,(tqb q ((AR b).length:Int):Int).toNat-(0:Int).toNat<=(AR b).length,(W64 ((tqb q ((AR b).length:Int))+1):Int).toNat+((((AR b).length:Int):Int).toNat-(W64 ((tqb q ((AR b).length:Int))+1):Int).toNat)<=(AR b).length,((tqb q ((AR b).length:Int):Int).toNat-(0:Int).toNat)+((((AR b).length:Int):Int).toNat-(W64 ((tqb q ((AR b).length:Int))+1):Int).toNat)<=maxLen,(((tqb q ((AR b).length:Int):Int).toNat-(0:Int).toNat)+((((AR b).length:Int):Int).toNat-(W64 ((tqb q ((AR b).length:Int))+1):Int).toNat))*72<=140737488355328] .nil (.cons au16 (.cons rfl (.cons au8 (.cons au16 (.cons rfl (.cons au8 (.cons rfl (.cons au8 (.cons au8 (.cons au18 (.cons au18 .nil)))))))))))<|Ao<|AE ?_
   exact AZ (Ag 248 (UP (n1:=(tqb q ((AR b).length:Int):Int).toNat-(0:Int).toNat) (lo2:=(W64 ((tqb q ((AR b).length:Int))+1):Int).toNat) (n2:=(((AR b).length:Int):Int).toNat-(W64 ((tqb q ((AR b).length:Int))+1):Int).toNat) (AU 6 AM.c (AR b)) au8 au8))<|AA<|on<|AO<|zy (CC [26,3100,248,30,3104,3106,3108,3110,3114,34,3112] hk0) (by simp only[CG,h1,h2,h3,h4,h5,h6,h7,h8,h9,h10,h11,h12,h13,h14,mi,mj]<;>kernel_rfl)
  exact AP<|Ao<|AE<|AA<|on<|AO<|zy (CC [26,3100,3102,30,3104,3106,3108,3110,3114,34,3112] hk0) (by simp only[CG,h1,h2,h3,h4,h5,h6,h7,h8,h9,h10,h11,h12,h13,h14,mi,mj]<;>kernel_rfl)
 have g13:=oF h13;refine AA<|on<|kb (decide (((Bw q.e0 26):Int)=13)) (fun h14=>?_) (fun h14=>?_)
 ·have g14:=oT h14;exact oc [] [(9:Int)≠0,(9:Int)≠0,(2:Int)≠0,(3:Int)≠0,(2:Int)≠0,b.Vias.length=b.Vias.length,b.Vias.length+1<=maxLen,(b.Vias.length+1)*72<=140737488355328] .nil (H8 au16 au16 au16 au16 au16 rfl au18 au18)<|Ao<|AE<|AZ (Ag 275 (Ac (AU 8 Ak.c b.Vias) (Ai 8 Ak.c ([Ak.mk (W64 (60+(mqa q))) (⟨#[71,78,68]⟩:my) (AG.mk (W64 (10*(mqa q))) (W64 (5*(mqb q)))) (W64 (8-(Int.tmod (mqa q) 9))) (tqb q 9) (W64 (1+(tqb q 2))) (W64 (2+(W64 (Int.tdiv (Int.tmod (mqa q) 3) 2))))]:List Ak))))<|AA<|on<|AO<|zy (CC [26,3100,3102,275,3104,3106,3108,3110,3114,34,3112] hk0) (by simp only[CG,h1,h2,h3,h4,h5,h6,h7,h8,h9,h10,h11,h12,h13,h14,mi,mj]<;>kernel_rfl)
 have g14:=oF h14;refine AA<|on<|kb (decide (((Bw q.e0 26):Int)=14)) (fun h15=>?_) (fun h15=>?_)
 ·have g15:=oT h15;refine AA<|on<|kb (decide ((0:Int)<(b.Vias.length:Int))) (fun h16=>?_) (fun h16=>?_)
  ·have g16:=oT h16;refine od [] [] [((b.Vias.length:Int):Int)≠0,((b.Vias.length:Int):Int)≠0,0<=(tqb q (b.Vias.length:Int):Int)/\(tqb q (b.Vias.length:Int):Int)<(b.Vias.length:Int),(tqb q (b.Vias.length:Int)).toNat<b.Vias.length,0<=(tqb q (b.Vias.length:Int):Int)/\(tqb q (b.Vias.length:Int):Int)<(b.Vias.length:Int),(tqb q (b.Vias.length:Int)).toNat<b.Vias.length] .nil (H6 au16 au16 au8 au8 au8 au8)<|Ao<|AE ?_;exact AZ (Ag 30 (DU (l:=[.i (W64 ((b.Vias.getD (tqb q (b.Vias.length:Int)).toNat default).At.X+(W64 (3*(mqa q)))))]) (off:=2) (q:=1) (k:=(tqb q (b.Vias.length:Int)).toNat) (AU 8 Ak.c b.Vias) au8 (Ak.mk (b.Vias.getD (tqb q (b.Vias.length:Int)).toNat default).Id (b.Vias.getD (tqb q (b.Vias.length:Int)).toNat default).Net (AG.mk (W64 ((b.Vias.getD (tqb q (b.Vias.length:Int)).toNat default).At.X+(W64 (3*(mqa q))))) (b.Vias.getD (tqb q (b.Vias.length:Int)).toNat default).At.Y) (b.Vias.getD (tqb q (b.Vias.length:Int)).toNat default).R (b.Vias.getD (tqb q (b.Vias.length:Int)).toNat default).Drill (b.Vias.getD (tqb q (b.Vias.length:Int)).toNat default).From (b.Vias.getD (tqb q (b.Vias.length:Int)).toNat default).To) (Do kr)))<|AA<|on<|AO<|zy (CC [26,3100,3102,30,3104,3106,3108,3110,3114,34,3112] hk0) (by simp only[CG,h1,h2,h3,h4,h5,h6,h7,h8,h9,h10,h11,h12,h13,h14,h15,h16,mi,mj]<;>kernel_rfl)
  exact AP<|Ao<|AE<|AA<|on<|AO<|zy (CC [26,3100,3102,30,3104,3106,3108,3110,3114,34,3112] hk0) (by simp only[CG,h1,h2,h3,h4,h5,h6,h7,h8,h9,h10,h11,h12,h13,h14,h15,h16,mi,mj]<;>kernel_rfl)
 have g15:=oF h15;refine AA<|on<|kb (decide (((Bw q.e0 26):Int)=15)) (fun h16=>?_) (fun h16=>?_)
 ·have g16:=oT h16;refine dw [] [] [(3:Int)≠0,(6:Int)≠0,0<=(Int.tmod (mqa q) 6:Int)/\(Int.tmod (mqa q) 6:Int)<((6:Nat):Int),(5:Int)≠0,(7:Int)≠0,(8:Int)≠0,(BQ b).length=(BQ b).length,(BQ b).length+1<=maxLen,((BQ b).length+1)*88<=140737488355328] ⟨E5,[(4,Z95),(5,.cells (DN b [.own 333 8 ((BQ b).length+1),.own 3106 5 (BK b).length,.own 3108 4 (BP b).length,.own 3110 2 (A0 b).length,.own 3114 20 (A2 b).length,.own 34 3 b.Waivers.length,.own 3112 3 (Ar b).length]) 41),(26,Z96 b),(30,Z99 b),(34,Z9f b),(333,.row 8 ((BQ b).length+1) (fun i_ j_=>if i_<(BQ b).length then(Lb b) i_ j_ else(A9 8 1 [.i (W64 (70+(mqa q))),.s (⟨#[78,49]⟩:my),.i (W64 (1+(tqb q 3))),.i (([20,0,1,33554432,10,134217728]:List Int).getD (NT q).toNat 0),.i 0,.i (W64 ((tqb q 5)-1)),.i 3,.list true 4 1 (mR q)]) (i_-(BQ b).length) j_) 97),(3100,Z97 b),(3102,Z98 b),(3106,Z9b b),(3108,Z9c b),(3110,Z9d b),(3112,Z9g b),(3114,Z9e b)]⟩ .nil (.cons au16 (.cons au16 (.cons au8 (.cons au16 (.cons au16 (.cons au16 (.cons rfl (.cons au18 (.cons au18 .nil)))))))))<|Ao<|AE ?_
  refine AZ (DD (⟨E5,[(4,Z95),(5,.cells (DN b [.own 333 8 ((BQ b)++[A8.mk (W64 (70+(mqa q))) (⟨#[78,49]⟩:my) (W64 (1+(tqb q 3))) (([20,0,1,33554432,10,134217728]:List Int).getD (NT q).toNat 0) 0 (W64 ((tqb q 5)-1)) 3 (Pe q)]).length,.own 3106 5 (BK b).length,.own 3108 4 (BP b).length,.own 3110 2 (A0 b).length,.own 3114 20 (A2 b).length,.own 34 3 b.Waivers.length,.own 3112 3 (Ar b).length]) 41),(26,Z96 b),(30,Z99 b),(34,Z9f b),(333,.row 8 ((BQ b)++[A8.mk (W64 (70+(mqa q))) (⟨#[78,49]⟩:my) (W64 (1+(tqb q 3))) (([20,0,1,33554432,10,134217728]:List Int).getD (NT q).toNat 0) 0 (W64 ((tqb q 5)-1)) 3 (Pe q)]).length (AL A8.c ((BQ b)++[A8.mk (W64 (70+(mqa q))) (⟨#[78,49]⟩:my) (W64 (1+(tqb q 3))) (([20,0,1,33554432,10,134217728]:List Int).getD (NT q).toNat 0) 0 (W64 ((tqb q 5)-1)) 3 (Pe q)])) 97),(3100,Z97 b),(3102,Z98 b),(3106,Z9b b),(3108,Z9c b),(3110,Z9d b),(3112,Z9g b),(3114,Z9e b)]⟩) lr (rz (.cons ⟨rfl,.cells _ (rr5 (rr3 (.cons (.own _ _ au17) (rr (rr (rr (rr (rr (rr .nil)))))))))⟩ (rz (rz (rz (.cons ⟨rfl,CS 97 (Ac (AU 8 A8.c (BQ b)) (Dn (c:=A8.c) (xs:=([A8.mk (W64 (70+(mqa q))) (⟨#[78,49]⟩:my) (W64 (1+(tqb q 3))) (([20,0,1,33554432,10,134217728]:List Int).getD (Int.tmod (mqa q) 6).toNat 0) 0 (W64 ((tqb q 5)-1)) 3 [Al.mk (tqb q 7) 1 (W64 (2+(Int.tmod (mqa q) 8))) 3]]:List A8)) (y:=[[.i (W64 (70+(mqa q))),.s (⟨#[78,49]⟩:my),.i (W64 (1+(tqb q 3))),.i (([20,0,1,33554432,10,134217728]:List Int).getD (Int.tmod (mqa q) 6).toNat 0),.i 0,.i (W64 ((tqb q 5)-1)),.i 3,.list true 4 1 (A9 4 1 [.i (tqb q 7),.i 1,.i (W64 (2+(Int.tmod (mqa q) 8))),.i 3])]]) (z:=[[.i (W64 (70+(mqa q))),.s (⟨#[78,49]⟩:my),.i (W64 (1+(tqb q 3))),.i (([20,0,1,33554432,10,134217728]:List Int).getD (Int.tmod (mqa q) 6).toNat 0),.i 0,.i (W64 ((tqb q 5)-1)),.i 3,lst 4 Al.c [Al.mk (tqb q 7) 1 (W64 (2+(Int.tmod (mqa q) 8))) 3]]]) rfl kr kr (.cons (rr5 (rr2 (.cons (BO true (BN (c:=Al.c) (xs:=([Al.mk (tqb q 7) 1 (W64 (2+(Int.tmod (mqa q) 8))) 3]:List Al)) rfl kr)) .nil))) .nil)))⟩ lr)))))))<|AA ?_
  exact on<|AO<|zy (CC [26,3100,3102,30,333,3106,3108,3110,3114,34,3112] hk0) (by simp only[CG,h1,h2,h3,h4,h5,h6,h7,h8,h9,h10,h11,h12,h13,h14,h15,h16,mi,mj]<;>kernel_rfl)
 have g16:=oF h16;refine AA<|rn ⟨(JW q [(21,tI (Bw q.e0 26)),(335,tB (decide (((Bw q.e0 26):Int)=16)))]),(eK b)⟩ ?_;have h17:(decide (((Bw q.e0 26):Int)=16))=false:=(lk hq16);have g17:=oF h17;refine BC _ rfl (fun h=>absurd (h17.symm.trans h) m4) (fun _=>?_);refine AA<|on<|kb (decide (((Bw q.e0 26):Int)=17)) (fun h18=>?_) (fun h18=>?_)
 ·have g18:=oT h18;exact oe [] _ [(5:Int)≠0,none,(BK b).length=(BK b).length,(BK b).length+1<=maxLen,((BK b).length+1)*56<=140737488355328] (J1 383 (MU (mqa q))) (H4 au16 rfl au18 au18)<|Ao<|AE<|AZ (Ag 386 (Ac (AU 5 BA.c (BK b)) (Ai 5 BA.c ([BA.mk (W64 (80+(mqa q))) (W64 ((tqb q 5)-1)) (DP (mqa q))]:List BA))))<|AA<|on<|AO<|zy (CC [26,3100,3102,30,3104,386,3108,3110,3114,34,3112] hk0) (by simp only[CG,h1,h2,h3,h4,h5,h6,h7,h8,h9,h10,h11,h12,h13,h14,h15,h16,h17,h18,mi,mj]<;>kernel_rfl)
 have g18:=oF h18;refine AA<|on<|kb (decide (((Bw q.e0 26):Int)=18)) (fun h19=>?_) (fun h19=>?_)
 ·have g19:=oT h19;exact oe [] _ [none,(BP b).length=(BP b).length,(BP b).length+1<=maxLen,((BP b).length+1)*48<=140737488355328] (J1 395 (MU (mqa q))) (H3 rfl au18 au18)<|Ao<|AE<|AZ (Ag 398 (Ac (AU 4 AX.c (BP b)) (Ai 4 AX.c ([AX.mk (W64 (90+(mqa q))) (DP (mqa q))]:List AX))))<|AA<|on<|AO<|zy (CC [26,3100,3102,30,3104,3106,398,3110,3114,34,3112] hk0) (by simp only[CG,h1,h2,h3,h4,h5,h6,h7,h8,h9,h10,h11,h12,h13,h14,h15,h16,h17,h18,h19,mi,mj]<;>kernel_rfl)
 have g19:=oF h19;refine AA<|on<|kb (decide (((Bw q.e0 26):Int)=19)) (fun h20=>?_) (fun h20=>?_)
 ·have g20:=oT h20;refine dO [] _ [none,none,(A0 b).length=(A0 b).length,(A0 b).length+1<=maxLen,((A0 b).length+1)*40<=140737488355328] ⟨E5,[(4,Z95),(5,.cells (DN b (H0 b [.own 411 2 ((A0 b).length+1),.own 3114 20 (A2 b).length,.own 34 3 b.Waivers.length,.own 3112 3 (Ar b).length])) 41),(26,Z96 b),(30,Z99 b),(34,Z9f b),(411,.row 2 ((A0 b).length+1) (fun i_ j_=>if i_<(A0 b).length then(Je b) i_ j_ else(A9 2 1 [.s (A3 (mqa q)),.list true 1 1 (A9 1 1 [.s (A3 (mqb q))])]) (i_-(A0 b).length) j_) 138),(3100,Z97 b),(3102,Z98 b),(3104,Z9a b),(3106,Z9b b),(3108,Z9c b),(3112,Z9g b),(3114,Z9e b)]⟩ (J2 405 407 (E8 (mqa q) au24) (E8 (mqb q) au24)) (H3 rfl au18 au18)<|Ao<|AE ?_;exact AZ (DD (⟨E5,[(4,Z95),(5,Z9P b q),(26,Z96 b),(30,Z99 b),(34,Z9f b),(411,Z9Q b q),(3100,Z97 b),(3102,Z98 b),(3104,Z9a b),(3106,Z9b b),(3108,Z9c b),(3112,Z9g b),(3114,Z9e b)]⟩) lr (rz (.cons ⟨rfl,.cells _ (rr9 (rr2 (.cons (.own _ _ au17) (rr (rr (rr .nil))))))⟩ (rz (rz (rz (.cons ⟨rfl,CS 138 (Ac (AU 2 BG.c (A0 b)) (Dn (c:=BG.c) (xs:=([BG.mk (A3 (mqa q)) [A3 (mqb q)]]:List BG)) (y:=[[.s (A3 (mqa q)),.list true 1 1 (A9 1 1 [.s (A3 (mqb q))])]]) (z:=[[.s (A3 (mqa q)),lst 1 (fun x=>[.s x]) [A3 (mqb q)]]]) rfl kr kr (.cons (rr (.cons (BO true (BN (c:=(fun x=>[.s x])) (xs:=([A3 (mqb q)]:List my)) rfl kr)) .nil)) .nil)))⟩ lr)))))))<|AA<|on<|AO<|zy (CC [26,3100,3102,30,3104,3106,3108,411,3114,34,3112] hk0) (by simp only[CG,h1,h2,h3,h4,h5,h6,h7,h8,h9,h10,h11,h12,h13,h14,h15,h16,h17,h18,h19,h20,mi,mj]<;>kernel_rfl)
 have g20:=oF h20;refine AA<|on<|kb (decide (((Bw q.e0 26):Int)=20)) (fun h21=>?_) (fun h21=>?_)
 ·have g21:=oT h21;refine dO [] _ [none,none,(Ar b).length=(Ar b).length,(Ar b).length+1<=maxLen,((Ar b).length+1)*48<=140737488355328] ⟨E5,[(4,Z95),(5,.cells (DN b (H0 b (PD b [.own 426 3 ((Ar b).length+1)]))) 41),(26,Z96 b),(30,Z99 b),(34,Z9f b),(426,.row 3 ((Ar b).length+1) (fun i_ j_=>if i_<(Ar b).length then(Jd b) i_ j_ else(A9 3 1 [.s (A3 (mqa q)),.list true 1 2 (A9 1 2 [.s (⟨#[78,49]⟩:my),.s (A3 (mqb q))]),.i (W64 ((mqb q)-1))]) (i_-(Ar b).length) j_) 140),(3100,Z97 b),(3102,Z98 b),(3104,Z9a b),(3106,Z9b b),(3108,Z9c b),(3110,Z9d b),(3114,Z9e b)]⟩ (J2 418 420 (E8 (mqa q) au24) (E8 (mqb q) au24)) (H3 rfl au18 au18)<|Ao<|AE ?_
  exact AZ (DD (⟨E5,[(4,Z95),(5,Z9R b q),(26,Z96 b),(30,Z99 b),(34,Z9f b),(426,Z9S b q),(3100,Z97 b),(3102,Z98 b),(3104,Z9a b),(3106,Z9b b),(3108,Z9c b),(3110,Z9d b),(3114,Z9e b)]⟩) lr (rz (.cons ⟨rfl,.cells _ (rr9 (rr5 (.cons (.own _ _ au17) .nil)))⟩ (rz (rz (rz (.cons ⟨rfl,CS 140 (Ac (AU 3 BI.c (Ar b)) (Dn (c:=BI.c) (xs:=([BI.mk (A3 (mqa q)) [(⟨#[78,49]⟩:my),A3 (mqb q)] (W64 ((mqb q)-1))]:List BI)) (y:=[[.s (A3 (mqa q)),.list true 1 2 (A9 1 2 [.s (⟨#[78,49]⟩:my),.s (A3 (mqb q))]),.i (W64 ((mqb q)-1))]]) (z:=[[.s (A3 (mqa q)),lst 1 (fun x=>[.s x]) [(⟨#[78,49]⟩:my),A3 (mqb q)],.i (W64 ((mqb q)-1))]]) rfl kr kr (.cons (rr (.cons (BO true (BN (c:=(fun x=>[.s x])) (xs:=([(⟨#[78,49]⟩:my),A3 (mqb q)]:List my)) rfl kr)) (rr .nil))) .nil)))⟩ lr)))))))<|AA<|on<|AO<|zy (CC [26,3100,3102,30,3104,3106,3108,3110,3114,34,426] hk0) (by simp only[CG,h1,h2,h3,h4,h5,h6,h7,h8,h9,h10,h11,h12,h13,h14,h15,h16,h17,h18,h19,h20,h21,mi,mj]<;>kernel_rfl)
 have g21:=oF h21;refine AA<|on<|kb (decide (((Bw q.e0 26):Int)=21)) (fun h22=>?_) (fun h22=>?_)
 ·have g22:=oT h22;exact oc [] [(13:Int)≠0,b.Waivers.length=b.Waivers.length,b.Waivers.length+1<=maxLen,(b.Waivers.length+1)*32<=140737488355328] .nil (H4 au16 rfl au18 au18)<|Ao<|AE<|AZ (Ag 438 (Ac (AU 3 As.c b.Waivers) (Ai 3 As.c ([As.mk (W64 (1+(mqa q))) (tqb q 13) (⟨#[99,50]⟩:my)]:List As))))<|AA<|on<|AO<|zy (CC [26,3100,3102,30,3104,3106,3108,3110,3114,438,3112] hk0) (by simp only[CG,h1,h2,h3,h4,h5,h6,h7,h8,h9,h10,h11,h12,h13,h14,h15,h16,h17,h18,h19,h20,h21,h22,mi,mj]<;>kernel_rfl)
 have g22:=oF h22;refine AA<|on<|kb (decide (((Bw q.e0 26):Int)=22)) (fun h23=>?_) (fun h23=>?_)
 ·have g23:=oT h23;refine AA<|on<|kb (decide ((0:Int)<((A2 b).length:Int))) (fun h24=>?_) (fun h24=>?_)
  ·have g24:=oT h24;exact od [] [] [(((A2 b).length:Int):Int)≠0,0<=(tqb q ((A2 b).length:Int):Int)/\(tqb q ((A2 b).length:Int):Int)<((A2 b).length:Int),(tqb q ((A2 b).length:Int)).toNat<(A2 b).length] .nil (H3 au16 au8 au8)<|Ao<|AE<|AZ (Ag 3114 (DU (l:=[.i (W64 ((mqa q)-1))]) (off:=19) (q:=1) (k:=(tqb q ((A2 b).length:Int)).toNat) (AU 20 A5.c (A2 b)) au8 (A5.mk ((A2 b).getD (tqb q ((A2 b).length:Int)).toNat default).Name ((A2 b).getD (tqb q ((A2 b).length:Int)).toNat default).Priority ((A2 b).getD (tqb q ((A2 b).length:Int)).toNat default).What ((A2 b).getD (tqb q ((A2 b).length:Int)).toNat default).A ((A2 b).getD (tqb q ((A2 b).length:Int)).toNat default).B (W64 ((mqa q)-1))) (Do kr)))<|AA<|on<|AO<|zy (CC [26,3100,3102,30,3104,3106,3108,3110,3114,34,3112] hk0) (by simp only[CG,h1,h2,h3,h4,h5,h6,h7,h8,h9,h10,h11,h12,h13,h14,h15,h16,h17,h18,h19,h20,h21,h22,h23,h24,mi,mj]<;>kernel_rfl)
  exact AP<|Ao<|AE<|AA<|on<|AO<|zy (CC [26,3100,3102,30,3104,3106,3108,3110,3114,34,3112] hk0) (by simp only[CG,h1,h2,h3,h4,h5,h6,h7,h8,h9,h10,h11,h12,h13,h14,h15,h16,h17,h18,h19,h20,h21,h22,h23,h24,mi,mj]<;>kernel_rfl)
 have g23:=oF h23;refine AA<|on<|kb (decide (((Bw q.e0 26):Int)=23)) (fun h24=>?_) (fun h24=>?_)
 ·have g24:=oT h24;refine AA<|on<|kb (decide ((0:Int)<(b.Parts.length:Int))) (fun h25=>?_) (fun h25=>?_)
  ·have g25:=oT h25;refine od [] [] [((b.Parts.length:Int):Int)≠0,b.Parts.length=b.Parts.length,0<=(0:Int)/\(0:Int)<=(tqb q (b.Parts.length:Int):Int)/\(tqb q (b.Parts.length:Int):Int)<=(b.Parts.length:Int),((b.Parts.length:Int):Int)≠0,b.Parts.length=b.Parts.length,0<=(W64 ((tqb q (b.Parts.length:Int))+1):Int)/\(W64 ((tqb q (b.Parts.length:Int))+1):Int)<=((b.Parts.length:Int):Int)/\((b.Parts.length:Int):Int)<=(b.Parts.length:Int),(0:Int).toNat=0,(tqb q (b.Parts.length:Int):Int).toNat-(0:Int).toNat<=b.Parts.length,(W64 ((tqb q (b.Parts.length:Int))+1):Int).toNat+(((b.Parts.length:Int):Int).toNat-(W64 ((tqb q (b.Parts.length:Int))+1):Int).toNat)<=b.Parts.length,((tqb q (b.Parts.length:Int):Int).toNat-(0:Int).toNat)+(((b.Parts.length:Int):Int).toNat-(W64 ((tqb q (b.Parts.length:Int))+1):Int).toNat)<=maxLen,(((tqb q (b.Parts.length:Int):Int).toNat-(0:Int).toNat)+(((b.Parts.length:Int):Int).toNat-(W64 ((tqb q (b.Parts.length:Int))+1):Int).toNat))*72<=140737488355328] .nil (.cons au16 (.cons rfl (.cons au8 (.cons au16 (.cons rfl (.cons au8 (.cons rfl (.cons au8 (.cons au8 (.cons au18 (.cons au18 .nil)))))))))))<|Ao<|AE ?_
   exact AZ (Ag 480 (UP (n1:=(tqb q (b.Parts.length:Int):Int).toNat-(0:Int).toNat) (lo2:=(W64 ((tqb q (b.Parts.length:Int))+1):Int).toNat) (n2:=((b.Parts.length:Int):Int).toNat-(W64 ((tqb q (b.Parts.length:Int))+1):Int).toNat) (AU 7 AD.c b.Parts) au8 au8))<|AA<|on<|AO<|zy (CC [480,3100,3102,30,3104,3106,3108,3110,3114,34,3112] hk0) (by simp only[CG,h1,h2,h3,h4,h5,h6,h7,h8,h9,h10,h11,h12,h13,h14,h15,h16,h17,h18,h19,h20,h21,h22,h23,h24,h25,mi,mj]<;>kernel_rfl)
  exact AP<|Ao<|AE<|AA<|on<|AO<|zy (CC [26,3100,3102,30,3104,3106,3108,3110,3114,34,3112] hk0) (by simp only[CG,h1,h2,h3,h4,h5,h6,h7,h8,h9,h10,h11,h12,h13,h14,h15,h16,h17,h18,h19,h20,h21,h22,h23,h24,h25,mi,mj]<;>kernel_rfl)
 have g24:=oF h24;refine AA<|on<|kb (decide (((Bw q.e0 26):Int)=24)) (fun h25=>?_) (fun h25=>?_)
 ·have g25:=oT h25;refine AA<|on<|kb (decide ((0:Int)<((AR b).length:Int))) (fun h26=>?_) (fun h26=>?_)
  ·have g26:=oT h26;exact oe [] _ [(((AR b).length:Int):Int)≠0,none,0<=(tqb q ((AR b).length:Int):Int)/\(tqb q ((AR b).length:Int):Int)<((AR b).length:Int),(tqb q ((AR b).length:Int)).toNat<(AR b).length] (J1 496 (E8 (mqa q) au24)) (H3 au16 au8 au8)<|Ao<|AE<|AZ (Ag 3102 (DU (l:=[.s (A3 (mqa q))]) (off:=1) (q:=1) (k:=(tqb q ((AR b).length:Int)).toNat) (AU 6 AM.c (AR b)) au8 (AM.mk ((AR b).getD (tqb q ((AR b).length:Int)).toNat default).Id (A3 (mqa q)) ((AR b).getD (tqb q ((AR b).length:Int)).toNat default).Layer ((AR b).getD (tqb q ((AR b).length:Int)).toNat default).Shape) (Do kr)))<|AA<|on<|AO<|zy (CC [26,3100,3102,30,3104,3106,3108,3110,3114,34,3112] hk0) (by simp only[CG,h1,h2,h3,h4,h5,h6,h7,h8,h9,h10,h11,h12,h13,h14,h15,h16,h17,h18,h19,h20,h21,h22,h23,h24,h25,h26,mi,mj]<;>kernel_rfl)
  exact AP<|Ao<|AE<|AA<|on<|AO<|zy (CC [26,3100,3102,30,3104,3106,3108,3110,3114,34,3112] hk0) (by simp only[CG,h1,h2,h3,h4,h5,h6,h7,h8,h9,h10,h11,h12,h13,h14,h15,h16,h17,h18,h19,h20,h21,h22,h23,h24,h25,h26,mi,mj]<;>kernel_rfl)
 have g25:=oF h25;refine AA<|rn ⟨[(4,tP 4 0),(5,tP 5 0),(6,tI (mqa q)),(10,tI 0)],(eK b)⟩<|AJ<|lpC (κ:=List BA×Int) (fun x=>⟨[(4,tP 4 0),(5,tP 5 0),(6,tI (mqa q)),(10,tI x.2.2)],[(4,Z95),(5,.cells (DN b [.own 3104 8 (BQ b).length,.own 3106 5 x.2.1.length,.own 3108 4 (BP b).length,.own 3110 2 (A0 b).length,.own 3114 20 (A2 b).length,.own 34 3 b.Waivers.length,.own 3112 3 (Ar b).length]) 41),(26,Z96 b),(30,Z99 b),(34,Z9f b),(3100,Z97 b),(3102,Z98 b),(3104,Z9a b),(3106,.row 5 x.2.1.length (AL BA.c x.2.1) 136),(3108,Z9c b),(3110,Z9d b),(3112,Z9g b),(3114,Z9e b)]⟩) (fun x=>((W64 (79+(Int.tmod (mqa q) 4)))-x.2.2).toNat) (fun x=>(0<=x.2.2/\(x.2.2<=(W64 (79+(Int.tmod (mqa q) 4)))\/x.2.2=0)/\(x.2.1.length:Int)<=((BK b).length:Int)+1*(x.2.2-0))/\Gc b q x.1 x.2.1 x.2.2=CG b q) ?_ (((W64 (79+(Int.tmod (mqa q) 4)))-0).toNat+1,BK b,0) ⟨lz _,⟨ax0,ax0,ax0⟩,(by simp only[CG,h1,h2,h3,h4,h5,h6,h7,h8,h9,h10,h11,h12,h13,h14,h15,h16,h17,h18,h19,h20,h21,h22,h23,h24,h25,mi,mj])⟩;rintro n0 ⟨pi,na⟩ nq ⟨nm,ng⟩
 try dsimp only at nq nm ng
 have hw7:=w79 hN.1;have hk9:((BK b).length:Int)<=1000000:=by rw[Um];exact hc.lKeeps
 have hv9:(pi.length:Int)<=2000000:=by omega
 refine AA<|AA<|oc [] [(4:Int)≠0] .nil (H1 au16)<|AE<|kb (decide ((na:Int)<(W64 (79+(Int.tmod (mqa q) 4))))) (fun h26=>?_) (fun h26=>?_)
 ·have g26:=oT h26;refine AP<|AE<|AA<|AJ<|oe [] _ [none,pi.length=pi.length,pi.length+1<=maxLen,(pi.length+1)*56<=140737488355328] (J1 35 (MX (AG.mk na 0) 1)) (H3 rfl au18 au18)<|Ao<|AE<|AZ (Ag 38 (Ac (AU 5 BA.c pi) (Ai 5 BA.c ([BA.mk (W64 (100+na)) 0 (IP (AG.mk na 0) 1)]:List BA))))<|rg ⟨[(4,tP 4 0),(5,tP 5 0),(6,tI (mqa q)),(10,tI (W64 (na+1)))],[(4,Z95),(5,Za2 b pi na),(26,Z96 b),(30,Z99 b),(34,Z9f b),(38,Za3 pi na),(3100,Z97 b),(3102,Z98 b),(3104,Z9a b),(3108,Z9c b),(3110,Z9d b),(3112,Z9g b),(3114,Z9e b)]⟩ ?_
  (try rw[(show W64 (na+1)=na+1 from Ae oM au5)])
  refine AE ?_;refine⟨(n0,pi++[BA.mk (W64 (100+na)) 0 (IP (AG.mk na 0) 1)],na+1),⟨?_,?_,(by rw[<- ng];simp only[Gc,h26,mi,mj])⟩,lz _,Cv.trans (vr 38 3106 hk0) (Cv.trans (vk [4,5,6,10] [4,5,26,30,34,3100,3102,3104,3106,3108,3110,3112,3114]) (Az kr))⟩
  ·dsimp only;omega
  exact⟨ax0,ax0,ax0⟩
 exact Aw<|Aj<|Aj<|Ay<|Ao<|AE<|AA<|on<|AO<|zy (CC [26,3100,3102,30,3104,3106,3108,3110,3114,34,3112] hk0) (by rw[<- ng];simp only[Gc,h26,mi,mj]<;>kernel_rfl)
end
section
open Go.RowKit
def Za5:Blk:=.cells IA 41
variable (b:AC)(v:Nat->Value)
def Za6:Blk:=.cells (GL v [.own 61 2 1,.val (v 6),.val (v 7),.val (v 8),.val (v 9),.val (v 10),.val (v 11),.val (v 12),.val (v 13),.val (v 14)]) 41
abbrev Ci:=b.Nets.getD 0 default
abbrev PN:=AL Ab.c (Ci b).Pins
def Za7:Blk:=.row 2 (Ci b).Pins.length (PN b) 106
def Za8:Blk:=.rowx 2 1 m8 120 [(0,[.s (Ci b).Name,.own 58 2 (Ci b).Pins.length])]
abbrev Nb:List Cl:=[.s (Ci b).Name,.own 2000 2 (Ci b).Pins.length]
def Za9:Blk:=.rowx 2 1 m8 120 [(0,(Nb b))]
def Zaa:Blk:=.cells (GL v [.own 2001 2 1,.val (v 6),.val (v 7),.val (v 8),.val (v 9),.val (v 10),.val (v 11),.val (v 12),.val (v 13),.val (v 14)]) 41
def Zab:Blk:=.cells (GL v [.own 61 2 2,.val (v 6),.val (v 7),.val (v 8),.val (v 9),.val (v 10),.val (v 11),.val (v 12),.val (v 13),.val (v 14)]) 41
abbrev Ch:=b.Nets.getD 1 default
abbrev PM:=AL Ab.c (Ch b).Pins
def Zac:Blk:=.row 2 (Ch b).Pins.length (PM b) 106
def Zad:Blk:=.rowx 2 2 (fun i_ j_=>if i_<1 then m8 i_ j_ else m8 (i_-1) j_) 120 [(0,(Nb b)),(1,[.s (Ch b).Name,.own 58 2 (Ch b).Pins.length])]
abbrev R4:List Cl:=[.s (Ch b).Name,.own 2002 2 (Ch b).Pins.length]
def Zae:Blk:=.rowx 2 2 (fun i_ j_=>if i_<1 then m8 i_ j_ else m8 (i_-1) j_) 120 [(0,(Nb b)),(1,(R4 b))]
def Zaf:Blk:=.cells (GL v [.own 2003 2 2,.val (v 6),.val (v 7),.val (v 8),.val (v 9),.val (v 10),.val (v 11),.val (v 12),.val (v 13),.val (v 14)]) 41
def Zag:Blk:=.cells (GL v [.own 61 2 3,.val (v 6),.val (v 7),.val (v 8),.val (v 9),.val (v 10),.val (v 11),.val (v 12),.val (v 13),.val (v 14)]) 41
abbrev Cg:=b.Nets.getD 2 default
abbrev PL:=AL Ab.c (Cg b).Pins
def Zah:Blk:=.row 2 (Cg b).Pins.length (PL b) 106
def Zai:Blk:=.rowx 2 3 (fun i_ j_=>if i_<2 then(fun i_ j_=>if i_<1 then m8 i_ j_ else m8 (i_-1) j_) i_ j_ else m8 (i_-2) j_) 120 [(0,(Nb b)),(1,(R4 b)),(2,[.s (Cg b).Name,.own 58 2 (Cg b).Pins.length])]
abbrev Zy:List Cl:=[.s (Cg b).Name,.own 2004 2 (Cg b).Pins.length]
def Zaj:Blk:=.rowx 2 3 (fun i_ j_=>if i_<2 then(fun i_ j_=>if i_<1 then m8 i_ j_ else m8 (i_-1) j_) i_ j_ else m8 (i_-2) j_) 120 [(0,(Nb b)),(1,(R4 b)),(2,(Zy b))]
def Zak:Blk:=.cells (GL v [.own 2005 2 3,.val (v 6),.val (v 7),.val (v 8),.val (v 9),.val (v 10),.val (v 11),.val (v 12),.val (v 13),.val (v 14)]) 41
def Zal:Blk:=.cells (GL v [.own 3260 2 3,.val (v 6),.val (v 7),.val (v 8),.val (v 9),.val (v 10),.val (v 11),.val (v 12),.val (v 13),.val (v 14)]) 41
abbrev Jl:List Cl:=[.s (Ci b).Name,.own 3261 2 (Ci b).Pins.length]
abbrev Kg:List Cl:=[.s (Ch b).Name,.own 3262 2 (Ch b).Pins.length]
abbrev Lo:List Cl:=[.s (Cg b).Name,.own 3263 2 (Cg b).Pins.length]
def Zam:Blk:=.rowx 2 3 (fun i_ j_=>if i_<2 then(fun i_ j_=>if i_<1 then m8 i_ j_ else m8 (i_-1) j_) i_ j_ else m8 (i_-2) j_) 120 [(0,(Jl b)),(1,(Kg b)),(2,(Lo b))]
abbrev sCxN3(b:AC)(v:Nat->Value):AS:=⟨BJ,[(3003,Zal v),(A1 b),(3002,Za5),(3260,Zam b),(3261,Za7 b),(3262,Zac b),(3263,Zah b)]⟩
abbrev SB:List (Nat×Tv):=(Bi [(4,tI 1)])
abbrev SA:List (Nat×Tv):=(Bi [(4,tI 2)])
theorem au26{p:Prop}(h:p:=by first|decide|omega|(rw[hlen];decide)|(rw[show(b.Nets.length:Int)=3 from hlen];decide)):p:=h
theorem au12{p:Prop}(h:p:=by first|decide|omega|(unfold maxLen;omega)|(simp only[kG,kF,kE,Wu];omega)):p:=h
set_option maxHeartbeats 4000000 in
theorem gCxN3(b:AC)(hc:Ct b)(hlen:(b.Nets.length:Int)=3){c:Code}(hpc:Tryz.f46.body.bind (HI [true,true,false,true])=some c):Q4 Tryz.prog 229 [3003,3001,3002] c (fun _:Unit=>True) (fun v=>⟨[(1,tP 3001 0),(2,tP 3002 0),(3,tP 3003 0),(4,tI 0)],[(3003,.cells [.val (v 0),.val (v 1),.val (v 2),.val (v 3),.val (v 4),vN,.val (v 6),.val (v 7),.val (v 8),.val (v 9),.val (v 10),.val (v 11),.val (v 12),.val (v 13),.val (v 14)] 41),(3001,.cells (AC.c b) 41),(3002,.cells [.i 0,.i 0,vN,.i 0,vN,vN,vN,vN,vN,vN,vN,vN,vN,vN,vN] 41)]⟩) (fun v _=>sCxN3 b v):=by
 cases hpc;intro W0 M0 X v hP hFl;show AWp _ _ _ _ _ _ _ _ ⟨LT,[(eL v),(A1 b),C7]⟩;have ⟨p0,p1,p2,p3,p4,p5,p6,p7,p8,p9,p10,_,_,_,_,_,_,_,_,_⟩:=hc;have hr:=hc.rok;have hb0:=hc.pin 0;have hb1:=hc.pin 1;have hb2:=hc.pin 2;refine AJ<|Dq 4<|Bs<|AA<|AA<|rn ⟨(Bi [(4,tI 0),(40,tB (decide ((0:Int)<(b.Nets.length:Int))))]),[(A1 b),(3002,Za5),(eL v)]⟩ ?_;have h1:(decide ((0:Int)<(b.Nets.length:Int)))=true:=(by rw[hlen];decide);have g1:=oT h1;refine BC _ rfl (fun _=>?_) (fun h=>absurd (h1.symm.trans h) m4);refine AP<|AE<|AA<|AJ<|dw [51] [] [0<=(0:Int)/\(0:Int)<(b.Nets.length:Int),0<=(0:Int)/\(0:Int)<(b.Nets.length:Int),0=0,0+(b.Nets.getD 0 default).Pins.length<=maxLen,(0+(b.Nets.getD 0 default).Pins.length)*32<=140737488355328,1=1,0<1,1<=maxLen,1*40<=140737488355328] ⟨LT,[(58,.row 2 (0+(Ci b).Pins.length) (fun i_ j_=>if i_<0 then(A9 2 0 []) i_ j_ else(AL Ab.c (Ci b).Pins) (i_-0) j_) 106),(61,.rowx 2 1 m8 120 [(0,[.s (Ci b).Name,.own 58 2 (0+(Ci b).Pins.length)])]),(A1 b),(3002,Za5),(3003,Za6 v)]⟩ .nil (.cons au26 (.cons au26 (.cons rfl (.cons au12 (.cons au12 (.cons rfl (.cons m4 (.cons au12 (.cons au12 .nil)))))))))<|Ao<|AE<|AZ (DD (⟨LT,[(58,Za7 b),(61,Za8 b),(A1 b),(3002,Za5),(3003,Za6 v)]⟩) lr (.cons ⟨rfl,CS 106 (Ac (BN (c:=Ab.c) (xs:=(([]:List Ab):List Ab)) rfl kr) (AU 2 Ab.c (b.Nets.getD 0 default).Pins))⟩ (.cons ⟨rfl,.rowx _ _ _ _ (.cons ⟨rfl,(rr (.cons (.own _ _ au17) .nil))⟩ .nil)⟩ lr)))<|rn ⟨SB,[(58,Za7 b),(61,Za8 b),(A1 b),(3002,Za5),(3003,Za6 v)]⟩<|Bs ?_
 refine AZ (Cv.trans (CR (⟨SB,[(2000,Za7 b),(61,Za9 b),(A1 b),(3002,Za5),(3003,Za6 v)]⟩) 58 2000 (K:=[3003,3001,3002]) hP rfl rfl kr kr) (CR (⟨SB,[(2000,Za7 b),(2001,Za9 b),(A1 b),(3002,Za5),(3003,Zaa v)]⟩) 61 2001 (K:=[3003,3001,3002]) hP rfl rfl kr kr))<|AA<|AA<|rn ⟨(Bi [(4,tI 1),(40,tB (decide ((1:Int)<(b.Nets.length:Int))))]),[(2000,Za7 b),(2001,Za9 b),(A1 b),(3002,Za5),(3003,Zaa v)]⟩ ?_;have h2:(decide ((1:Int)<(b.Nets.length:Int)))=true:=(by rw[hlen];decide);have g2:=oT h2;refine BC _ rfl (fun _=>?_) (fun h=>absurd (h2.symm.trans h) m4)
 refine AP<|AE<|AA<|AJ<|dw [51] [] [0<=(1:Int)/\(1:Int)<(b.Nets.length:Int),0<=(1:Int)/\(1:Int)<(b.Nets.length:Int),0=0,0+(b.Nets.getD 1 default).Pins.length<=maxLen,(0+(b.Nets.getD 1 default).Pins.length)*32<=140737488355328,1=1,1=1,0<1,1+1<=maxLen,(1+1)*40<=140737488355328] ⟨SB,[(58,.row 2 (0+(Ch b).Pins.length) (fun i_ j_=>if i_<0 then(A9 2 0 []) i_ j_ else(AL Ab.c (Ch b).Pins) (i_-0) j_) 106),(61,.rowx 2 2 (fun i_ j_=>if i_<1 then m8 i_ j_ else m8 (i_-1) j_) 120 [(0,(Nb b)),(1,[.s (Ch b).Name,.own 58 2 (0+(Ch b).Pins.length)])]),(2000,Za7 b),(A1 b),(3002,Za5),(3003,Zab v)]⟩ .nil (.cons au26 (.cons au26 (.cons rfl (.cons au12 (.cons au12 (.cons rfl (.cons rfl (.cons m4 (.cons au12 (.cons au12 .nil))))))))))<|Ao<|AE<|AZ (DD (⟨SB,[(58,Zac b),(61,Zad b),(2000,Za7 b),(A1 b),(3002,Za5),(3003,Zab v)]⟩) lr (.cons ⟨rfl,CS 106 (Ac (BN (c:=Ab.c) (xs:=(([]:List Ab):List Ab)) rfl kr) (AU 2 Ab.c (b.Nets.getD 1 default).Pins))⟩ (.cons ⟨rfl,.rowx _ _ _ _ (.cons ⟨rfl,(rr (rr .nil))⟩ (.cons ⟨rfl,(rr (.cons (.own _ _ au17) .nil))⟩ .nil))⟩ lr))) ?_
 refine rn ⟨SA,[(58,Zac b),(61,Zad b),(2000,Za7 b),(A1 b),(3002,Za5),(3003,Zab v)]⟩<|Bs<|AZ (Cv.trans (CR (⟨SA,[(2002,Zac b),(61,Zae b),(2000,Za7 b),(A1 b),(3002,Za5),(3003,Zab v)]⟩) 58 2002 (K:=[3003,3001,3002]) hP rfl rfl kr kr) (CR (⟨SA,[(2002,Zac b),(2003,Zae b),(2000,Za7 b),(A1 b),(3002,Za5),(3003,Zaf v)]⟩) 61 2003 (K:=[3003,3001,3002]) hP rfl rfl kr kr))<|AA<|AA<|rn ⟨(Bi [(4,tI 2),(40,tB (decide ((2:Int)<(b.Nets.length:Int))))]),[(2000,Za7 b),(2002,Zac b),(2003,Zae b),(A1 b),(3002,Za5),(3003,Zaf v)]⟩ ?_;have h3:(decide ((2:Int)<(b.Nets.length:Int)))=true:=(by rw[hlen];decide);have g3:=oT h3;refine BC _ rfl (fun _=>?_) (fun h=>absurd (h3.symm.trans h) m4);refine AP<|AE<|AA<|AJ<|dw [51] [] [0<=(2:Int)/\(2:Int)<(b.Nets.length:Int),0<=(2:Int)/\(2:Int)<(b.Nets.length:Int),0=0,0+(b.Nets.getD 2 default).Pins.length<=maxLen,(0+(b.Nets.getD 2 default).Pins.length)*32<=140737488355328,2=2,1=1,0<1,2+1<=maxLen,(2+1)*40<=140737488355328] ⟨SA,[(58,.row 2 (0+(Cg b).Pins.length) (fun i_ j_=>if i_<0 then(A9 2 0 []) i_ j_ else(AL Ab.c (Cg b).Pins) (i_-0) j_) 106),(61,.rowx 2 3 (fun i_ j_=>if i_<2 then(fun i_ j_=>if i_<1 then m8 i_ j_ else m8 (i_-1) j_) i_ j_ else m8 (i_-2) j_) 120 [(0,(Nb b)),(1,(R4 b)),(2,[.s (Cg b).Name,.own 58 2 (0+(Cg b).Pins.length)])]),(2000,Za7 b),(2002,Zac b),(A1 b),(3002,Za5),(3003,Zag v)]⟩ .nil (.cons au26 (.cons au26 (.cons rfl (.cons au12 (.cons au12 (.cons rfl (.cons rfl (.cons m4 (.cons au12 (.cons au12 .nil))))))))))<|Ao<|AE ?_
 refine AZ (DD (⟨SA,[(58,Zah b),(61,Zai b),(2000,Za7 b),(2002,Zac b),(A1 b),(3002,Za5),(3003,Zag v)]⟩) lr (.cons ⟨rfl,CS 106 (Ac (BN (c:=Ab.c) (xs:=(([]:List Ab):List Ab)) rfl kr) (AU 2 Ab.c (b.Nets.getD 2 default).Pins))⟩ (.cons ⟨rfl,.rowx _ _ _ _ (.cons ⟨rfl,(rr (rr .nil))⟩ (.cons ⟨rfl,(rr (rr .nil))⟩ (.cons ⟨rfl,(rr (.cons (.own _ _ au17) .nil))⟩ .nil)))⟩ lr)))<|rn ⟨(Bi [(4,tI 3)]),[(58,Zah b),(61,Zai b),(2000,Za7 b),(2002,Zac b),(A1 b),(3002,Za5),(3003,Zag v)]⟩<|Bs<|AZ (Cv.trans (CR (⟨(Bi [(4,tI 3)]),[(2004,Zah b),(61,Zaj b),(2000,Za7 b),(2002,Zac b),(A1 b),(3002,Za5),(3003,Zag v)]⟩) 58 2004 (K:=[3003,3001,3002]) hP rfl rfl kr kr) (CR (⟨(Bi [(4,tI 3)]),[(2004,Zah b),(2005,Zaj b),(2000,Za7 b),(2002,Zac b),(A1 b),(3002,Za5),(3003,Zak v)]⟩) 61 2005 (K:=[3003,3001,3002]) hP rfl rfl kr kr))<|AA<|AA<|rn ⟨(Bi [(4,tI 3),(40,tB (decide ((3:Int)<(b.Nets.length:Int))))]),[(2000,Za7 b),(2002,Zac b),(2004,Zah b),(2005,Zaj b),(A1 b),(3002,Za5),(3003,Zak v)]⟩ ?_;have h4:(decide ((3:Int)<(b.Nets.length:Int)))=false:=(by rw[hlen];decide);have g4:=oF h4;refine BC _ rfl (fun h=>absurd (h4.symm.trans h) m4) (fun _=>?_);refine Aw<|Aj<|Aj<|Ay ?_
 exact⟨_,Cv.trans (CK [1,2,3] [2000,2002,2004,2005,3001,3002,3003] (⟨BJ,[(2000,Za7 b),(2002,Zac b),(2004,Zah b),(2005,Zaj b),(A1 b),(3002,Za5),(3003,Zak v)]⟩) kr) (Cv.trans (CR (⟨BJ,[(2000,Za7 b),(2002,Zac b),(2004,Zah b),(3260,Zaj b),(A1 b),(3002,Za5),(3003,Zal v)]⟩) 2005 3260 (K:=[3003,3001,3002]) hP rfl rfl kr kr) (Cv.trans (CR (⟨BJ,[(3261,Za7 b),(2002,Zac b),(2004,Zah b),(3260,.rowx 2 3 (fun i_ j_=>if i_<2 then(fun i_ j_=>if i_<1 then m8 i_ j_ else m8 (i_-1) j_) i_ j_ else m8 (i_-2) j_) 120 [(0,(Jl b)),(1,(R4 b)),(2,(Zy b))]),(A1 b),(3002,Za5),(3003,Zal v)]⟩) 2000 3261 (K:=[3003,3001,3002]) hP rfl rfl kr kr) (Cv.trans (CR (⟨BJ,[(3261,Za7 b),(3262,Zac b),(2004,Zah b),(3260,.rowx 2 3 (fun i_ j_=>if i_<2 then(fun i_ j_=>if i_<1 then m8 i_ j_ else m8 (i_-1) j_) i_ j_ else m8 (i_-2) j_) 120 [(0,(Jl b)),(1,(Kg b)),(2,(Zy b))]),(A1 b),(3002,Za5),(3003,Zal v)]⟩) 2002 3262 (K:=[3003,3001,3002]) hP rfl rfl kr kr) (Cv.trans (CR (⟨BJ,[(3261,Za7 b),(3262,Zac b),(3263,Zah b),(3260,Zam b),(A1 b),(3002,Za5),(3003,Zal v)]⟩) 2004 3263 (K:=[3003,3001,3002]) hP rfl rfl kr kr) (CK [1,2,3] [3003,3001,3002,3260,3261,3262,3263] (⟨BJ,[(3003,Zal v),(A1 b),(3002,Za5),(3260,Zam b),(3261,Za7 b),(3262,Zac b),(3263,Zah b)]⟩) kr))))),rfl,(),trivial,rfl⟩
end
section
open Go.RowKit
def Zan:Blk:=.cells IA 41
variable (b:AC)
def Zao:Blk:=.cells (Jm b) 41
def Zap:Blk:=.row 7 b.Parts.length (IC b) 78
def Zaq:Blk:=.row 8 b.Vias.length (JY b) 133
def Zar:Blk:=.row 3 b.Waivers.length (Jc b) 142
abbrev Z9:List Cl:=(LV b [.own 3260 2 3,vN,.own 30 8 b.Vias.length,vN,vN,vN,vN,vN,.own 34 3 b.Waivers.length,vN])
def Zas:Blk:=.cells (Z9 b) 41
def Zat:Blk:=.rowx 2 3 (fun i_ j_=>if i_<2 then(fun i_ j_=>if i_<1 then m8 i_ j_ else m8 (i_-1) j_) i_ j_ else m8 (i_-2) j_) 120 [(0,(Jl b)),(1,(Kg b)),(2,(Lo b))]
def Zau:Blk:=.row 2 (Ci b).Pins.length (PN b) 106
def Zav:Blk:=.row 2 (Ch b).Pins.length (PM b) 106
def Zaw:Blk:=.row 2 (Cg b).Pins.length (PL b) 106
abbrev NJ(t_:List Cl):List Cl:=(.i b.Layers)::(.i (LI b).Kind)::(lst 7 AK.c (LI b).Edges)::(.i (LI b).R)::(.own 26 7 b.Parts.length)::(.own 3260 2 3)::(PB b)::(.own 30 8 b.Vias.length)::t_
abbrev aA:List Cl:=(NJ b [vN,vN,vN,vN,vN,.own 34 3 b.Waivers.length,vN])
def Zay:Blk:=.row 6 (AR b).length (KW b) 131
def ZaA:Blk:=.row 8 (BQ b).length (Lb b) 97
abbrev pK:List Cl:=(NJ b (mD b))
def ZaC:Blk:=.row 5 (BK b).length (KZ b) 136
abbrev pO:List Cl:=(NJ b (H0 b (Vb b)))
def ZaD:Blk:=.cells (pO b) 41
def ZaE:Blk:=.row 4 (BP b).length (KX b) 112
abbrev pQ:List Cl:=(NJ b (H0 b (JT b [vN])))
def ZaF:Blk:=.cells (pQ b) 41
def ZaG:Blk:=.row 2 (A0 b).length (Je b) 138
abbrev pS:List Cl:=(NJ b (H0 b (JT b (KO b))))
def ZaH:Blk:=.cells (pS b) 41
def ZaI:Blk:=.row 3 (Ar b).length (Jd b) 140
abbrev SP:List Cl:=(NJ b (H0 b (PD b (KO b))))
def ZaJ:Blk:=.cells (SP b) 41
def ZaK:Blk:=.row 20 (A2 b).length (KY b) 147
def da(b:AC):Tv:=.av (.agg (SP b))
def hCyN3(b:AC):List (Nat×Blk):=[(26,.row 7 b.Parts.length (AL AD.c b.Parts) 78),(3260,.rowx 2 3 (fun i_ j_=>if i_<2 then(fun i_ j_=>if i_<1 then m8 i_ j_ else m8 (i_-1) j_) i_ j_ else m8 (i_-2) j_) 120 [(0,[.s (b.Nets.getD 0 default).Name,.own 3261 2 (b.Nets.getD 0 default).Pins.length]),(1,[.s (b.Nets.getD 1 default).Name,.own 3262 2 (b.Nets.getD 1 default).Pins.length]),(2,[.s (b.Nets.getD 2 default).Name,.own 3263 2 (b.Nets.getD 2 default).Pins.length])]),(3102,.row 6 (AR b).length (AL AM.c (AR b)) 131),(30,.row 8 b.Vias.length (AL Ak.c b.Vias) 133),(3104,.row 8 (BQ b).length (AL A8.c (BQ b)) 97),(3106,.row 5 (BK b).length (AL BA.c (BK b)) 136),(3108,.row 4 (BP b).length (AL AX.c (BP b)) 112),(3110,.row 2 (A0 b).length (AL BG.c (A0 b)) 138),(3114,.row 20 (A2 b).length (AL A5.c (A2 b)) 147),(34,.row 3 b.Waivers.length (AL As.c b.Waivers) 142),(3112,.row 3 (Ar b).length (AL BI.c (Ar b)) 140),(3261,.row 2 (b.Nets.getD 0 default).Pins.length (AL Ab.c (b.Nets.getD 0 default).Pins) 106),(3262,.row 2 (b.Nets.getD 1 default).Pins.length (AL Ab.c (b.Nets.getD 1 default).Pins) 106),(3263,.row 2 (b.Nets.getD 2 default).Pins.length (AL Ab.c (b.Nets.getD 2 default).Pins) 106)]
abbrev LY(t_:List (Nat×Blk)):List (Nat×Blk):=(26,Zap b)::(30,Zaq b)::(34,Zar b)::(A1 b)::(3002,Zan)::t_
abbrev pD:List (Nat×Blk):=(LY b [(3003,ZaH b),(3102,Zay b),(3104,ZaA b),(3106,ZaC b),(3108,ZaE b),(3110,ZaG b),(3112,ZaI b),(3260,Zat b),(3261,Zau b),(3262,Zav b),(3263,Zaw b)])
abbrev pC:List (Nat×Blk):=(LY b [(3003,ZaF b),(3102,Zay b),(3104,ZaA b),(3106,ZaC b),(3108,ZaE b),(3110,ZaG b),(3260,Zat b),(3261,Zau b),(3262,Zav b),(3263,Zaw b)])
abbrev pA:List (Nat×Blk):=(LY b [(3003,ZaD b),(3102,Zay b),(3104,ZaA b),(3106,ZaC b),(3108,ZaE b),(3260,Zat b),(3261,Zau b),(3262,Zav b),(3263,Zaw b)])
abbrev oK:List (Nat×Blk):=(LY b [(3003,.cells (pK b) 41),(3102,Zay b),(3104,ZaA b),(3106,ZaC b),(3260,Zat b),(3261,Zau b),(3262,Zav b),(3263,Zaw b)])
abbrev oB:List (Nat×Blk):=(LY b [(3003,.cells ((NJ b (mC b))) 41),(3102,Zay b),(3104,ZaA b),(3260,Zat b),(3261,Zau b),(3262,Zav b),(3263,Zaw b)])
abbrev nT:List (Nat×Blk):=(LY b [(3003,.cells (aA b) 41),(3102,Zay b),(3260,Zat b),(3261,Zau b),(3262,Zav b),(3263,Zaw b)])
abbrev nL:List (Nat×Blk):=(LY b [(3003,Zas b),(3260,Zat b),(3261,Zau b),(3262,Zav b),(3263,Zaw b)])
set_option maxHeartbeats 4000000 in
theorem qCyN3(b:AC)(hc:Ct b)(hlen:(b.Nets.length:Int)=3):Frs Tryz.prog 46 [.agg (AC.c b)] (fun _:Unit=>True) (fun _=>da b) (fun _=>hCyN3 b):=by
 refine Mm Tryz.func46 rfl kr kr kr fun W0 M0 X hP hFl=>?_;have ⟨p0,p1,p2,p3,p4,p5,p6,p7,p8,p9,p10,_,_,_,_,_,_,_,_,_⟩:=hc;have hr:=hc.rok;refine AA<|on<|AA<|oe [23,27,31] _ [none,0=0,0+b.Parts.length<=maxLen,(0+b.Parts.length)*72<=140737488355328,0=0,0+b.Vias.length<=maxLen,(0+b.Vias.length)*72<=140737488355328,0=0,0+b.Waivers.length<=maxLen,(0+b.Waivers.length)*32<=140737488355328] (J1 22 (EX b.Outline au31)) (.cons rfl (.cons au4 (.cons au4 (.cons rfl (.cons au4 (.cons au4 (.cons rfl (.cons au4 (.cons au4 .nil)))))))))<|AE<|AZ (Cv.trans (Ag 26 (Ac (Ai 7 AD.c (([]:List AD):List AD)) (AU 7 AD.c b.Parts))) (Cv.trans (Ag 30 (Ac (Ai 8 Ak.c (([]:List Ak):List Ak)) (AU 8 Ak.c b.Vias))) (Ag 34 (Ac (Ai 3 As.c (([]:List As):List As)) (AU 3 As.c b.Waivers)))))<|AA<|AA<|rn ⟨Pd,[(1,.cells (AC.c b) 41),(2,Zan),(3,Zao b),(26,Zap b),(30,Zaq b),(34,Zar b)]⟩<|AZ (Cv.trans (vr 3 3003 (K:=[]) hP) (Cv.trans (vr 1 3001 (K:=[]) hP) (wr (⟨LT,[(A1 b),(3002,Zan),(3003,Zao b),(26,Zap b),(30,Zaq b),(34,Zar b)]⟩) 2 3002 (K:=[]) hP))) ?_
 refine CL (ι:=Unit) (I:=fun _=>True) 3003 (Jm b) 41 (mkB 15 5) [1,2,3,4] [3001,3002] (fun _=>BJ) (fun _=>lEB 15 5 (.own 3260 2 3)) (fun _=>[(A1 b),C7,(3260,.rowx 2 3 (fun i_ j_=>if i_<2 then(fun i_ j_=>if i_<1 then m8 i_ j_ else m8 (i_-1) j_) i_ j_ else m8 (i_-2) j_) 120 [(0,(Jl b)),(1,(Kg b)),(2,(Lo b))]),(3261,.row 2 (Ci b).Pins.length (PN b) 106),(3262,.row 2 (Ch b).Pins.length (PM b) 106),(3263,.row 2 (Cg b).Pins.length (PL b) 106)]) (fun _=>⟨BJ,[(3003,Zas b),(A1 b),(3002,Zan),(3260,Zat b),(3261,Zau b),(3262,Zav b),(3263,Zaw b),(26,Zap b),(30,Zaq b),(34,Zar b)]⟩) hP hFl (gCxN3 b hc hlen kr) (fun _ _=>?_);refine AE<|AZ (ck (⟨BJ,(nL b)⟩))<|AA<|AA<|rn ⟨Lq,(nL b)⟩<|CL (ι:=Unit) (I:=fun _=>True) 3003 (Z9 b) 41 (mkB 15 6) [1,2,3,5] [3001,3002] (fun _=>BJ) (fun _=>lEB 15 6 (PB b)) (fun _=>(WA b)) (fun _=>⟨BJ,[(3003,.cells (aA b) 41),(A1 b),(3002,Zan),(3102,Zay b),(26,Zap b),(30,Zaq b),(34,Zar b),(3260,Zat b),(3261,Zau b),(3262,Zav b),(3263,Zaw b)]⟩) hP hFl (Ml b hc kr) (fun _ _=>?_);refine AE<|AZ (ck (⟨BJ,(nT b)⟩))<|AA<|AA<|rn ⟨Jo,(nT b)⟩<|CL (ι:=Unit) (I:=fun _=>True) 3003 (aA b) 41 (mkB 15 8) [1,2,3,7] [3001,3002] (fun _=>BJ) (fun _=>lEB 15 8 (.own 3104 8 (BQ b).length)) (fun _=>[(A1 b),C7,(3104,.row 8 (BQ b).length (Lb b) 97)]) (fun _=>⟨BJ,[(3003,.cells ((NJ b (mC b))) 41),(A1 b),(3002,Zan),(3104,ZaA b),(26,Zap b),(30,Zaq b),(34,Zar b),(3102,Zay b),(3260,Zat b),(3261,Zau b),(3262,Zav b),(3263,Zaw b)]⟩) hP hFl (ZF b hc kr) (fun _ _=>?_)
 refine AE<|AZ (ck (⟨BJ,(oB b)⟩))<|AA<|AA<|rn ⟨Lp,(oB b)⟩<|CL (ι:=Unit) (I:=fun _=>True) 3003 ((NJ b (mC b))) 41 (mkB 15 9) [1,2,3,9] [3001,3002] (fun _=>BJ) (fun _=>lEB 15 9 (NG b)) (fun _=>(V9 b)) (fun _=>⟨BJ,[(3003,.cells (pK b) 41),(A1 b),(3002,Zan),(3106,ZaC b),(26,Zap b),(30,Zaq b),(34,Zar b),(3102,Zay b),(3104,ZaA b),(3260,Zat b),(3261,Zau b),(3262,Zav b),(3263,Zaw b)]⟩) hP hFl (Od b hc kr) (fun _ _=>?_);refine AE<|AZ (ck (⟨BJ,(oK b)⟩))<|AA<|AA<|rn ⟨Lw,(oK b)⟩<|CL (ι:=Unit) (I:=fun _=>True) 3003 (pK b) 41 (mkB 15 10) [1,2,3,11] [3001,3002] (fun _=>BJ) (fun _=>lEB 15 10 (NF b)) (fun _=>(V8 b)) (fun _=>⟨BJ,[(3003,ZaD b),(A1 b),(3002,Zan),(3108,ZaE b),(26,Zap b),(30,Zaq b),(34,Zar b),(3102,Zay b),(3104,ZaA b),(3106,ZaC b),(3260,Zat b),(3261,Zau b),(3262,Zav b),(3263,Zaw b)]⟩) hP hFl (Ob b hc kr) (fun _ _=>?_);refine AE<|AZ (ck (⟨BJ,(pA b)⟩))<|AA<|AA<|rn ⟨Lu,(pA b)⟩<|CL (ι:=Unit) (I:=fun _=>True) 3003 (pO b) 41 (mkB 15 11) [1,2,3,13] [3001,3002] (fun _=>BJ) (fun _=>lEB 15 11 (PA b)) (fun _=>(V7 b)) (fun _=>⟨BJ,[(3003,ZaF b),(A1 b),(3002,Zan),(3110,ZaG b),(26,Zap b),(30,Zaq b),(34,Zar b),(3102,Zay b),(3104,ZaA b),(3106,ZaC b),(3108,ZaE b),(3260,Zat b),(3261,Zau b),(3262,Zav b),(3263,Zaw b)]⟩) hP hFl (Kx b hc kr) (fun _ _=>?_)
 refine AE<|AZ (ck (⟨BJ,(pC b)⟩))<|AA<|AA<|rn ⟨Ls,(pC b)⟩<|CL (ι:=Unit) (I:=fun _=>True) 3003 (pQ b) 41 (mkB 15 14) [1,2,3,14] [3001,3002] (fun _=>BJ) (fun _=>lEB 15 14 (.own 3112 3 (Ar b).length)) (fun _=>(V6 b)) (fun _=>⟨BJ,[(3003,ZaH b),(A1 b),(3002,Zan),(3112,ZaI b),(26,Zap b),(30,Zaq b),(34,Zar b),(3102,Zay b),(3104,ZaA b),(3106,ZaC b),(3108,ZaE b),(3110,ZaG b),(3260,Zat b),(3261,Zau b),(3262,Zav b),(3263,Zaw b)]⟩) hP hFl (Kw b hc kr) (fun _ _=>?_);refine AE<|AZ (ck (⟨BJ,(pD b)⟩))<|AA<|AA<|rn ⟨Lr,(pD b)⟩<|CL (ι:=Unit) (I:=fun _=>True) 3003 (pS b) 41 (mkB 15 12) [1,2,3,16] [3001,3002] (fun _=>BJ) (fun _=>lEB 15 12 (Vp b)) (fun _=>(WB b)) (fun _=>⟨BJ,[(3003,ZaJ b),(A1 b),(3002,Zan),(3114,ZaK b),(26,Zap b),(30,Zaq b),(34,Zar b),(3102,Zay b),(3104,ZaA b),(3106,ZaC b),(3108,ZaE b),(3110,ZaG b),(3112,ZaI b),(3260,Zat b),(3261,Zau b),(3262,Zav b),(3263,Zaw b)]⟩) hP hFl (Oc b hc kr) (fun _ _=>?_);refine AE<|AZ (ck (⟨BJ,(LY b [(3003,ZaJ b),(3102,Zay b),(3104,ZaA b),(3106,ZaC b),(3108,ZaE b),(3110,ZaG b),(3112,ZaI b),(3114,ZaK b),(3260,Zat b),(3261,Zau b),(3262,Zav b),(3263,Zaw b)])⟩))<|AA<|rn ⟨[(2,tP 3002 0)],[(26,Zap b),(30,Zaq b),(34,Zar b),(3002,ZaJ b),(3102,Zay b),(3104,ZaA b),(3106,ZaC b),(3108,ZaE b),(3110,ZaG b),(3112,ZaI b),(3114,ZaK b),(3260,Zat b),(3261,Zau b),(3262,Zav b),(3263,Zaw b)]⟩<|AO ?_
 refine⟨_,Cv.trans (ck (⟨[(2,tP 3002 0)],[(26,Zap b),(3260,Zat b),(3102,Zay b),(30,Zaq b),(3104,ZaA b),(3106,ZaC b),(3108,ZaE b),(3110,ZaG b),(3114,ZaK b),(34,Zar b),(3112,ZaI b),(3261,Zau b),(3262,Zav b),(3263,Zaw b),(3002,ZaJ b)]⟩)) (Cv.refl _),.inl rfl,da b,by kernel_rfl,be (m:=[(3002,.cells (SP b) 41)]) kr⟩
end
section
open Go.RowKit
def ZaL:Blk:=.cells IA 41
variable (b:AC)(q:Ee)
def ZaM:Blk:=.row 7 b.Parts.length (IC b) 78
def ZaN:Blk:=.rowx 2 3 (fun i_ j_=>if i_<2 then(fun i_ j_=>if i_<1 then m8 i_ j_ else m8 (i_-1) j_) i_ j_ else m8 (i_-2) j_) 120 [(0,(Jl b)),(1,(Kg b)),(2,(Lo b))]
def ZaO:Blk:=.row 6 (AR b).length (KW b) 131
def ZaP:Blk:=.row 8 b.Vias.length (JY b) 133
def ZaQ:Blk:=.row 8 (BQ b).length (Lb b) 97
def ZaR:Blk:=.row 5 (BK b).length (KZ b) 136
def ZaS:Blk:=.row 4 (BP b).length (KX b) 112
def ZaT:Blk:=.row 2 (A0 b).length (Je b) 138
def ZaU:Blk:=.row 20 (A2 b).length (KY b) 147
def ZaV:Blk:=.row 3 b.Waivers.length (Jc b) 142
def ZaW:Blk:=.row 3 (Ar b).length (Jd b) 140
def ZaX:Blk:=.row 2 (Ci b).Pins.length (PN b) 106
def ZaY:Blk:=.row 2 (Ch b).Pins.length (PM b) 106
def ZaZ:Blk:=.row 2 (Cg b).Pins.length (PL b) 106
def Zb0:Blk:=.cells (SP b) 41
def Zb1:Blk:=.row 2 ((Ci b).Pins++[Ab.mk (A3 (mqa q)) (⟨#[80,49]⟩:my)]).length (AL Ab.c ((Ci b).Pins++[Ab.mk (A3 (mqa q)) (⟨#[80,49]⟩:my)])) 106
def Zb2:Blk:=.rowx 2 3 (fun i_ j_=>if i_<2 then(fun i_ j_=>if i_<1 then m8 i_ j_ else m8 (i_-1) j_) i_ j_ else m8 (i_-2) j_) 120 [(0,[.s (Ci b).Name,.own 163 2 ((Ci b).Pins++[Ab.mk (A3 (mqa q)) (⟨#[80,49]⟩:my)]).length]),(1,(Kg b)),(2,(Lo b))]
def Zb3:Blk:=.row 2 ((Ch b).Pins++[Ab.mk (A3 (mqa q)) (⟨#[80,49]⟩:my)]).length (AL Ab.c ((Ch b).Pins++[Ab.mk (A3 (mqa q)) (⟨#[80,49]⟩:my)])) 106
def Zb4:Blk:=.rowx 2 3 (fun i_ j_=>if i_<2 then(fun i_ j_=>if i_<1 then m8 i_ j_ else m8 (i_-1) j_) i_ j_ else m8 (i_-2) j_) 120 [(0,(Jl b)),(1,[.s (Ch b).Name,.own 163 2 ((Ch b).Pins++[Ab.mk (A3 (mqa q)) (⟨#[80,49]⟩:my)]).length]),(2,(Lo b))]
def Zb5:Blk:=.row 2 ((Cg b).Pins++[Ab.mk (A3 (mqa q)) (⟨#[80,49]⟩:my)]).length (AL Ab.c ((Cg b).Pins++[Ab.mk (A3 (mqa q)) (⟨#[80,49]⟩:my)])) 106
def Zb6:Blk:=.rowx 2 3 (fun i_ j_=>if i_<2 then(fun i_ j_=>if i_<1 then m8 i_ j_ else m8 (i_-1) j_) i_ j_ else m8 (i_-2) j_) 120 [(0,(Jl b)),(1,(Kg b)),(2,[.s (Cg b).Name,.own 163 2 ((Cg b).Pins++[Ab.mk (A3 (mqa q)) (⟨#[80,49]⟩:my)]).length])]
def Qr(b:AC)(q:Ee):AC:=bif decide (((tqb q ((3:Nat):Int)).toNat:Nat)=0)then({ Cx b with Nets:=[A7.mk (b.Nets.getD 0 default).Name ((b.Nets.getD 0 default).Pins++[Ab.mk (A3 (mqa q)) (⟨#[80,49]⟩:my)]),b.Nets.getD 1 default,b.Nets.getD 2 default] })else(bif decide (((tqb q ((3:Nat):Int)).toNat:Nat)=1)then({ Cx b with Nets:=[b.Nets.getD 0 default,A7.mk (b.Nets.getD 1 default).Name ((b.Nets.getD 1 default).Pins++[Ab.mk (A3 (mqa q)) (⟨#[80,49]⟩:my)]),b.Nets.getD 2 default] })else({ Cx b with Nets:=[b.Nets.getD 0 default,b.Nets.getD 1 default,A7.mk (b.Nets.getD 2 default).Name ((b.Nets.getD 2 default).Pins++[Ab.mk (A3 (mqa q)) (⟨#[80,49]⟩:my)])] }))
def cOddN:CT:=(11,(Rc b q),.val [] (.av (.agg (AC.c (Qr b q)))))
abbrev NI(t_:List (Nat×Blk)):List (Nat×Blk):=(4,ZaL)::(5,Zb0 b)::(26,ZaM b)::(30,ZaP b)::(34,ZaV b)::t_
abbrev pE:List (Nat×Blk):=(NI b [(3102,ZaO b),(3104,ZaQ b),(3106,ZaR b),(3108,ZaS b),(3110,ZaT b),(3112,ZaW b),(3114,ZaU b),(3260,ZaN b),(3261,ZaX b),(3262,ZaY b),(3263,ZaZ b)])
abbrev PH(t_:List (Nat×Blk)):List (Nat×Blk):=(4,Zb0 b)::(26,ZaM b)::(30,ZaP b)::(34,ZaV b)::(3102,ZaO b)::(3104,ZaQ b)::(3106,ZaR b)::(3108,ZaS b)::(3110,ZaT b)::(3112,ZaW b)::(3114,ZaU b)::t_
theorem au19{p:Prop}(h:p:=by first|(with_reducible exact hc)|(with_reducible exact hlen)|(with_reducible exact hN)|(with_reducible exact hK)|(with_reducible exact hN.1)|(with_reducible exact hK.1)|with_reducible assumption|omega|decide|(simp only[j8,j9,d9];omega)|assumption):p:=h
set_option maxHeartbeats 40000000 in
theorem pOddN(b:AC)(q:Ee)(hc:Ct b)(hq:Bw q.e0 26=7)(hlen:(b.Nets.length:Int)=3):PuP 11 (cOddN b q).2.1 (.av (.agg (AC.c (Qr b q)))):=by
 refine pwf Tryz.func11 fun W0 M0=>?_;have hl0:=hc.lParts;have hl1:=hc.lNets;have hl2:=hc.lTracks;have hl3:=hc.lVias;have hl4:=hc.lPours;have hl5:=hc.lKeeps;have hl6:=hc.lSlots;have hl7:=hc.lClasses;have hl8:=hc.lWaivers;have hl9:=hc.lMatches;have hl10:=hc.lRules;have hN:0<=(mqa q)/\(mqa q)<48:=LJ _ _ m4 m4;have hK0:=LJ q.e2 64 m4 m4;have hK:0<=(mqb q)/\(mqb q)<64:=hK0;have hb0:=hc.pin 0;have hb1:=hc.pin 1;have hb2:=hc.pin 2;refine AA<|rn ⟨Hk,[(DT b),(Ek q),(4,ZaL)]⟩<|AA<|DZ<|Fk C8 1 [] [] [] [3,4,11] [3,4] [] ⟨(R5 b),[(Ek q),(4,ZaL)]⟩ .nil kr .nil<|KF (ι:=Unit) (I:=fun _=>True) (fun _=>⟨[(3,tP 3 0),(4,tP 4 0),(R3 b),(12,.av (.agg (SP b)))],[(26,ZaM b),(3260,ZaN b),(3102,ZaO b),(30,ZaP b),(3104,ZaQ b),(3106,ZaR b),(3108,ZaS b),(3110,ZaT b),(3114,ZaU b),(34,ZaV b),(3112,ZaW b),(3261,ZaX b),(3262,ZaY b),(3263,ZaZ b),(Ek q),(4,ZaL)]⟩) hk0 ⟨⟨_,_,rfl,rfl,⟨fun _=>default,by kernel_rfl⟩,by kernel_rfl⟩,fun _ _=>by kernel_rfl,rfl,rfl⟩ (qCyN3 b au19 au19) (fun _=>by kernel_rfl) (fun _=>by kernel_rfl) (fun _ _=>?_)
 refine Er C8 [] [] [] [3,4,5] [3,4,5,26,30,34,3102,3104,3106,3108,3110,3112,3114,3260,3261,3262,3263] [] ⟨Rz,[(Ek q),(4,ZaL),(5,Zb0 b),(26,ZaM b),(30,ZaP b),(34,ZaV b),(3102,ZaO b),(3104,ZaQ b),(3106,ZaR b),(3108,ZaS b),(3110,ZaT b),(3112,ZaW b),(3114,ZaU b),(3260,ZaN b),(3261,ZaX b),(3262,ZaY b),(3263,ZaZ b)]⟩ .nil kr .nil<|AE<|AA<|oo _ [0<=(1:Int)/\(1:Int)<(3:Int),none] (J1 15 (IR q.e1 48 au19)) (H1 m4)<|AE<|AA<|oo _ [0<=(2:Int)/\(2:Int)<(3:Int),none] (J1 18 (IR q.e2 64 au19)) (H1 m4)<|AE<|AA<|AA<|ro _ [0<=(0:Int)/\(0:Int)<(3:Int),none] ⟨[(4,tP 4 0),(5,tP 5 0),(6,tI (mqa q)),(7,tI (mqb q)),(21,tI (Bw q.e0 26))],[(4,ZaL),(5,Zb0 b),(26,ZaM b),(30,ZaP b),(34,ZaV b),(3102,ZaO b),(3104,ZaQ b),(3106,ZaR b),(3108,ZaS b),(3110,ZaT b),(3112,ZaW b),(3114,ZaU b),(3260,ZaN b),(3261,ZaX b),(3262,ZaY b),(3263,ZaZ b)]⟩ (J1 21 (IR q.e0 26 au19)) (H1 m4) ?_
 (try rw[hq])
 refine AE<|AJ<|AA<|on<|An kr<|AA<|on<|An kr<|AA<|on<|An kr<|AA<|on<|An kr<|AA<|on<|An kr<|AA<|on<|An kr<|AA<|on<|An kr<|AA<|on<|CN kr<|AA<|rn ⟨(JW q [(145,tB (decide ((0:Int)<((3:Nat):Int))))]),(pE b)⟩ ?_;have h1:(decide ((0:Int)<((3:Nat):Int)))=true:=m4;have g1:=oT h1;refine BC _ rfl (fun _=>?_) (fun h=>absurd (h1.symm.trans h) m4);refine AA<|dw [] [] [(((3:Nat):Int):Int)≠0,0<=(tqb q ((3:Nat):Int):Int)/\(tqb q ((3:Nat):Int):Int)<((3:Nat):Int)] ⟨[(4,tP 4 0),(5,tP 5 0),(6,tI (mqa q)),(8,.av (.one (.rptr 3260 2 (tqb q ((3:Nat):Int)).toNat 0)))],(pE b)⟩ .nil (H2 au11 (by first|decide|omega|(have:0≤tqb q ((3:Nat):Int)∧tqb q ((3:Nat):Int)<((3:Nat):Int):=tmb hK.1 (n:=((3:Nat):Int)) m4;omega)))<|AE<|Qj (decide (((tqb q ((3:Nat):Int)).toNat:Nat)=0)) (fun h2=>?_) (fun h2=>?_)
 ·have g2:=oT h2
  (try rw[g2])
  refine dO [] _ [none,(b.Nets.getD 0 default).Pins.length=(b.Nets.getD 0 default).Pins.length,(b.Nets.getD 0 default).Pins.length+1<=maxLen,((b.Nets.getD 0 default).Pins.length+1)*32<=140737488355328] ⟨E5,(NI b [(163,.row 2 ((Ci b).Pins.length+1) (fun i_ j_=>if i_<(Ci b).Pins.length then(PN b) i_ j_ else(A9 2 1 [.s (A3 (mqa q)),.s (⟨#[80,49]⟩:my)]) (i_-(Ci b).Pins.length) j_) 106),(3102,ZaO b),(3104,ZaQ b),(3106,ZaR b),(3108,ZaS b),(3110,ZaT b),(3112,ZaW b),(3114,ZaU b),(3260,.rowx 2 3 (fun i_ j_=>if i_<2 then(fun i_ j_=>if i_<1 then m8 i_ j_ else m8 (i_-1) j_) i_ j_ else m8 (i_-2) j_) 120 [(0,[.s (Ci b).Name,.own 163 2 ((Ci b).Pins.length+1)]),(1,(Kg b)),(2,(Lo b))]),(3262,ZaY b),(3263,ZaZ b)])⟩ (J1 160 (E8 (mqa q) au19)) (H3 rfl (au12 (h:=by first|omega|(unfold maxLen;omega))) au12)<|Ao<|AE ?_
  refine AZ (DD (⟨E5,(NI b [(163,Zb1 b q),(3102,ZaO b),(3104,ZaQ b),(3106,ZaR b),(3108,ZaS b),(3110,ZaT b),(3112,ZaW b),(3114,ZaU b),(3260,Zb2 b q),(3262,ZaY b),(3263,ZaZ b)])⟩) lr (rz (rz (rz (rz (rz (.cons ⟨rfl,CS 106 (Ac (AU 2 Ab.c (b.Nets.getD 0 default).Pins) (BN (c:=Ab.c) (xs:=([Ab.mk (A3 (mqa q)) (⟨#[80,49]⟩:my)]:List Ab)) rfl kr))⟩ (rz (rz (rz (rz (rz (rz (rz (.cons ⟨rfl,.rowx _ _ _ _ (.cons ⟨rfl,(rr (.cons (.own _ _ au17) .nil))⟩ (.cons ⟨rfl,(rr2 .nil)⟩ (.cons ⟨rfl,(rr2 .nil)⟩ .nil)))⟩ lr)))))))))))))))<|AA<|rn ⟨[(4,tP 4 0)],[(4,Zb0 b),(26,ZaM b),(30,ZaP b),(34,ZaV b),(163,Zb1 b q),(3102,ZaO b),(3104,ZaQ b),(3106,ZaR b),(3108,ZaS b),(3110,ZaT b),(3112,ZaW b),(3114,ZaU b),(3260,Zb2 b q),(3262,ZaY b),(3263,ZaZ b)]⟩<|AO ?_
  exact zy (Cv.trans (vf 163 hk0) (Cv.trans (vf 3262 hk0) (Cv.trans (KD (⟨[(4,tP 4 0)],(PH b [(3260,.rowx 2 3 (fun i_ j_=>if i_<2 then(fun i_ j_=>if i_<1 then m8 i_ j_ else m8 (i_-1) j_) i_ j_ else m8 (i_-2) j_) 120 [(0,[.s (Ci b).Name,lst 2 Ab.c ((Ci b).Pins++[Ab.mk (A3 (mqa q)) (⟨#[80,49]⟩:my)])]),(1,(A7.c (Ch b))),(2,(A7.c (Cg b)))])])⟩) 3263 hk0) (Cv.trans (I2 (⟨[(4,tP 4 0)],(PH b [(3260,.row 2 3 (A9 2 3 [.s (Ci b).Name,lst 2 Ab.c ((Ci b).Pins++[Ab.mk (A3 (mqa q)) (⟨#[80,49]⟩:my)]),.s (Ch b).Name,lst 2 Ab.c (Ch b).Pins,.s (Cg b).Name,lst 2 Ab.c (Cg b).Pins]) 120)])⟩) 3260 2 3 (fun i_ j_=>if i_<2 then(fun i_ j_=>if i_<1 then m8 i_ j_ else m8 (i_-1) j_) i_ j_ else m8 (i_-2) j_) 120 [[.s (b.Nets.getD 0 default).Name,lst 2 Ab.c ((b.Nets.getD 0 default).Pins++[Ab.mk (A3 (mqa q)) (⟨#[80,49]⟩:my)])],(A7.c (b.Nets.getD 1 default)),(A7.c (b.Nets.getD 2 default))] kr kr kr kr) (Cv.trans (Ag 3260 (Ai 2 A7.c ([A7.mk (b.Nets.getD 0 default).Name ((b.Nets.getD 0 default).Pins++[Ab.mk (A3 (mqa q)) (⟨#[80,49]⟩:my)]),b.Nets.getD 1 default,b.Nets.getD 2 default]:List A7))) (CC [26,3260,3102,30,3104,3106,3108,3110,3114,34,3112] hk0)))))) (by simp only[Qr,h1,h2,mi,mj]<;>kernel_rfl)
 have g2:=oF h2;refine Qj (decide (((tqb q ((3:Nat):Int)).toNat:Nat)=1)) (fun h3=>?_) (fun h3=>?_)
 ·have g3:=oT h3
  (try rw[g3])
  refine dO [] _ [none,(b.Nets.getD 1 default).Pins.length=(b.Nets.getD 1 default).Pins.length,(b.Nets.getD 1 default).Pins.length+1<=maxLen,((b.Nets.getD 1 default).Pins.length+1)*32<=140737488355328] ⟨E5,(NI b [(163,.row 2 ((Ch b).Pins.length+1) (fun i_ j_=>if i_<(Ch b).Pins.length then(PM b) i_ j_ else(A9 2 1 [.s (A3 (mqa q)),.s (⟨#[80,49]⟩:my)]) (i_-(Ch b).Pins.length) j_) 106),(3102,ZaO b),(3104,ZaQ b),(3106,ZaR b),(3108,ZaS b),(3110,ZaT b),(3112,ZaW b),(3114,ZaU b),(3260,.rowx 2 3 (fun i_ j_=>if i_<2 then(fun i_ j_=>if i_<1 then m8 i_ j_ else m8 (i_-1) j_) i_ j_ else m8 (i_-2) j_) 120 [(0,(Jl b)),(1,[.s (Ch b).Name,.own 163 2 ((Ch b).Pins.length+1)]),(2,(Lo b))]),(3261,ZaX b),(3263,ZaZ b)])⟩ (J1 160 (E8 (mqa q) au19)) (H3 rfl (au12 (h:=by first|omega|(unfold maxLen;omega))) au12)<|Ao<|AE ?_
  refine AZ (DD (⟨E5,(NI b [(163,Zb3 b q),(3102,ZaO b),(3104,ZaQ b),(3106,ZaR b),(3108,ZaS b),(3110,ZaT b),(3112,ZaW b),(3114,ZaU b),(3260,Zb4 b q),(3261,ZaX b),(3263,ZaZ b)])⟩) lr (rz (rz (rz (rz (rz (.cons ⟨rfl,CS 106 (Ac (AU 2 Ab.c (b.Nets.getD 1 default).Pins) (BN (c:=Ab.c) (xs:=([Ab.mk (A3 (mqa q)) (⟨#[80,49]⟩:my)]:List Ab)) rfl kr))⟩ (rz (rz (rz (rz (rz (rz (rz (.cons ⟨rfl,.rowx _ _ _ _ (.cons ⟨rfl,(rr2 .nil)⟩ (.cons ⟨rfl,(rr (.cons (.own _ _ au17) .nil))⟩ (.cons ⟨rfl,(rr2 .nil)⟩ .nil)))⟩ lr)))))))))))))))<|AA<|rn ⟨[(4,tP 4 0)],[(4,Zb0 b),(26,ZaM b),(30,ZaP b),(34,ZaV b),(163,Zb3 b q),(3102,ZaO b),(3104,ZaQ b),(3106,ZaR b),(3108,ZaS b),(3110,ZaT b),(3112,ZaW b),(3114,ZaU b),(3260,Zb4 b q),(3261,ZaX b),(3263,ZaZ b)]⟩<|AO ?_
  exact zy (Cv.trans (vf 3261 hk0) (Cv.trans (vf 163 hk0) (Cv.trans (KD (⟨[(4,tP 4 0)],(PH b [(3260,.rowx 2 3 (fun i_ j_=>if i_<2 then(fun i_ j_=>if i_<1 then m8 i_ j_ else m8 (i_-1) j_) i_ j_ else m8 (i_-2) j_) 120 [(0,(A7.c (Ci b))),(1,[.s (Ch b).Name,lst 2 Ab.c ((Ch b).Pins++[Ab.mk (A3 (mqa q)) (⟨#[80,49]⟩:my)])]),(2,(A7.c (Cg b)))])])⟩) 3263 hk0) (Cv.trans (I2 (⟨[(4,tP 4 0)],(PH b [(3260,.row 2 3 (A9 2 3 [.s (Ci b).Name,lst 2 Ab.c (Ci b).Pins,.s (Ch b).Name,lst 2 Ab.c ((Ch b).Pins++[Ab.mk (A3 (mqa q)) (⟨#[80,49]⟩:my)]),.s (Cg b).Name,lst 2 Ab.c (Cg b).Pins]) 120)])⟩) 3260 2 3 (fun i_ j_=>if i_<2 then(fun i_ j_=>if i_<1 then m8 i_ j_ else m8 (i_-1) j_) i_ j_ else m8 (i_-2) j_) 120 [(A7.c (b.Nets.getD 0 default)),[.s (b.Nets.getD 1 default).Name,lst 2 Ab.c ((b.Nets.getD 1 default).Pins++[Ab.mk (A3 (mqa q)) (⟨#[80,49]⟩:my)])],(A7.c (b.Nets.getD 2 default))] kr kr kr kr) (Cv.trans (Ag 3260 (Ai 2 A7.c ([b.Nets.getD 0 default,A7.mk (b.Nets.getD 1 default).Name ((b.Nets.getD 1 default).Pins++[Ab.mk (A3 (mqa q)) (⟨#[80,49]⟩:my)]),b.Nets.getD 2 default]:List A7))) (CC [26,3260,3102,30,3104,3106,3108,3110,3114,34,3112] hk0)))))) (by simp only[Qr,h1,h2,h3,mi,mj]<;>kernel_rfl)
 have g3:=oF h3;have g4:((tqb q ((3:Nat):Int)).toNat:Nat)=2:=(by have:0≤tqb q ((3:Nat):Int)∧tqb q ((3:Nat):Int)<((3:Nat):Int):=tmb hK.1 (n:=((3:Nat):Int)) m4;omega)
 (try rw[g4])
 refine dO [] _ [none,(b.Nets.getD 2 default).Pins.length=(b.Nets.getD 2 default).Pins.length,(b.Nets.getD 2 default).Pins.length+1<=maxLen,((b.Nets.getD 2 default).Pins.length+1)*32<=140737488355328] ⟨E5,(NI b [(163,.row 2 ((Cg b).Pins.length+1) (fun i_ j_=>if i_<(Cg b).Pins.length then(PL b) i_ j_ else(A9 2 1 [.s (A3 (mqa q)),.s (⟨#[80,49]⟩:my)]) (i_-(Cg b).Pins.length) j_) 106),(3102,ZaO b),(3104,ZaQ b),(3106,ZaR b),(3108,ZaS b),(3110,ZaT b),(3112,ZaW b),(3114,ZaU b),(3260,.rowx 2 3 (fun i_ j_=>if i_<2 then(fun i_ j_=>if i_<1 then m8 i_ j_ else m8 (i_-1) j_) i_ j_ else m8 (i_-2) j_) 120 [(0,(Jl b)),(1,(Kg b)),(2,[.s (Cg b).Name,.own 163 2 ((Cg b).Pins.length+1)])]),(3261,ZaX b),(3262,ZaY b)])⟩ (J1 160 (E8 (mqa q) au19)) (H3 rfl (au12 (h:=by first|omega|(unfold maxLen;omega))) au12)<|Ao<|AE ?_
 refine AZ (DD (⟨E5,(NI b [(163,Zb5 b q),(3102,ZaO b),(3104,ZaQ b),(3106,ZaR b),(3108,ZaS b),(3110,ZaT b),(3112,ZaW b),(3114,ZaU b),(3260,Zb6 b q),(3261,ZaX b),(3262,ZaY b)])⟩) lr (rz (rz (rz (rz (rz (.cons ⟨rfl,CS 106 (Ac (AU 2 Ab.c (b.Nets.getD 2 default).Pins) (BN (c:=Ab.c) (xs:=([Ab.mk (A3 (mqa q)) (⟨#[80,49]⟩:my)]:List Ab)) rfl kr))⟩ (rz (rz (rz (rz (rz (rz (rz (.cons ⟨rfl,.rowx _ _ _ _ (.cons ⟨rfl,(rr2 .nil)⟩ (.cons ⟨rfl,(rr2 .nil)⟩ (.cons ⟨rfl,(rr (.cons (.own _ _ au17) .nil))⟩ .nil)))⟩ lr)))))))))))))))<|AA<|rn ⟨[(4,tP 4 0)],[(4,Zb0 b),(26,ZaM b),(30,ZaP b),(34,ZaV b),(163,Zb5 b q),(3102,ZaO b),(3104,ZaQ b),(3106,ZaR b),(3108,ZaS b),(3110,ZaT b),(3112,ZaW b),(3114,ZaU b),(3260,Zb6 b q),(3261,ZaX b),(3262,ZaY b)]⟩<|AO ?_
 exact zy (Cv.trans (vf 3261 hk0) (Cv.trans (vf 3262 hk0) (Cv.trans (KD (⟨[(4,tP 4 0)],(PH b [(3260,.rowx 2 3 (fun i_ j_=>if i_<2 then(fun i_ j_=>if i_<1 then m8 i_ j_ else m8 (i_-1) j_) i_ j_ else m8 (i_-2) j_) 120 [(0,(A7.c (Ci b))),(1,(A7.c (Ch b))),(2,[.s (Cg b).Name,lst 2 Ab.c ((Cg b).Pins++[Ab.mk (A3 (mqa q)) (⟨#[80,49]⟩:my)])])])])⟩) 163 hk0) (Cv.trans (I2 (⟨[(4,tP 4 0)],(PH b [(3260,.row 2 3 (A9 2 3 [.s (Ci b).Name,lst 2 Ab.c (Ci b).Pins,.s (Ch b).Name,lst 2 Ab.c (Ch b).Pins,.s (Cg b).Name,lst 2 Ab.c ((Cg b).Pins++[Ab.mk (A3 (mqa q)) (⟨#[80,49]⟩:my)])]) 120)])⟩) 3260 2 3 (fun i_ j_=>if i_<2 then(fun i_ j_=>if i_<1 then m8 i_ j_ else m8 (i_-1) j_) i_ j_ else m8 (i_-2) j_) 120 [(A7.c (b.Nets.getD 0 default)),(A7.c (b.Nets.getD 1 default)),[.s (b.Nets.getD 2 default).Name,lst 2 Ab.c ((b.Nets.getD 2 default).Pins++[Ab.mk (A3 (mqa q)) (⟨#[80,49]⟩:my)])]] kr kr kr kr) (Cv.trans (Ag 3260 (Ai 2 A7.c ([b.Nets.getD 0 default,b.Nets.getD 1 default,A7.mk (b.Nets.getD 2 default).Name ((b.Nets.getD 2 default).Pins++[Ab.mk (A3 (mqa q)) (⟨#[80,49]⟩:my)])]:List A7))) (CC [26,3260,3102,30,3104,3106,3108,3110,3114,34,3112] hk0)))))) (by simp only[Qr,h1,h2,h3,mi,mj]<;>kernel_rfl)
end
section
open Go.RowKit
def Zb7:Blk:=.cells IA 41
variable (b:AC)(v:Nat->Value)
abbrev oE:List Cl:=(C6 v [vN,.val (v 9),.val (v 10),.val (v 11),.val (v 12),.val (v 13),.val (v 14)])
def Zb8:Blk:=.cells (oE v) 41
abbrev CZ:=b.Pours.getD 0 default
abbrev ID:=AL Al.c (CZ b).Rects
def Zb9:Blk:=.row 4 (CZ b).Rects.length (ID b) 90
abbrev JX(t_:List Cl):List Cl:=(.i (CZ b).Id)::(.s (CZ b).Net)::(.i (CZ b).Layer)::(.i (CZ b).Pitch)::(.i (CZ b).Priority)::(.i (CZ b).Relief)::(.i (CZ b).Spoke)::t_
abbrev nW:List Cl:=(JX b [.own 100 4 (CZ b).Rects.length])
abbrev WE:List Cl:=(C6 v [.own 106 8 1,.val (v 9),.val (v 10),.val (v 11),.val (v 12),.val (v 13),.val (v 14)])
abbrev WU:List Cl:=(JX b [.own 2000 4 (CZ b).Rects.length])
def Zbc:Blk:=.rowx 8 1 m8 97 [(0,(WU b))]
abbrev oP:List Cl:=(C6 v [.own 2001 8 1,.val (v 9),.val (v 10),.val (v 11),.val (v 12),.val (v 13),.val (v 14)])
def Zbd:Blk:=.cells (oP v) 41
abbrev DI:=b.Pours.getD 1 default
abbrev PO:=AL Al.c (DI b).Rects
def Zbe:Blk:=.row 4 (DI b).Rects.length (PO b) 90
abbrev La(t_:List Cl):List Cl:=(.i (DI b).Id)::(.s (DI b).Net)::(.i (DI b).Layer)::(.i (DI b).Pitch)::(.i (DI b).Priority)::(.i (DI b).Relief)::(.i (DI b).Spoke)::t_
def Zbg:Blk:=.cells (C6 v [.own 106 8 2,.val (v 9),.val (v 10),.val (v 11),.val (v 12),.val (v 13),.val (v 14)]) 41
abbrev nX:List Cl:=(La b [.own 2002 4 (DI b).Rects.length])
def Zbh:Blk:=.rowx 8 2 (fun i_ j_=>if i_<1 then m8 i_ j_ else m8 (i_-1) j_) 97 [(0,(WU b)),(1,(nX b))]
def Zbi:Blk:=.cells (C6 v [.own 2003 8 2,.val (v 9),.val (v 10),.val (v 11),.val (v 12),.val (v 13),.val (v 14)]) 41
def Zbj:Blk:=.cells (C6 v [.own 3340 8 2,.val (v 9),.val (v 10),.val (v 11),.val (v 12),.val (v 13),.val (v 14)]) 41
abbrev Ng:List Cl:=(JX b [.own 3341 4 (CZ b).Rects.length])
abbrev Ph:List Cl:=(La b [.own 3342 4 (DI b).Rects.length])
def Zbk:Blk:=.rowx 8 2 (fun i_ j_=>if i_<1 then m8 i_ j_ else m8 (i_-1) j_) 97 [(0,(Ng b)),(1,(Ph b))]
abbrev sCxP2(b:AC)(v:Nat->Value):AS:=⟨BJ,[(3003,Zbj v),(A1 b),(3002,Zb7),(3340,Zbk b),(3341,Zb9 b),(3342,Zbe b)]⟩
abbrev Pg:List (Nat×Tv):=(Bi [(7,tI 1)])
abbrev WK:List (Nat×Tv):=(Bi [(7,tI 0),(8,tP 8 0)])
abbrev oH:Nat×Blk:=(8,.cells (JX b [.own 100 4 (0+(CZ b).Rects.length)]) 97)
abbrev mO:List (Nat×Tv):=(Bi [(7,tI 1),(8,tP 8 0)])
set_option maxHeartbeats 4000000 in
theorem gCxP2(b:AC)(hc:Ct b)(hlen:(b.Pours.length:Int)=2){c:Code}(hpc:Tryz.f46.body.bind (HI [true,true,true,true,false,true])=some c):Q4 Tryz.prog 229 [3003,3001,3002] c (fun _:Unit=>True) (fun v=>⟨[(1,tP 3001 0),(2,tP 3002 0),(3,tP 3003 0),(7,tI 0)],[(3003,.cells [.val (v 0),.val (v 1),.val (v 2),.val (v 3),.val (v 4),.val (v 5),.val (v 6),.val (v 7),vN,.val (v 9),.val (v 10),.val (v 11),.val (v 12),.val (v 13),.val (v 14)] 41),(3001,.cells (AC.c b) 41),(3002,.cells [.i 0,.i 0,vN,.i 0,vN,vN,vN,vN,vN,vN,vN,vN,vN,vN,vN] 41)]⟩) (fun v _=>sCxP2 b v):=by
 cases hpc;intro W0 M0 X v hP hFl;show AWp _ _ _ _ _ _ _ _ ⟨Jo,[(eM v),(A1 b),C7]⟩;have ⟨p0,p1,p2,p3,p4,p5,p6,p7,p8,p9,p10,_,_,_,_,_,_,_,_,_⟩:=hc;have hr:=hc.rok;have hb0:=hc.rec' 0;have hb1:=hc.rec' 1;refine AJ<|Dq 3<|Bs<|AA<|AA<|rn ⟨(Bi [(7,tI 0),(89,tB (decide ((0:Int)<(b.Pours.length:Int))))]),[(A1 b),(3002,Zb7),(3003,Zb8 v)]⟩ ?_;have h1:(decide ((0:Int)<(b.Pours.length:Int)))=true:=(by rw[hlen];decide);have g1:=oT h1;refine BC _ rfl (fun _=>?_) (fun h=>absurd (h1.symm.trans h) m4);refine AP<|AE<|AA<|AJ<|AA<|rc [] [0<=(0:Int)/\(0:Int)<(b.Pours.length:Int)] ⟨WK,[(8,.cells (A8.c (CZ b)) 97),(A1 b),(3002,Zb7),(3003,Zb8 v)]⟩ .nil (H1 (by first|decide|omega|(rw[hlen];decide)|(rw[show(b.Pours.length:Int)=2 from hlen];decide)))<|AE<|AA<|DE C8 [97] [] [] [1,2,3,7,8] [8,100,3001,3002,3003] [0=0,0+(b.Pours.getD 0 default).Rects.length<=maxLen,(0+(b.Pours.getD 0 default).Rects.length)*32<=140737488355328] ⟨WK,[(oH b),(100,.row 4 (0+(CZ b).Rects.length) (fun i_ j_=>if i_<0 then(A9 4 0 []) i_ j_ else(AL Al.c (CZ b).Rects) (i_-0) j_) 90),(A1 b),(3002,Zb7),(3003,Zb8 v)]⟩ .nil kr (.cons rfl (.cons au12 (.cons au12 .nil)))<|AE<|AZ (Ag 100 (Ac (Ai 4 Al.c (([]:List Al):List Al)) (AU 4 Al.c (b.Pours.getD 0 default).Rects)))<|oc [] [1=1,0<1,1<=maxLen,1*88<=140737488355328] .nil (H4 rfl m4 au12 au12)<|Ao<|AE<|rn ⟨Pg,[(100,Zb9 b),(106,.rowx 8 1 m8 97 [(0,(nW b))]),(A1 b),(3002,Zb7),(3003,.cells (WE v) 41)]⟩<|Bs ?_
 refine AZ (Cv.trans (CR (⟨Pg,[(2000,Zb9 b),(106,Zbc b),(A1 b),(3002,Zb7),(3003,.cells (WE v) 41)]⟩) 100 2000 (K:=[3003,3001,3002]) hP rfl rfl kr kr) (CR (⟨Pg,[(2000,Zb9 b),(2001,Zbc b),(A1 b),(3002,Zb7),(3003,Zbd v)]⟩) 106 2001 (K:=[3003,3001,3002]) hP rfl rfl kr kr))<|AA<|AA<|rn ⟨(Bi [(7,tI 1),(89,tB (decide ((1:Int)<(b.Pours.length:Int))))]),[(2000,Zb9 b),(2001,Zbc b),(A1 b),(3002,Zb7),(3003,Zbd v)]⟩ ?_;have h2:(decide ((1:Int)<(b.Pours.length:Int)))=true:=(by rw[hlen];decide);have g2:=oT h2;refine BC _ rfl (fun _=>?_) (fun h=>absurd (h2.symm.trans h) m4);refine AP<|AE<|AA<|AJ<|AA<|rc [] [0<=(1:Int)/\(1:Int)<(b.Pours.length:Int)] ⟨mO,[(8,.cells (A8.c (DI b)) 97),(2000,Zb9 b),(2001,Zbc b),(A1 b),(3002,Zb7),(3003,Zbd v)]⟩ .nil (H1 (by first|decide|omega|(rw[hlen];decide)|(rw[show(b.Pours.length:Int)=2 from hlen];decide)))<|AE<|AA<|DE C8 [97] [] [] [1,2,3,7,8] [8,100,2000,2001,3001,3002,3003] [0=0,0+(b.Pours.getD 1 default).Rects.length<=maxLen,(0+(b.Pours.getD 1 default).Rects.length)*32<=140737488355328] ⟨mO,[(8,.cells (La b [.own 100 4 (0+(DI b).Rects.length)]) 97),(100,.row 4 (0+(DI b).Rects.length) (fun i_ j_=>if i_<0 then(A9 4 0 []) i_ j_ else(PO b) (i_-0) j_) 90),(2000,Zb9 b),(2001,Zbc b),(A1 b),(3002,Zb7),(3003,Zbd v)]⟩ .nil kr (.cons rfl (.cons au12 (.cons au12 .nil)))<|AE<|AZ (Ag 100 (Ac (Ai 4 Al.c (([]:List Al):List Al)) (AU 4 Al.c (b.Pours.getD 1 default).Rects)))<|oc [] [1=1,1=1,0<1,1+1<=maxLen,(1+1)*88<=140737488355328] .nil (H5 rfl rfl m4 au12 au12)<|Ao<|AE ?_
 refine rn ⟨(Bi [(7,tI 2)]),[(100,Zbe b),(106,.rowx 8 2 (fun i_ j_=>if i_<1 then m8 i_ j_ else m8 (i_-1) j_) 97 [(0,(WU b)),(1,(La b [.own 100 4 (DI b).Rects.length]))]),(2000,Zb9 b),(A1 b),(3002,Zb7),(3003,Zbg v)]⟩<|Bs<|AZ (Cv.trans (CR (⟨(Bi [(7,tI 2)]),[(2002,Zbe b),(106,Zbh b),(2000,Zb9 b),(A1 b),(3002,Zb7),(3003,Zbg v)]⟩) 100 2002 (K:=[3003,3001,3002]) hP rfl rfl kr kr) (CR (⟨(Bi [(7,tI 2)]),[(2002,Zbe b),(2003,Zbh b),(2000,Zb9 b),(A1 b),(3002,Zb7),(3003,Zbi v)]⟩) 106 2003 (K:=[3003,3001,3002]) hP rfl rfl kr kr))<|AA<|AA<|rn ⟨(Bi [(7,tI 2),(89,tB (decide ((2:Int)<(b.Pours.length:Int))))]),[(2000,Zb9 b),(2002,Zbe b),(2003,Zbh b),(A1 b),(3002,Zb7),(3003,Zbi v)]⟩ ?_;have h3:(decide ((2:Int)<(b.Pours.length:Int)))=false:=(by rw[hlen];decide);have g3:=oF h3;refine BC _ rfl (fun h=>absurd (h3.symm.trans h) m4) (fun _=>?_);refine Aw<|Aj<|Aj<|Ay ?_
 exact⟨_,Cv.trans (CK [1,2,3] [2000,2002,2003,3001,3002,3003] (⟨BJ,[(2000,Zb9 b),(2002,Zbe b),(2003,Zbh b),(A1 b),(3002,Zb7),(3003,Zbi v)]⟩) kr) (Cv.trans (CR (⟨BJ,[(2000,Zb9 b),(2002,Zbe b),(3340,Zbh b),(A1 b),(3002,Zb7),(3003,Zbj v)]⟩) 2003 3340 (K:=[3003,3001,3002]) hP rfl rfl kr kr) (Cv.trans (CR (⟨BJ,[(3341,Zb9 b),(2002,Zbe b),(3340,.rowx 8 2 (fun i_ j_=>if i_<1 then m8 i_ j_ else m8 (i_-1) j_) 97 [(0,(Ng b)),(1,(nX b))]),(A1 b),(3002,Zb7),(3003,Zbj v)]⟩) 2000 3341 (K:=[3003,3001,3002]) hP rfl rfl kr kr) (Cv.trans (CR (⟨BJ,[(3341,Zb9 b),(3342,Zbe b),(3340,Zbk b),(A1 b),(3002,Zb7),(3003,Zbj v)]⟩) 2002 3342 (K:=[3003,3001,3002]) hP rfl rfl kr kr) (CK [1,2,3] [3003,3001,3002,3340,3341,3342] (⟨BJ,[(3003,Zbj v),(A1 b),(3002,Zb7),(3340,Zbk b),(3341,Zb9 b),(3342,Zbe b)]⟩) kr)))),rfl,(),trivial,rfl⟩
end
section
open Go.RowKit
def Zbl:Blk:=.cells IA 41
variable (b:AC)
def Zbn:Blk:=.row 7 b.Parts.length (IC b) 78
def Zbo:Blk:=.row 8 b.Vias.length (JY b) 133
def Zbp:Blk:=.row 3 b.Waivers.length (Jc b) 142
def Zbr:Blk:=.row 2 (A4 b).length (Ja b) 120
def Zbt:Blk:=.row 6 (AR b).length (KW b) 131
abbrev pG:List Cl:=(DN b [.own 3340 8 2,vN,vN,vN,vN,.own 34 3 b.Waivers.length,vN])
def Zbu:Blk:=.cells (pG b) 41
def Zbv:Blk:=.rowx 8 2 (fun i_ j_=>if i_<1 then m8 i_ j_ else m8 (i_-1) j_) 97 [(0,(Ng b)),(1,(Ph b))]
def Zbw:Blk:=.row 4 (CZ b).Rects.length (ID b) 90
def Zbx:Blk:=.row 4 (DI b).Rects.length (PO b) 90
abbrev pL:List Cl:=(DN b [.own 3340 8 2,.own 3106 5 (BK b).length,vN,vN,vN,.own 34 3 b.Waivers.length,vN])
def Zby:Blk:=.cells (pL b) 41
def Zbz:Blk:=.row 5 (BK b).length (KZ b) 136
abbrev PF(t_:List Cl):List Cl:=(.own 3340 8 2)::(NG b)::(NF b)::t_
abbrev pP:List Cl:=(DN b (PF b (Vb b)))
def ZbA:Blk:=.cells (pP b) 41
def ZbB:Blk:=.row 4 (BP b).length (KX b) 112
def ZbC:Blk:=.cells ((DN b (PF b (JT b [vN])))) 41
def ZbD:Blk:=.row 2 (A0 b).length (Je b) 138
abbrev j7:List Cl:=(DN b (PF b (JT b (KO b))))
def ZbE:Blk:=.cells (j7 b) 41
def ZbF:Blk:=.row 3 (Ar b).length (Jd b) 140
abbrev SR:List Cl:=(DN b (PF b (PD b (KO b))))
def ZbG:Blk:=.cells (SR b) 41
def ZbH:Blk:=.row 20 (A2 b).length (KY b) 147
def cy(b:AC):Tv:=.av (.agg (SR b))
def hCyP2(b:AC):List (Nat×Blk):=[(26,.row 7 b.Parts.length (AL AD.c b.Parts) 78),(3100,.row 2 (A4 b).length (AL A7.c (A4 b)) 120),(3102,.row 6 (AR b).length (AL AM.c (AR b)) 131),(30,.row 8 b.Vias.length (AL Ak.c b.Vias) 133),(3340,.rowx 8 2 (fun i_ j_=>if i_<1 then m8 i_ j_ else m8 (i_-1) j_) 97 [(0,[.i (b.Pours.getD 0 default).Id,.s (b.Pours.getD 0 default).Net,.i (b.Pours.getD 0 default).Layer,.i (b.Pours.getD 0 default).Pitch,.i (b.Pours.getD 0 default).Priority,.i (b.Pours.getD 0 default).Relief,.i (b.Pours.getD 0 default).Spoke,.own 3341 4 (b.Pours.getD 0 default).Rects.length]),(1,[.i (b.Pours.getD 1 default).Id,.s (b.Pours.getD 1 default).Net,.i (b.Pours.getD 1 default).Layer,.i (b.Pours.getD 1 default).Pitch,.i (b.Pours.getD 1 default).Priority,.i (b.Pours.getD 1 default).Relief,.i (b.Pours.getD 1 default).Spoke,.own 3342 4 (b.Pours.getD 1 default).Rects.length])]),(3106,.row 5 (BK b).length (AL BA.c (BK b)) 136),(3108,.row 4 (BP b).length (AL AX.c (BP b)) 112),(3110,.row 2 (A0 b).length (AL BG.c (A0 b)) 138),(3114,.row 20 (A2 b).length (AL A5.c (A2 b)) 147),(34,.row 3 b.Waivers.length (AL As.c b.Waivers) 142),(3112,.row 3 (Ar b).length (AL BI.c (Ar b)) 140),(3341,.row 4 (b.Pours.getD 0 default).Rects.length (AL Al.c (b.Pours.getD 0 default).Rects) 90),(3342,.row 4 (b.Pours.getD 1 default).Rects.length (AL Al.c (b.Pours.getD 1 default).Rects) 90)]
abbrev LX(t_:List (Nat×Blk)):List (Nat×Blk):=(26,Zbn b)::(30,Zbo b)::(34,Zbp b)::(A1 b)::(3002,Zbl)::t_
abbrev pB:List (Nat×Blk):=(LX b [(3003,ZbE b),(3100,Zbr b),(3102,Zbt b),(3106,Zbz b),(3108,ZbB b),(3110,ZbD b),(3112,ZbF b),(3340,Zbv b),(3341,Zbw b),(3342,Zbx b)])
abbrev oZ:List (Nat×Blk):=(LX b [(3003,ZbC b),(3100,Zbr b),(3102,Zbt b),(3106,Zbz b),(3108,ZbB b),(3110,ZbD b),(3340,Zbv b),(3341,Zbw b),(3342,Zbx b)])
abbrev oJ:List (Nat×Blk):=(LX b [(3003,ZbA b),(3100,Zbr b),(3102,Zbt b),(3106,Zbz b),(3108,ZbB b),(3340,Zbv b),(3341,Zbw b),(3342,Zbx b)])
abbrev oA:List (Nat×Blk):=(LX b [(3003,Zby b),(3100,Zbr b),(3102,Zbt b),(3106,Zbz b),(3340,Zbv b),(3341,Zbw b),(3342,Zbx b)])
abbrev nS:List (Nat×Blk):=(LX b [(3003,Zbu b),(3100,Zbr b),(3102,Zbt b),(3340,Zbv b),(3341,Zbw b),(3342,Zbx b)])
abbrev mY:List (Nat×Blk):=(LX b [(3003,.cells (Pi b) 41),(3100,Zbr b),(3102,Zbt b)])
abbrev mM:List (Nat×Blk):=(LX b [(3003,.cells (Nh b) 41),(3100,Zbr b)])
set_option maxHeartbeats 4000000 in
theorem qCyP2(b:AC)(hc:Ct b)(hlen:(b.Pours.length:Int)=2):Frs Tryz.prog 46 [.agg (AC.c b)] (fun _:Unit=>True) (fun _=>cy b) (fun _=>hCyP2 b):=by
 refine Mm Tryz.func46 rfl kr kr kr fun W0 M0 X hP hFl=>?_;have ⟨p0,p1,p2,p3,p4,p5,p6,p7,p8,p9,p10,_,_,_,_,_,_,_,_,_⟩:=hc;have hr:=hc.rok;refine AA<|on<|AA<|oe [23,27,31] _ [none,0=0,0+b.Parts.length<=maxLen,(0+b.Parts.length)*72<=140737488355328,0=0,0+b.Vias.length<=maxLen,(0+b.Vias.length)*72<=140737488355328,0=0,0+b.Waivers.length<=maxLen,(0+b.Waivers.length)*32<=140737488355328] (J1 22 (EX b.Outline au31)) (.cons rfl (.cons au4 (.cons au4 (.cons rfl (.cons au4 (.cons au4 (.cons rfl (.cons au4 (.cons au4 .nil)))))))))<|AE<|AZ (Cv.trans (Ag 26 (Ac (Ai 7 AD.c (([]:List AD):List AD)) (AU 7 AD.c b.Parts))) (Cv.trans (Ag 30 (Ac (Ai 8 Ak.c (([]:List Ak):List Ak)) (AU 8 Ak.c b.Vias))) (Ag 34 (Ac (Ai 3 As.c (([]:List As):List As)) (AU 3 As.c b.Waivers)))))<|AA<|AA<|rn ⟨Pd,[(1,.cells (AC.c b) 41),(2,Zbl),(3,.cells (Jm b) 41),(26,Zbn b),(30,Zbo b),(34,Zbp b)]⟩<|AZ (Cv.trans (vr 3 3003 (K:=[]) hP) (Cv.trans (vr 1 3001 (K:=[]) hP) (wr (⟨LT,[(A1 b),(3002,Zbl),(3003,.cells (Jm b) 41),(26,Zbn b),(30,Zbo b),(34,Zbp b)]⟩) 2 3002 (K:=[]) hP))) ?_;refine CL (ι:=Unit) (I:=fun _=>True) 3003 (Jm b) 41 (mkB 15 5) [1,2,3,4] [3001,3002] (fun _=>BJ) (fun _=>lEB 15 5 (.own 3100 2 (A4 b).length)) (fun _=>(Zp b)) (fun _=>⟨BJ,[(3003,.cells (Nh b) 41),(A1 b),(3002,Zbl),(3100,Zbr b),(26,Zbn b),(30,Zbo b),(34,Zbp b)]⟩) hP hFl (XH b hc kr) (fun _ _=>?_)
 refine AE<|AZ (ck (⟨BJ,(mM b)⟩))<|AA<|AA<|rn ⟨Lq,(mM b)⟩<|CL (ι:=Unit) (I:=fun _=>True) 3003 (Nh b) 41 (mkB 15 6) [1,2,3,5] [3001,3002] (fun _=>BJ) (fun _=>lEB 15 6 (PB b)) (fun _=>(WA b)) (fun _=>⟨BJ,[(3003,.cells (Pi b) 41),(A1 b),(3002,Zbl),(3102,Zbt b),(26,Zbn b),(30,Zbo b),(34,Zbp b),(3100,Zbr b)]⟩) hP hFl (Ml b hc kr) (fun _ _=>?_);refine AE<|AZ (ck (⟨BJ,(mY b)⟩))<|AA<|AA<|rn ⟨Jo,(mY b)⟩<|CL (ι:=Unit) (I:=fun _=>True) 3003 (Pi b) 41 (mkB 15 8) [1,2,3,7] [3001,3002] (fun _=>BJ) (fun _=>lEB 15 8 (.own 3340 8 2)) (fun _=>[(A1 b),C7,(3340,.rowx 8 2 (fun i_ j_=>if i_<1 then m8 i_ j_ else m8 (i_-1) j_) 97 [(0,(Ng b)),(1,(Ph b))]),(3341,.row 4 (CZ b).Rects.length (ID b) 90),(3342,.row 4 (DI b).Rects.length (PO b) 90)]) (fun _=>⟨BJ,[(3003,Zbu b),(A1 b),(3002,Zbl),(3340,Zbv b),(3341,Zbw b),(3342,Zbx b),(26,Zbn b),(30,Zbo b),(34,Zbp b),(3100,Zbr b),(3102,Zbt b)]⟩) hP hFl (gCxP2 b hc hlen kr) (fun _ _=>?_);refine AE<|AZ (ck (⟨BJ,(nS b)⟩))<|AA<|AA<|rn ⟨Lp,(nS b)⟩<|CL (ι:=Unit) (I:=fun _=>True) 3003 (pG b) 41 (mkB 15 9) [1,2,3,9] [3001,3002] (fun _=>BJ) (fun _=>lEB 15 9 (NG b)) (fun _=>(V9 b)) (fun _=>⟨BJ,[(3003,Zby b),(A1 b),(3002,Zbl),(3106,Zbz b),(26,Zbn b),(30,Zbo b),(34,Zbp b),(3100,Zbr b),(3102,Zbt b),(3340,Zbv b),(3341,Zbw b),(3342,Zbx b)]⟩) hP hFl (Od b hc kr) (fun _ _=>?_)
 refine AE<|AZ (ck (⟨BJ,(oA b)⟩))<|AA<|AA<|rn ⟨Lw,(oA b)⟩<|CL (ι:=Unit) (I:=fun _=>True) 3003 (pL b) 41 (mkB 15 10) [1,2,3,11] [3001,3002] (fun _=>BJ) (fun _=>lEB 15 10 (NF b)) (fun _=>(V8 b)) (fun _=>⟨BJ,[(3003,ZbA b),(A1 b),(3002,Zbl),(3108,ZbB b),(26,Zbn b),(30,Zbo b),(34,Zbp b),(3100,Zbr b),(3102,Zbt b),(3106,Zbz b),(3340,Zbv b),(3341,Zbw b),(3342,Zbx b)]⟩) hP hFl (Ob b hc kr) (fun _ _=>?_);refine AE<|AZ (ck (⟨BJ,(oJ b)⟩))<|AA<|AA<|rn ⟨Lu,(oJ b)⟩<|CL (ι:=Unit) (I:=fun _=>True) 3003 (pP b) 41 (mkB 15 11) [1,2,3,13] [3001,3002] (fun _=>BJ) (fun _=>lEB 15 11 (PA b)) (fun _=>(V7 b)) (fun _=>⟨BJ,[(3003,ZbC b),(A1 b),(3002,Zbl),(3110,ZbD b),(26,Zbn b),(30,Zbo b),(34,Zbp b),(3100,Zbr b),(3102,Zbt b),(3106,Zbz b),(3108,ZbB b),(3340,Zbv b),(3341,Zbw b),(3342,Zbx b)]⟩) hP hFl (Kx b hc kr) (fun _ _=>?_);refine AE<|AZ (ck (⟨BJ,(oZ b)⟩))<|AA<|AA<|rn ⟨Ls,(oZ b)⟩<|CL (ι:=Unit) (I:=fun _=>True) 3003 ((DN b (PF b (JT b [vN])))) 41 (mkB 15 14) [1,2,3,14] [3001,3002] (fun _=>BJ) (fun _=>lEB 15 14 (.own 3112 3 (Ar b).length)) (fun _=>(V6 b)) (fun _=>⟨BJ,[(3003,ZbE b),(A1 b),(3002,Zbl),(3112,ZbF b),(26,Zbn b),(30,Zbo b),(34,Zbp b),(3100,Zbr b),(3102,Zbt b),(3106,Zbz b),(3108,ZbB b),(3110,ZbD b),(3340,Zbv b),(3341,Zbw b),(3342,Zbx b)]⟩) hP hFl (Kw b hc kr) (fun _ _=>?_)
 refine AE<|AZ (ck (⟨BJ,(pB b)⟩))<|AA<|AA<|rn ⟨Lr,(pB b)⟩<|CL (ι:=Unit) (I:=fun _=>True) 3003 (j7 b) 41 (mkB 15 12) [1,2,3,16] [3001,3002] (fun _=>BJ) (fun _=>lEB 15 12 (Vp b)) (fun _=>(WB b)) (fun _=>⟨BJ,[(3003,ZbG b),(A1 b),(3002,Zbl),(3114,ZbH b),(26,Zbn b),(30,Zbo b),(34,Zbp b),(3100,Zbr b),(3102,Zbt b),(3106,Zbz b),(3108,ZbB b),(3110,ZbD b),(3112,ZbF b),(3340,Zbv b),(3341,Zbw b),(3342,Zbx b)]⟩) hP hFl (Oc b hc kr) (fun _ _=>?_);refine AE<|AZ (ck (⟨BJ,(LX b [(3003,ZbG b),(3100,Zbr b),(3102,Zbt b),(3106,Zbz b),(3108,ZbB b),(3110,ZbD b),(3112,ZbF b),(3114,ZbH b),(3340,Zbv b),(3341,Zbw b),(3342,Zbx b)])⟩))<|AA<|rn ⟨[(2,tP 3002 0)],[(26,Zbn b),(30,Zbo b),(34,Zbp b),(3002,ZbG b),(3100,Zbr b),(3102,Zbt b),(3106,Zbz b),(3108,ZbB b),(3110,ZbD b),(3112,ZbF b),(3114,ZbH b),(3340,Zbv b),(3341,Zbw b),(3342,Zbx b)]⟩<|AO ?_;refine⟨_,Cv.trans (ck (⟨[(2,tP 3002 0)],[(26,Zbn b),(3100,Zbr b),(3102,Zbt b),(30,Zbo b),(3340,Zbv b),(3106,Zbz b),(3108,ZbB b),(3110,ZbD b),(3114,ZbH b),(34,Zbp b),(3112,ZbF b),(3341,Zbw b),(3342,Zbx b),(3002,ZbG b)]⟩)) (Cv.refl _),.inl rfl,cy b,by kernel_rfl,be (m:=[(3002,.cells (SR b) 41)]) kr⟩
end
section
open Go.RowKit
def ZbI:Blk:=.cells IA 41
variable (b:AC)(q:Ee)
def ZbJ:Blk:=.row 7 b.Parts.length (IC b) 78
def ZbK:Blk:=.row 2 (A4 b).length (Ja b) 120
def ZbL:Blk:=.row 6 (AR b).length (KW b) 131
def ZbM:Blk:=.row 8 b.Vias.length (JY b) 133
def ZbN:Blk:=.rowx 8 2 (fun i_ j_=>if i_<1 then m8 i_ j_ else m8 (i_-1) j_) 97 [(0,(Ng b)),(1,(Ph b))]
def ZbO:Blk:=.row 5 (BK b).length (KZ b) 136
def ZbP:Blk:=.row 4 (BP b).length (KX b) 112
def ZbQ:Blk:=.row 2 (A0 b).length (Je b) 138
def ZbR:Blk:=.row 20 (A2 b).length (KY b) 147
def ZbS:Blk:=.row 3 b.Waivers.length (Jc b) 142
def ZbT:Blk:=.row 3 (Ar b).length (Jd b) 140
def ZbU:Blk:=.row 4 (CZ b).Rects.length (ID b) 90
def ZbV:Blk:=.row 4 (DI b).Rects.length (PO b) 90
def ZbW:Blk:=.cells (SR b) 41
abbrev KN:=[Al.mk (mB q) (tqb q 9) (W64 ((mB q)+2)) (W64 ((W64 ((tqb q 9)+2))+(W64 ((W64 (Int.tdiv (mqa q) 40))*1000))))]
def ZbX:Blk:=.row 4 ((CZ b).Rects++(KN q)).length (AL Al.c ((CZ b).Rects++(KN q))) 90
abbrev nV:List Cl:=(JX b [.own 370 4 ((CZ b).Rects++(KN q)).length])
def ZbY:Blk:=.rowx 8 2 (fun i_ j_=>if i_<1 then m8 i_ j_ else m8 (i_-1) j_) 97 [(0,(nV b q)),(1,(Ph b))]
def ZbZ:Blk:=.row 4 ((DI b).Rects++(KN q)).length (AL Al.c ((DI b).Rects++(KN q))) 90
def Zc0:Blk:=.rowx 8 2 (fun i_ j_=>if i_<1 then m8 i_ j_ else m8 (i_-1) j_) 97 [(0,(Ng b)),(1,(La b [.own 370 4 ((DI b).Rects++(KN q)).length]))]
def N7(b:AC)(q:Ee):AC:=bif decide (((tqb q ((2:Nat):Int)).toNat:Nat)=0)then({ Cx b with Pours:=[A8.mk (b.Pours.getD 0 default).Id (b.Pours.getD 0 default).Net (b.Pours.getD 0 default).Layer (b.Pours.getD 0 default).Pitch (b.Pours.getD 0 default).Priority (b.Pours.getD 0 default).Relief (b.Pours.getD 0 default).Spoke ((b.Pours.getD 0 default).Rects++[Al.mk (Int.tmod (mqa q) 9) (tqb q 9) (W64 ((Int.tmod (mqa q) 9)+2)) (W64 ((W64 ((tqb q 9)+2))+(W64 ((W64 (Int.tdiv (mqa q) 40))*1000))))]),b.Pours.getD 1 default] })else({ Cx b with Pours:=[b.Pours.getD 0 default,A8.mk (b.Pours.getD 1 default).Id (b.Pours.getD 1 default).Net (b.Pours.getD 1 default).Layer (b.Pours.getD 1 default).Pitch (b.Pours.getD 1 default).Priority (b.Pours.getD 1 default).Relief (b.Pours.getD 1 default).Spoke ((b.Pours.getD 1 default).Rects++[Al.mk (Int.tmod (mqa q) 9) (tqb q 9) (W64 ((Int.tmod (mqa q) 9)+2)) (W64 ((W64 ((tqb q 9)+2))+(W64 ((W64 (Int.tdiv (mqa q) 40))*1000))))])] })
def jo:CT:=(11,(Rc b q),.val [] (.av (.agg (AC.c (N7 b q)))))
abbrev RY(t_:List (Nat×Blk)):List (Nat×Blk):=(4,ZbI)::(5,ZbW b)::(26,ZbJ b)::(30,ZbM b)::(34,ZbS b)::t_
abbrev aV:List (Nat×Blk):=(RY b [(3100,ZbK b),(3102,ZbL b),(3106,ZbO b),(3108,ZbP b),(3110,ZbQ b),(3112,ZbT b),(3114,ZbR b),(3340,ZbN b),(3341,ZbU b),(3342,ZbV b)])
abbrev SK:List Cl:=(JX b [lst 4 Al.c ((CZ b).Rects++(KN q))])
abbrev aH:=A9 4 1 [.i (mB q),.i (tqb q 9),.i (W64 ((mB q)+2)),.i (W64 ((W64 ((tqb q 9)+2))+(W64 ((W64 (Int.tdiv (mqa q) 40))*1000))))]
abbrev Z8:List (Nat×Tv):=(JW q [(21,tI 16),(166,tB false)])
abbrev nY:List Cl:=(JX b [.own 370 4 ((CZ b).Rects.length+1)])
abbrev Vo(t_:List (Nat×Blk)):List (Nat×Blk):=(4,ZbW b)::(26,ZbJ b)::(30,ZbM b)::(34,ZbS b)::(3100,ZbK b)::(3102,ZbL b)::(3106,ZbO b)::(3108,ZbP b)::(3110,ZbQ b)::(3112,ZbT b)::(3114,ZbR b)::t_
set_option maxHeartbeats 40000000 in
theorem fp(b:AC)(q:Ee)(hc:Ct b)(hq:Bw q.e0 26=16)(hlen:(b.Pours.length:Int)=2):PuP 11 (jo b q).2.1 (.av (.agg (AC.c (N7 b q)))):=by
 refine pwf Tryz.func11 fun W0 M0=>?_;have hl0:=hc.lParts;have hl1:=hc.lNets;have hl2:=hc.lTracks;have hl3:=hc.lVias;have hl4:=hc.lPours;have hl5:=hc.lKeeps;have hl6:=hc.lSlots;have hl7:=hc.lClasses;have hl8:=hc.lWaivers;have hl9:=hc.lMatches;have hl10:=hc.lRules;have hN:0<=(mqa q)/\(mqa q)<48:=LJ _ _ m4 m4;have hK0:=LJ q.e2 64 m4 m4;have hK:0<=(mqb q)/\(mqb q)<64:=hK0;have hb0:=hc.rec' 0;have hb1:=hc.rec' 1;refine AA<|rn ⟨Hk,[(DT b),(Ek q),(4,ZbI)]⟩<|AA<|DZ<|Fk C8 1 [] [] [] [3,4,11] [3,4] [] ⟨(R5 b),[(Ek q),(4,ZbI)]⟩ .nil kr .nil<|KF (ι:=Unit) (I:=fun _=>True) (fun _=>⟨[(3,tP 3 0),(4,tP 4 0),(R3 b),(12,.av (.agg (SR b)))],[(26,ZbJ b),(3100,ZbK b),(3102,ZbL b),(30,ZbM b),(3340,ZbN b),(3106,ZbO b),(3108,ZbP b),(3110,ZbQ b),(3114,ZbR b),(34,ZbS b),(3112,ZbT b),(3341,ZbU b),(3342,ZbV b),(Ek q),(4,ZbI)]⟩) hk0 ⟨⟨_,_,rfl,rfl,⟨fun _=>default,by kernel_rfl⟩,by kernel_rfl⟩,fun _ _=>by kernel_rfl,rfl,rfl⟩ (qCyP2 b au19 au19) (fun _=>by kernel_rfl) (fun _=>by kernel_rfl) (fun _ _=>?_)
 refine Er C8 [] [] [] [3,4,5] [3,4,5,26,30,34,3100,3102,3106,3108,3110,3112,3114,3340,3341,3342] [] ⟨Rz,[(Ek q),(4,ZbI),(5,ZbW b),(26,ZbJ b),(30,ZbM b),(34,ZbS b),(3100,ZbK b),(3102,ZbL b),(3106,ZbO b),(3108,ZbP b),(3110,ZbQ b),(3112,ZbT b),(3114,ZbR b),(3340,ZbN b),(3341,ZbU b),(3342,ZbV b)]⟩ .nil kr .nil<|AE<|AA<|oo _ [0<=(1:Int)/\(1:Int)<(3:Int),none] (J1 15 (IR q.e1 48 au19)) (H1 m4)<|AE<|AA<|oo _ [0<=(2:Int)/\(2:Int)<(3:Int),none] (J1 18 (IR q.e2 64 au19)) (H1 m4)<|AE<|AA<|AA<|ro _ [0<=(0:Int)/\(0:Int)<(3:Int),none] ⟨[(4,tP 4 0),(5,tP 5 0),(6,tI (mqa q)),(7,tI (mqb q)),(21,tI (Bw q.e0 26))],[(4,ZbI),(5,ZbW b),(26,ZbJ b),(30,ZbM b),(34,ZbS b),(3100,ZbK b),(3102,ZbL b),(3106,ZbO b),(3108,ZbP b),(3110,ZbQ b),(3112,ZbT b),(3114,ZbR b),(3340,ZbN b),(3341,ZbU b),(3342,ZbV b)]⟩ (J1 21 (IR q.e0 26 au19)) (H1 m4) ?_
 (try rw[hq])
 refine AE<|AJ<|AA<|on<|An kr<|AA<|on<|An kr<|AA<|on<|An kr<|AA<|on<|An kr<|AA<|on<|An kr<|AA<|on<|An kr<|AA<|on<|An kr<|AA<|on<|An kr<|AA<|rn ⟨(Z8 q),(aV b)⟩<|An kr<|AA<|on<|An kr<|AA<|on<|An kr<|AA<|on<|An kr<|AA<|on<|An kr<|AA<|on<|An kr<|AA<|on<|An kr<|AA<|on<|An kr<|AA<|on<|CN kr<|AA<|rn ⟨(JW q [(340,tB (decide ((0:Int)<((2:Nat):Int))))]),(aV b)⟩ ?_;have h1:(decide ((0:Int)<((2:Nat):Int)))=true:=m4;have g1:=oT h1;refine BC _ rfl (fun _=>?_) (fun h=>absurd (h1.symm.trans h) m4);refine AA<|dw [] [] [(((2:Nat):Int):Int)≠0,0<=(tqb q ((2:Nat):Int):Int)/\(tqb q ((2:Nat):Int):Int)<((2:Nat):Int)] ⟨(JW q [(9,.av (.one (.rptr 3340 8 (tqb q ((2:Nat):Int)).toNat 0)))]),(aV b)⟩ .nil (H2 au11 (by first|decide|omega|(have:0≤tqb q ((2:Nat):Int)∧tqb q ((2:Nat):Int)<((2:Nat):Int):=tmb hK.1 (n:=((2:Nat):Int)) m4;omega)))<|AE<|Qj (decide (((tqb q ((2:Nat):Int)).toNat:Nat)=0)) (fun h2=>?_) (fun h2=>?_)
 ·have g2:=oT h2
  (try rw[g2])
  refine rc [] [(9:Int)≠0,(9:Int)≠0,(9:Int)≠0,(9:Int)≠0,(40:Int)≠0,(b.Pours.getD 0 default).Rects.length=(b.Pours.getD 0 default).Rects.length,(b.Pours.getD 0 default).Rects.length+1<=maxLen,((b.Pours.getD 0 default).Rects.length+1)*32<=140737488355328] ⟨E5,(RY b [(370,.row 4 ((CZ b).Rects.length+1) (fun i_ j_=>if i_<(CZ b).Rects.length then(ID b) i_ j_ else(aH q) (i_-(CZ b).Rects.length) j_) 90),(3100,ZbK b),(3102,ZbL b),(3106,ZbO b),(3108,ZbP b),(3110,ZbQ b),(3112,ZbT b),(3114,ZbR b),(3340,.rowx 8 2 (fun i_ j_=>if i_<1 then m8 i_ j_ else m8 (i_-1) j_) 97 [(0,(nY b)),(1,(Ph b))]),(3342,ZbV b)])⟩ .nil (H8 au11 au11 au11 au11 au11 rfl (au12 (h:=by first|omega|(unfold maxLen;omega))) au12)<|Ao<|AE ?_
  refine AZ (DD (⟨E5,(RY b [(370,ZbX b q),(3100,ZbK b),(3102,ZbL b),(3106,ZbO b),(3108,ZbP b),(3110,ZbQ b),(3112,ZbT b),(3114,ZbR b),(3340,ZbY b q),(3342,ZbV b)])⟩) lr (rz (rz (rz (rz (rz (.cons ⟨rfl,CS 90 (Ac (AU 4 Al.c (b.Pours.getD 0 default).Rects) (BN (c:=Al.c) (xs:=([Al.mk (Int.tmod (mqa q) 9) (tqb q 9) (W64 ((Int.tmod (mqa q) 9)+2)) (W64 ((W64 ((tqb q 9)+2))+(W64 ((W64 (Int.tdiv (mqa q) 40))*1000))))]:List Al)) rfl kr))⟩ (rz (rz (rz (rz (rz (rz (rz (.cons ⟨rfl,.rowx _ _ _ _ (.cons ⟨rfl,(rr5 (rr2 (.cons (.own _ _ au17) .nil)))⟩ (.cons ⟨rfl,(rr5 (rr3 .nil))⟩ .nil))⟩ lr)))))))))))))))<|AA<|rn ⟨[(4,tP 4 0)],[(4,ZbW b),(26,ZbJ b),(30,ZbM b),(34,ZbS b),(370,ZbX b q),(3100,ZbK b),(3102,ZbL b),(3106,ZbO b),(3108,ZbP b),(3110,ZbQ b),(3112,ZbT b),(3114,ZbR b),(3340,ZbY b q),(3342,ZbV b)]⟩<|AO ?_
  exact zy (Cv.trans (vf 370 hk0) (Cv.trans (KD (⟨[(4,tP 4 0)],(Vo b [(3340,.rowx 8 2 (fun i_ j_=>if i_<1 then m8 i_ j_ else m8 (i_-1) j_) 97 [(0,(SK b q)),(1,(A8.c (DI b)))])])⟩) 3342 hk0) (Cv.trans (I2 (⟨[(4,tP 4 0)],(Vo b [(3340,.row 8 2 (A9 8 2 (JX b [lst 4 Al.c ((CZ b).Rects++(KN q)),.i (DI b).Id,.s (DI b).Net,.i (DI b).Layer,.i (DI b).Pitch,.i (DI b).Priority,.i (DI b).Relief,.i (DI b).Spoke,lst 4 Al.c (DI b).Rects])) 97)])⟩) 3340 8 2 (fun i_ j_=>if i_<1 then m8 i_ j_ else m8 (i_-1) j_) 97 [[.i (b.Pours.getD 0 default).Id,.s (b.Pours.getD 0 default).Net,.i (b.Pours.getD 0 default).Layer,.i (b.Pours.getD 0 default).Pitch,.i (b.Pours.getD 0 default).Priority,.i (b.Pours.getD 0 default).Relief,.i (b.Pours.getD 0 default).Spoke,lst 4 Al.c ((b.Pours.getD 0 default).Rects++[Al.mk (Int.tmod (mqa q) 9) (tqb q 9) (W64 ((Int.tmod (mqa q) 9)+2)) (W64 ((W64 ((tqb q 9)+2))+(W64 ((W64 (Int.tdiv (mqa q) 40))*1000))))])],(A8.c (b.Pours.getD 1 default))] kr kr kr kr) (Cv.trans (Ag 3340 (Ai 8 A8.c ([A8.mk (b.Pours.getD 0 default).Id (b.Pours.getD 0 default).Net (b.Pours.getD 0 default).Layer (b.Pours.getD 0 default).Pitch (b.Pours.getD 0 default).Priority (b.Pours.getD 0 default).Relief (b.Pours.getD 0 default).Spoke ((b.Pours.getD 0 default).Rects++[Al.mk (Int.tmod (mqa q) 9) (tqb q 9) (W64 ((Int.tmod (mqa q) 9)+2)) (W64 ((W64 ((tqb q 9)+2))+(W64 ((W64 (Int.tdiv (mqa q) 40))*1000))))]),b.Pours.getD 1 default]:List A8))) (CC [26,3100,3102,30,3340,3106,3108,3110,3114,34,3112] hk0))))) (by simp only[N7,h1,h2,mi,mj]<;>kernel_rfl)
 have g2:=oF h2;have g3:((tqb q ((2:Nat):Int)).toNat:Nat)=1:=(by have:0≤tqb q ((2:Nat):Int)∧tqb q ((2:Nat):Int)<((2:Nat):Int):=tmb hK.1 (n:=((2:Nat):Int)) m4;omega)
 (try rw[g3])
 refine rc [] [(9:Int)≠0,(9:Int)≠0,(9:Int)≠0,(9:Int)≠0,(40:Int)≠0,(b.Pours.getD 1 default).Rects.length=(b.Pours.getD 1 default).Rects.length,(b.Pours.getD 1 default).Rects.length+1<=maxLen,((b.Pours.getD 1 default).Rects.length+1)*32<=140737488355328] ⟨E5,(RY b [(370,.row 4 ((DI b).Rects.length+1) (fun i_ j_=>if i_<(DI b).Rects.length then(PO b) i_ j_ else(aH q) (i_-(DI b).Rects.length) j_) 90),(3100,ZbK b),(3102,ZbL b),(3106,ZbO b),(3108,ZbP b),(3110,ZbQ b),(3112,ZbT b),(3114,ZbR b),(3340,.rowx 8 2 (fun i_ j_=>if i_<1 then m8 i_ j_ else m8 (i_-1) j_) 97 [(0,(Ng b)),(1,(La b [.own 370 4 ((DI b).Rects.length+1)]))]),(3341,ZbU b)])⟩ .nil (H8 au11 au11 au11 au11 au11 rfl (au12 (h:=by first|omega|(unfold maxLen;omega))) au12)<|Ao<|AE ?_
 refine AZ (DD (⟨E5,(RY b [(370,ZbZ b q),(3100,ZbK b),(3102,ZbL b),(3106,ZbO b),(3108,ZbP b),(3110,ZbQ b),(3112,ZbT b),(3114,ZbR b),(3340,Zc0 b q),(3341,ZbU b)])⟩) lr (rz (rz (rz (rz (rz (.cons ⟨rfl,CS 90 (Ac (AU 4 Al.c (b.Pours.getD 1 default).Rects) (BN (c:=Al.c) (xs:=([Al.mk (Int.tmod (mqa q) 9) (tqb q 9) (W64 ((Int.tmod (mqa q) 9)+2)) (W64 ((W64 ((tqb q 9)+2))+(W64 ((W64 (Int.tdiv (mqa q) 40))*1000))))]:List Al)) rfl kr))⟩ (rz (rz (rz (rz (rz (rz (rz (.cons ⟨rfl,.rowx _ _ _ _ (.cons ⟨rfl,(rr5 (rr3 .nil))⟩ (.cons ⟨rfl,(rr5 (rr2 (.cons (.own _ _ au17) .nil)))⟩ .nil))⟩ lr)))))))))))))))<|AA<|rn ⟨[(4,tP 4 0)],[(4,ZbW b),(26,ZbJ b),(30,ZbM b),(34,ZbS b),(370,ZbZ b q),(3100,ZbK b),(3102,ZbL b),(3106,ZbO b),(3108,ZbP b),(3110,ZbQ b),(3112,ZbT b),(3114,ZbR b),(3340,Zc0 b q),(3341,ZbU b)]⟩<|AO ?_
 exact zy (Cv.trans (vf 3341 hk0) (Cv.trans (KD (⟨[(4,tP 4 0)],(Vo b [(3340,.rowx 8 2 (fun i_ j_=>if i_<1 then m8 i_ j_ else m8 (i_-1) j_) 97 [(0,(A8.c (CZ b))),(1,((La b [lst 4 Al.c ((DI b).Rects++(KN q))])))])])⟩) 370 hk0) (Cv.trans (I2 (⟨[(4,tP 4 0)],(Vo b [(3340,.row 8 2 (A9 8 2 (JX b [lst 4 Al.c (CZ b).Rects,.i (DI b).Id,.s (DI b).Net,.i (DI b).Layer,.i (DI b).Pitch,.i (DI b).Priority,.i (DI b).Relief,.i (DI b).Spoke,lst 4 Al.c ((DI b).Rects++(KN q))])) 97)])⟩) 3340 8 2 (fun i_ j_=>if i_<1 then m8 i_ j_ else m8 (i_-1) j_) 97 [(A8.c (b.Pours.getD 0 default)),[.i (b.Pours.getD 1 default).Id,.s (b.Pours.getD 1 default).Net,.i (b.Pours.getD 1 default).Layer,.i (b.Pours.getD 1 default).Pitch,.i (b.Pours.getD 1 default).Priority,.i (b.Pours.getD 1 default).Relief,.i (b.Pours.getD 1 default).Spoke,lst 4 Al.c ((b.Pours.getD 1 default).Rects++[Al.mk (Int.tmod (mqa q) 9) (tqb q 9) (W64 ((Int.tmod (mqa q) 9)+2)) (W64 ((W64 ((tqb q 9)+2))+(W64 ((W64 (Int.tdiv (mqa q) 40))*1000))))])]] kr kr kr kr) (Cv.trans (Ag 3340 (Ai 8 A8.c ([b.Pours.getD 0 default,A8.mk (b.Pours.getD 1 default).Id (b.Pours.getD 1 default).Net (b.Pours.getD 1 default).Layer (b.Pours.getD 1 default).Pitch (b.Pours.getD 1 default).Priority (b.Pours.getD 1 default).Relief (b.Pours.getD 1 default).Spoke ((b.Pours.getD 1 default).Rects++[Al.mk (Int.tmod (mqa q) 9) (tqb q 9) (W64 ((Int.tmod (mqa q) 9)+2)) (W64 ((W64 ((tqb q 9)+2))+(W64 ((W64 (Int.tdiv (mqa q) 40))*1000))))])]:List A8))) (CC [26,3100,3102,30,3340,3106,3108,3110,3114,34,3112] hk0))))) (by simp only[N7,h1,h2,mi,mj]<;>kernel_rfl)
end
def Zc1:Blk:=.cells IA 41
def Zc2(v:(Nat->Value)):Blk:=.cells (oE v) 41
def Zc3(b:AC):Blk:=.row 4 (CZ b).Rects.length (ID b) 90
def Zc6(b:AC):Blk:=.rowx 8 1 m8 97 [(0,(WU b))]
def Zc8(v:(Nat->Value)):Blk:=.cells (C6 v [.own 3320 8 1,.val (v 9),.val (v 10),.val (v 11),.val (v 12),.val (v 13),.val (v 14)]) 41
abbrev WT(b:AC):List Cl:=(JX b [.own 3321 4 (CZ b).Rects.length])
def Zc9(b:AC):Blk:=.rowx 8 1 m8 97 [(0,(WT b))]
abbrev sCxP1(b:AC)(v:Nat->Value):AS:=⟨BJ,[(3003,Zc8 v),(A1 b),(3002,Zc1),(3320,Zc9 b),(3321,Zc3 b)]⟩
abbrev Z0(b:AC)(v:Nat→Value):List (Nat×Blk):=[(2000,Zc3 b),(2001,Zc6 b),(A1 b),(3002,Zc1),(3003,.cells (oP v) 41)]
set_option maxHeartbeats 4000000 in
theorem gCxP1(b:AC)(hc:Ct b)(hlen:(b.Pours.length:Int)=1){c:Code}(hpc:Tryz.f46.body.bind (HI [true,true,true,true,false,true])=some c):Q4 Tryz.prog 229 [3003,3001,3002] c (fun _:Unit=>True) (fun v=>⟨[(1,tP 3001 0),(2,tP 3002 0),(3,tP 3003 0),(7,tI 0)],[(3003,.cells [.val (v 0),.val (v 1),.val (v 2),.val (v 3),.val (v 4),.val (v 5),.val (v 6),.val (v 7),vN,.val (v 9),.val (v 10),.val (v 11),.val (v 12),.val (v 13),.val (v 14)] 41),(3001,.cells (AC.c b) 41),(3002,.cells [.i 0,.i 0,vN,.i 0,vN,vN,vN,vN,vN,vN,vN,vN,vN,vN,vN] 41)]⟩) (fun v _=>sCxP1 b v):=by
 cases hpc;intro W0 M0 X v hP hFl;show AWp _ _ _ _ _ _ _ _ ⟨Jo,[(eM v),(A1 b),C7]⟩;have ⟨p0,p1,p2,p3,p4,p5,p6,p7,p8,p9,p10,_,_,_,_,_,_,_,_,_⟩:=hc;have hr:=hc.rok;have hb0:=hc.rec' 0;refine AJ<|Dq 2<|Bs<|AA<|AA<|rn ⟨(Bi [(7,tI 0),(89,tB (decide ((0:Int)<(b.Pours.length:Int))))]),[(A1 b),(3002,Zc1),(3003,Zc2 v)]⟩ ?_;have h1:(decide ((0:Int)<(b.Pours.length:Int)))=true:=(by rw[hlen];decide);have g1:=oT h1;refine BC _ rfl (fun _=>?_) (fun h=>absurd (h1.symm.trans h) m4);refine AP<|AE<|AA<|AJ<|AA<|rc [] [0<=(0:Int)/\(0:Int)<(b.Pours.length:Int)] ⟨WK,[(8,.cells (A8.c (CZ b)) 97),(A1 b),(3002,Zc1),(3003,Zc2 v)]⟩ .nil (H1 (by first|decide|omega|(rw[hlen];decide)|(rw[show(b.Pours.length:Int)=1 from hlen];decide)))<|AE<|AA<|DE C8 [97] [] [] [1,2,3,7,8] [8,100,3001,3002,3003] [0=0,0+(b.Pours.getD 0 default).Rects.length<=maxLen,(0+(b.Pours.getD 0 default).Rects.length)*32<=140737488355328] ⟨WK,[(oH b),(100,.row 4 (0+(CZ b).Rects.length) (fun i_ j_=>if i_<0 then(A9 4 0 []) i_ j_ else(AL Al.c (CZ b).Rects) (i_-0) j_) 90),(A1 b),(3002,Zc1),(3003,Zc2 v)]⟩ .nil kr (.cons rfl (.cons au12 (.cons au12 .nil)))<|AE<|AZ (Ag 100 (Ac (Ai 4 Al.c (([]:List Al):List Al)) (AU 4 Al.c (b.Pours.getD 0 default).Rects)))<|oc [] [1=1,0<1,1<=maxLen,1*88<=140737488355328] .nil (H4 rfl m4 au12 au12)<|Ao<|AE<|rn ⟨Pg,[(100,Zc3 b),(106,.rowx 8 1 m8 97 [(0,(nW b))]),(A1 b),(3002,Zc1),(3003,.cells (WE v) 41)]⟩<|Bs ?_
 refine AZ (Cv.trans (CR (⟨Pg,[(2000,Zc3 b),(106,Zc6 b),(A1 b),(3002,Zc1),(3003,.cells (WE v) 41)]⟩) 100 2000 (K:=[3003,3001,3002]) hP rfl rfl kr kr) (CR (⟨Pg,(Z0 b v)⟩) 106 2001 (K:=[3003,3001,3002]) hP rfl rfl kr kr))<|AA<|AA<|rn ⟨(Bi [(7,tI 1),(89,tB (decide ((1:Int)<(b.Pours.length:Int))))]),(Z0 b v)⟩ ?_;have h2:(decide ((1:Int)<(b.Pours.length:Int)))=false:=(by rw[hlen];decide);have g2:=oF h2;refine BC _ rfl (fun h=>absurd (h2.symm.trans h) m4) (fun _=>?_);refine Aw<|Aj<|Aj<|Ay ?_;exact⟨_,Cv.trans (CK [1,2,3] [2000,2001,3001,3002,3003] (⟨BJ,(Z0 b v)⟩) kr) (Cv.trans (CR (⟨BJ,[(2000,Zc3 b),(3320,Zc6 b),(A1 b),(3002,Zc1),(3003,Zc8 v)]⟩) 2001 3320 (K:=[3003,3001,3002]) hP rfl rfl kr kr) (Cv.trans (CR (⟨BJ,[(3321,Zc3 b),(3320,Zc9 b),(A1 b),(3002,Zc1),(3003,Zc8 v)]⟩) 2000 3321 (K:=[3003,3001,3002]) hP rfl rfl kr kr) (CK [1,2,3] [3003,3001,3002,3320,3321] (⟨BJ,[(3003,Zc8 v),(A1 b),(3002,Zc1),(3320,Zc9 b),(3321,Zc3 b)]⟩) kr))),rfl,(),trivial,rfl⟩
end Go.Proofs.YtheobjkgllmnmaaGreat
