/-
  Proved: the statement of LengthNets; the parts before it hold what its proof needs.
-/
import Derived.Test.YtgmhnkoifdpemaaLengthNetsQf
namespace Go.Proofs.Ytgmhnkoifdpemaa
set_option maxRecDepth 100000
set_option linter.unusedVariables false
set_option linter.unusedSimpArgs false
open Go.RowKit
def PtB (p:AD):Prop:=(-900<=p.X/\p.X<=900) /\ -900<=p.Y/\p.Y<=900
theorem Oq {x:Int} (h : -500<=x/\x<=500) : -500<=W64 (0-x)/\W64 (0-x)<=500:=by rw [Ap (by omega) (by omega)];omega
theorem eI {x y:Int} (h : -500<=x/\x<=500) (k : -400<=y/\y<=400) : -900<=W64 (x+y)/\W64 (x+y)<=900:=by rw [Ap (by omega) (by omega)];omega
theorem eD {m:BO} {p:AD} (hp:(-500<=p.X/\p.X<=500) /\ -500<=p.Y/\p.Y<=500) (ha:(-400<=m.At.X/\m.At.X<=400) /\ -400<=m.At.Y/\m.At.Y<=400):PtB (Ff m p):=by
 have h1:(-500<=(CY p m.Mirror).X/\(CY p m.Mirror).X<=500) /\ -500<=(CY p m.Mirror).Y/\(CY p m.Mirror).Y<=500:=by
  unfold CY
  cases m.Mirror with
  | true=>exact ⟨Oq hp.1,hp.2⟩
  | false=>exact hp
 have h2:∀ q:AD,((-500<=q.X/\q.X<=500) /\ -500<=q.Y/\q.Y<=500)->(-500<=(Cu q m.Turn).X/\(Cu q m.Turn).X<=500) /\ -500<=(Cu q m.Turn).Y/\(Cu q m.Turn).Y<=500:=fun q hq=>by
  unfold Cu
  cases decide (Ci m.Turn=1) with
  | true=>exact ⟨Oq hq.2,hq.1⟩
  | false =>
   cases decide (Ci m.Turn=2) with
   | true=>exact ⟨Oq hq.1,Oq hq.2⟩
   | false =>
    cases decide (Ci m.Turn=3) with
    | true=>exact ⟨hq.2,Oq hq.1⟩
    | false=>exact hq
 have h3:=h2 _ h1
 exact ⟨eI h3.1 ha.1,eI h3.2 ha.2⟩
theorem eW (b:AC) (l:List (List Int)) (d:AE) (hP:Ix QW b.Parts):PtB (B6 b (Kw l) d).1:=by
 have h12:=Cf (d:=d) (n:=12) (by decide) (by decide)
 have h6:=Cf (d:=(AB d 12).2) (n:=6) (by decide) (by decide)
 unfold B6
 cases hq:(bif decide ((AB d 12).1<8) then decide ((0:Int)<(b.Parts.length:Int)) else false) with
 | true =>
  have hi:=Sb hq
  rw [cond_true]
  show PtB (Z16 b d (Kw l))
  have hp:=hP (Int.tmod (AB d 12).1 (b.Parts.length:Int)).toNat (by omega)
  obtain ⟨a,e,_⟩:=SX l hp.typ
  have hx:=hp.x
  have hy:=hp.y
  unfold Z16
  refine eD ?_ (by show (-400<=(Z14 b d).At.X/\(Z14 b d).At.X<=400) /\ -400<=(Z14 b d).At.Y/\(Z14 b d).At.Y<=400;unfold Z14;omega)
  unfold Z15 Z14
  rw [e]
  generalize (Int.tmod (AB (AB d 12).2 6).1 _).toNat=k
  by_cases hk:k<(BQ a (b.Parts.getD (Int.tmod (AB d 12).1 (b.Parts.length:Int)).toNat default).Type').Pads.length
  ·obtain ⟨h1,_,_,y,hy0,hy1,hat,_⟩:=TP a _ k hk
   show (-500<=((BQ a (b.Parts.getD (Int.tmod (AB d 12).1 (b.Parts.length:Int)).toNat default).Type').Pads.getD k default).At.X/\_)/\_
   rw [hat]
   simp only
   omega
  rw [List.getD_eq_getElem?_getD,List.getElem?_eq_none (by show (BQ a (b.Parts.getD (Int.tmod (AB d 12).1 (b.Parts.length:Int)).toNat default).Type').Pads.length<=k;omega)]
  exact (by decide:(-500<=(0:Int)/\(0:Int)<=500) /\ -500<=(0:Int)/\(0:Int)<=500)
 | false =>
  rw [cond_false]
  show (-900<=W64 (30+Int.tmod (W64 (40*(AB d 12).1)) 360)/\W64 (30+Int.tmod (W64 (40*(AB d 12).1)) 360)<=900) /\ -900<=W64 (30+W64 (60*(AB (AB d 12).2 6).1))/\W64 (30+W64 (60*(AB (AB d 12).2 6).1))<=900
  rw [Ap (x:=40*(AB d 12).1) (by omega) (by omega),Int.tmod_eq_emod_of_nonneg (by omega),Ap (x:=60*(AB (AB d 12).2 6).1) (by omega) (by omega),Ap (by omega) (by omega),Ap (by omega) (by omega)]
  omega
structure PO (k:Nat) (t:AO):Prop where
 id:t.Id=11+(k:Int)
 lay:1<=t.Layer/\t.Layer<=2
 kind:t.Shape.Kind=1
 r:3<=t.Shape.R/\t.Shape.R<=6
 edg:∃ a c d,PtB a/\PtB c/\t.Shape.Edges=(DD a c d).1
structure jD (k:Nat) (v:BW):Prop where
 id:v.Id=21+(k:Int)
 lay:v.From=1/\v.To=2
 r:6<=v.R/\v.R<=10
 at_:PtB v.At
 drill:4<=v.Drill/\v.Drill<=8
def kM (s:BC):Prop:=∃ r p,3<=r/\r<=6/\PtB p/\s.Shape=AX.mk 1 [ER p (AD.mk (W64 (p.X+25)) (W64 (p.Y+10)))] r
def XK (p:A4):Prop:=p.Rects.length<=2
def XL (p:A5):Prop:=p.Shape.Edges.length=4
abbrev XH (b:AC) (types:List BA):Prop:=∀ d,PtB (B6 (AC.mk b.Layers b.Outline b.Parts [] [] [] [] [] [] [] [] [] []) types d).1
abbrev jH (b:AC) (Q:AC->Prop):Prop:=∀ (v1:List AO) (v2:List BW) (v3:List A4) (v4:List A5) (v5:List BC),Ix PO v1->v1.length<=5->Ix jD v2->v2.length<=2->v3.length<=2->v4.length<=1->v5.length<=1->(∀ s∈v5,kM s)->(∀ p∈v3,XK p)->(∀ p∈v4,XL p)->Q (AC.mk b.Layers b.Outline b.Parts b.Nets v1 v2 v3 v4 v5 [] [] [] [])
theorem bC (b:AC) (types:List BA) (l:List (List Int)) (v1:List AO) (v6:AE) (v7:ByteArray) (v9:Int) (v2:List BW) (v6':AE) (v11:Int) (K0:List AO->AE->ByteArray->Int->AC) (K1:List BW->AE->Int->AC) (Q:AC->Prop) (hs:XH b types) (hQ:jH b Q) (h1:Ix PO v1) (h1l:v1.length<=5) (h2:Ix jD v2) (h2l:v2.length<=2) :
  ∀ (n:Nat) (v:List A4) (d:AE) (k:Int),(∀ p∈v,XK p)->0<=k->(v.length:Int)<=k->k<=(AB v6' 3).1->((AB v6' 3).1-k).toNat<n->Q (Cb b types l v1 v6 v7 v9 v2 v6' v11 K0 K1 n v d k)
 | 0,v,d,k,_,_,_,_,h=>absurd h (Nat.not_lt_zero _)
 | n+1,v,d,k,hv,k0,kv,kk,h=>by
  have hb:=Cf (d:=v6') (n:=3) (by decide) (by decide)
  unfold Cb
  by_cases hc:k<(AB v6' 3).1
  ·rw [decide_eq_true hc,cond_true]
   exact bC b types l v1 v6 v7 v9 v2 v6' v11 K0 K1 Q hs hQ h1 h1l h2 h2l n _ _ _ (fun p hp=>by
    rcases List.mem_append.1 hp with hp | hp
    ·exact hv p hp
    rw [List.mem_singleton.1 hp]
    show (Z2x b d).length<=2
    unfold Z2x
    cases decide ((AB (AB (Z2q b d) 6).2 3).1=0) <;> simp) (by omega) (by simp only [List.length_append,List.length_cons,List.length_nil];omega) (by omega) (by omega)
  rw [decide_eq_false hc,cond_false]
  have h4:(Z1v l b types).length<=1:=by
   unfold Z1v
   cases decide ((AB (AE.mk (Aa l 6) 0) 3).1=0) <;> simp
  have h4k:∀ p∈Z1v l b types,XL p:=by
   unfold Z1v
   cases decide ((AB (AE.mk (Aa l 6) 0) 3).1=0) with
   | true=>intro p hp;rw [cond_true] at hp;rw [List.mem_singleton.1 hp];rfl
   | false=>intro p hp;cases hp
  cases decide ((AB (Z1u l b types) 3).1=0) with
  | true =>
   rw [cond_true]
   refine hQ _ _ _ _ _ h1 h1l h2 h2l (by omega) h4 (by simp) (fun s hm => ?_) hv h4k
   rw [List.mem_singleton.1 hm]
   have hr:=Cf (d:=Z1A b types l) (n:=4) (by decide) (by decide)
   exact ⟨W64 (3+(AB (Z1A b types l) 4).1),Z1B b types l,by rw [Ap (by omega) (by omega)];omega,by rw [Ap (by omega) (by omega)];omega,hs _,rfl⟩
  | false =>
   rw [cond_false]
   exact hQ _ _ _ _ _ h1 h1l h2 h2l (by omega) h4 (by simp) (fun s hm=>by cases hm) hv h4k
theorem bD (b:AC) (types:List BA) (l:List (List Int)) (v1:List AO) (v6:AE) (v7:ByteArray) (v9:Int) (K0:List AO->AE->ByteArray->Int->AC) (Q:AC->Prop) (hs:XH b types) (hQ:jH b Q) (h1:Ix PO v1) (h1l:v1.length<=5) :
  ∀ (n:Nat) (v:List BW) (d:AE) (k:Int),Ix jD v->(v.length:Int)=k->k<=(AB (AE.mk (Aa l 5) 0) 3).1->((AB (AE.mk (Aa l 5) 0) 3).1-k).toNat<n->Q (Cq b types l v1 v6 v7 v9 K0 n v d k)
 | 0,v,d,k,_,_,_,h=>absurd h (Nat.not_lt_zero _)
 | n+1,v,d,k,hv,kv,kk,h=>by
  have hb:=Cf (d:=AE.mk (Aa l 5) 0) (n:=3) (by decide) (by decide)
  unfold Cq
  by_cases hc:k<(AB (AE.mk (Aa l 5) 0) 3).1
  ·rw [decide_eq_true hc,cond_true]
   refine bD b types l v1 v6 v7 v9 K0 Q hs hQ h1 h1l n _ _ _ (Rw hv ?_) (by simp only [List.length_append,List.length_cons,List.length_nil];omega) (by omega) (by omega)
   have h5:=Cf (d:=Z25 b types d) (n:=5) (by decide) (by decide)
   have h3:=Cf (d:=(AB (Z25 b types d) 5).2) (n:=3) (by decide) (by decide)
   refine ⟨?_,⟨rfl,rfl⟩,?_,hs _,?_⟩
   ·show W64 (21+k)=_
    rw [Ap (by omega) (by omega)];omega
   ·show 6<=W64 (6+_)/\W64 (6+_)<=10
    rw [Ap (by omega) (by omega)];omega
   show 4<=W64 (4+W64 (2*_))/\W64 (4+W64 (2*_))<=8
   rw [Ap (x:=2*_) (by omega) (by omega),Ap (by omega) (by omega)];omega
  rw [decide_eq_false hc,cond_false]
  have hd:=Cf (d:=d) (n:=3) (by decide) (by decide)
  exact bC b types l v1 v6 v7 v9 v d k K0 _ Q hs hQ h1 h1l hv (by omega) _ [] _ 0 (fun p hp=>by cases hp) (by omega) (by simp) (by omega) (by omega)
theorem bE (b:AC) (types:List BA) (l:List (List Int)) (Q:AC->Prop) (hs:XH b types) (hQ:jH b Q) :
  ∀ (n:Nat) (v:List AO) (d:AE) (s:ByteArray) (k:Int),Ix PO v->(v.length:Int)=k->k<=(AB (Z1h b l) 6).1->((AB (Z1h b l) 6).1-k).toNat<n->Q (CO b types l n v d s k)
 | 0,v,d,s,k,_,_,_,h=>absurd h (Nat.not_lt_zero _)
 | n+1,v,d,s,k,hv,kv,kk,h=>by
  have hb:=Cf (d:=Z1h b l) (n:=6) (by decide) (by decide)
  unfold CO
  by_cases hc:k<(AB (Z1h b l) 6).1
  ·rw [decide_eq_true hc,cond_true]
   refine bE b types l Q hs hQ n _ _ _ _ (Rw hv ?_) (by simp only [List.length_append,List.length_cons,List.length_nil];omega) (by omega) (by omega)
   have h2:=Cf (d:=d) (n:=2) (by decide) (by decide)
   have h4:=Cf (d:=(AB d 2).2) (n:=4) (by decide) (by decide)
   refine ⟨?_,?_,rfl,?_,_,_,_,?_,?_,rfl⟩
   ·show W64 (11+k)=_
    rw [Ap (by omega) (by omega)];omega
   ·show 1<=W64 (1+_)/\W64 (1+_)<=2
    rw [Ap (by omega) (by omega)];omega
   ·show 3<=W64 (3+_)/\W64 (3+_)<=6
    rw [Ap (by omega) (by omega)];omega
   ·exact hs _
   exact hs _
  rw [decide_eq_false hc,cond_false]
  exact bD b types l v d s k _ Q hs hQ hv (by omega) _ [] _ 0 Rv rfl (by have:=Cf (d:=AE.mk (Aa l 5) 0) (n:=3) (by decide) (by decide);omega) (by omega)
theorem gQ (b:AC) (types:List BA) (l:List (List Int)) (Q:AC->Prop) (hs:XH b types) (hQ:jH b Q):Q (BS b types l):=by
 have hb:=Cf (d:=Z1h b l) (n:=6) (by decide) (by decide)
 unfold BS
 exact bE b types l Q hs hQ _ [] _ _ 0 Rv rfl (by omega) (by omega)
structure NI (B:AC) (T:List BA) (l:List (List Int)):Prop where
 lay:B.Layers=2
 types:T=Kw l
 par:Ix QW B.Parts
 parl:1<=B.Parts.length/\B.Parts.length<=3
 net:∃ p q r,B.Nets=[A9.mk nN1 p,A9.mk nN2 q,A9.mk gT r]/\p.length<=18/\q.length<=18/\r.length<=18
 trk:Ix PO B.Tracks
 trkl:B.Tracks.length<=5
 via:Ix jD B.Vias
 vial:B.Vias.length<=2
 slot:∀ s∈B.Slots,kM s
 slotl:B.Slots.length<=1
 poul:B.Pours.length<=2
 keel:B.Keeps.length<=1
 pour:∀ p∈B.Pours,XK p
 keep:∀ p∈B.Keeps,XL p
theorem mG {α:Type} {c:Bool} {a b:AC×α} {T:List BA} {l:List (List Int)} (h:NI a.1 T l) (k:NI b.1 T l):NI (bif c then a else b).1 T l:=by cases c <;> assumption
theorem mM (l:List (List Int)):NI (AP l).1 (AP l).2 l:=by
 refine O0 l (fun x=>NI x.1 x.2 l) fun v x y z hv h1 h3 hx hy hz => ?_
 show NI (Z5N l v x y z).1 (Kw l) l
 unfold Z5N
 have ho:=gQ (AC.mk 2 (Z5d l) v [A9.mk nN1 x,A9.mk nN2 y,A9.mk gT z] [] [] [] [] [] [] [] [] []) (Kw l) l
  (fun B=>NI B (Kw l) l) (fun d=>eW _ l d hv) (fun v1 v2 v3 v4 v5 a b c e f g h i j k=>⟨rfl,rfl,hv,⟨h1,h3⟩,⟨x,y,z,rfl,hx,hy,hz⟩,a,b,c,e,i,h,f,g,j,k⟩)
 have ho:NI (Z5L l v x y z) (Kw l) l:=ho
 obtain ⟨a1,a2,a3,a4,a5,a6,a7,a8,a9,a10,a11,a12,a13,a14,a15⟩:=ho
 unfold DB
 exact mG ⟨a1,a2,a3,a4,a5,a6,a7,a8,a9,a10,a11,a12,a13,a14,a15⟩ ⟨a1,a2,a3,a4,a5,a6,a7,a8,a9,a10,a11,a12,a13,a14,a15⟩
theorem Vm {α:Type} {c:Bool} {a b:Bl×α} (h:CK a.1) (k:CK b.1):CK (bif c then a else b).1:=by cases c <;> assumption
theorem Jn:CK AJ:=.inl ⟨_,rfl⟩
theorem W6 (d:AE):CK (BP d).1:=by
 unfold BP
 repeat (first | exact .inl ⟨_,rfl⟩ | exact .inr (.inl ⟨_,_,_,⟨_,_,_,_⟩,rfl⟩) | exact .inr (.inr ⟨_,_,_,⟨_,_,_,_⟩,_,_,_,⟨_,_,_,_⟩,rfl⟩) | refine Vm ?_ ?_)
theorem Pp {l m:List Az} (h:∀ r∈l,CK r.A/\CK r.B) (k:∀ r∈m,CK r.A/\CK r.B):∀ r∈l++m,CK r.A/\CK r.B:=fun r hr=>(List.mem_append.1 hr).elim (h r) (k r)
theorem Pl {a b:Az} (h:CK a.A/\CK a.B) (k:CK b.A/\CK b.B):∀ r∈[a,b],CK r.A/\CK r.B:=fun r hr=>by
 simp only [List.mem_cons,List.not_mem_nil,or_false] at hr
 rcases hr with rfl | rfl <;> assumption
theorem XR {a:Az} (h:CK a.A/\CK a.B):∀ r∈[a],CK r.A/\CK r.B:=fun r hr=>by
 rw [List.mem_singleton.1 hr];exact h
theorem Po {c:Bool} {l m:List Az} (h:∀ r∈l,CK r.A/\CK r.B) (k:∀ r∈m,CK r.A/\CK r.B):∀ r∈(bif c then l else m),CK r.A/\CK r.B:=by cases c <;> assumption
theorem Sl (d:AE):∀ r∈Z3g d,CK r.A/\CK r.B:=by
 unfold Z3g
 have h2:=fun x y=>Pl (a:=Az.mk ({ data := #[99,49] }:ByteArray) 1 1 AJ AJ x) (b:=Az.mk ({ data := #[101,49] }:ByteArray) 1 3 AJ AJ y) ⟨Jn,Jn⟩ ⟨Jn,Jn⟩
 exact Po (Pp (h2 _ _) (Pl ⟨Jn,Jn⟩ ⟨Jn,Jn⟩)) (h2 _ _)
theorem Pm (d:AE):∀ r∈Z3v d,CK r.A/\CK r.B:=by
 unfold Z3v
 exact Po (Pp (Sl d) (XR ⟨W6 _,W6 _⟩)) (Sl d)
theorem Pn (d:AE):(Z3v d).length<=5:=by
 unfold Z3v Z3g
 cases decide ((AB (Z3f d) 2).1=1) <;> cases decide ((AB (AB (AB d 10).2 8).2 2).1=1) <;> simp
structure YI (b:AC):Prop where
 rul:SH b
 rull:b.Rules.length<=5
 cla:b.Classes.length<=1
 clan:∀ c∈b.Classes,c.Nets.length<=1
 wai:b.Waivers.length<=1
 mat:b.Matches.length<=1
 matn:∀ c∈b.Matches,c.Nets.length<=2
theorem mY (d:AE):(Z3A d).length<=1/\∀ c∈Z3A d,c.Nets.length<=1:=by
 unfold Z3A
 cases decide ((AB (Z3u d) 3).1=0) with
 | true=>exact ⟨by simp,fun c hc=>by rw [cond_true] at hc;rw [List.mem_singleton.1 hc];exact Nat.le_refl 1⟩
 | false=>exact ⟨by simp,fun c hc=>by cases hc⟩
theorem Zh (d:AE) (b:AC):(Z3K d b).length<=1:=by
 unfold Z3K
 cases decide ((AB (AB (Z3u d) 3).2 4).1=0) <;> simp
theorem Z2 {α:Type} {c:Bool} {a b:AC×α} (h:YI a.1) (k:YI b.1):YI (bif c then a else b).1:=by cases c <;> assumption
theorem fC (b:AC) (d:AE):YI (DB b d).1:=by
 unfold DB
 have hc:=mY d
 refine Z2 ⟨Pm d,Pn d,hc.1,hc.2,Zh d b,?_,fun c h => ?_⟩ ⟨Pm d,Pn d,hc.1,hc.2,Zh d b,?_,fun c h => ?_⟩
 ·exact Nat.le_refl 1
 ·rw [List.mem_singleton.1 h];exact Nat.le_refl 2
 ·exact Nat.zero_le 1
 cases h
theorem bN (l:List (List Int)):YI (AP l).1:=O0 l (fun x=>YI x.1) fun v x y z _ _ _ _ _ _=>fC _ _
theorem Ii {α:Type} [Inhabited α] {l:List α} {f:α->Nat} (hd:f default<=1000000) (h:∀ x∈l,f x<=1000000) (k:Nat):((f (l.getD k default):Nat):Int)<=1000000:=by
 have:=Nh (p:=fun x=>f x<=1000000) hd h k
 omega
theorem fD (b:AC) (d:AE):(DB b d).1.Outline=b.Outline:=by
 unfold DB
 cases decide ((AB (Z3J d b) 4).1=0) <;> rfl
theorem gM (l:List (List Int)):((AP l).1.Outline.Edges.length:Int)<=1000000:=by
 refine O0 l (fun x=>(x.1.Outline.Edges.length:Int)<=1000000) fun v x y z _ _ _ _ _ _ => ?_
 show ((Z5N l v x y z).1.Outline.Edges.length:Int)<=1000000
 unfold Z5N
 rw [fD]
 show ((Z5L l v x y z).Outline.Edges.length:Int)<=1000000
 unfold Z5L
 rw [(Gl _ _ _).out]
 show ((Z5d l).Edges.length:Int)<=1000000
 unfold Z5d
 cases decide ((AB (AE.mk (Aa l 2) 0) 3).1=0) with
 | true=>exact (by decide:((8:Nat):Int)<=1000000)
 | false=>exact (by decide:((4:Nat):Int)<=1000000)
theorem Xs (l:List (List Int)):Ce (AP l).1:=by
 have h:=mM l
 have hr:=bN l
 have h1:=h.parl
 have h2:=h.trkl
 have h3:=h.vial
 have h4:=h.slotl
 have h5:=h.poul
 have h6:=h.keel
 have r1:=hr.rull
 have r2:=hr.cla
 have r3:=hr.wai
 have r4:=hr.mat
 obtain ⟨p,q,r,e,n1,n2,n3⟩:=h.net
 refine ⟨by omega,by rw [e];show ((3:Nat):Int)<=1000000;decide,by omega,by omega,by omega,by omega,by omega,by omega,by omega,by omega,by omega,gM l,?_,?_,?_,?_,?_,?_,?_,hr.rul⟩
 ·refine Ii (f:=fun n:A9=>n.Pins.length) (by decide) fun n hn => ?_
  rw [e] at hn
  simp only [List.mem_cons,List.not_mem_nil,or_false] at hn
  rcases hn with rfl | rfl | rfl <;> (simp only;omega)
 ·refine Ii (f:=fun t:AO=>t.Shape.Edges.length) (by decide) fun t ht => ?_
  obtain ⟨k,hk,_,hm⟩:=mQ h.trk ht
  obtain ⟨a,c,d,_,_,e2⟩:=hm.edg
  rw [e2]
  have:=QS a c d
  omega
 ·refine Ii (f:=fun t:A4=>t.Rects.length) (by decide) fun t ht => ?_
  have:=h.pour t ht
  unfold XK at this
  omega
 ·refine Ii (f:=fun t:A5=>t.Shape.Edges.length) (by decide) fun t ht => ?_
  have:=h.keep t ht
  unfold XL at this
  omega
 ·refine Ii (f:=fun t:BC=>t.Shape.Edges.length) (by decide) fun t ht => ?_
  obtain ⟨r,p,_,_,_,e2⟩:=h.slot t ht
  rw [e2]
  show 1<=1000000;decide
 ·refine Ii (f:=fun t:BE=>t.Nets.length) (by decide) fun t ht => ?_
  have:=hr.clan t ht
  omega
 refine Ii (f:=fun t:AN=>t.Nets.length) (by decide) fun t ht => ?_
 have:=hr.matn t ht
 omega
theorem Jv {P:AC->Prop} {c:Bool} {x y:AC} (h:P x) (k:P y):P (bif c then x else y):=by cases c <;> assumption
theorem bM {α:Type} [Inhabited α] (l:List α):([]:List α)++(List.range' 0 (l.length-0)).map (fun (k:Nat)=>l.getD (k:Int).toNat default)=l:=by
 rw [List.nil_append,Nat.sub_zero]
 apply List.ext_getElem
 ·simp
 intro i h1 h2
 simp [List.getD_eq_getElem?_getD,List.getElem?_eq_getElem h2]
theorem Tr (b:AC):AK b=b.Tracks:=by
 have h:=Hn b.Tracks.length (EV b) _ (fun _ _ _=>rfl) (((b.Tracks.length:Int)-0).toNat+1) [] 0 (by omega)
 have h2:AK b=_:=h
 rw [h2]
 exact bM b.Tracks
structure Lv (v:List AO):Prop where
 len:(v.length:Int)<=1000000
 edg:∀ t∈v,(t.Shape.Edges.length:Int)<=1000000
structure T3 (v:List AO):Prop where
 len:(v.length:Int)<=900000
 edg:∀ t∈v,(t.Shape.Edges.length:Int)<=900000
theorem tq_r {v:List AO} (h:T3 v):Lv v:=⟨by have:=h.len;omega,fun n hn=>by have:=h.edg n hn;omega⟩
theorem tr_at {v:List AO} (h:T3 v) (k:Nat):((v.getD k default).Shape.Edges.length:Int)<=900000:=Nh (p:=fun n:AO=>(n.Shape.Edges.length:Int)<=900000) (by decide) h.edg k
theorem jV {v:List AO} (h:Lv v) (k:Nat):((v.getD k default).Shape.Edges.length:Int)<=1000000:=Nh (p:=fun n:AO=>(n.Shape.Edges.length:Int)<=1000000) (by decide) h.edg k
theorem kU {v:List AO} (h:T3 v) (k j:Nat) (a:Int) (n:ByteArray) (l:Int):Lv (v.set k (AO.mk a n l (v.getD j default).Shape)):=by
 refine ⟨by rw [List.length_set];have:=h.len;omega,fun t ht => ?_⟩
 rcases List.mem_or_eq_of_mem_set ht with ht | rfl
 ·have:=h.edg t ht;omega
 have:=tr_at h j
 show ((v.getD j default).Shape.Edges.length:Int)<=1000000
 omega
theorem Sc (n:Int):((Cz n).Edges.length:Int)<=1000000:=by
 have hb:∀ {c:Bool} {x y:AX},(x.Edges.length:Int)<=1000000->(y.Edges.length:Int)<=1000000->((bif c then x else y).Edges.length:Int)<=1000000:=fun {c x y} h k=>by cases c <;> assumption
 unfold Cz
 refine hb ?_ (hb ?_ (hb ?_ (hb ?_ (hb ?_ ?_))))
 ·show ((0:Nat):Int)<=1000000;decide
 ·show ((1:Nat):Int)<=1000000;decide
 ·show ((4:Nat):Int)<=1000000;decide
 ·show ((1:Nat):Int)<=1000000;decide
 ·show ((1:Nat):Int)<=1000000;decide
 show ((1:Nat):Int)<=1000000;decide
theorem kW {v:List AO} (h:T3 v) (a:Int) (n:ByteArray) (l k:Int):Lv (v++[AO.mk a n l (Cz k)]):=by
 refine ⟨by rw [List.length_append];have:=h.len;simp only [List.length_cons,List.length_nil];omega,fun t ht => ?_⟩
 rcases List.mem_append.1 ht with ht | ht
 ·have:=h.edg t ht;omega
 rw [List.mem_singleton.1 ht];exact Sc k
theorem kV {v:List AO} (h:T3 v) (n1 lo n2:Nat) (hn:n1<=50000):Lv (NR v n1 lo n2):=by
 refine ⟨?_,fun t ht => ?_⟩
 ·have:=h.len
  rw [aS];omega
 unfold NR at ht
 rcases List.mem_append.1 ht with ht | ht
 ·have:=h.edg t (List.mem_of_mem_take ht);omega
 have:=h.edg t (List.mem_of_mem_drop (List.mem_of_mem_take ht));omega
theorem Zj (b:AC) (q:jG) (h:Lv (AK b)):∀ (n:Nat) (v:List A5) (k:Int),Lv (Fh b q n v k).Tracks
 | 0,_,_=>⟨by show ((0:Nat):Int)<=1000000;decide,fun n hn=>by cases hn⟩
 | n+1,v,k=>by
  unfold Fh
  exact Jv (P:=fun B=>Lv B.Tracks) (Zj b q h n _ _) h
theorem Pu (b:AC) (q:jG) (h:T3 b.Tracks):Lv (Bm b q).Tracks:=by
 have hR:T3 (AK b):=by rw [Tr];exact h
 have hC:=tq_r hR
 have hl:=Zj b q hC
 have hK:=I6 q.e2 64 (by decide) (by decide)
 have hn:(Int.tmod (AH q.e2 64) (((AK b).length:Nat):Int)).toNat-(0:Int).toNat<=50000:=by
  obtain ⟨k,hk⟩:=Int.eq_ofNat_of_zero_le hK.1
  have h64:=hK.2
  rw [hk] at h64 ⊢
  have e:Int.tmod (k:Int) (((AK b).length:Nat):Int)=((k % (AK b).length:Nat):Int):=rfl
  rw [e]
  have:=Nat.mod_le k (AK b).length
  omega
 unfold Bm NJ LK Mw Mx B9
 generalize Fh b q=F0 at hl ⊢
 repeat' (refine Jv (P:=fun B=>Lv B.Tracks) ?_ ?_)
 all_goals try dsimp only [Cp]
 all_goals first | with_reducible exact hC | with_reducible exact kU hR _ _ _ _ _ | with_reducible exact kW hR _ _ _ _ | with_reducible exact hl _ _ _ | with_reducible exact kV hR _ _ _ hn
theorem Py (l:List (List Int)):T3 (AP l).1.Tracks:=by
 have h:=bO l
 exact ⟨by have:=h.trk;omega,fun t ht=>by have:=h.edg t ht;omega⟩
theorem TF (l:List (List Int)) (q:jG):((Bm (AP l).1 q).Tracks.length:Int)<=1000000:=(Pu _ q (Py l)).len
theorem TG (l:List (List Int)) (q:jG):∀ i,(((Bm (AP l).1 q).Tracks.getD i default).Shape.Edges.length:Int)<=1000000:=fun i=>jV (Pu _ q (Py l)) i
theorem mH {B:AC} (h:HN B):(B.Tracks.length:Int)<=1000000:=by have:=h.trk;omega
theorem mI {B:AC} (h:HN B):∀ i,((B.Tracks.getD i default).Shape.Edges.length:Int)<=1000000:=fun i=>by
 by_cases hi:i<B.Tracks.length
 ·rw [List.getD_eq_getElem?_getD,List.getElem?_eq_getElem hi]
  have:=h.edg _ (List.getElem_mem hi)
  show ((B.Tracks[i]).Shape.Edges.length:Int)<=1000000
  omega
 rw [List.getD_eq_getElem?_getD,List.getElem?_eq_none (by omega)]
 exact (by decide:((0:Nat):Int)<=1000000)
theorem bH {B:AC} (h:HN B):(B.Nets.length:Int)=3:=by
 obtain ⟨p,q,r,e⟩:=h.net
 rw [e];rfl
def T7 (B:AC):Prop:=Lv B.Tracks
theorem dF (b:AC) (x0:List A9) (k0:Int) (v:List AO) (k1:Int) (x2:List BC) (k2:Int) (K0:List A9->Int->AC) (K1:List AO->Int->AC) (K2:List BC->Int->AC) (hv:Lv v):∀ (n:Nat) (x:List A5) (k:Int),T7 (GG b x0 k0 v k1 x2 k2 K0 K1 K2 n x k)
 | 0,_,_=>⟨by show ((0:Nat):Int)<=1000000;decide,fun n hn=>by cases hn⟩
 | n+1,x,k=>by
  unfold GG
  exact Jv (P:=T7) (dF b x0 k0 v k1 x2 k2 K0 K1 K2 hv n _ _) hv
theorem dG (b:AC) (x0:List A9) (k0:Int) (v:List AO) (k1:Int) (K0:List A9->Int->AC) (K1:List AO->Int->AC) (hv:Lv v):∀ (n:Nat) (x:List BC) (k:Int),T7 (FB b x0 k0 v k1 K0 K1 n x k)
 | 0,_,_=>⟨by show ((0:Nat):Int)<=1000000;decide,fun n hn=>by cases hn⟩
 | n+1,x,k=>by
  unfold FB
  exact Jv (P:=T7) (dG b x0 k0 v k1 K0 K1 hv n _ _) (dF b x0 k0 v k1 x k K0 K1 _ hv _ _ _)
theorem dH (b:AC) (x0:List A9) (k0:Int) (K0:List A9->Int->AC):∀ (n:Nat) (v:List AO) (k:Int),0<=k->k<=4->(v.length:Int)<=k->(∀ t∈v,(t.Shape.Edges.length:Int)<=1000000)->T7 (Dt b x0 k0 K0 n v k)
 | 0,_,_,_,_,_,_=>⟨by show ((0:Nat):Int)<=1000000;decide,fun n hn=>by cases hn⟩
 | n+1,v,k,h0,h4,hv,he=>by
  unfold Dt
  have h2:=dG b x0 k0 v k K0 (Dt b x0 k0 K0 n) ⟨by omega,he⟩
  by_cases hc:k<4
  ·refine Jv (P:=T7) (dH b x0 k0 K0 n _ _ (by omega) (by omega) (by simp only [List.length_append,List.length_cons,List.length_nil];omega) fun t ht => ?_) (h2 _ _ _)
   rcases List.mem_append.1 ht with ht | ht
   ·exact he t ht
   rw [List.mem_singleton.1 ht]
   show (((b.Tracks.getD k.toNat default).Shape.Edges.take (min ((b.Tracks.getD k.toNat default).Shape.Edges.length:Int) 4:Int).toNat).length:Int)<=1000000
   rw [List.length_take]
   omega
  have e:(bif decide ((k:Int)<(b.Tracks.length:Int)) then decide ((k:Int)<4) else false)=false:=by
   rw [decide_eq_false hc];cases decide ((k:Int)<(b.Tracks.length:Int)) <;> rfl
  rw [e,cond_false]
  exact h2 _ _ _
theorem dI (b:AC):∀ (n:Nat) (v:List A9) (k:Int),T7 (DI b n v k)
 | 0,_,_=>⟨by show ((0:Nat):Int)<=1000000;decide,fun n hn=>by cases hn⟩
 | n+1,v,k=>by
  unfold DI
  exact Jv (P:=T7) (dI b n _ _) (dH b v k _ _ [] 0 (by omega) (by omega) (by simp) (fun t ht=>by cases ht))
theorem kL (b:AC):Lv (HP b).Tracks:=dI b _ _ _
theorem iM (b:AC):((HP b).Tracks.length:Int)<=1000000:=(kL b).len
theorem iN (b:AC):∀ i,(((HP b).Tracks.getD i default).Shape.Edges.length:Int)<=1000000:=fun i=>jV (kL b) i
section
open Go.RowKit
variable (c:FG) (raw:AC) (names v10:List ByteArray) (v41:Int)
def Zbx:Tv:=.av (.one (lst 1 (fun x=>[.s x]) names))
abbrev jO:List Cl:=[.i raw.Layers,.i raw.Outline.Kind,lst 7 AG.c raw.Outline.Edges,.i raw.Outline.R,lst 7 AU.c raw.Parts,lst 2 A9.c raw.Nets,lst 6 AO.c raw.Tracks,lst 8 BW.c raw.Vias,lst 8 A4.c raw.Pours,lst 5 A5.c raw.Keeps,lst 4 BC.c raw.Slots,lst 2 BE.c raw.Classes,.any,lst 3 An.c raw.Waivers,lst 3 AN.c raw.Matches]
def Zby:Blk:=.cells (jO raw) 62
def Zbz:Blk:=.cells (AC.c (AP c.Board).1) 62
abbrev LN:=(names.take (min (names.length:Int) 4:Int).toNat)
def ZbA:Tv:=.av (.one (lst 1 (fun x=>[.s x]) (LN names)))
def ZbB:Tv:=.av (.one (.own 37 1 (LN names).length))
def ZbC:Blk:=.row 1 (LN names).length (AV (fun x=>[.s x]) (LN names)) 9
def ZbD:Tv:=.av (.one (lst 2 A9.c (AP c.Board).1.Nets))
def ZbE:Tv:=tI ((AP c.Board).1.Nets.length:Int)
def ZbF:Blk:=.row 1 v10.length (AV (fun x=>[.s x]) v10) 9
def ZbG:A9:=(AP c.Board).1.Nets.getD v41.toNat default
def ZbH (v10:List ByteArray) (c:FG) (v41:Int):Blk:=.row 1 (v10++[(ZbG c v41).Name]).length (AV (fun x=>[.s x]) (v10++[(ZbG c v41).Name])) 9
def ZbI:AC:=HP (AC.mk raw.Layers raw.Outline raw.Parts raw.Nets raw.Tracks raw.Vias raw.Pours raw.Keeps raw.Slots raw.Classes [] raw.Waivers raw.Matches)
abbrev Dq:=Bm (AP c.Board).1 c.Odd
def ZbJ:Tv:=.av (.one (.list true 15 3 (BF 15 3 [.i (AP c.Board).1.Layers,.i (AP c.Board).1.Outline.Kind,lst 7 AG.c (AP c.Board).1.Outline.Edges,.i (AP c.Board).1.Outline.R,lst 7 AU.c (AP c.Board).1.Parts,lst 2 A9.c (AP c.Board).1.Nets,lst 6 AO.c (AP c.Board).1.Tracks,lst 8 BW.c (AP c.Board).1.Vias,lst 8 A4.c (AP c.Board).1.Pours,lst 5 A5.c (AP c.Board).1.Keeps,lst 4 BC.c (AP c.Board).1.Slots,lst 2 BE.c (AP c.Board).1.Classes,lst 20 Az.c (AP c.Board).1.Rules,lst 3 An.c (AP c.Board).1.Waivers,lst 3 AN.c (AP c.Board).1.Matches,.i (Dq c).Layers,.i (Dq c).Outline.Kind,lst 7 AG.c (Dq c).Outline.Edges,.i (Dq c).Outline.R,lst 7 AU.c (Dq c).Parts,lst 2 A9.c (Dq c).Nets,lst 6 AO.c (Dq c).Tracks,lst 8 BW.c (Dq c).Vias,lst 8 A4.c (Dq c).Pours,lst 5 A5.c (Dq c).Keeps,lst 4 BC.c (Dq c).Slots,lst 2 BE.c (Dq c).Classes,lst 20 Az.c (Dq c).Rules,lst 3 An.c (Dq c).Waivers,lst 3 AN.c (Dq c).Matches,.i (ZbI raw).Layers,.i (ZbI raw).Outline.Kind,lst 7 AG.c (ZbI raw).Outline.Edges,.i (ZbI raw).Outline.R,lst 7 AU.c (ZbI raw).Parts,lst 2 A9.c (ZbI raw).Nets,lst 6 AO.c (ZbI raw).Tracks,lst 8 BW.c (ZbI raw).Vias,lst 8 A4.c (ZbI raw).Pours,lst 5 A5.c (ZbI raw).Keeps,lst 4 BC.c (ZbI raw).Slots,lst 2 BE.c (ZbI raw).Classes,lst 20 Az.c (ZbI raw).Rules,lst 3 An.c (ZbI raw).Waivers,lst 3 AN.c (ZbI raw).Matches])))
def ZbK:Tv:=.av (.one (.list true 1 3 (BF 1 3 [lst 1 (fun x=>[.s x]) (LN names),lst 1 (fun x=>[.s x]) v10,vN])))
abbrev GZ:=AN.mk (⟨#[]⟩) (LN names) 0
def ZbL:Tv:=tI (Ac (AP c.Board).1 (GZ names)).1
def ZbM:Tv:=tB (Ac (AP c.Board).1 (GZ names)).2
abbrev Ga:=AN.mk (⟨#[]⟩) [] 0
def ZbN:Tv:=tI (Ac (AP c.Board).1 Ga).1
def ZbO:Tv:=tB (Ac (AP c.Board).1 Ga).2
def ZbP:Blk:=.cells (AC.c (Dq c)) 62
def ZbQ:Tv:=tI (Ac (Dq c) (GZ names)).1
def ZbR:Tv:=tB (Ac (Dq c) (GZ names)).2
abbrev JI:=AN.mk (⟨#[]⟩) v10 0
def ZbS:Tv:=tI (Ac (Dq c) (JI v10)).1
def ZbT:Tv:=tB (Ac (Dq c) (JI v10)).2
def ZbU:Tv:=tI (Ac (Dq c) Ga).1
def ZbV:Tv:=tB (Ac (Dq c) Ga).2
def ZbW:Tv:=tI (Ac (ZbI raw) (GZ names)).1
def ZbX:Tv:=tB (Ac (ZbI raw) (GZ names)).2
def ZbY:Tv:=tI (Ac (ZbI raw) Ga).1
def ZbZ:Tv:=tB (Ac (ZbI raw) Ga).2
def CZ (c:FG) (raw:AC) (names:(List ByteArray)) (v10:List ByteArray) (v41:Int) (v66:Int) (v66':Int) (K0:List ByteArray->Int->Bool) (K1:Int->Bool) (K2:Int->Bool):Nat->Int->Bool
 | 0,_=>default
 | n6+1,v66''=>bif decide ((v66'':Int)<(v10.length:Int)) then (bif !decide (((Bj (ZbI raw) (v10.getD v66''.toNat default)):Int)=(Ch (ZbI raw) (v10.getD v66''.toNat default))) then false else ((CZ c raw names v10 v41 v66 v66' K0 K1 K2 n6) (v66''+1))) else (bif bif !decide (((Ac (ZbI raw) (AN.mk (⟨#[]⟩) (names.take (min (names.length:Int) 4:Int).toNat) 0)).1:Int)=(Aj (ZbI raw) (AN.mk (⟨#[]⟩) (names.take (min (names.length:Int) 4:Int).toNat) 0)).1) then true else !((Ac (ZbI raw) (AN.mk (⟨#[]⟩) (names.take (min (names.length:Int) 4:Int).toNat) 0)).2==(Aj (ZbI raw) (AN.mk (⟨#[]⟩) (names.take (min (names.length:Int) 4:Int).toNat) 0)).2) then false else (bif bif !decide (((Ac (ZbI raw) (AN.mk (⟨#[]⟩) v10 0)).1:Int)=(Aj (ZbI raw) (AN.mk (⟨#[]⟩) v10 0)).1) then true else !((Ac (ZbI raw) (AN.mk (⟨#[]⟩) v10 0)).2==(Aj (ZbI raw) (AN.mk (⟨#[]⟩) v10 0)).2) then false else (bif bif !decide (((Ac (ZbI raw) (AN.mk (⟨#[]⟩) [] 0)).1:Int)=(Aj (ZbI raw) (AN.mk (⟨#[]⟩) [] 0)).1) then true else !((Ac (ZbI raw) (AN.mk (⟨#[]⟩) [] 0)).2==(Aj (ZbI raw) (AN.mk (⟨#[]⟩) [] 0)).2) then false else GE)))
def CA (c:FG) (raw:AC) (names:(List ByteArray)) (v10:List ByteArray) (v41:Int) (v66:Int) (K0:List ByteArray->Int->Bool) (K1:Int->Bool):Nat->Int->Bool
 | 0,_=>default
 | n4+1,v66'=>bif decide ((v66':Int)<(v10.length:Int)) then (bif !decide (((Bj (Bm (AP c.Board).1 c.Odd) (v10.getD v66'.toNat default)):Int)=(Ch (Bm (AP c.Board).1 c.Odd) (v10.getD v66'.toNat default))) then false else ((CA c raw names v10 v41 v66 K0 K1 n4) (v66'+1))) else (bif bif !decide (((Ac (Bm (AP c.Board).1 c.Odd) (AN.mk (⟨#[]⟩) (names.take (min (names.length:Int) 4:Int).toNat) 0)).1:Int)=(Aj (Bm (AP c.Board).1 c.Odd) (AN.mk (⟨#[]⟩) (names.take (min (names.length:Int) 4:Int).toNat) 0)).1) then true else !((Ac (Bm (AP c.Board).1 c.Odd) (AN.mk (⟨#[]⟩) (names.take (min (names.length:Int) 4:Int).toNat) 0)).2==(Aj (Bm (AP c.Board).1 c.Odd) (AN.mk (⟨#[]⟩) (names.take (min (names.length:Int) 4:Int).toNat) 0)).2) then false else (bif bif !decide (((Ac (Bm (AP c.Board).1 c.Odd) (AN.mk (⟨#[]⟩) v10 0)).1:Int)=(Aj (Bm (AP c.Board).1 c.Odd) (AN.mk (⟨#[]⟩) v10 0)).1) then true else !((Ac (Bm (AP c.Board).1 c.Odd) (AN.mk (⟨#[]⟩) v10 0)).2==(Aj (Bm (AP c.Board).1 c.Odd) (AN.mk (⟨#[]⟩) v10 0)).2) then false else (bif bif !decide (((Ac (Bm (AP c.Board).1 c.Odd) (AN.mk (⟨#[]⟩) [] 0)).1:Int)=(Aj (Bm (AP c.Board).1 c.Odd) (AN.mk (⟨#[]⟩) [] 0)).1) then true else !((Ac (Bm (AP c.Board).1 c.Odd) (AN.mk (⟨#[]⟩) [] 0)).2==(Aj (Bm (AP c.Board).1 c.Odd) (AN.mk (⟨#[]⟩) [] 0)).2) then false else (CZ c raw names v10 v41 v66 v66' K0 K1 (CA c raw names v10 v41 v66 K0 K1 n4) (((v10.length:Int)-0).toNat+1) 0))))
def Br (c:FG) (raw:AC) (names:(List ByteArray)) (v10:List ByteArray) (v41:Int) (K0:List ByteArray->Int->Bool):Nat->Int->Bool
 | 0,_=>default
 | n2+1,v66=>bif decide ((v66:Int)<((v10.length:Nat):Int)) then (bif !decide (((Bj (AP c.Board).1 (v10.getD v66.toNat default)):Int)=(Ch (AP c.Board).1 (v10.getD v66.toNat default))) then false else ((Br c raw names v10 v41 K0 n2) (v66+1))) else (bif bif !decide (((Ac (AP c.Board).1 (AN.mk (⟨#[]⟩) (names.take (min (names.length:Int) 4:Int).toNat) 0)).1:Int)=(Aj (AP c.Board).1 (AN.mk (⟨#[]⟩) (names.take (min (names.length:Int) 4:Int).toNat) 0)).1) then true else !((Ac (AP c.Board).1 (AN.mk (⟨#[]⟩) (names.take (min (names.length:Int) 4:Int).toNat) 0)).2==(Aj (AP c.Board).1 (AN.mk (⟨#[]⟩) (names.take (min (names.length:Int) 4:Int).toNat) 0)).2) then false else (bif bif !decide (((Ac (AP c.Board).1 (AN.mk (⟨#[]⟩) v10 0)).1:Int)=(Aj (AP c.Board).1 (AN.mk (⟨#[]⟩) v10 0)).1) then true else !((Ac (AP c.Board).1 (AN.mk (⟨#[]⟩) v10 0)).2==(Aj (AP c.Board).1 (AN.mk (⟨#[]⟩) v10 0)).2) then false else (bif bif !decide (((Ac (AP c.Board).1 (AN.mk (⟨#[]⟩) [] 0)).1:Int)=(Aj (AP c.Board).1 (AN.mk (⟨#[]⟩) [] 0)).1) then true else !((Ac (AP c.Board).1 (AN.mk (⟨#[]⟩) [] 0)).2==(Aj (AP c.Board).1 (AN.mk (⟨#[]⟩) [] 0)).2) then false else (CA c raw names v10 v41 v66 K0 (Br c raw names v10 v41 K0 n2) (((v10.length:Int)-0).toNat+1) 0))))
def Bs (c:FG) (raw:AC) (names:(List ByteArray)):Nat->List ByteArray->Int->Bool
 | 0,_,_=>default
 | n0+1,v10,v41=>bif decide ((v41:Int)<((AP c.Board).1.Nets.length:Int)) then ((Bs c raw names n0) (v10++[(ZbG c v41).Name]) (v41+1)) else (Br c raw names v10 v41 (Bs c raw names n0) ((((v10.length:Nat):Int)-0).toNat+1) 0)
def EM (c:FG) (raw:AC) (names:(List ByteArray)):Bool:=Bs c raw names ((((AP c.Board).1.Nets.length:Int)-0).toNat+1) (names.take (min (names.length:Int) 4:Int).toNat) 0
def Tz:CT:=(6,[.agg (FG.c c),.agg (jO raw),.one (lst 1 (fun x=>[.s x]) names)],.val [] (.av (.one (.b (EM c raw names)))))
abbrev I3:List (Nat×Blk):=[(14,.cells (AC.c (ZbI raw)) 62)]
abbrev Hi:Nat×Tv:=(65,tI (v10.length:Int))
abbrev Qz:Cl:=.own 37 1 v10.length
abbrev Y6:Nat×Tv:=(65,tI ((v10.length:Nat):Int))
abbrev ML:List Cl:=[.s (⟨#[]⟩),vN,.i 0]
abbrev Kn:Nat×Blk:=(3,.cells (FG.c c) 29)
abbrev B8 (t_:List (Nat×Tv)):List (Nat×Tv):=(2,ZbA names)::(7,tB GE)::t_
abbrev Nx (v10:List ByteArray) (c:FG) (raw:AC) (t_:List (Nat×Tv)):List (Nat×Tv):=(10,tO (Qz v10))::(14,tP 14 0)::(58,ZbJ c raw)::(59,tI 3)::(60,tI 0)::(64,tO (Qz v10))::(Y6 v10)::t_
abbrev MB (t_:List (Nat×Tv)):List (Nat×Tv):=(2,ZbA names)::(3,tP 3 0)::(4,tP 4 0)::(7,tB GE)::(8,tP 8 0)::t_
theorem au0 {p:Prop} (h:p:=by first | (with_reducible exact mH hM) | (with_reducible exact mI hM) | (with_reducible exact TF c.Board c.Odd) | (with_reducible exact TG c.Board c.Odd) | (with_reducible exact Xs _) | (with_reducible exact bH hM) | (with_reducible exact hM.pou) | ((simp only;omega)) | ((simp only [List.length_nil];omega)) | with_reducible assumption | omega | decide | (simp only [List.length_cons,List.length_nil,List.length_append];omega) | assumption):p:=h
set_option maxHeartbeats 4000000 in
theorem Sz (c:FG) (raw:AC) (names:(List ByteArray)) (hc2:(c.Shape.length:Int)<=9223372036854775807) (hcb:(c.Board.length:Int)<=9223372036854775807) (hll:∀ x∈c.Board,(x.length:Int)<=9223372036854775807) (hn:(names.length:Int)<=9223372036854775807):PuP 6 (Tz c raw names).2.1 (tO (.b (EM c raw names))):=by
 refine pwf Try.func6 fun W0 M0 => ?_
 have hM:=bO c.Board
 have hN:=bH hM
 have hT:=hM.trk
 have hc1:((ZbI raw).Tracks.length:Int)<=1000000:=iM _
 have hc3:∀ i,(((ZbI raw).Tracks.getD i default).Shape.Edges.length:Int)<=1000000:=iN _
 have ho1:=TF c.Board c.Odd
 have ho2:=TG c.Board c.Odd
 have htk:((names.take (min (names.length:Int) 4:Int).toNat).length:Int)<=4:=by rw [List.length_take];omega
 refine AA<|on<|AA<|oq 23 Mm VN<|AF<|AA<|oq 27 (R9 c.Board) (aZ c.Board au0 au0)<|AF<|AA<|rc [] [0<=(0:Int)/\(0:Int)<=(min (names.length:Int) 4:Int)/\(min (names.length:Int) 4:Int)<=((names.length:Nat):Int)] ⟨[(2,.av (.one (.list false 1 ((min (names.length:Int) 4:Int).toNat-(0:Int).toNat) (fun i_ j_=>(AV (fun x=>[.s x]) names) (i_+(0:Int).toNat) j_)))),(3,tP 3 0),(4,tP 4 0),(7,tB GE),(8,tP 8 0)],[(Kn c),(4,Zby raw),(8,Zbz c)]⟩ .nil (.cons au1 .nil)<|AF<|Al (C1 (⟨(MB names []),[(Kn c),(4,Zby raw),(8,Zbz c)]⟩) (.cons ⟨rfl,.av (.one (BM false (Ed (b:=min (names.length:Int) 4) (Af 1 (fun x=>[.s x]) names) (by have hc:=(show 0<=(0:Int)/\(0:Int)<=(min (names.length:Int) 4:Int)/\(min (names.length:Int) 4:Int)<=((names.length:Nat):Int) from au1);exact hc.2.1) (by have hc:=(show 0<=(0:Int)/\(0:Int)<=(min (names.length:Int) 4:Int)/\(min (names.length:Int) 4:Int)<=((names.length:Nat):Int) from au1);exact hc.2.2))))⟩ lr) lr)<|AA ?_
 refine CN DU [35] [] [] [2,3,4,7,8,10] [3,4,8,37] [0=0,0+(names.take (min (names.length:Int) 4:Int).toNat).length<=maxLen,(0+(names.take (min (names.length:Int) 4:Int).toNat).length)*16<=140737488355328] ⟨(MB names [(10,tO (.own 37 1 (0+(LN names).length)))]),[(Kn c),(4,Zby raw),(8,Zbz c),(37,.row 1 (0+(LN names).length) (fun i_ j_=>if i_<0 then (BF 1 0 []) i_ j_ else (AV (fun x=>[.s x]) (LN names)) (i_-0) j_) 9)]⟩ .nil kr (.cons rfl (.cons au3 (.cons au3 .nil)))<|AF<|Al (A6 37 (Ar (A1 1 (fun x=>[.s x]) (([]:List ByteArray):List ByteArray)) (Af 1 (fun x=>[.s x]) (names.take (min (names.length:Int) 4:Int).toNat))))<|AA<|AA<|rn ⟨(MB names [(10,ZbB names),(39,ZbD c),(40,ZbE c),(41,tI 0)]),[(Kn c),(4,Zby raw),(8,Zbz c),(37,ZbC names)]⟩<|AM ?_
 refine BK (ι:=Nat×List ByteArray×Int) (fun x=>⟨(MB names [(10,tO (.own 37 1 x.2.1.length)),(39,ZbD c),(40,ZbE c),(41,tI x.2.2)]),[(Kn c),(4,Zby raw),(8,Zbz c),(37,.row 1 x.2.1.length (AV (fun x=>[.s x]) x.2.1) 9)]⟩) (fun x=>(((AP c.Board).1.Nets.length:Int)-x.2.2).toNat<x.1/\(0<=x.2.2/\(x.2.2<=((AP c.Board).1.Nets.length:Int)\/x.2.2=0)/\(x.2.1.length:Int)<=((names.take (min (names.length:Int) 4:Int).toNat).length:Int)+1*(x.2.2-0))/\Bs c raw names x.1 x.2.1 x.2.2=EM c raw names) (fun x=>x.1) ?_ ((((AP c.Board).1.Nets.length:Int)-0).toNat+1,names.take (min (names.length:Int) 4:Int).toNat,0) ⟨Nat.lt_succ_self _,⟨ax0,ax0,ax0⟩,(by simp only [EM,cond_true,cond_false])⟩
 rintro ⟨n0,v10,v41⟩ ⟨hm0,hinv0,hF0⟩
 try dsimp only at hm0 hinv0 hF0
 cases n0 with | zero=>exact nz hm0 | succ n0 => ?_
 refine AA<|rn ⟨(MB names [(10,tO (Qz v10)),(39,ZbD c),(40,ZbE c),(41,tI v41),(42,tB (decide ((v41:Int)<((AP c.Board).1.Nets.length:Int))))]),[(Kn c),(4,Zby raw),(8,Zbz c),(37,ZbF v10)]⟩<|AA<|AL _ rfl (fun h1 => ?_) (fun h1 => ?_)
 ·have g1:=oT h1
  refine AQ<|AF<|AA<|AM<|AA<|oc [] [0<=(v41:Int)/\(v41:Int)<(((AP c.Board).1.Nets.length:Nat):Int)] .nil (.cons au1 .nil)<|AF<|oc [] [v10.length=v10.length,v10.length+1<=maxLen,(v10.length+1)*16<=140737488355328] .nil (.cons rfl (.cons au3 (.cons au3 .nil)))<|A0<|AF<|Al (A6 49 (Ar (Af 1 (fun x=>[.s x]) v10) (A1 1 (fun x=>[.s x]) ([(ZbG c v41).Name]:List ByteArray))))<|rg ⟨(MB names [(10,tO (.own 49 1 (v10++[(ZbG c v41).Name]).length)),(39,ZbD c),(40,ZbE c),(41,tI (W64 (v41+1)))]),[(Kn c),(4,Zby raw),(8,Zbz c),(49,ZbH v10 c v41)]⟩ ?_
  (try rw [(show W64 (v41+1)=v41+1 from Ap oM au8)])
  refine AF ?_
  refine ⟨(n0,v10++[(ZbG c v41).Name],v41+1),⟨?_,?_,(by rw [<- hF0];simp only [Bs,h1,cond_true,cond_false])⟩,Nat.lt_succ_self _,Cv.trans (vr 49 37 hk0) (BG kr)⟩
  ·show (((AP c.Board).1.Nets.length:Int)-(v41+1)).toNat<n0;omega
  exact ⟨ax0,ax0,ax0⟩
 have g1:=oF h1
 refine BH<|A7<|A7<|BI<|AF<|AA<|AA<|dw [] [(55,W8 (AP c.Board).1 c.Odd),(57,SA (AC.mk raw.Layers raw.Outline raw.Parts raw.Nets raw.Tracks raw.Vias raw.Pours raw.Keeps raw.Slots raw.Classes [] raw.Waivers raw.Matches))] [As (W8 (AP c.Board).1 c.Odd).2.1,As (SA (AC.mk raw.Layers raw.Outline raw.Parts raw.Nets raw.Tracks raw.Vias raw.Pours raw.Keeps raw.Slots raw.Classes [] raw.Waivers raw.Matches)).2.1] ⟨(B8 names [(10,tO (Qz v10)),(58,ZbJ c raw),(59,tI 3),(60,tI 0)]),[(37,ZbF v10)]⟩ (.cons (mC (AP c.Board).1 c.Odd au0 au0 au0) (.cons (gP (AC.mk raw.Layers raw.Outline raw.Parts raw.Nets raw.Tracks raw.Vias raw.Pours raw.Keeps raw.Slots raw.Classes [] raw.Waivers raw.Matches)) .nil)) (.cons rfl (.cons rfl .nil))<|AF<|AM<|Dr 4<|Ba<|AA<|on<|AA<|Bq kr<|AQ<|AF<|AA<|AM<|AA<|oc [] [0<=(0:Int)/\(0:Int)<((3:Nat):Int)] .nil (.cons au1 .nil)<|AF<|AA<|AA<|rn ⟨(B8 names (Nx v10 c raw [(66,tI 0)])),[(14,Zbz c),(37,ZbF v10)]⟩<|AM ?_
 refine BK (ι:=Nat×Int) (fun x=>⟨(B8 names (Nx v10 c raw [(66,tI x.2)])),[(14,Zbz c),(37,ZbF v10)]⟩) (fun x=>(((v10.length:Nat):Int)-x.2).toNat<x.1/\(0<=x.2/\(x.2<=((v10.length:Nat):Int)\/x.2=0))/\Br c raw names v10 v41 (Bs c raw names n0) x.1 x.2=EM c raw names) (fun x=>x.1) ?_ ((((v10.length:Nat):Int)-0).toNat+1,0) ⟨Nat.lt_succ_self _,⟨ax0,ax0⟩,(by rw [<- hF0];simp only [Bs,h1,cond_true,cond_false])⟩
 rintro ⟨n2,v66⟩ ⟨hm2,hinv2,hF2⟩
 try dsimp only at hm2 hinv2 hF2
 cases n2 with | zero=>exact nz hm2 | succ n2 => ?_
 refine AA<|rn ⟨(B8 names (Nx v10 c raw [(66,tI v66),(67,tB (decide ((v66:Int)<((v10.length:Nat):Int))))])),[(14,Zbz c),(37,ZbF v10)]⟩<|AA<|AL _ rfl (fun h2 => ?_) (fun h2 => ?_)
 ·have g2:=oT h2
  refine AQ<|AF<|AA<|AM<|AA<|oc [] [0<=(v66:Int)/\(v66:Int)<((v10.length:Nat):Int),v66.toNat<v10.length] .nil (.cons au1 (.cons au1 .nil))<|AF<|AA<|dw [] [(72,F1 (AP c.Board).1 (v10.getD v66.toNat default)),(75,FR (AP c.Board).1 (v10.getD v66.toNat default))] [As (F1 (AP c.Board).1 (v10.getD v66.toNat default)).2.1,As (FR (AP c.Board).1 (v10.getD v66.toNat default)).2.1] ⟨(B8 names (Nx v10 c raw [(66,tI v66),(76,tB (!decide (((Bj (AP c.Board).1 (v10.getD v66.toNat default)):Int)=(Ch (AP c.Board).1 (v10.getD v66.toNat default)))))])),[(14,Zbz c),(37,ZbF v10)]⟩ (.cons (JZ (AP c.Board).1 (v10.getD v66.toNat default) au0 au0) (.cons (JY (AP c.Board).1 (v10.getD v66.toNat default) au0 au0) .nil)) (.cons rfl (.cons rfl .nil))<|AF<|AL _ rfl (fun h3 => ?_) (fun h3 => ?_)
  ·have g3:=Bk h3
   exact AA<|on<|AR<|BN<|Au<|Au<|BN<|Au<|BN<|Au<|Au<|BN<|Au<|zl (by rw [<- hF2];simp only [Br,h2,h3,cond_true,cond_false] <;> kernel_rfl)
  have g3:=Bc h3
  refine AQ<|A0<|AF<|rg ⟨(B8 names (Nx v10 c raw [(66,tI (W64 (v66+1)))])),[(14,Zbz c),(37,ZbF v10)]⟩ ?_
  (try rw [(show W64 (v66+1)=v66+1 from Ap oM au8)])
  refine AF ?_
  refine ⟨(n2,v66+1),⟨?_,?_,(by rw [<- hF2];simp only [Br,h2,h3,cond_true,cond_false])⟩,Nat.lt_succ_self _,BG kr⟩
  ·show (((v10.length:Nat):Int)-(v66+1)).toNat<n2;omega
  exact ⟨ax0,ax0⟩
 have g2:=oF h2
 refine BH<|A7<|A7<|BI<|AF<|AA<|Al (I8 (⟨(B8 names [(10,tO (lst 1 (fun x=>[.s x]) v10)),(14,tP 14 0),(58,ZbJ c raw),(59,tI 3),(60,tI 0),(64,tO (lst 1 (fun x=>[.s x]) v10)),(Y6 v10),(66,tI v66),(67,tB (decide ((v66:Int)<((v10.length:Nat):Int))))]),[(14,Zbz c)]⟩) 37 hk0)<|rn ⟨(B8 names [(10,tO (lst 1 (fun x=>[.s x]) v10)),(14,tP 14 0),(58,ZbJ c raw),(59,tI 3),(60,tI 0),(80,ZbK names v10),(81,tI 3),(82,tI 0)]),[(14,Zbz c)]⟩<|AM<|Dr 4<|Ba<|AA<|on<|AA<|Bq kr<|AQ<|AF<|AA<|AM<|AA<|oc [] [0<=(0:Int)/\(0:Int)<((3:Nat):Int)] .nil (.cons au1 .nil)<|AF<|AA<|oq 90 (DV (AP c.Board).1 (AN.mk (⟨#[]⟩) (names.take (min (names.length:Int) 4:Int).toNat) 0)) (De (AP c.Board).1 (AN.mk (⟨#[]⟩) (names.take (min (names.length:Int) 4:Int).toNat) 0) au0 au0 au0)<|AF<|AA<|oq 97 (Dn (AP c.Board).1 (AN.mk (⟨#[]⟩) (names.take (min (names.length:Int) 4:Int).toNat) 0)) (Dw (AP c.Board).1 (AN.mk (⟨#[]⟩) (names.take (min (names.length:Int) 4:Int).toNat) 0) au0 au0 au0)<|AF<|AA ?_
 refine rc [] (i3 (!decide (((Ac (AP c.Board).1 (GZ names)).1:Int)=(Aj (AP c.Board).1 (GZ names)).1)) []) ⟨(B8 names [(10,tO (lst 1 (fun x=>[.s x]) v10)),(14,tP 14 0),(58,ZbJ c raw),(59,tI 3),(60,tI 0),(80,ZbK names v10),(81,tI 3),(82,tI 0),(107,tB (bif !decide (((Ac (AP c.Board).1 (AN.mk (⟨#[]⟩) (names.take (min (names.length:Int) 4:Int).toNat) 0)).1:Int)=(Aj (AP c.Board).1 (AN.mk (⟨#[]⟩) (names.take (min (names.length:Int) 4:Int).toNat) 0)).1) then true else !((Ac (AP c.Board).1 (AN.mk (⟨#[]⟩) (names.take (min (names.length:Int) 4:Int).toNat) 0)).2==(Aj (AP c.Board).1 (AN.mk (⟨#[]⟩) (names.take (min (names.length:Int) 4:Int).toNat) 0)).2)))]),[(14,Zbz c)]⟩ .nil (c3 .nil)<|AF<|AL (bif !decide (((Ac (AP c.Board).1 (AN.mk (⟨#[]⟩) (names.take (min (names.length:Int) 4:Int).toNat) 0)).1:Int)=(Aj (AP c.Board).1 (AN.mk (⟨#[]⟩) (names.take (min (names.length:Int) 4:Int).toNat) 0)).1) then true else !((Ac (AP c.Board).1 (AN.mk (⟨#[]⟩) (names.take (min (names.length:Int) 4:Int).toNat) 0)).2==(Aj (AP c.Board).1 (AN.mk (⟨#[]⟩) (names.take (min (names.length:Int) 4:Int).toNat) 0)).2)) kr (fun h3 => ?_) (fun h3 => ?_)
 ·exact AA<|on<|AR<|BN<|Au<|Au<|BN<|BN<|Au<|Au<|BN<|Au<|zl (by rw [<- hF2];simp only [Br,h2,h3,cond_true,cond_false] <;> kernel_rfl)
 refine AQ<|A0<|AF<|rn ⟨(B8 names [(10,tO (lst 1 (fun x=>[.s x]) v10)),(14,tP 14 0),(58,ZbJ c raw),(59,tI 3),(60,tI 0),(80,ZbK names v10),(81,tI 3),(82,tI 1)]),[(14,Zbz c)]⟩<|Ba<|AA<|on<|AA<|Bq kr<|AQ<|AF<|AA<|AM<|AA<|oc [] [0<=(1:Int)/\(1:Int)<((3:Nat):Int)] .nil (.cons au1 .nil)<|AF<|AA<|oq 90 (DV (AP c.Board).1 (AN.mk (⟨#[]⟩) v10 0)) (De (AP c.Board).1 (AN.mk (⟨#[]⟩) v10 0) au0 au0 au0)<|AF<|AA<|oq 97 (Dn (AP c.Board).1 (AN.mk (⟨#[]⟩) v10 0)) (Dw (AP c.Board).1 (AN.mk (⟨#[]⟩) v10 0) au0 au0 au0)<|AF<|AA<|rc [] (i3 (!decide (((Ac (AP c.Board).1 (JI v10)).1:Int)=(Aj (AP c.Board).1 (JI v10)).1)) []) ⟨(B8 names [(10,tO (lst 1 (fun x=>[.s x]) v10)),(14,tP 14 0),(58,ZbJ c raw),(59,tI 3),(60,tI 0),(80,ZbK names v10),(81,tI 3),(82,tI 1),(107,tB (bif !decide (((Ac (AP c.Board).1 (AN.mk (⟨#[]⟩) v10 0)).1:Int)=(Aj (AP c.Board).1 (AN.mk (⟨#[]⟩) v10 0)).1) then true else !((Ac (AP c.Board).1 (AN.mk (⟨#[]⟩) v10 0)).2==(Aj (AP c.Board).1 (AN.mk (⟨#[]⟩) v10 0)).2)))]),[(14,Zbz c)]⟩ .nil (c3 .nil)<|AF ?_
 refine AL _ rfl (fun h4 => ?_) (fun h4 => ?_)
 ·exact AA<|on<|AR<|BN<|Au<|Au<|BN<|BN<|Au<|Au<|BN<|Au<|zl (by rw [<- hF2];simp only [Br,h2,h3,h4,cond_true,cond_false] <;> kernel_rfl)
 refine AQ<|A0<|AF<|rn ⟨(B8 names [(10,tO (lst 1 (fun x=>[.s x]) v10)),(14,tP 14 0),(58,ZbJ c raw),(59,tI 3),(60,tI 0),(80,ZbK names v10),(81,tI 3),(82,tI 2)]),[(14,Zbz c)]⟩<|Ba<|AA<|on<|AA<|Bq kr<|AQ<|AF<|AA<|AM<|AA<|oc [] [0<=(2:Int)/\(2:Int)<((3:Nat):Int)] .nil (.cons au1 .nil)<|AF<|AA<|oq 90 (ceI [.agg (AC.c (AP c.Board).1),.agg ML] (DV (AP c.Board).1 (AN.mk (⟨#[]⟩) [] 0))) (C5 (De (AP c.Board).1 (AN.mk (⟨#[]⟩) [] 0) au0 au0 au0) (.cons (AvE.refl _) (.cons (.agg (rr (.cons (Bi 1 (fun x=>[.s x])) (rr .nil)))) .nil)))<|AF<|AA<|oq 97 (ceI [.agg (AC.c (AP c.Board).1),.agg ML] (Dn (AP c.Board).1 (AN.mk (⟨#[]⟩) [] 0))) (C5 (Dw (AP c.Board).1 (AN.mk (⟨#[]⟩) [] 0) au0 au0 au0) (.cons (AvE.refl _) (.cons (.agg (rr (.cons (Bi 1 (fun x=>[.s x])) (rr .nil)))) .nil)))<|AF<|AA ?_
 refine rc [] (i3 (!decide (((Ac (AP c.Board).1 Ga).1:Int)=(Aj (AP c.Board).1 Ga).1)) []) ⟨(B8 names [(10,tO (lst 1 (fun x=>[.s x]) v10)),(14,tP 14 0),(58,ZbJ c raw),(59,tI 3),(60,tI 0),(80,ZbK names v10),(81,tI 3),(82,tI 2),(107,tB (bif !decide (((Ac (AP c.Board).1 (AN.mk (⟨#[]⟩) [] 0)).1:Int)=(Aj (AP c.Board).1 (AN.mk (⟨#[]⟩) [] 0)).1) then true else !((Ac (AP c.Board).1 (AN.mk (⟨#[]⟩) [] 0)).2==(Aj (AP c.Board).1 (AN.mk (⟨#[]⟩) [] 0)).2)))]),[(14,Zbz c)]⟩ .nil (c3 .nil)<|AF<|AL _ rfl (fun h5 => ?_) (fun h5 => ?_)
 ·exact AA<|on<|AR<|BN<|Au<|Au<|BN<|BN<|Au<|Au<|BN<|Au<|zl (by rw [<- hF2];simp only [Br,h2,h3,h4,h5,cond_true,cond_false] <;> kernel_rfl)
 refine AQ<|A0<|AF<|rn ⟨(B8 names [(10,tO (lst 1 (fun x=>[.s x]) v10)),(14,tP 14 0),(58,ZbJ c raw),(59,tI 3),(60,tI 0),(80,ZbK names v10),(81,tI 3),(82,tI 3)]),[(14,Zbz c)]⟩<|Ba<|AA<|on<|AA<|Ak kr<|BH<|A7<|A7<|BI<|A0<|AF<|rn ⟨(B8 names [(10,tO (lst 1 (fun x=>[.s x]) v10)),(58,ZbJ c raw),(59,tI 3),(60,tI 1)]),[]⟩<|Ba<|AA<|on<|AA<|Bq kr<|AQ<|AF<|AA<|AM<|AA<|oc [] [0<=(1:Int)/\(1:Int)<((3:Nat):Int)] .nil (.cons au1 .nil)<|AF<|AA<|AA<|rn ⟨(B8 names [(10,tO (lst 1 (fun x=>[.s x]) v10)),(14,tP 14 0),(58,ZbJ c raw),(59,tI 3),(60,tI 1),(64,tO (lst 1 (fun x=>[.s x]) v10)),(Hi v10),(66,tI 0)]),[(14,ZbP c)]⟩<|AM ?_
 refine BK (ι:=Nat×Int) (fun x=>⟨(B8 names [(10,tO (lst 1 (fun x=>[.s x]) v10)),(14,tP 14 0),(58,ZbJ c raw),(59,tI 3),(60,tI 1),(64,tO (lst 1 (fun x=>[.s x]) v10)),(Hi v10),(66,tI x.2)]),[(14,ZbP c)]⟩) (fun x=>((v10.length:Int)-x.2).toNat<x.1/\(0<=x.2/\(x.2<=(v10.length:Int)\/x.2=0))/\CA c raw names v10 v41 v66 (Bs c raw names n0) (Br c raw names v10 v41 (Bs c raw names n0) n2) x.1 x.2=EM c raw names) (fun x=>x.1) ?_ (((v10.length:Int)-0).toNat+1,0) ⟨Nat.lt_succ_self _,⟨ax0,ax0⟩,(by rw [<- hF2];simp only [Br,h2,h3,h4,h5,cond_true,cond_false])⟩
 rintro ⟨n4,v66'⟩ ⟨hm4,hinv4,hF4⟩
 try dsimp only at hm4 hinv4 hF4
 cases n4 with | zero=>exact nz hm4 | succ n4 => ?_
 refine AA<|rn ⟨(B8 names [(10,tO (lst 1 (fun x=>[.s x]) v10)),(14,tP 14 0),(58,ZbJ c raw),(59,tI 3),(60,tI 1),(64,tO (lst 1 (fun x=>[.s x]) v10)),(Hi v10),(66,tI v66'),(67,tB (decide ((v66':Int)<(v10.length:Int))))]),[(14,ZbP c)]⟩<|AA<|AL _ rfl (fun h6 => ?_) (fun h6 => ?_)
 ·have g6:=oT h6
  refine AQ<|AF<|AA<|AM<|AA<|oc [] [0<=(v66':Int)/\(v66':Int)<((v10.length:Nat):Int)] .nil (.cons au1 .nil)<|AF<|AA<|dw [] [(72,F1 (Dq c) (v10.getD v66'.toNat default)),(75,FR (Dq c) (v10.getD v66'.toNat default))] [As (F1 (Bm (AP c.Board).1 c.Odd) (v10.getD v66'.toNat default)).2.1,As (FR (Bm (AP c.Board).1 c.Odd) (v10.getD v66'.toNat default)).2.1] ⟨(B8 names [(10,tO (lst 1 (fun x=>[.s x]) v10)),(14,tP 14 0),(58,ZbJ c raw),(59,tI 3),(60,tI 1),(64,tO (lst 1 (fun x=>[.s x]) v10)),(Hi v10),(66,tI v66'),(76,tB (!decide (((Bj (Bm (AP c.Board).1 c.Odd) (v10.getD v66'.toNat default)):Int)=(Ch (Bm (AP c.Board).1 c.Odd) (v10.getD v66'.toNat default)))))]),[(14,ZbP c)]⟩ (.cons (JZ (Bm (AP c.Board).1 c.Odd) (v10.getD v66'.toNat default) au0 au0) (.cons (JY (Bm (AP c.Board).1 c.Odd) (v10.getD v66'.toNat default) au0 au0) .nil)) (.cons rfl (.cons rfl .nil))<|AF<|AL _ rfl (fun h7 => ?_) (fun h7 => ?_)
  ·have g7:=Bk h7
   exact AA<|on<|AR<|BN<|Au<|Au<|BN<|Au<|BN<|Au<|Au<|BN<|Au<|zl (by rw [<- hF4];simp only [CA,h6,h7,cond_true,cond_false] <;> kernel_rfl)
  have g7:=Bc h7
  refine AQ<|A0<|AF<|rg ⟨(B8 names [(10,tO (lst 1 (fun x=>[.s x]) v10)),(14,tP 14 0),(58,ZbJ c raw),(59,tI 3),(60,tI 1),(64,tO (lst 1 (fun x=>[.s x]) v10)),(Hi v10),(66,tI (W64 (v66'+1)))]),[(14,ZbP c)]⟩ ?_
  (try rw [(show W64 (v66'+1)=v66'+1 from Ap oM au8)])
  refine AF ?_
  refine ⟨(n4,v66'+1),⟨?_,?_,(by rw [<- hF4];simp only [CA,h6,h7,cond_true,cond_false])⟩,Nat.lt_succ_self _,BG kr⟩
  ·show ((v10.length:Int)-(v66'+1)).toNat<n4;omega
  exact ⟨ax0,ax0⟩
 have g6:=oF h6
 refine BH<|A7<|A7<|BI<|AF<|AA<|rn ⟨(B8 names [(10,tO (lst 1 (fun x=>[.s x]) v10)),(14,tP 14 0),(58,ZbJ c raw),(59,tI 3),(60,tI 1),(80,ZbK names v10),(81,tI 3),(82,tI 0)]),[(14,ZbP c)]⟩<|AM<|Dr 4<|Ba<|AA<|on<|AA<|Bq kr<|AQ<|AF<|AA<|AM<|AA<|oc [] [0<=(0:Int)/\(0:Int)<((3:Nat):Int)] .nil (.cons au1 .nil)<|AF<|AA<|oq 90 (DV (Bm (AP c.Board).1 c.Odd) (AN.mk (⟨#[]⟩) (names.take (min (names.length:Int) 4:Int).toNat) 0)) (De (Bm (AP c.Board).1 c.Odd) (AN.mk (⟨#[]⟩) (names.take (min (names.length:Int) 4:Int).toNat) 0) au0 au0 au0)<|AF<|AA<|oq 97 (Dn (Bm (AP c.Board).1 c.Odd) (AN.mk (⟨#[]⟩) (names.take (min (names.length:Int) 4:Int).toNat) 0)) (Dw (Bm (AP c.Board).1 c.Odd) (AN.mk (⟨#[]⟩) (names.take (min (names.length:Int) 4:Int).toNat) 0) au0 au0 au0)<|AF<|AA ?_
 refine rc [] (i3 (!decide (((Ac (Dq c) (GZ names)).1:Int)=(Aj (Dq c) (GZ names)).1)) []) ⟨(B8 names [(10,tO (lst 1 (fun x=>[.s x]) v10)),(14,tP 14 0),(58,ZbJ c raw),(59,tI 3),(60,tI 1),(80,ZbK names v10),(81,tI 3),(82,tI 0),(107,tB (bif !decide (((Ac (Bm (AP c.Board).1 c.Odd) (AN.mk (⟨#[]⟩) (names.take (min (names.length:Int) 4:Int).toNat) 0)).1:Int)=(Aj (Bm (AP c.Board).1 c.Odd) (AN.mk (⟨#[]⟩) (names.take (min (names.length:Int) 4:Int).toNat) 0)).1) then true else !((Ac (Bm (AP c.Board).1 c.Odd) (AN.mk (⟨#[]⟩) (names.take (min (names.length:Int) 4:Int).toNat) 0)).2==(Aj (Bm (AP c.Board).1 c.Odd) (AN.mk (⟨#[]⟩) (names.take (min (names.length:Int) 4:Int).toNat) 0)).2)))]),[(14,ZbP c)]⟩ .nil (c3 .nil)<|AF ?_
 refine AL (bif !decide (((Ac (Bm (AP c.Board).1 c.Odd) (AN.mk (⟨#[]⟩) (names.take (min (names.length:Int) 4:Int).toNat) 0)).1:Int)=(Aj (Bm (AP c.Board).1 c.Odd) (AN.mk (⟨#[]⟩) (names.take (min (names.length:Int) 4:Int).toNat) 0)).1) then true else !((Ac (Bm (AP c.Board).1 c.Odd) (AN.mk (⟨#[]⟩) (names.take (min (names.length:Int) 4:Int).toNat) 0)).2==(Aj (Bm (AP c.Board).1 c.Odd) (AN.mk (⟨#[]⟩) (names.take (min (names.length:Int) 4:Int).toNat) 0)).2)) kr (fun h7 => ?_) (fun h7 => ?_)
 ·exact AA<|on<|AR<|BN<|Au<|Au<|BN<|BN<|Au<|Au<|BN<|Au<|zl (by rw [<- hF4];simp only [CA,h6,h7,cond_true,cond_false] <;> kernel_rfl)
 refine AQ<|A0<|AF<|rn ⟨(B8 names [(10,tO (lst 1 (fun x=>[.s x]) v10)),(14,tP 14 0),(58,ZbJ c raw),(59,tI 3),(60,tI 1),(80,ZbK names v10),(81,tI 3),(82,tI 1)]),[(14,ZbP c)]⟩<|Ba<|AA<|on<|AA<|Bq kr<|AQ<|AF<|AA<|AM<|AA<|oc [] [0<=(1:Int)/\(1:Int)<((3:Nat):Int)] .nil (.cons au1 .nil)<|AF<|AA<|oq 90 (DV (Bm (AP c.Board).1 c.Odd) (AN.mk (⟨#[]⟩) v10 0)) (De (Bm (AP c.Board).1 c.Odd) (AN.mk (⟨#[]⟩) v10 0) au0 au0 au0)<|AF<|AA<|oq 97 (Dn (Bm (AP c.Board).1 c.Odd) (AN.mk (⟨#[]⟩) v10 0)) (Dw (Bm (AP c.Board).1 c.Odd) (AN.mk (⟨#[]⟩) v10 0) au0 au0 au0)<|AF<|AA ?_
 refine rc [] (i3 (!decide (((Ac (Dq c) (JI v10)).1:Int)=(Aj (Dq c) (JI v10)).1)) []) ⟨(B8 names [(10,tO (lst 1 (fun x=>[.s x]) v10)),(14,tP 14 0),(58,ZbJ c raw),(59,tI 3),(60,tI 1),(80,ZbK names v10),(81,tI 3),(82,tI 1),(107,tB (bif !decide (((Ac (Bm (AP c.Board).1 c.Odd) (AN.mk (⟨#[]⟩) v10 0)).1:Int)=(Aj (Bm (AP c.Board).1 c.Odd) (AN.mk (⟨#[]⟩) v10 0)).1) then true else !((Ac (Bm (AP c.Board).1 c.Odd) (AN.mk (⟨#[]⟩) v10 0)).2==(Aj (Bm (AP c.Board).1 c.Odd) (AN.mk (⟨#[]⟩) v10 0)).2)))]),[(14,ZbP c)]⟩ .nil (c3 .nil)<|AF<|AL _ rfl (fun h8 => ?_) (fun h8 => ?_)
 ·exact AA<|on<|AR<|BN<|Au<|Au<|BN<|BN<|Au<|Au<|BN<|Au<|zl (by rw [<- hF4];simp only [CA,h6,h7,h8,cond_true,cond_false] <;> kernel_rfl)
 refine AQ<|A0<|AF<|rn ⟨(B8 names [(10,tO (lst 1 (fun x=>[.s x]) v10)),(14,tP 14 0),(58,ZbJ c raw),(59,tI 3),(60,tI 1),(80,ZbK names v10),(81,tI 3),(82,tI 2)]),[(14,ZbP c)]⟩<|Ba<|AA<|on<|AA<|Bq kr<|AQ<|AF<|AA<|AM<|AA<|oc [] [0<=(2:Int)/\(2:Int)<((3:Nat):Int)] .nil (.cons au1 .nil)<|AF<|AA<|oq 90 (ceI [.agg (AC.c (Bm (AP c.Board).1 c.Odd)),.agg ML] (DV (Bm (AP c.Board).1 c.Odd) (AN.mk (⟨#[]⟩) [] 0))) (C5 (De (Bm (AP c.Board).1 c.Odd) (AN.mk (⟨#[]⟩) [] 0) au0 au0 au0) (.cons (AvE.refl _) (.cons (.agg (rr (.cons (Bi 1 (fun x=>[.s x])) (rr .nil)))) .nil)))<|AF<|AA<|oq 97 (ceI [.agg (AC.c (Bm (AP c.Board).1 c.Odd)),.agg ML] (Dn (Bm (AP c.Board).1 c.Odd) (AN.mk (⟨#[]⟩) [] 0))) (C5 (Dw (Bm (AP c.Board).1 c.Odd) (AN.mk (⟨#[]⟩) [] 0) au0 au0 au0) (.cons (AvE.refl _) (.cons (.agg (rr (.cons (Bi 1 (fun x=>[.s x])) (rr .nil)))) .nil)))<|AF<|AA ?_
 refine rc [] (i3 (!decide (((Ac (Dq c) Ga).1:Int)=(Aj (Dq c) Ga).1)) []) ⟨(B8 names [(10,tO (lst 1 (fun x=>[.s x]) v10)),(14,tP 14 0),(58,ZbJ c raw),(59,tI 3),(60,tI 1),(80,ZbK names v10),(81,tI 3),(82,tI 2),(107,tB (bif !decide (((Ac (Bm (AP c.Board).1 c.Odd) (AN.mk (⟨#[]⟩) [] 0)).1:Int)=(Aj (Bm (AP c.Board).1 c.Odd) (AN.mk (⟨#[]⟩) [] 0)).1) then true else !((Ac (Bm (AP c.Board).1 c.Odd) (AN.mk (⟨#[]⟩) [] 0)).2==(Aj (Bm (AP c.Board).1 c.Odd) (AN.mk (⟨#[]⟩) [] 0)).2)))]),[(14,ZbP c)]⟩ .nil (c3 .nil)<|AF<|AL _ rfl (fun h9 => ?_) (fun h9 => ?_)
 ·exact AA<|on<|AR<|BN<|Au<|Au<|BN<|BN<|Au<|Au<|BN<|Au<|zl (by rw [<- hF4];simp only [CA,h6,h7,h8,h9,cond_true,cond_false] <;> kernel_rfl)
 refine AQ<|A0<|AF<|rn ⟨(B8 names [(10,tO (lst 1 (fun x=>[.s x]) v10)),(14,tP 14 0),(58,ZbJ c raw),(59,tI 3),(60,tI 1),(80,ZbK names v10),(81,tI 3),(82,tI 3)]),[(14,ZbP c)]⟩<|Ba<|AA<|on<|AA<|Ak kr<|BH<|A7<|A7<|BI<|A0<|AF<|rn ⟨(B8 names [(10,tO (lst 1 (fun x=>[.s x]) v10)),(58,ZbJ c raw),(59,tI 3),(60,tI 2)]),[]⟩<|Ba<|AA<|on<|AA<|Bq kr<|AQ<|AF<|AA<|AM<|AA<|oc [] [0<=(2:Int)/\(2:Int)<((3:Nat):Int)] .nil (.cons au1 .nil)<|AF<|AA<|AA<|rn ⟨(B8 names [(10,tO (lst 1 (fun x=>[.s x]) v10)),(14,tP 14 0),(58,ZbJ c raw),(59,tI 3),(60,tI 2),(64,tO (lst 1 (fun x=>[.s x]) v10)),(Hi v10),(66,tI 0)]),(I3 raw)⟩<|AM ?_
 refine BK (ι:=Nat×Int) (fun x=>⟨(B8 names [(10,tO (lst 1 (fun x=>[.s x]) v10)),(14,tP 14 0),(58,ZbJ c raw),(59,tI 3),(60,tI 2),(64,tO (lst 1 (fun x=>[.s x]) v10)),(Hi v10),(66,tI x.2)]),(I3 raw)⟩) (fun x=>((v10.length:Int)-x.2).toNat<x.1/\(0<=x.2/\(x.2<=(v10.length:Int)\/x.2=0))/\CZ c raw names v10 v41 v66 v66' (Bs c raw names n0) (Br c raw names v10 v41 (Bs c raw names n0) n2) (CA c raw names v10 v41 v66 (Bs c raw names n0) (Br c raw names v10 v41 (Bs c raw names n0) n2) n4) x.1 x.2=EM c raw names) (fun x=>x.1) ?_ (((v10.length:Int)-0).toNat+1,0) ⟨Nat.lt_succ_self _,⟨ax0,ax0⟩,(by rw [<- hF4];simp only [CA,h6,h7,h8,h9,cond_true,cond_false])⟩
 rintro ⟨n6,v66''⟩ ⟨hm6,hinv6,hF6⟩
 try dsimp only at hm6 hinv6 hF6
 cases n6 with | zero=>exact nz hm6 | succ n6 => ?_
 refine AA<|rn ⟨(B8 names [(10,tO (lst 1 (fun x=>[.s x]) v10)),(14,tP 14 0),(58,ZbJ c raw),(59,tI 3),(60,tI 2),(64,tO (lst 1 (fun x=>[.s x]) v10)),(Hi v10),(66,tI v66''),(67,tB (decide ((v66'':Int)<(v10.length:Int))))]),(I3 raw)⟩<|AA<|AL _ rfl (fun h10 => ?_) (fun h10 => ?_)
 ·have g10:=oT h10
  refine AQ<|AF<|AA<|AM<|AA<|oc [] [0<=(v66'':Int)/\(v66'':Int)<((v10.length:Nat):Int)] .nil (.cons au1 .nil)<|AF<|AA<|dw [] [(72,F1 (ZbI raw) (v10.getD v66''.toNat default)),(75,FR (ZbI raw) (v10.getD v66''.toNat default))] [As (F1 (ZbI raw) (v10.getD v66''.toNat default)).2.1,As (FR (ZbI raw) (v10.getD v66''.toNat default)).2.1] ⟨(B8 names [(10,tO (lst 1 (fun x=>[.s x]) v10)),(14,tP 14 0),(58,ZbJ c raw),(59,tI 3),(60,tI 2),(64,tO (lst 1 (fun x=>[.s x]) v10)),(Hi v10),(66,tI v66''),(76,tB (!decide (((Bj (ZbI raw) (v10.getD v66''.toNat default)):Int)=(Ch (ZbI raw) (v10.getD v66''.toNat default)))))]),(I3 raw)⟩ (.cons (JZ (ZbI raw) (v10.getD v66''.toNat default) au0 au0) (.cons (JY (ZbI raw) (v10.getD v66''.toNat default) au0 au0) .nil)) (.cons rfl (.cons rfl .nil))<|AF<|AL _ rfl (fun h11 => ?_) (fun h11 => ?_)
  ·have g11:=Bk h11
   exact AA<|on<|AR<|BN<|Au<|Au<|BN<|Au<|BN<|Au<|Au<|BN<|Au<|zl (by rw [<- hF6];simp only [CZ,h10,h11,cond_true,cond_false] <;> kernel_rfl)
  have g11:=Bc h11
  refine AQ<|A0<|AF<|rg ⟨(B8 names [(10,tO (lst 1 (fun x=>[.s x]) v10)),(14,tP 14 0),(58,ZbJ c raw),(59,tI 3),(60,tI 2),(64,tO (lst 1 (fun x=>[.s x]) v10)),(Hi v10),(66,tI (W64 (v66''+1)))]),(I3 raw)⟩ ?_
  (try rw [(show W64 (v66''+1)=v66''+1 from Ap oM au8)])
  refine AF ?_
  refine ⟨(n6,v66''+1),⟨?_,?_,(by rw [<- hF6];simp only [CZ,h10,h11,cond_true,cond_false])⟩,Nat.lt_succ_self _,BG kr⟩
  ·show ((v10.length:Int)-(v66''+1)).toNat<n6;omega
  exact ⟨ax0,ax0⟩
 have g10:=oF h10
 refine BH<|A7<|A7<|BI<|AF<|AA<|rn ⟨(B8 names [(10,tO (lst 1 (fun x=>[.s x]) v10)),(14,tP 14 0),(58,ZbJ c raw),(59,tI 3),(60,tI 2),(80,ZbK names v10),(81,tI 3),(82,tI 0)]),(I3 raw)⟩<|AM<|Dr 4<|Ba<|AA<|on<|AA<|Bq kr<|AQ<|AF<|AA<|AM<|AA<|oc [] [0<=(0:Int)/\(0:Int)<((3:Nat):Int)] .nil (.cons au1 .nil)<|AF<|AA<|oq 90 (DV (ZbI raw) (AN.mk (⟨#[]⟩) (names.take (min (names.length:Int) 4:Int).toNat) 0)) (De (ZbI raw) (AN.mk (⟨#[]⟩) (names.take (min (names.length:Int) 4:Int).toNat) 0) au0 au0 au0)<|AF<|AA<|oq 97 (Dn (ZbI raw) (AN.mk (⟨#[]⟩) (names.take (min (names.length:Int) 4:Int).toNat) 0)) (Dw (ZbI raw) (AN.mk (⟨#[]⟩) (names.take (min (names.length:Int) 4:Int).toNat) 0) au0 au0 au0)<|AF<|AA ?_
 refine rc [] (i3 (!decide (((Ac (ZbI raw) (GZ names)).1:Int)=(Aj (ZbI raw) (GZ names)).1)) []) ⟨(B8 names [(10,tO (lst 1 (fun x=>[.s x]) v10)),(14,tP 14 0),(58,ZbJ c raw),(59,tI 3),(60,tI 2),(80,ZbK names v10),(81,tI 3),(82,tI 0),(107,tB (bif !decide (((Ac (ZbI raw) (AN.mk (⟨#[]⟩) (names.take (min (names.length:Int) 4:Int).toNat) 0)).1:Int)=(Aj (ZbI raw) (AN.mk (⟨#[]⟩) (names.take (min (names.length:Int) 4:Int).toNat) 0)).1) then true else !((Ac (ZbI raw) (AN.mk (⟨#[]⟩) (names.take (min (names.length:Int) 4:Int).toNat) 0)).2==(Aj (ZbI raw) (AN.mk (⟨#[]⟩) (names.take (min (names.length:Int) 4:Int).toNat) 0)).2)))]),(I3 raw)⟩ .nil (c3 .nil)<|AF<|AL (bif !decide (((Ac (ZbI raw) (AN.mk (⟨#[]⟩) (names.take (min (names.length:Int) 4:Int).toNat) 0)).1:Int)=(Aj (ZbI raw) (AN.mk (⟨#[]⟩) (names.take (min (names.length:Int) 4:Int).toNat) 0)).1) then true else !((Ac (ZbI raw) (AN.mk (⟨#[]⟩) (names.take (min (names.length:Int) 4:Int).toNat) 0)).2==(Aj (ZbI raw) (AN.mk (⟨#[]⟩) (names.take (min (names.length:Int) 4:Int).toNat) 0)).2)) kr (fun h11 => ?_) (fun h11 => ?_)
 ·exact AA<|on<|AR<|BN<|Au<|Au<|BN<|BN<|Au<|Au<|BN<|Au<|zl (by rw [<- hF6];simp only [CZ,h10,h11,cond_true,cond_false] <;> kernel_rfl)
 refine AQ<|A0<|AF<|rn ⟨(B8 names [(10,tO (lst 1 (fun x=>[.s x]) v10)),(14,tP 14 0),(58,ZbJ c raw),(59,tI 3),(60,tI 2),(80,ZbK names v10),(81,tI 3),(82,tI 1)]),(I3 raw)⟩<|Ba<|AA<|on<|AA<|Bq kr<|AQ<|AF<|AA<|AM<|AA<|oc [] [0<=(1:Int)/\(1:Int)<((3:Nat):Int)] .nil (.cons au1 .nil)<|AF<|AA<|oq 90 (DV (ZbI raw) (AN.mk (⟨#[]⟩) v10 0)) (De (ZbI raw) (AN.mk (⟨#[]⟩) v10 0) au0 au0 au0)<|AF<|AA<|oq 97 (Dn (ZbI raw) (AN.mk (⟨#[]⟩) v10 0)) (Dw (ZbI raw) (AN.mk (⟨#[]⟩) v10 0) au0 au0 au0)<|AF<|AA<|rc [] (i3 (!decide (((Ac (ZbI raw) (JI v10)).1:Int)=(Aj (ZbI raw) (JI v10)).1)) []) ⟨(B8 names [(10,tO (lst 1 (fun x=>[.s x]) v10)),(14,tP 14 0),(58,ZbJ c raw),(59,tI 3),(60,tI 2),(80,ZbK names v10),(81,tI 3),(82,tI 1),(107,tB (bif !decide (((Ac (ZbI raw) (AN.mk (⟨#[]⟩) v10 0)).1:Int)=(Aj (ZbI raw) (AN.mk (⟨#[]⟩) v10 0)).1) then true else !((Ac (ZbI raw) (AN.mk (⟨#[]⟩) v10 0)).2==(Aj (ZbI raw) (AN.mk (⟨#[]⟩) v10 0)).2)))]),(I3 raw)⟩ .nil (c3 .nil)<|AF<|AL _ rfl (fun h12 => ?_) (fun h12 => ?_)
 ·exact AA<|on<|AR<|BN<|Au<|Au<|BN<|BN<|Au<|Au<|BN<|Au<|zl (by rw [<- hF6];simp only [CZ,h10,h11,h12,cond_true,cond_false] <;> kernel_rfl)
 refine AQ<|A0<|AF<|rn ⟨(B8 names [(10,tO (lst 1 (fun x=>[.s x]) v10)),(14,tP 14 0),(58,ZbJ c raw),(59,tI 3),(60,tI 2),(80,ZbK names v10),(81,tI 3),(82,tI 2)]),(I3 raw)⟩<|Ba<|AA<|on<|AA<|Bq kr<|AQ<|AF<|AA<|AM<|AA<|oc [] [0<=(2:Int)/\(2:Int)<((3:Nat):Int)] .nil (.cons au1 .nil)<|AF<|AA<|oq 90 (ceI [.agg (AC.c (ZbI raw)),.agg ML] (DV (ZbI raw) (AN.mk (⟨#[]⟩) [] 0))) (C5 (De (ZbI raw) (AN.mk (⟨#[]⟩) [] 0) au0 au0 au0) (.cons (AvE.refl _) (.cons (.agg (rr (.cons (Bi 1 (fun x=>[.s x])) (rr .nil)))) .nil)))<|AF<|AA<|oq 97 (ceI [.agg (AC.c (ZbI raw)),.agg ML] (Dn (ZbI raw) (AN.mk (⟨#[]⟩) [] 0))) (C5 (Dw (ZbI raw) (AN.mk (⟨#[]⟩) [] 0) au0 au0 au0) (.cons (AvE.refl _) (.cons (.agg (rr (.cons (Bi 1 (fun x=>[.s x])) (rr .nil)))) .nil)))<|AF<|AA ?_
 refine rc [] (i3 (!decide (((Ac (ZbI raw) Ga).1:Int)=(Aj (ZbI raw) Ga).1)) []) ⟨(B8 names [(10,tO (lst 1 (fun x=>[.s x]) v10)),(14,tP 14 0),(58,ZbJ c raw),(59,tI 3),(60,tI 2),(80,ZbK names v10),(81,tI 3),(82,tI 2),(107,tB (bif !decide (((Ac (ZbI raw) (AN.mk (⟨#[]⟩) [] 0)).1:Int)=(Aj (ZbI raw) (AN.mk (⟨#[]⟩) [] 0)).1) then true else !((Ac (ZbI raw) (AN.mk (⟨#[]⟩) [] 0)).2==(Aj (ZbI raw) (AN.mk (⟨#[]⟩) [] 0)).2)))]),(I3 raw)⟩ .nil (c3 .nil)<|AF<|AL _ rfl (fun h13 => ?_) (fun h13 => ?_)
 ·exact AA<|on<|AR<|BN<|Au<|Au<|BN<|BN<|Au<|Au<|BN<|Au<|zl (by rw [<- hF6];simp only [CZ,h10,h11,h12,h13,cond_true,cond_false] <;> kernel_rfl)
 exact AQ<|A0<|AF<|rn ⟨(B8 names [(10,tO (lst 1 (fun x=>[.s x]) v10)),(14,tP 14 0),(58,ZbJ c raw),(59,tI 3),(60,tI 2),(80,ZbK names v10),(81,tI 3),(82,tI 3)]),(I3 raw)⟩<|Ba<|AA<|on<|AA<|Ak kr<|BH<|A7<|A7<|BI<|A0<|AF<|rn ⟨(B8 names [(10,tO (lst 1 (fun x=>[.s x]) v10)),(58,ZbJ c raw),(59,tI 3),(60,tI 3)]),[]⟩<|Ba<|AA<|on<|AA<|Ak kr<|BH<|A7<|A7<|BI<|AF<|AA<|on<|AR<|zl (by rw [<- hF6];simp only [CZ,h10,h11,h12,h13,cond_true,cond_false] <;> kernel_rfl)
end
def IsR (n s:Int):Prop:=(0<=s/\s<=3037000499)/\s*s<=n/\n<(s+1)*(s+1)
theorem Js {a c:Int} (h0:0<=a) (h:a<=c):a*a<=c*c:=Int.mul_le_mul h h h0 (by omega)
theorem TZ {n s t:Int} (hs:IsR n s) (ht:IsR n t):s=t:=by
 obtain ⟨⟨a1,a2⟩,a3,a4⟩:=hs
 obtain ⟨⟨b1,b2⟩,b3,b4⟩:=ht
 rcases Int.lt_trichotomy s t with h | h | h
 ·have:=Js (a:=s+1) (c:=t) (by omega) (by omega);omega
 ·exact h
 have:=Js (a:=t+1) (c:=s) (by omega) (by omega);omega
theorem Zk {n s:Int} (hn:n<=9223372036854775807) (hs:3037000499<=s):n<(s+1)*(s+1):=by
 have:=Js (a:=3037000500) (c:=s+1) (by decide) (by omega)
 omega
theorem eU {s:Int} (h0:0<=s) (h1:s<=3037000499):W64 (s*s)=s*s:=by
 have:=Js h0 h1
 have h2:=Js (a:=0) (c:=s) (by omega) h0
 exact Ap (by omega) (by omega)
theorem bS (n s0:Int) (K0:Int->Int) (hn:n<=9223372036854775807):∀ (f:Nat) (s:Int),0<=s->s<=3037000499->(3037000499-s).toNat<f->s*s<=n->IsR n (Ey n s0 K0 f s)
 | 0,s,_,_,hf,_=>by omega
 | f+1,s,h0,h1,hf,hs=>by
  unfold Ey
  by_cases hlt:s<3037000499
  ·rw [decide_eq_true hlt]
   simp only [cond_true]
   rw [eU (s:=s+1) (by omega) (by omega)]
   by_cases hc:(s+1)*(s+1)<=n
   ·rw [decide_eq_true hc]
    exact bS n s0 K0 hn f (s+1) (by omega) (by omega) (by omega) hc
   rw [decide_eq_false hc]
   exact ⟨⟨h0,h1⟩,hs,by show n<(s+1)*(s+1);omega⟩
  rw [decide_eq_false hlt]
  simp only [cond_false]
  exact ⟨⟨h0,h1⟩,hs,Zk hn (by omega)⟩
theorem bT (n:Int) (hn:n<=9223372036854775807) (h1:1<=n):∀ (f:Nat) (s:Int),0<=s->s<=3037000499->s.toNat<f->IsR n (Dz n f s)
 | 0,s,_,_,hf=>by omega
 | f+1,s,h0,h2,hf=>by
  unfold Dz
  rw [eU h0 h2]
  by_cases hc:n<s*s
  ·rw [decide_eq_true hc]
   have hne:s≠0:=fun e=>by rw [e] at hc;simp at hc;omega
   exact bT n hn h1 f (s-1) (by omega) (by omega) (by omega)
  rw [decide_eq_false hc]
  exact bS n s _ hn _ s h0 h2 (by omega) (by omega)
theorem bR {n:Int} (hn:n<=9223372036854775807) (h1:1<=n):IsR n (DC n):=by
 unfold DC
 rw [decide_eq_false (show ¬ n<=0 by omega)]
 have h:=Ux h1 hn
 exact bT n hn h1 _ _ (by unfold Dj;omega) (by omega) (by omega)
theorem P1 {n:Int} (h:n<=0):DC n=0:=by
 unfold DC
 rw [decide_eq_true h]
 rfl
theorem RZ (n:Int) (hn:n<=9223372036854775807) (hn0:0<=n):∀ (f k:Nat) (out:Int),k<=32->k<f->0<=out->out<=3037000499->out*out<=n->n<(out+(2:Int) ^ k)*(out+(2:Int) ^ k)->IsR n (DP n f out ((k:Int)-1))
 | 0,k,out,_,hf,_,_,_,_=>by omega
 | f+1,0,out,hk,hf,h0,h1,h2,h3=>by
  unfold DP
  rw [decide_eq_false (show ¬ (0:Int)<=((0:Nat):Int)-1 by omega)]
  exact ⟨⟨h0,h1⟩,h2,h3⟩
 | f+1,k+1,out,hk,hf,h0,h1,h2,h3=>by
  unfold DP
  rw [decide_eq_true (show (0:Int)<=((k+1:Nat):Int)-1 by omega)]
  simp only [cond_true]
  have ek:((((k+1:Nat):Int)-1).toNat)=k:=by omega
  have em:min k 64=k:=by omega
  have hpow:(2:Int) ^ (k+1)=2 ^ k+2 ^ k:=by rw [Int.pow_succ];omega
  have hp1:(1:Int)<=2 ^ k/\(2:Int) ^ k<=2147483648:=by
   have h5:1<=2 ^ k:=Nat.one_le_two_pow
   have h6:2 ^ k<=2 ^ 31:=Nat.pow_le_pow_right (by decide) (by omega)
   have h7:((2 ^ k:Nat):Int)=(2:Int) ^ k:=by simp
   omega
  rw [ek,em,Int.one_mul,Ap (x:=(2:Int) ^ k) (by omega) (by omega),Ap (x:=out+2 ^ k) (by omega) (by omega)]
  have e1:((k+1:Nat):Int)-1-1=(k:Int)-1:=by omega
  rw [e1]
  rw [hpow,<- Int.add_assoc] at h3
  by_cases hc:out+(2:Int) ^ k<=3037000499
  ·rw [decide_eq_true hc]
   simp only [cond_true]
   rw [eU (s:=out+2 ^ k) (by omega) hc]
   by_cases hd:(out+(2:Int) ^ k)*(out+2 ^ k)<=n
   ·rw [decide_eq_true hd]
    simp only [cond_true]
    exact RZ n hn hn0 f k _ (by omega) (by omega) (by omega) hc hd h3
   rw [decide_eq_false hd]
   simp only [cond_false]
   exact RZ n hn hn0 f k _ (by omega) (by omega) h0 h1 h2 (by omega)
  rw [decide_eq_false hc]
  simp only [cond_false]
  refine RZ n hn hn0 f k _ (by omega) (by omega) h0 h1 h2 ?_
  have:=Zk (n:=n) (s:=out+2 ^ k-1) hn (by omega)
  rwa [Int.sub_add_cancel] at this
theorem So {n:Int} (hn:n<=9223372036854775807) (h0:0<=n):IsR n (GU n):=by
 unfold GU
 exact RZ n hn h0 _ 32 0 (by omega) (by decide) (by omega) (by omega) (by omega) (by
  have:((0:Int)+2 ^ 32)*(0+2 ^ 32)=18446744073709551616:=by decide
  omega)
theorem WN (n:Int) (hn:n<0):∀ (f k:Nat),k<=32->k<f->DP n f 0 ((k:Int)-1)=0
 | 0,k,_,hf=>by omega
 | f+1,0,hk,hf=>by
  unfold DP
  rw [decide_eq_false (show ¬ (0:Int)<=((0:Nat):Int)-1 by omega)]
  rfl
 | f+1,k+1,hk,hf=>by
  unfold DP
  rw [decide_eq_true (show (0:Int)<=((k+1:Nat):Int)-1 by omega)]
  simp only [cond_true]
  have ek:((((k+1:Nat):Int)-1).toNat)=k:=by omega
  have em:min k 64=k:=by omega
  have hp1:(1:Int)<=2 ^ k/\(2:Int) ^ k<=2147483648:=by
   have h5:1<=2 ^ k:=Nat.one_le_two_pow
   have h6:2 ^ k<=2 ^ 31:=Nat.pow_le_pow_right (by decide) (by omega)
   have h7:((2 ^ k:Nat):Int)=(2:Int) ^ k:=by simp
   omega
  rw [ek,em,Int.one_mul,Ap (x:=(2:Int) ^ k) (by omega) (by omega),Ap (x:=0+2 ^ k) (by omega) (by omega)]
  have e1:((k+1:Nat):Int)-1-1=(k:Int)-1:=by omega
  rw [e1]
  have hd:¬ W64 ((0+(2:Int) ^ k)*(0+2 ^ k))<=n:=by
   rw [eU (s:=0+2 ^ k) (by omega) (by omega)]
   have:=Js (a:=0) (c:=0+(2:Int) ^ k) (by omega) (by omega)
   omega
  rw [decide_eq_false hd]
  rw [show (bif decide ((0:Int)+2 ^ k<=3037000499) then false else false)=false by cases decide ((0:Int)+2 ^ k<=3037000499) <;> rfl]
  simp only [cond_false]
  exact WN n hn f k (by omega) (by omega)
theorem eS {n:Int} (hn:n<=9223372036854775807):DC n=GU n:=by
 rcases Int.lt_trichotomy n 0 with h | h | h
 ·rw [P1 (by omega)]
  exact (WN n h 33 32 (by omega) (by omega)).symm
 ·subst h
  rw [P1 (by omega)]
  exact (TZ (So (by decide) (by decide)) ⟨by decide,by decide,by decide⟩).symm
 exact TZ (bR hn (by omega)) (So hn (by omega))
theorem kZ:GE=true:=by decide +kernel
theorem GL (a b:Bool):(bif a then b else false)=(a&&b):=by cases a <;> rfl
theorem PG (a b:Bool):(bif a then true else b)=(a||b):=by cases a <;> rfl
theorem LD {α:Type} (a:Bool) (x y:α):(bif a then x else y)=if a=true then x else y:=by cases a <;> rfl
def C27 (x:Int):Prop := -67108864<=x/\x<=67108864
def RP (p:AD):Prop:=C27 p.X/\C27 p.Y
instance (x:Int):Decidable (C27 x):=by unfold C27;infer_instance
instance (p:AD):Decidable (RP p):=by unfold RP;infer_instance
theorem JU {p q:AD} (hp:RP p) (hq:RP q):A3 p q=⟨p.X-q.X,p.Y-q.Y⟩:=by
 unfold RP C27 at *
 unfold A3
 rw [Ap (by omega) (by omega),Ap (by omega) (by omega)]
theorem Z5 (p:AD):Ao p=decide (RP p):=by
 rw [Bool.eq_iff_iff,decide_eq_true_eq]
 unfold Ao RP C27
 simp only [GL,Bool.and_eq_true,decide_eq_true_eq]
 omega
theorem Pq (p:AD):Cj p=decide (RP p):=by
 rw [Bool.eq_iff_iff,decide_eq_true_eq]
 unfold Cj RP C27
 simp only [GL,Bool.and_eq_true,decide_eq_true_eq]
 omega
def Odd (e:AG):Prop:=¬ (e.A.X-e.C.X=0↔e.A.Y-e.C.Y=0)
def QL (e:AG):Prop:=Odd e/\e.B.X-e.C.X = -(e.A.Y-e.C.Y)/\e.B.Y-e.C.Y=e.A.X-e.C.X
def QR (e:AG):Prop:=Odd e/\e.B.X-e.C.X=e.A.Y-e.C.Y/\e.B.Y-e.C.Y = -(e.A.X-e.C.X)
def FX (e:AG):Prop:=RP e.A/\RP e.B/\RP e.C
def SN (e:AG):Prop:=(e.Kind=1/\e.C.X=0/\e.C.Y=0)\/(e.Kind=2/\QL e)\/(e.Kind=3/\QR e)
def OkE (e:AG):Prop:=FX e/\SN e
instance (e:AG):Decidable (QL e):=by unfold QL Odd;infer_instance
instance (e:AG):Decidable (QR e):=by unfold QR Odd;infer_instance
instance (e:AG):Decidable (FX e):=by unfold FX;infer_instance
instance (e:AG):Decidable (SN e):=by unfold SN;infer_instance
instance (e:AG):Decidable (OkE e):=by unfold OkE;infer_instance
def GI (e:AG):Int:=if OkE e then 0 else if (1<=e.Kind/\e.Kind<=3)/\¬ FX e then 10 else 11
theorem nG (p:AD):DR ⟨⟨0,0⟩,1,false⟩ p=⟨W64 (W64 (0-p.Y)+0),W64 (p.X+0)⟩:=by
 have ht:Cd ⟨⟨0,0⟩,1,false⟩=1:=by decide +kernel
 unfold DR
 rw [ht]
 rfl
theorem nF (p:AD):DR ⟨⟨0,0⟩,3,false⟩ p=⟨W64 (W64 (0-W64 (0-p.Y))+0),W64 (W64 (0-p.X)+0)⟩:=by
 have ht:Cd ⟨⟨0,0⟩,3,false⟩=3:=by decide +kernel
 unfold DR
 rw [ht]
 rfl
theorem gY (e:AG) (h:FX e):EJ e=decide (QL e):=by
 obtain ⟨ha,hb,hc⟩:=h
 rw [Bool.eq_iff_iff,decide_eq_true_eq]
 unfold EJ DM QL Odd
 rw [nG,JU ha hc,JU hb hc]
 unfold RP C27 at *
 simp only [GL,Bool.and_eq_true,decide_eq_true_eq,Bool.not_eq_true',and_true,E6,beq_eq_false_iff_ne,ne_eq,decide_eq_decide]
 omega
theorem XS (e:AG) (h:FX e):Ds e=decide (QR e):=by
 obtain ⟨ha,hb,hc⟩:=h
 rw [Bool.eq_iff_iff,decide_eq_true_eq]
 unfold Ds DM QR Odd
 rw [nF,JU ha hc,JU hb hc]
 unfold RP C27 at *
 simp only [GL,Bool.and_eq_true,decide_eq_true_eq,Bool.not_eq_true',and_true,E6,beq_eq_false_iff_ne,ne_eq,decide_eq_decide]
 omega
theorem gV (e:AG):Gx e=decide (e.C.X=0/\e.C.Y=0):=by
 rw [Bool.eq_iff_iff,decide_eq_true_eq]
 unfold Gx
 simp only [Bool.and_eq_true,decide_eq_true_eq,and_true]
theorem Ht (a0 a1 a2:AD) (k:Int):(bif bif Ao a0 then Ao a1 else false then Ao a2 else false)=decide (FX ⟨k,a0,a1,a2⟩):=by
 rw [Bool.eq_iff_iff,decide_eq_true_eq]
 unfold FX
 simp only [GL,Bool.and_eq_true,Z5,decide_eq_true_eq,and_assoc]
theorem ok_b1 (a0 a1 a2:AD):(bif decide (FX ⟨1,a0,a1,a2⟩) then Gx ⟨1,a0,a1,a2⟩ else false)=decide (OkE ⟨1,a0,a1,a2⟩):=by
 rw [Bool.eq_iff_iff,decide_eq_true_eq]
 unfold OkE SN
 rw [gV]
 simp [GL]
theorem kH (a0 a1 a2:AD):(bif decide (FX ⟨2,a0,a1,a2⟩) then EJ ⟨2,a0,a1,a2⟩ else false)=decide (OkE ⟨2,a0,a1,a2⟩):=by
 rw [Bool.eq_iff_iff,decide_eq_true_eq]
 unfold OkE SN
 by_cases h:FX ⟨2,a0,a1,a2⟩
 ·rw [gY _ h];simp [GL,h]
 simp [h]
theorem kG (a0 a1 a2:AD):(bif decide (FX ⟨3,a0,a1,a2⟩) then Ds ⟨3,a0,a1,a2⟩ else false)=decide (OkE ⟨3,a0,a1,a2⟩):=by
 rw [Bool.eq_iff_iff,decide_eq_true_eq]
 unfold OkE SN
 by_cases h:FX ⟨3,a0,a1,a2⟩
 ·rw [XS _ h];simp [GL,h]
 simp [h]
theorem Rm {e:AG} (h:OkE e):e.Kind=1\/e.Kind=2\/e.Kind=3:=by
 obtain ⟨_,h⟩:=h
 rcases h with ⟨h,_⟩ | ⟨h,_⟩ | ⟨h,_⟩ <;> simp [h]
theorem Tu (e:AG):Em e=GI e:=by
 obtain ⟨k,a0,a1,a2⟩:=e
 unfold Em
 by_cases k1:k=1
 ·subst k1
  simp only [if_true,KI,Z09,Z02,Z01,Z00]
  rw [Ht a0 a1 a2 1,ok_b1]
  unfold GI
  simp [LD]
 by_cases k2:k=2
 ·subst k2
  simp only [k1,if_false,if_true,KH,Z0a,Z05,Z04,Z03]
  rw [Ht a0 a1 a2 2,kH]
  unfold GI
  simp [LD]
 by_cases k3:k=3
 ·subst k3
  simp only [k1,k2,if_false,if_true,KG,Z0b,Z08,Z07,Z06]
  rw [Ht a0 a1 a2 3,kG]
  unfold GI
  simp [LD]
 simp only [k1,k2,k3,if_false,I0]
 rw [Ht a0 a1 a2 k]
 unfold GI
 rw [if_neg (fun h=>by have:=Rm h;simp only at this;omega)]
 simp only [GL]
 simp only [LD,Bool.and_eq_true,decide_eq_true_eq,Bool.not_eq_true',decide_eq_false_iff_not]
theorem Mp (e:AG):B4 e=GI e:=by
 obtain ⟨k,a0,a1,a2⟩:=e
 unfold B4 Z0h Z0g GI
 by_cases hk:1<=k/\k<=3
 ·by_cases hr:FX ⟨k,a0,a1,a2⟩
  ·obtain ⟨ha,hb,hc⟩:=id hr
   have hs:∀ p q,Ad p q=A3 p q:=fun _ _=>rfl
   simp only [hs,Pq]
   simp only at ha hb hc
   simp only [JU ha hc,JU hb hc,ha,hb,hc]
   unfold RP C27 at ha hb hc
   have hd:decide (k<1)=false:=by simp;omega
   have hd':decide (3<k)=false:=by simp;omega
   rw [hd,hd']
   simp only [decide_true,Bool.not_true,cond_false,hr,not_true,and_false,if_false]
   have k3:k=1\/k=2\/k=3:=by omega
   rcases k3 with rfl | rfl | rfl
   ·simp only [OkE,SN,hr,true_and,decide_true,cond_true,QL,QR]
    by_cases h1:a2.X=0 <;> by_cases h2:a2.Y=0 <;> simp [h1,h2,hr]
   ·simp only [OkE,SN,hr,true_and,QL,QR,Odd,E6]
    simp only [PG,Bool.and_true]
    simp only [LD,Bool.or_eq_true,Bool.not_eq_true',Bool.and_eq_false_iff,decide_eq_true_eq,decide_eq_false_iff_not,beq_iff_eq,decide_eq_decide]
    simp only [Int.reduceEq,if_false,and_false,false_and,false_or,or_false,if_true,and_true,Bool.and_eq_false_iff,decide_eq_false_iff_not,Bool.and_true]
    by_cases h1:a0.X-a2.X=0 <;> by_cases h2:a0.Y-a2.Y=0 <;> simp only [h1,h2,true_or,if_true,iff_self,iff_true,iff_false,true_iff,false_iff,not_true,not_false_eq_true,false_and,true_and,if_false,false_or,or_false,true_and] <;> (try rfl) <;> split <;> split <;> first | rfl | (exfalso;omega)
   simp only [OkE,SN,hr,true_and,QL,QR,Odd,E6]
   simp only [PG,Bool.and_true]
   simp only [LD,Bool.or_eq_true,Bool.not_eq_true',Bool.and_eq_false_iff,decide_eq_true_eq,decide_eq_false_iff_not,beq_iff_eq,decide_eq_decide]
   simp only [Int.reduceEq,if_false,and_false,false_and,false_or,or_false,if_true,and_true,Bool.and_eq_false_iff,decide_eq_false_iff_not,Bool.and_true]
   by_cases h1:a0.X-a2.X=0 <;> by_cases h2:a0.Y-a2.Y=0 <;> simp only [h1,h2,true_or,if_true,iff_self,iff_true,iff_false,true_iff,false_iff,not_true,not_false_eq_true,false_and,true_and,if_false,false_or,or_false,true_and] <;> (try rfl) <;> split <;> split <;> first | rfl | (exfalso;omega)
  rw [if_neg (fun h=>hr h.1),if_pos ⟨hk,hr⟩]
  have hd:decide (k<1)=false:=by simp;omega
  have hd':decide (3<k)=false:=by simp;omega
  rw [hd,hd']
  simp only [Pq,cond_false]
  have:(bif bif !decide (RP a0) then true else !decide (RP a1) then true else !decide (RP a2))=true:=by
   simp only [PG,Bool.or_eq_true,Bool.not_eq_true',decide_eq_false_iff_not]
   unfold FX at hr
   simp only at hr
   by_cases h0:RP a0 <;> by_cases h1:RP a1 <;> by_cases h2:RP a2 <;> simp_all
  rw [this]
  rfl
 rw [if_neg (fun h=>by have:=Rm h;simp only at this;omega),if_neg (fun h=>hk h.1)]
 have:(bif decide (k<1) then true else decide (3<k))=true:=by
  simp only [PG,Bool.or_eq_true,decide_eq_true_eq];omega
 rw [this]
 rfl
def cr (a b p:AD):Int:=(b.X-a.X)*(p.Y-a.Y)-(b.Y-a.Y)*(p.X-a.X)
def d2 (p c:AD):Int:=(p.X-c.X)*(p.X-c.X)+(p.Y-c.Y)*(p.Y-c.Y)
def InB (e:AG) (p:AD):Prop:=(min e.A.X e.B.X<=p.X/\p.X<=max e.A.X e.B.X)/\min e.A.Y e.B.Y<=p.Y/\p.Y<=max e.A.Y e.B.Y
instance (e:AG) (p:AD):Decidable (InB e p):=by unfold InB;infer_instance
def Mv (e:AG):Prop:=e.C.X<e.A.X\/e.C.X<e.B.X
instance (e:AG):Decidable (Mv e):=by unfold Mv;infer_instance
def Bey (e:AG) (p:AD):Prop:=if e.Kind=1 then (if e.A.Y<e.B.Y then 0<cr e.A e.B p else cr e.A e.B p<0) else if Mv e then d2 p e.C<d2 e.A e.C else d2 e.A e.C<d2 p e.C
instance (e:AG) (p:AD):Decidable (Bey e p):=by unfold Bey;infer_instance
def InR (e:AG) (p:AD):Prop:=(min e.A.Y e.B.Y<=p.Y/\p.Y<max e.A.Y e.B.Y)/\p.X<max e.A.X e.B.X
instance (e:AG) (p:AD):Decidable (InR e p):=by unfold InR;infer_instance
theorem XD {e:AG} (h:OkE e) (hk:e.Kind≠1):Odd e/\((e.B.X-e.C.X = -(e.A.Y-e.C.Y)/\e.B.Y-e.C.Y=e.A.X-e.C.X)\/(e.B.X-e.C.X=e.A.Y-e.C.Y/\e.B.Y-e.C.Y = -(e.A.X-e.C.X))):=by
 obtain ⟨_,h⟩:=h
 rcases h with ⟨h,_⟩ | ⟨h,h1,h2⟩ | ⟨h,h1,h2⟩
 ·exact absurd h hk
 ·exact ⟨h1,.inl h2⟩
 exact ⟨h1,.inr h2⟩
theorem Pt {e:AG} (h:Odd e):(e.A.X-e.C.X=0/\e.A.Y-e.C.Y≠0)\/(e.A.X-e.C.X≠0/\e.A.Y-e.C.Y=0):=by
 unfold Odd at h
 by_cases h1:e.A.X-e.C.X=0 <;> by_cases h2:e.A.Y-e.C.Y=0 <;> simp_all
def jE (e:AG):Int:=if OkE e/\e.Kind≠1 then max (e.A.X-e.C.X) (-(e.A.X-e.C.X))+max (e.A.Y-e.C.Y) (-(e.A.Y-e.C.Y)) else 0
theorem WO {k:Int} {a0 a1 a2:AD} (h:OkE ⟨k,a0,a1,a2⟩) (hk:k≠1):max (max (max (A3 a0 a2).X (W64 (0-(A3 a0 a2).X))) (A3 a0 a2).Y) (W64 (0-(A3 a0 a2).Y))=max (a0.X-a2.X) (-(a0.X-a2.X))+max (a0.Y-a2.Y) (-(a0.Y-a2.Y)):=by
 have ho:=Pt (XD h hk).1
 obtain ⟨ha,hb,hc⟩:=h.1
 simp only at ha hb hc ho
 rw [JU ha hc]
 unfold RP C27 at *
 simp only [E6]
 omega
theorem lA (e:AG):E8 e=jE e:=by
 obtain ⟨k,a0,a1,a2⟩:=e
 unfold E8 jE
 by_cases k1:k=1
 ·subst k1
  simp [H9,Z0c,Z02,Z01,Z00]
 by_cases k2:k=2
 ·subst k2
  simp only [k1,if_false,if_true,H8,Z0d,Z05,Z04,Z03]
  rw [Ht a0 a1 a2 2,kH]
  by_cases h:OkE ⟨2,a0,a1,a2⟩
  ·simp only [h,decide_true,Bool.not_true,cond_false,WO h (by decide)];simp
  simp [h]
 by_cases k3:k=3
 ·subst k3
  simp only [k1,k2,if_false,if_true,H7,Z0e,Z08,Z07,Z06]
  rw [Ht a0 a1 a2 3,kG]
  by_cases h:OkE ⟨3,a0,a1,a2⟩
  ·simp only [h,decide_true,Bool.not_true,cond_false,WO h (by decide)];simp
  simp [h]
 simp only [k1,k2,k3,if_false,Jp]
 rw [if_neg]
 intro h
 have:=Rm h.1
 simp only at this
 omega
theorem mZ (e:AG):decide (GI e=0)=decide (OkE e):=by
 unfold GI
 by_cases h:OkE e
 ·simp [h]
 simp only [h,if_false,decide_false,decide_eq_false_iff_not]
 split <;> omega
theorem fK (e:AG):ET e=jE e:=by
 unfold ET jE
 rw [Mp,mZ]
 have hs:∀ p q,Ad p q=A3 p q:=fun _ _=>rfl
 by_cases k1:e.Kind=1
 ·simp [k1]
 by_cases h:OkE e
 ·have ho:=Pt (XD h k1).1
  obtain ⟨ha,hb,hc⟩:=h.1
  simp only [k1,h,decide_true,decide_false,cond_false,Bool.not_true,ES,hs,JU ha hc,ne_eq,not_false_eq_true,and_self,if_true]
  unfold RP C27 at *
  simp only [E6]
  omega
 simp [h]
theorem PC {α:Type} [Inhabited α] {l:List α} {k:Nat} (h:k<l.length):l.drop k=l.getD k default::l.drop (k+1):=by
 rw [List.drop_eq_getElem_cons h,List.getD_eq_getElem?_getD,List.getElem?_eq_getElem h]
 rfl
def PH:List AG->Int
 | []=>0
 | e::l=>if GI e=0 then PH l else GI e
def Iy (s:AX):Prop:=(∀ i,i+1<s.Edges.length->(s.Edges.getD i default).B=(s.Edges.getD (i+1) default).A)/\(s.Kind=2->(s.Edges.getD (s.Edges.length-1) default).B=(s.Edges.getD 0 default).A)
open Classical in
noncomputable def SO (s:AX):Int :=
 if ¬ (s.Kind=1\/s.Kind=2)\/s.Edges.length=0\/(s.Kind=2/\s.Edges.length<2) then 12
 else if 40<s.Edges.length then 2
 else if PH s.Edges≠0 then PH s.Edges
 else if ¬ Iy s then 12
 else if (s.Kind=2/\s.R≠0)\/s.R<0\/4194304<s.R then 3 else 0
def SG (s:AX) (x:Nat):Bool := !(decide ((jnA s.Edges x).B.X=(jnB s.Edges x).A.X)&&(decide ((jnA s.Edges x).B.Y=(jnB s.Edges x).A.Y)&&true))
theorem XB (s:AX) (x:Nat):SG s x=false↔(jnA s.Edges x).B=(jnB s.Edges x).A:=by
 unfold SG
 generalize (jnA s.Edges x).B=a
 generalize (jnB s.Edges x).A=b
 obtain ⟨a1,a2⟩:=a
 obtain ⟨b1,b2⟩:=b
 simp
def TX (s:AX):Int:=bif bif bif bif decide ((s.Kind:Int)=2) then !decide ((s.R:Int)=0) else false then true else decide ((s.R:Int)<0) then true else decide ((4194304:Int)<s.R) then 3 else 0
theorem Lf (s:AX):TX s=if (s.Kind=2/\s.R≠0)\/s.R<0\/4194304<s.R then 3 else 0:=by
 unfold TX
 simp only [GL,PG]
 simp only [LD,Bool.or_eq_true,Bool.and_eq_true,decide_eq_true_eq,Bool.not_eq_true',decide_eq_false_iff_not,or_assoc]
theorem kB (s:AX) (v:Int) (K:Int->Int):∀ m x,DJ s v K m x=if (List.range' x m).any (SG s) then 12 else TX s
 | 0,x=>rfl
 | m+1,x=>by
  show (bif SG s x then (12:Int) else DJ s v K m (x+1))=_
  rw [kB s v K m (x+1),List.range'_succ,List.any_cons]
  cases SG s x
  ·simp only [Bool.false_or,cond_false]
  simp only [Bool.true_or,cond_true,if_true]
theorem Va (s:AX) (h:1<=s.Edges.length):((List.range' 0 (jnN s.Edges (decide (s.Kind=2)))).any (SG s)=false)↔Iy s:=by
 rw [List.any_eq_false]
 have key:(∀ x∈List.range' 0 (jnN s.Edges (decide (s.Kind=2))),¬ SG s x=true)↔∀ x,x<jnN s.Edges (decide (s.Kind=2))->(jnA s.Edges x).B=(jnB s.Edges x).A:=by
  constructor
  ·intro hh x hx
   have:=hh x (by simp;omega)
   exact (XB s x).1 (by simpa using this)
  intro hh x hx
  have hx':x<jnN s.Edges (decide (s.Kind=2)):=by simpa using hx
  have:=(XB s x).2 (hh x hx')
  simp [this]
 rw [key]
 unfold Iy jnN jnA jnB
 constructor
 ·intro hh
  refine ⟨fun i hi => ?_,fun hk => ?_⟩
  ·have:=hh i (by omega)
   simpa only [hi,if_true] using this
  have:=hh (s.Edges.length-1) (by simp [hk])
  simpa only [show ¬ s.Edges.length-1+1<s.Edges.length by omega,if_false] using this
 rintro ⟨h1,h2⟩ x hx
 by_cases hi:x+1<s.Edges.length
 ·simpa only [hi,if_true] using h1 x hi
 have hk:s.Kind=2:=by
  cases hd:decide (s.Kind=2) with
  | true=>exact oT hd
  | false=>rw [hd] at hx;simp only [cond_false] at hx;omega
 simpa only [hi,if_false] using h2 hk
open Classical in
theorem bZ (s:AX) (h1:1<=s.Edges.length):∀ n k:Nat,k<=s.Edges.length->s.Edges.length-k<n->C4 s n (k:Int)=if PH (s.Edges.drop k)≠0 then PH (s.Edges.drop k) else if ¬ Iy s then 12 else TX s
 | 0,k,hk,hn=>by omega
 | n+1,k,hk,hn=>by
  unfold C4
  by_cases hlt:k<s.Edges.length
  ·rw [decide_eq_true (show (k:Int)<(s.Edges.length:Int) by omega)]
   simp only [cond_true,Int.toNat_natCast]
   rw [PC hlt]
   simp only [PH,Tu]
   have ih:=bZ s h1 n (k+1) (by omega) (by omega)
   by_cases h0:GI (s.Edges.getD k default)=0
   ·simp only [h0,if_true,decide_true,Bool.not_true,cond_false]
    rw [show ((k:Int)+1)=((k+1:Nat):Int) by omega,ih]
   simp only [h0,if_false,decide_false,Bool.not_false,cond_true,ne_eq,not_false_eq_true,if_true]
  rw [decide_eq_false (show ¬ (k:Int)<(s.Edges.length:Int) by omega)]
  simp only [cond_false]
  rw [List.drop_of_length_le (by omega),PH,kB]
  have:=Va s h1
  by_cases hj:Iy s
  ·rw [this.2 hj];simp [hj]
  have hb:(List.range' 0 (jnN s.Edges (decide (s.Kind=2)))).any (SG s)=true:=by
   cases hh:(List.range' 0 (jnN s.Edges (decide (s.Kind=2)))).any (SG s) with
   | true=>rfl
   | false=>exact absurd (this.1 hh) hj
  rw [hb];simp [hj]
theorem YB (s:AX):EC s=SO s:=by
 unfold EC SO
 by_cases hk1:s.Kind=1
 ·simp only [hk1,decide_true,Bool.not_true,cond_false,true_or,not_true,false_or,show ¬ ((1:Int)=2) by decide,decide_false,false_and,or_false]
  by_cases h0:s.Edges.length=0
  ·simp [h0]
  simp only [show ¬ (s.Edges.length:Int)=0 by omega,h0,decide_false,cond_false,if_false]
  by_cases h40:40<s.Edges.length
  ·simp only [show (40:Int)<(s.Edges.length:Int) by omega,h40,decide_true,cond_true,if_true]
  simp only [show ¬ (40:Int)<(s.Edges.length:Int) by omega,h40,decide_false,cond_false,if_false]
  have:=bZ s (by omega) (((s.Edges.length:Int)-0).toNat+1) 0 (by omega) (by omega)
  rw [show ((0:Nat):Int)=0 from rfl] at this
  rw [this,List.drop_zero,Lf]
  simp only [hk1,show ¬ ((1:Int)=2) by decide,false_and,false_or]
 by_cases hk2:s.Kind=2
 ·simp only [hk2,decide_true,Bool.not_true,cond_false,cond_true,or_true,not_true,false_or,true_and,show ¬ ((2:Int)=1) by decide,decide_false,Bool.not_false]
  by_cases h0:s.Edges.length=0
  ·simp [h0]
  simp only [show ¬ (s.Edges.length:Int)=0 by omega,h0,decide_false,cond_false,if_false,false_or]
  by_cases h2:s.Edges.length<2
  ·simp only [show (s.Edges.length:Int)<2 by omega,h2,decide_true,cond_true,if_true]
  simp only [show ¬ (s.Edges.length:Int)<2 by omega,h2,decide_false,cond_false,if_false]
  by_cases h40:40<s.Edges.length
  ·simp only [show (40:Int)<(s.Edges.length:Int) by omega,h40,decide_true,cond_true,if_true]
  simp only [show ¬ (40:Int)<(s.Edges.length:Int) by omega,h40,decide_false,cond_false,if_false]
  have:=bZ s (by omega) (((s.Edges.length:Int)-0).toNat+1) 0 (by omega) (by omega)
  rw [show ((0:Nat):Int)=0 from rfl] at this
  rw [this,List.drop_zero,Lf]
  simp only [hk2,true_and]
 simp [hk1,hk2]
theorem Tw (l:List AG) (hl:l.length<=1000000):∀ n k:Nat,1<=k->l.length-k<n->(E0 l n (k:Int)=true↔∀ i,k<=i+1->i+1<l.length->(l.getD i default).B=(l.getD (i+1) default).A)
 | 0,k,hk,hn=>by omega
 | n+1,k,hk,hn=>by
  unfold E0
  by_cases hlt:k<l.length
  ·rw [decide_eq_true (show (k:Int)<(l.length:Int) by omega)]
   have e1:(W64 ((k:Int)-1)).toNat=k-1:=by rw [Ap (by omega) (by omega)];omega
   simp only [cond_true,Int.toNat_natCast]
   rw [e1,show ((k:Int)+1)=((k+1:Nat):Int) by omega]
   have ih:=Tw l hl n (k+1) (by omega) (by omega)
   have eq:(decide ((l.getD k default).A.X=(l.getD (k-1) default).B.X)&&(decide ((l.getD k default).A.Y=(l.getD (k-1) default).B.Y)&&true))=true↔(l.getD (k-1) default).B=(l.getD k default).A:=by
    rw [Bool.and_eq_true,Bool.and_eq_true,decide_eq_true_eq,decide_eq_true_eq]
    constructor
    ·intro h
     generalize (l.getD (k-1) default).B=u at *;generalize (l.getD k default).A=v at *
     cases u;cases v;simp only at h;rw [h.1,h.2.1]
    intro h;rw [h];exact ⟨rfl,rfl,rfl⟩
   cases hb:(decide ((l.getD k default).A.X=(l.getD (k-1) default).B.X)&&(decide ((l.getD k default).A.Y=(l.getD (k-1) default).B.Y)&&true)) with
   | true =>
    rw [hb] at eq
    simp only [Bool.not_true,cond_false]
    rw [ih]
    constructor
    ·intro h i h1 h2
     by_cases q:i+1=k
     ·have:=eq.1 rfl
      rw [show k-1=i by omega] at this
      rw [q];exact this
     exact h i (by omega) h2
    exact fun h i h1 h2=>h i (by omega) h2
   | false =>
    rw [hb] at eq
    simp only [Bool.not_false,cond_true,Bool.false_eq_true,false_iff]
    intro h
    have:=h (k-1) (by omega) (by omega)
    rw [show k-1+1=k by omega] at this
    exact absurd (eq.2 this) (by decide)
  rw [decide_eq_false (show ¬ (k:Int)<(l.length:Int) by omega)]
  simp only [cond_false,true_iff]
  intro i h1 h2;omega
theorem dM (l:List AG) (hl:l.length<=1000000):E7 l=true↔∀ i,i+1<l.length->(l.getD i default).B=(l.getD (i+1) default).A:=by
 unfold E7
 have:=Tw l hl (((l.length:Int)-1).toNat+1) 1 (Nat.le_refl _) (by omega)
 rw [show ((1:Nat):Int)=1 from rfl] at this
 rw [this]
 exact ⟨fun h i h2=>h i (by omega) h2,fun h i _ h2=>h i h2⟩
open Classical in
theorem Mo (s:AX) (hl:1<=s.Edges.length/\s.Edges.length<=40):∀ n k:Nat,k<=s.Edges.length->s.Edges.length-k<n->Ca s n (k:Int)=if PH (s.Edges.drop k)≠0 then PH (s.Edges.drop k) else if ¬ Iy s then 12 else TX s
 | 0,k,hk,hn=>by omega
 | n+1,k,hk,hn=>by
  unfold Ca
  by_cases hlt:k<s.Edges.length
  ·rw [decide_eq_true (show (k:Int)<(s.Edges.length:Int) by omega)]
   simp only [cond_true,Int.toNat_natCast]
   rw [PC hlt]
   simp only [PH,Mp]
   have ih:=Mo s hl n (k+1) (by omega) (by omega)
   by_cases h0:GI (s.Edges.getD k default)=0
   ·simp only [h0,if_true,decide_true,Bool.not_true,cond_false]
    rw [show ((k:Int)+1)=((k+1:Nat):Int) by omega,ih]
   simp only [h0,if_false,decide_false,Bool.not_false,cond_true,ne_eq,not_false_eq_true,if_true]
  rw [decide_eq_false (show ¬ (k:Int)<(s.Edges.length:Int) by omega)]
  simp only [cond_false]
  rw [List.drop_of_length_le (by omega),PH]
  have e1:(W64 ((s.Edges.length:Int)-1)).toNat=s.Edges.length-1:=by rw [Ap (by omega) (by omega)];omega
  have hJ:(bif !(E7 s.Edges) then true else bif decide ((s.Kind:Int)=2) then !((decide ((s.Edges.getD 0 default).A.X=(Z0l s).X)&&(decide ((s.Edges.getD 0 default).A.Y=(Z0l s).Y)&&true))) else false)=false↔Iy s:=by
   unfold Z0l Iy
   rw [e1,<- dM s.Edges (by omega)]
   have eq:(decide ((s.Edges.getD 0 default).A.X=(s.Edges.getD (s.Edges.length-1) default).B.X)&&(decide ((s.Edges.getD 0 default).A.Y=(s.Edges.getD (s.Edges.length-1) default).B.Y)&&true))=true↔(s.Edges.getD (s.Edges.length-1) default).B=(s.Edges.getD 0 default).A:=by
    rw [Bool.and_eq_true,Bool.and_eq_true,decide_eq_true_eq,decide_eq_true_eq]
    constructor
    ·intro h
     generalize (s.Edges.getD (s.Edges.length-1) default).B=u at *;generalize (s.Edges.getD 0 default).A=v at *
     cases u;cases v;simp only at h;rw [h.1,h.2.1]
    intro h;rw [h];exact ⟨rfl,rfl,rfl⟩
   rw [<- eq]
   generalize (decide ((s.Edges.getD 0 default).A.X=(s.Edges.getD (s.Edges.length-1) default).B.X)&&(decide ((s.Edges.getD 0 default).A.Y=(s.Edges.getD (s.Edges.length-1) default).B.Y)&&true))=g
   by_cases hk2:s.Kind=2
   ·rw [decide_eq_true hk2];simp only [hk2,true_implies]
    cases E7 s.Edges <;> cases g <;> simp
   rw [decide_eq_false hk2];simp only [hk2,false_implies]
   cases E7 s.Edges <;> cases g <;> simp
  by_cases hj:Iy s
  ·rw [hJ.2 hj];simp only [hj,cond_false,not_true,if_false,ne_eq];rfl
  cases hb:(bif !(E7 s.Edges) then true else bif decide ((s.Kind:Int)=2) then !((decide ((s.Edges.getD 0 default).A.X=(Z0l s).X)&&(decide ((s.Edges.getD 0 default).A.Y=(Z0l s).Y)&&true))) else false) with
  | false=>exact absurd (hJ.1 hb) hj
  | true=>simp only [hj,cond_true,not_false_eq_true,if_true,ne_eq,not_true,if_false]
theorem YC (s:AX):EW s=EC s:=by
 rw [YB]
 unfold EW SO
 by_cases hk1:s.Kind=1
 ·simp only [hk1,decide_true,cond_true,true_or,not_true,false_or,show ¬ ((1:Int)=2) by decide,decide_false,false_and,or_false]
  by_cases h0:s.Edges.length=0
  ·simp [h0]
  simp only [show ¬ (s.Edges.length:Int)<1 by omega,h0,decide_false,cond_false,if_false]
  by_cases h40:40<s.Edges.length
  ·simp only [show (40:Int)<(s.Edges.length:Int) by omega,h40,decide_true,cond_true,if_true]
  simp only [show ¬ (40:Int)<(s.Edges.length:Int) by omega,h40,decide_false,cond_false,if_false]
  have:=Mo s (by omega) (((s.Edges.length:Int)-0).toNat+1) 0 (by omega) (by omega)
  rw [show ((0:Nat):Int)=0 from rfl] at this
  rw [this,List.drop_zero,Lf]
  simp only [hk1,show ¬ ((1:Int)=2) by decide,false_and,false_or]
 by_cases hk2:s.Kind=2
 ·simp only [hk2,decide_true,cond_true,or_true,not_true,false_or,true_and,show ¬ ((2:Int)=1) by decide,decide_false,cond_false]
  by_cases h2:s.Edges.length<2
  ·simp only [show (s.Edges.length:Int)<2 by omega,h2,decide_true,cond_true,if_true,or_true]
  simp only [show ¬ (s.Edges.length:Int)<2 by omega,show ¬ s.Edges.length=0 by omega,h2,decide_false,cond_false,if_false,or_self]
  by_cases h40:40<s.Edges.length
  ·simp only [show (40:Int)<(s.Edges.length:Int) by omega,h40,decide_true,cond_true,if_true]
  simp only [show ¬ (40:Int)<(s.Edges.length:Int) by omega,h40,decide_false,cond_false,if_false]
  have:=Mo s (by omega) (((s.Edges.length:Int)-0).toNat+1) 0 (by omega) (by omega)
  rw [show ((0:Nat):Int)=0 from rfl] at this
  rw [this,List.drop_zero,Lf]
  simp only [hk2,true_and]
 simp [hk1,hk2]
theorem iK (e:AG):D0 e=FO e:=by
 unfold D0 FO
 rw [Tu,Mp,lA,fK,eS (by unfold Gr;exact (LP _).2)]
 rfl
theorem Zs (s:AX):∀ (n:Nat) (v k:Int),HO s.Edges n v k=EQ s n v k
 | 0,v,k=>rfl
 | n+1,v,k=>by
  unfold HO EQ
  rw [iK,Zs s n]
theorem Z1 (s:AX):Fg s=Di s:=by
 unfold Fg Di QX
 rw [YC,Zs]
def I64 (x:Int):Prop := -9223372036854775808<=x/\x<=9223372036854775807
theorem Wt:I64 0:=⟨by decide,by decide⟩
theorem bF (b:AC) (net:ByteArray) (hn:(net.toList==({ data := #[] }:ByteArray).toList)=false):∀ (n:Nat) (v k:Int),I64 v->F5 b.Tracks net n v k=Ex b net n v k
 | 0,v,k,_=>rfl
 | n+1,v,k,hv=>by
  unfold F5 Ex
  rw [hn]
  have e:W64 (v+L5 (b.Tracks.getD k.toNat default) net)=bif Z0o b k net then W64 (v+Di (b.Tracks.getD k.toNat default).Shape) else v:=by
   unfold L5 Z0o
   cases ((b.Tracks.getD k.toNat default).Net.toList==net.toList) with
   | true=>rw [Z1];rfl
   | false =>
    show W64 (v+0)=v
    rw [Int.add_zero]
    exact Ap hv.1 hv.2
  by_cases hc:k<(b.Tracks.length:Int)
  ·rw [decide_eq_true hc]
   simp only [cond_true,Bool.not_false]
   rw [<- e]
   exact bF b net hn n _ _ (LP _)
  rw [decide_eq_false hc]
  rfl
theorem MX (b:AC) (net:ByteArray):Bj b net=Ch b net:=by
 unfold Bj Ch
 cases h:Z0n net with
 | true =>
  unfold Z0n at h
  unfold Ex
  rw [h]
  cases decide ((0:Int)<(b.Tracks.length:Int)) <;> rfl
 | false =>
  unfold Z0n at h
  exact bF b net h _ _ _ Wt
theorem SZ (xs:List AO) (net:ByteArray):∀ (n:Nat) (v k:Int),I64 v->I64 (F5 xs net n v k)
 | 0,v,k,_=>Wt
 | n+1,v,k,hv=>by
  unfold F5
  by_cases hc:k<(xs.length:Int)
  ·rw [decide_eq_true hc,cond_true];exact SZ xs net n _ _ (LP _)
  rw [decide_eq_false hc,cond_false];exact hv
theorem gS (b:AC) (net:ByteArray):I64 (Bj b net):=by
 unfold Bj
 cases Z0n net with
 | true=>exact Wt
 | false=>exact SZ _ _ _ _ _ Wt
theorem ba_eq {a b:ByteArray}:(a.toList==b.toList)=true↔a=b:=by
 have:=Vg a b
 unfold eqS at this
 rw [this,Value.string.injEq]
theorem bG {l:List (ByteArray×Int)} {k:ByteArray} {v:Int} {e:ByteArray×Int} (h:e∈K6 eqS l k v):e=(k,v)\/e∈l:=by
 unfold K6 at h
 cases hm:El eqS l k with
 | true =>
  rw [hm] at h
  simp only [cond_true] at h
  rcases List.mem_or_eq_of_mem_set h with h | h
  ·exact .inr h
  exact .inl h
 | false =>
  rw [hm] at h
  simp only [cond_false] at h
  rcases List.mem_append.1 h with h | h
  ·exact .inr h
  exact .inl (List.mem_singleton.1 h)
theorem Wo {L:ByteArray->Int} {l:List (ByteArray×Int)} (h:∀ e∈l,e.2=L e.1) (k:ByteArray):(bif !(El eqS l k) then L k else (bif El eqS l k then (l.getD (Dm eqS l k) default).2 else 0))=L k:=by
 cases hm:El eqS l k with
 | false=>rfl
 | true =>
  simp only [Bool.not_true,cond_false,cond_true]
  obtain ⟨h1,h2,_⟩:=Oy hm
  rw [List.getD_eq_getElem?_getD,List.getElem?_eq_getElem h1] at h2 ⊢
  have hk:(l[Dm eqS l k]).1=k:=by unfold eqS at h2;exact ba_eq.1 h2
  have:=h _ (List.getElem_mem h1)
  show (l[Dm eqS l k]).2=L k
  rw [this,hk]
theorem aB {b:AC} {ls:List (ByteArray×Int)} (h:∀ e∈ls,e.2=Bj b e.1) (c:Bool) (k:ByteArray):∀ e∈(bif c then K6 eqS ls k (Bj b k) else ls),e.2=Bj b e.1:=fun e he=>by
 cases c with
 | true =>
  rcases bG he with rfl | he
  ·rfl
  exact h e he
 | false=>exact h e he
theorem Pi (b:AC) (m:AN):∀ (n:Nat) (ls:List (ByteArray×Int)) (low high k:Int),(∀ e∈ls,e.2=Bj b e.1)->Dg b m n ls low high k=D5 b m n low high k
 | 0,ls,low,high,k,_=>rfl
 | n+1,ls,low,high,k,h=>by
  unfold Dg D5
  have ex:(bif !(Z0p ls m k) then (Bj b (m.Nets.getD k.toNat default)) else (bif El eqS ls (m.Nets.getD k.toNat default) then (ls.getD (Dm eqS ls (m.Nets.getD k.toNat default)) default).2 else 0))=Bj b (m.Nets.getD k.toNat default):=Wo h _
  rw [ex,Pi b m n _ _ _ _ (aB h _ _),MX]
theorem MS (b:AC) (m:AN):Ac b m=Aj b m:=by
 unfold Ac Aj
 by_cases h0:(m.Nets.length:Int)=0
 ·rw [decide_eq_true h0];rfl
 rw [decide_eq_false h0]
 simp only [cond_false]
 obtain ⟨j,hj⟩:∃ j,m.Nets.length=j+1:=⟨m.Nets.length-1,by omega⟩
 have e1:((m.Nets.length:Int)-0).toNat+1=(j+1)+1:=by omega
 have e2:((m.Nets.length:Int)-1).toNat+1=j+1:=by omega
 rw [e1,e2]
 unfold Dg
 have hc:(0:Int)<(m.Nets.length:Int):=by omega
 have hx:=gS b (m.Nets.getD 0 default)
 have ex:(bif !(Z0p [] m 0) then (Bj b (m.Nets.getD (0:Int).toNat default)) else (bif El eqS [] (m.Nets.getD (0:Int).toNat default) then (([]:List (ByteArray×Int)).getD (Dm eqS [] (m.Nets.getD (0:Int).toNat default)) default).2 else 0))=Bj b (m.Nets.getD (0:Int).toNat default):=Wo (fun e he=>by cases he) _
 rw [decide_eq_true hc,cond_true,ex,Pi b m (j+1) _ _ _ _ (aB (fun e he=>by cases he) _ _)]
 have l1:min 9223372036854775807 (Bj b (m.Nets.getD (0:Int).toNat default))=Ch b (m.Nets.getD 0 default):=by
  rw [<- MX];exact Int.min_eq_right hx.2
 have l2:max (-9223372036854775808) (Bj b (m.Nets.getD (0:Int).toNat default))=Ch b (m.Nets.getD 0 default):=by
  rw [<- MX];exact Int.max_eq_right hx.1
 rw [l1,l2]
 rfl
theorem Wd (c:FG) (raw:AC) (names v10:List ByteArray) (v41 v66 v66':Int) (K0:List ByteArray->Int->Bool) (K1 K2:Int->Bool):∀ (n i:Nat),v10.length-i<n->CZ c raw names v10 v41 v66 v66' K0 K1 K2 n (i:Int)=true
 | 0,i,h=>absurd h (Nat.not_lt_zero _)
 | n+1,i,h=>by
  rw [CZ]
  have ih:=Wd c raw names v10 v41 v66 v66' K0 K1 K2 n (i+1)
  rw [show ((i+1:Nat):Int)=(i:Int)+1 by omega] at ih
  simp only [MX,MS,decide_true,Bool.not_true,beq_self_eq_true,cond_false]
  by_cases hc:(i:Int)<((v10.length:Nat):Int)
  ·rw [decide_eq_true hc,cond_true]
   exact ih (by omega)
  rw [decide_eq_false hc,cond_false]
  exact kZ
theorem We (c:FG) (raw:AC) (names v10:List ByteArray) (v41 v66:Int) (K0:List ByteArray->Int->Bool) (K1:Int->Bool):∀ (n i:Nat),v10.length-i<n->CA c raw names v10 v41 v66 K0 K1 n (i:Int)=true
 | 0,i,h=>absurd h (Nat.not_lt_zero _)
 | n+1,i,h=>by
  rw [CA]
  have ih:=We c raw names v10 v41 v66 K0 K1 n (i+1)
  rw [show ((i+1:Nat):Int)=(i:Int)+1 by omega] at ih
  simp only [MX,MS,decide_true,Bool.not_true,beq_self_eq_true,cond_false]
  by_cases hc:(i:Int)<((v10.length:Nat):Int)
  ·rw [decide_eq_true hc,cond_true]
   exact ih (by omega)
  rw [decide_eq_false hc,cond_false]
  exact Wd c raw names v10 v41 v66 _ K0 K1 _ _ 0 (by omega)
theorem Wf (c:FG) (raw:AC) (names v10:List ByteArray) (v41:Int) (K0:List ByteArray->Int->Bool):∀ (n i:Nat),v10.length-i<n->Br c raw names v10 v41 K0 n (i:Int)=true
 | 0,i,h=>absurd h (Nat.not_lt_zero _)
 | n+1,i,h=>by
  rw [Br]
  have ih:=Wf c raw names v10 v41 K0 n (i+1)
  rw [show ((i+1:Nat):Int)=(i:Int)+1 by omega] at ih
  simp only [MX,MS,decide_true,Bool.not_true,beq_self_eq_true,cond_false]
  by_cases hc:(i:Int)<((v10.length:Nat):Int)
  ·rw [decide_eq_true hc,cond_true]
   exact ih (by omega)
  rw [decide_eq_false hc,cond_false]
  exact We c raw names v10 v41 _ K0 _ _ 0 (by omega)
theorem Wg (c:FG) (raw:AC) (names:List ByteArray):∀ (n:Nat) (v:List ByteArray) (k:Int),(((AP c.Board).1.Nets.length:Int)-k).toNat<n->Bs c raw names n v k=true
 | 0,v,k,h=>absurd h (Nat.not_lt_zero _)
 | n+1,v,k,h=>by
  rw [Bs]
  by_cases hc:k<((AP c.Board).1.Nets.length:Int)
  ·rw [decide_eq_true hc,cond_true]
   exact Wg c raw names n _ _ (by omega)
  rw [decide_eq_false hc,cond_false]
  exact Wf c raw names v k _ _ 0 (by omega)
theorem NV (c:FG) (raw:AC) (names:List ByteArray):EM c raw names=true:=Wg c raw names _ _ _ (by omega)
section
open Go.ChangeShapes Go.WideShapes Go.ChangeAt Go.RowKit
theorem Lc (os:Os) (started:os.Started) (H:Type) (enc:TypeId×Value->H) :
  ReturnsInHanded {} Try.checked os 6 .any (Rows.lengthNetsSpec.pre6 enc Try.prog Try.f6 Rows.lengthNetsRow.domain false) (Rows.lengthNetsSpec.post enc Try.prog Try.f6 false true false false):=by
 refine returnsInHanded_of_change (C:=Try.checked) own started kr Try.func6
  (ChangeSpec.witness6 (enc:=enc) (C:=Try.checked) false ⟨#[],#[.agg #[.slice none 0 0,.slice none 0 0,.slice none 0 0,.int .i64 0,.int .i64 0,.int .i64 0],.agg #[.int .i64 0,.int .i64 0,.slice none 0 0,.int .i64 0,.slice none 0 0,.slice none 0 0,.slice none 0 0,.slice none 0 0,.slice none 0 0,.slice none 0 0,.slice none 0 0,.slice none 0 0,.slice none 0 0,.slice none 0 0,.slice none 0 0],.slice none 0 0],[]⟩ 8 kr kr kr kr) ?_
 intro W base args ds gs before hval0 hW hcnd _
 have hval:∀ (j:Nat) t v,Try.f6.params[j]? = some t->args[j]? = some v->Value.okWide Try.prog W .any base t v:=hval0
 have hW':=hW
 obtain ⟨p,q,hA0,hV,rfl,hfz,hnd⟩:=hW
 have hA:DataW.TrodAll enc Try.prog W 0 (fun _=>true) true Try.f6.params.toList args.toList ds p:=hA0
 rw [Try.params6] at hA hval
 obtain ⟨v0,vs0,d0,ds0,p0,q0,hargs,rfl,rfl,h0,r0⟩:=trodAll_cons hA
 obtain ⟨v1,vs1,d1,ds1,p1,q1,rfl,rfl,rfl,h1,r1⟩:=trodAll_cons r0
 obtain ⟨v2,vs2,d2,ds2,p2,q2,rfl,rfl,rfl,h2,r2⟩:=trodAll_cons r1
 obtain ⟨rfl,rfl,rfl⟩:=trodAll_nil r2
 obtain rfl:args = #[v0,v1,v2]:=by cases args;simp_all
 obtain ⟨c,kc,x0⟩:=S4 opT29 (.inl ⟨_,Try.underlying29⟩) (hval 0 29 v0 rfl rfl) h0
 obtain ⟨raw,kraw,x1⟩:=S4 opT62 (.inl ⟨_,Try.underlying62⟩) (hval 1 62 v1 rfl rfl) h1
 obtain ⟨names,knames,x2⟩:=aT aU (.inl ⟨_,Try.underlying63⟩) (hval 2 63 v2 rfl rfl) h2
 clear hA0 hval0
 refine (TW (Sz c raw names (La kc.1.1) (La kc.2.2.1.1) (fun x hx=>La (kc.2.2.1.2 x hx).1) (La knames.1)) (NV c raw names) (.cons x0 (.cons x1 (.cons x2 .nil)))).mono fun e W' ⟨he,hb⟩ => ?_
 subst he
 exact ⟨_,rfl,bY hW' rfl rfl gZ (by rw [Try.params6];exact List.forall_mem_cons.2 ⟨⟨by kernel_rfl,oT (by kernel_rfl)⟩,List.forall_mem_cons.2 ⟨⟨by kernel_rfl,oT (by kernel_rfl)⟩,List.forall_mem_cons.2 ⟨⟨by kernel_rfl,oT (by kernel_rfl)⟩,List.forall_mem_nil _⟩⟩⟩) rfl Try.underlying4 hb⟩
theorem lengthNets_holds:Rows.LengthNetsSaid :=
 OpenClaim.holds_of_wide 6 Try.f6 rfl rfl rfl rfl rfl rfl rfl ⟨rfl,rfl,rfl,rfl,rfl⟩ rfl rfl rfl rfl rfl kr Try.func6 kr
  (oT (by kernel_rfl)) (by unfold Func.isWrapper;first | (rw [if_pos (by decide +kernel)];kernel_rfl) | (rw [if_neg (by decide +kernel)];exact ⟨rfl,rfl⟩))
  (fun os started H enc _=>Lc os started H enc)
#print axioms lengthNets_holds
end
end Go.Proofs.Ytgmhnkoifdpemaa
