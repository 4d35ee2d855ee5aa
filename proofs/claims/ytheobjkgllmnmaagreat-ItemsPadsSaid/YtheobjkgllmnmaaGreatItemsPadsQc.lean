/-
  No statement is proved in this text. It holds a part of what the proof of ItemsPads needs.
-/
import Derived.Test.YtheobjkgllmnmaaGreatItemsPadsQb
namespace Go.Proofs.YtheobjkgllmnmaaGreat
set_option maxRecDepth 100000
set_option linter.unusedVariables false
set_option linter.unusedSimpArgs false
open Go.RowKit
section
open Go.RowKit Go.MapKept
section
variable {K V:Type} [Inhabited K] [Inhabited V]
def kfG (ck:K->Value) (l:List (K×V)):Nat->Value:=fun i=>ck (l.getD i default).1
def vfG (c:V->List Cl) (l:List (K×V)):Nat->Nat->Cl:=fun i j=>(c (l.getD i default).2).getD j default
def El (eq:K->K->Bool) (l:List (K×V)) (k:K):Bool:=l.any fun e=>eq e.1 k
def DY (eq:K->K->Bool) (l:List (K×V)) (k:K):Nat:=l.findIdx fun e=>eq e.1 k
def JL (eq:K->K->Bool) (l:List (K×V)) (k:K) (v:V):List (K×V):=bif El eq l k then l.set (DY eq l k) (k,v) else l++[(k,v)]
theorem Vu {eq:K->K->Bool} {l:List (K×V)} {k:K} (h:El eq l k=true):DY eq l k<l.length/\eq (l.getD (DY eq l k) default).1 k=true/\∀ j,j<DY eq l k->eq (l.getD j default).1 k=false:=by
 unfold El at h
 obtain ⟨x,hx,hxk⟩:=List.any_eq_true.1 h
 have hlt:l.findIdx (fun e=>eq e.1 k)<l.length:=List.findIdx_lt_length.2 ⟨x,hx,hxk⟩
 refine ⟨hlt,?_,fun j hj => ?_⟩
 ·have:=List.findIdx_getElem (w:=hlt)
  unfold DY
  rw [List.getD_eq_getElem?_getD,List.getElem?_eq_getElem hlt]
  exact this
 have:=List.not_of_lt_findIdx hj
 have hj':j<l.length:=Nat.lt_trans hj hlt
 rw [List.getD_eq_getElem?_getD,List.getElem?_eq_getElem hj']
 exact this
theorem rA {eq:K->K->Bool} {l:List (K×V)} {k:K} (h:El eq l k=false):∀ j,j<l.length->eq (l.getD j default).1 k=false:=by
 intro j hj
 unfold El at h
 have:=(List.any_eq_false.1 h) l[j] (List.getElem_mem hj)
 rw [List.getD_eq_getElem?_getD,List.getElem?_eq_getElem hj]
 simpa using this
theorem V4 {P:Program} {E:TypeId->Option (List Kd)} {kt:TypeId} {ck:K->Value} {eq:K->K->Bool} (heq:∀ a b,eq a b=true↔ck a=ck b) (hfit:∀ k,FS P E kt (ck k)) (l:List (K×V)) (k:K) :
  We P E kt l.length (kfG ck l) (ck k) (El eq l k) (DY eq l k):=by
 refine ⟨hfit k,fun j _=>hfit _,fun h => ?_,fun h j hj => ?_⟩
 ·obtain ⟨h1,h2,h3⟩:=Vu h
  refine ⟨h1,(heq _ _).1 h2,fun j hj e => ?_⟩
  have:=(heq _ _).2 e
  rw [h3 j hj] at this
  cases this
 intro e
 have:=(heq _ _).2 e
 rw [rA h j hj] at this
 cases this
omit [Inhabited K] [Inhabited V] in
theorem Vp (eq:K->K->Bool) (l:List (K×V)) (k:K) (v:V):(bif El eq l k then l.length else l.length+1)=(JL eq l k v).length:=by
 unfold JL
 cases El eq l k <;> simp
theorem Vq {eq:K->K->Bool} {l:List (K×V)} {k:K} {v:V} (j:Nat) (hj:j<(JL eq l k v).length):(JL eq l k v).getD j default=bif Nat.beq j (bif El eq l k then DY eq l k else l.length) then (k,v) else l.getD j default:=by
 rw [<- Vp] at hj
 unfold JL
 cases h:El eq l k with
 | true =>
  rw [h] at hj
  simp only [cond_true] at *
  have hlt:=(Vu h).1
  rw [List.getD_eq_getElem?_getD,List.getElem?_set,CS]
  by_cases e:DY eq l k=j
  ·subst e;simp [hlt]
  rw [if_neg e,decide_eq_false (Ne.symm e),cond_false,List.getD_eq_getElem?_getD]
 | false =>
  rw [h] at hj
  simp only [cond_false] at *
  rw [List.getD_eq_getElem?_getD,CS]
  by_cases e:j=l.length
  ·subst e
   rw [decide_eq_true rfl,cond_true,List.getElem?_append_right (Nat.le_refl _),Nat.sub_self]
   rfl
  rw [decide_eq_false e,cond_false,List.getElem?_append_left (by omega),List.getD_eq_getElem?_getD]
theorem mT {ck:K->Value} {cv:V->List Cl} {eq:K->K->Bool} {agg:Bool} {nv:Nat} (l:List (K×V)) (k:K) (v:V) (cells:List Cl) (hc:cells=cv v) :
  ID (.omap agg nv (bif El eq l k then l.length else l.length+1) (fun j=>bif Nat.beq j (bif El eq l k then DY eq l k else l.length) then ck k else kfG ck l j) (fun j c=>bif Nat.beq j (bif El eq l k then DY eq l k else l.length) then cells.getD c default else vfG cv l j c))
   (.omap agg nv (JL eq l k v).length (kfG ck (JL eq l k v)) (vfG cv (JL eq l k v))):=by
 subst hc
 refine .omap agg nv (Vp eq l k v) (fun j hj => ?_) (fun j c hj _ => ?_)
 ·unfold kfG
  rw [Vq j hj]
  cases Nat.beq j (bif El eq l k then DY eq l k else l.length) <;> rfl
 have:(bif Nat.beq j (bif El eq l k then DY eq l k else l.length) then (cv v).getD c default else vfG cv l j c)=vfG cv (JL eq l k v) j c:=by
  unfold vfG
  rw [Vq j hj]
  cases Nat.beq j (bif El eq l k then DY eq l k else l.length) <;> rfl
 rw [this]
 exact .refl _
theorem mU {ck:K->Value} {cv:V->List Cl} {agg:Bool} {nv:Nat}:ID (.omap agg nv 0 (fun _=>undef) (fun _ _=>default)) (.omap agg nv ([]:List (K×V)).length (kfG ck ([]:List (K×V))) (vfG cv ([]:List (K×V)))) :=
 .omap agg nv rfl (fun j hj=>absurd hj (Nat.not_lt_zero _)) (fun j c hj _=>absurd hj (Nat.not_lt_zero _))
end
def eqS (a b:ByteArray):Bool:=a.toList==b.toList
theorem Yj (a b:ByteArray):eqS a b=true↔Value.string a=Value.string b:=by
 unfold eqS
 rw [beq_iff_eq,Value.string.injEq]
 exact ⟨mX,fun h=>by rw [h]⟩
end
section
open Go.RowKit Go.MapKept
section
variable {P:Program}
def Wr2 (P:Program) (f:FuncId) (K L:Nat) (xs:List Av) (b0 d0:Blk) (r:Tv) (b1 d1:Blk):Prop:=∀ (M:Nat->Option Obj) (σ:Nat->Loc) (w:World) (args:List Value),(∀ b o,M b=some o->w.heap[b]? = some o) ->
 (BX M σ w (σ K) b0/\(σ K).nil=false/\M (σ K).b=none)->(BX M σ w (σ L) d0/\(σ L).nil=false/\M (σ L).b=none)->(σ K).b≠(σ L).b->L2 (RA M σ) xs args ->
 Calls P f args.toArray w fun en w'=>∃ U,en=.returned U/\∃ M',Gg w w' M M' (fun b=>only (σ K) b\/only (σ L) b)/\(∀ σ',RT M' σ' r U)/\(∀ σ',BX M' σ' w' (σ K) b1)/\∀ σ',BX M' σ' w' (σ L) d1
theorem QK {f:FuncId} {fn:Func} {c:Code} (hf:P.funcs[f]? = some fn) (hb:fn.body=some c) {K L:Nat} {xs:List Av} {b0 d0 b1 d1:Blk} {r:Tv} (hN:Nat.ble xs.length fn.ntmps=true) (hK:Nat.ble fn.ntmps K=true) (hL:Nat.ble fn.ntmps L=true) (hKL:Nat.beq K L=false) (hd:r.dv=true) (hd1:KY b1=true) (hd2:KY d1=true)
  (h:∀ (W0:World) (M0:Nat->Option Obj) (X:Nat->Option Loc),(∀ k x,X k=some x->Au [K,L] k=true)->AWp P none fn.ntmps W0 X M0 c (Rg P fn.ntmps W0 X M0 fn fun r' s'=>TvE r' r/\(∃ b,get s'.h K=some b/\ID b b1)/\∃ b,get s'.h L=some b/\ID b d1) ⟨Dw 0 xs,[(K,b0),(L,d0)]⟩):Wr2 P f K L xs b0 d0 r b1 d1:=by
 intro M σ w args himm ⟨hblk,hnil,hM⟩ ⟨hblk2,hnil2,hM2⟩ hbne hargs
 have hne:K≠L:=fun e=>by rw [e,Nat.beq_refl] at hKL;cases hKL
 let X:Nat->Option Loc:=upd (upd noX K (some (σ K))) L (some (σ L))
 have hXL:X L=some (σ L):=BH _ _ _
 have hXK:X K=some (σ K):=by
  show upd _ L _ K=_
  rw [CK _ _ hne];exact BH _ _ _
 have one:∀ n b,get [(K,b0),(L,d0)] n=some b->(n=K/\b=b0)\/(n=L/\b=d0):=fun n b hn=>by
  simp only [get,CS] at hn
  by_cases hk:K=n
  ·simp [hk] at hn;exact .inl ⟨hk.symm,hn.symm⟩
  by_cases hl:L=n
  ·simp [hk,hl] at hn;exact .inr ⟨hl.symm,hn.symm⟩
  simp [hk,hl] at hn
 have pins:∀ n x,X n=some x->(n=K/\x=σ K)\/(n=L/\x=σ L):=fun n x hx=>by
  by_cases hl:n=L
  ·subst hl;rw [hXL] at hx;injection hx with hx;exact .inr ⟨rfl,hx.symm⟩
  by_cases hk:n=K
  ·subst hk;rw [hXK] at hx;injection hx with hx;exact .inl ⟨rfl,hx.symm⟩
  simp only [X] at hx;rw [CK _ _ hl,CK _ _ hk] at hx;cases hx
 have hXm:∀ k x,X k=some x->Au [K,L] k=true:=fun k x hk=>by
  rcases pins k x hk with ⟨rfl,_⟩ | ⟨rfl,_⟩
  ·unfold Au;rw [Nat.beq_refl];rfl
  unfold Au;rw [hKL];exact Mu _
 refine EW (X:=X) (σ:=σ) (h0:=[(K,b0),(L,d0)]) hf hb (Nat.le_of_ble_eq_true hN) himm hargs (fun n b hn => ?_) (fun n b hn => ?_) (fun n x hx => ?_) (fun n m b c hn hm hnm => ?_) (DH (h w M X hXm)) ?_
 ·rcases one n b hn with ⟨rfl,rfl⟩ | ⟨rfl,rfl⟩
  ·exact hblk
  exact hblk2
 ·rcases one n b hn with ⟨rfl,rfl⟩ | ⟨rfl,rfl⟩
  ·exact .inr ⟨hM,n,σ n,hXK,rfl⟩
  exact .inr ⟨hM2,n,σ n,hXL,rfl⟩
 ·rcases pins n x hx with ⟨rfl,rfl⟩ | ⟨rfl,rfl⟩
  ·exact ⟨Nat.le_of_ble_eq_true hK,rfl⟩
  exact ⟨Nat.le_of_ble_eq_true hL,rfl⟩
 ·rcases one n b hn with ⟨rfl,rfl⟩ | ⟨rfl,rfl⟩ <;> rcases one m c hm with ⟨rfl,rfl⟩ | ⟨rfl,rfl⟩
  ·exact absurd rfl hnm
  ·exact .inr (.inr hbne)
  ·exact .inr (.inr fun e=>hbne e.symm)
  exact absurd rfl hnm
 rintro r' s' M' σ' a' w' U ⟨he,⟨b,hb1,hbe⟩,e,he1,hee⟩ hs hR
 have hpin:=(hs.pin K _ hXK).2
 have hbk:=hs.blk K _ hb1
 rw [hpin] at hbk
 have hpin2:=(hs.pin L _ hXL).2
 have hbk2:=hs.blk L _ he1
 rw [hpin2] at hbk2
 refine ⟨U,rfl,M',⟨hs.os,hs.tape,hs.output,hs.size,fun b hb hne=>hs.old b hb ?_,hs.sub,hs.new,hs.imm⟩,fun σ''=>HU hd (MR he hR),fun σ''=>F6 hd1 (Jm hbe hbk),fun σ''=>F6 hd2 (Jm hee hbk2)⟩
 rintro ⟨n,x,hx,rfl⟩
 rcases pins n x hx with ⟨rfl,rfl⟩ | ⟨rfl,rfl⟩
 ·exact hne (.inl ⟨hnil,rfl⟩)
 exact hne (.inr ⟨hnil2,rfl⟩)
def Fd (K n L m:Nat):Av->Av
 | .one (.ptr q off)=>.one (.ptr (bif Nat.beq q K then n else bif Nat.beq q L then m else q) off)
 | x=>x
def QW (K L:Nat):Av->Bool
 | .one (.ptr q _)=>bif Nat.beq q K then true else Nat.beq q L
 | x=>x.dv
def uK (n m:Nat) (b0 d0:Blk) (r:Tv) (b1 d1:Blk):Ef:=.wrs [n,m] [] fun bs _=>some ([bs=[b0,d0]],r,[b1,d1])
theorem SK {w w':World} {M M':Nat->Option Obj} {p q:Nat->Prop} (h:Gg w w' M M' p) (hp:∀ b,p b->q b):Gg w w' M M' q :=
 ⟨h.os,h.tape,h.output,h.size,fun b hb hn=>h.old b hb fun h1=>hn (hp b h1),h.sub,h.new,h.imm⟩
theorem Yq {f:FuncId} {K L n m:Nat} {xs:List Av} {b0 d0 b1 d1:Blk} {r:Tv} (h1:∀ args w,(callFunc f args).run P w=.ok (.enter f args) w) (hx:xs.all (QW K L)=true) (hKL:Nat.beq K L=false) (hnm:Nat.beq n m=false) (hd0:KY b0=true) (hd2:KY d0=true) (h:Wr2 P f K L xs b0 d0 r b1 d1):Eo P f (xs.map (Fd K n L m)) (uK n m b0 d0 r b1 d1):=by
 have hne:K≠L:=fun e=>by rw [e,Nat.beq_refl] at hKL;cases hKL
 have hnm':n≠m:=fun e=>by rw [e,Nat.beq_refl] at hnm;cases hnm
 refine .inl ⟨h1,fun M σ w hh args cs' g hs hargs hres hc => ?_⟩
 simp only [uK,res,H8] at hres
 cases hn:hh n with
 | none=>rw [hn] at hres;cases hres
 | some b =>
  cases hm:hh m with
  | none=>rw [hn,hm] at hres;cases hres
  | some d =>
   rw [hn,hm] at hres
   simp only [List.length_cons,List.length_nil,Nat.beq_refl,Option.some.injEq,Prod.mk.injEq] at hres
   obtain ⟨rfl,rfl⟩:=hres
   have hbd:=hc.head
   injection hbd with e1 e2
   injection e2 with e2 _
   subst e1;subst e2
   have hblk:=hs.blk n _ hn
   have hblk2:=hs.blk m _ hm
   have nilOf:∀ {q:Nat} {bq:Blk},KY bq=true->BX M σ w (σ q) bq->(σ q).nil=false:=fun {q bq} hd hb=>by
    cases bq with
    | row=>cases hd
    | omap=>cases hd
    | rowx=>cases hd
    | cells l ty=>exact hb.1
   have hnil:=nilOf hd0 hblk
   have hnil2:=nilOf hd2 hblk2
   have hM:M (σ n).b=none:=by
    rcases hs.loc n _ hn with h | h
    ·rw [hnil] at h;cases h
    exact h
   have hM2:M (σ m).b=none:=by
    rcases hs.loc m _ hm with h | h
    ·rw [hnil2] at h;cases h
    exact h
   have hbne:(σ n).b≠(σ m).b:=by
    rcases hs.inj n m _ _ hn hm hnm' with h | h | h
    ·rw [hnil] at h;cases h
    ·rw [hnil2] at h;cases h
    exact h
   let σ2:Nat->Loc:=upd (upd σ K (σ n)) L (σ m)
   have hL:σ2 L=σ m:=BH _ _ _
   have hK:σ2 K=σ n:=by
    show upd _ L _ K=_
    rw [CK _ _ hne];exact BH _ _ _
   have hargs2:L2 (RA M σ2) xs args:=by
    refine L2.of (by have:=hargs.length;simpa using this) fun i x V hxi hV => ?_
    obtain ⟨V',hV',hR⟩:=hargs.get i (Fd K n L m x) (by rw [List.getElem?_map,hxi];rfl)
    rw [hV] at hV';injection hV' with hV';subst hV'
    have hok:=(List.all_eq_true.1 hx) x (List.mem_of_getElem? hxi)
    unfold QW at hok
    split at hok
    ·rename_i q off
     by_cases hq:q=K
     ·subst hq
      simp only [Fd,Nat.beq_refl,cond_true] at hR
      have hR':V=.pointer (some ⟨(σ n).b,off,none⟩):=hR
      show V=.pointer (some ⟨(σ2 q).b,off,none⟩)
      rw [hK];exact hR'
     have hqb:Nat.beq q K=false:=by
      cases hb:Nat.beq q K with
      | false=>rfl
      | true=>exact absurd (Nat.eq_of_beq_eq_true hb) hq
     rw [hqb] at hok
     have:=Nat.eq_of_beq_eq_true hok
     subst this
     simp only [Fd,hqb,Nat.beq_refl,cond_true,cond_false] at hR
     have hR':V=.pointer (some ⟨(σ m).b,off,none⟩):=hR
     show V=.pointer (some ⟨(σ2 q).b,off,none⟩)
     rw [hL];exact hR'
    rename_i hnp
    have:Fd K n L m x=x:=by
     unfold Fd
     split
     ·rename_i q off;exact (hnp q off rfl).elim
     rfl
    rw [this] at hR
    exact HU (σ':=σ2) (r:=.av x) hok hR
   refine (h M σ2 w args hs.imm (by rw [hK];exact ⟨F6 hd0 hblk,hnil,hM⟩) (by rw [hL];exact ⟨F6 hd2 hblk2,hnil2,hM2⟩) (by rw [hK,hL];exact hbne) hargs2).mono ?_
   rintro en w' ⟨U,hU,M',hk,hR,hb,hb2⟩
   rw [hK,hL] at hk
   have g1:get ([n,m].zip [b1,d1]) n=some b1:=by simp [get,CS]
   have g2:get ([n,m].zip [b1,d1]) m=some d1:=by simp [get,CS,hnm']
   refine ⟨U,hU,fun dst _=>⟨M',σ,SK hk fun b hb => ?_,rfl,hR σ,fun q bq hq => ?_⟩⟩
   ·rcases hb with h | h
    ·exact ⟨n,by rw [g1];rfl,h⟩
    exact ⟨m,by rw [g2];rfl,h⟩
   have h1:=hb σ
   have h2:=hb2 σ
   rw [hK] at h1
   rw [hL] at h2
   by_cases e:q=n
   ·subst e;rw [g1] at hq;injection hq with hq;subst hq;exact h1
   by_cases e2:q=m
   ·subst e2;rw [g2] at hq;injection hq with hq;subst hq;exact h2
   simp [get,CS,Ne.symm e,Ne.symm e2] at hq
end
end
section
open Go.RowKit Go.MapKept
section
variable {P:Program} {rd:Option Nat} {N:Nat} {W0:World} {X:Nat→Option Loc} {M0:Nat→Option Obj} {Q:Exit→AS→Prop} {s:AS}
theorem WY {c:Code} (b:Bool) (h1:b=true->AWp P rd N W0 X M0 c Q s) (h2:b=false->AWp P rd N W0 X M0 c Q s):AWp P rd N W0 X M0 c Q s:=by
 cases hb:b with
 | true=>exact h1 hb
 | false=>exact h2 hb
def AWL (P:Program) (rd:Option Nat) (N:Nat) (W0:World) (X:Nat->Option Loc) (M0:Nat->Option Obj) (ops:Array Oper) (l:List Oper) (K:AS->Prop) (s:AS):Prop :=
 ∀ M σ a w,Sim N W0 X M0 M σ (get s.t) (get s.h) a w->∀ Q':Exit->Act->World->Prop,(∀ s' M' σ' a' w',K s'->Sim N W0 X M0 M' σ' (get s'.t) (get s'.h) a' w'->Q' .normal a' w')->wpListIn (FW rd) 0 P ops Q' l a w
theorem EX {id:Nat} {l:List Oper} (h:AWL P rd N W0 X M0 l.toArray l (Q .normal) s):AWp P rd N W0 X M0 (.region id l.toArray false) Q s:=by
 intro M σ a w hs
 exact wpIn_region_lit (h M σ a w hs _ fun s' M' σ' a' w' hk hs'=>⟨s',M',σ',hk,hs'⟩)
theorem QU {V:Env P} (hV:Jv P V) {ops:Array Oper} {Q':Exit->Act->World->Prop} (l2:List Oper):∀ (l:List Oper) (s s1:AS) (cs:List Prop),Mh P V N ops l s=some (cs,s1)->Bi cs->∀ M σ a w,Sim N W0 X M0 M σ (get s.t) (get s.h) a w->(∀ M' σ' a' w',Sim N W0 X M0 M' σ' (get s1.t) (get s1.h) a' w'->wpListIn (FW rd) 0 P ops Q' l2 a' w')->wpListIn (FW rd) 0 P ops Q' (l++l2) a w
 | [],s,s1,cs,hr,hc,M,σ,a,w,hs,hK=>by
  simp only [Mh,Option.some.injEq,Prod.mk.injEq] at hr
  obtain ⟨_,rfl⟩:=hr
  exact hK M σ a w hs
 | o::l,s,s1,cs,hr,hc,M,σ,a,w,hs,hK=>by
  simp only [Mh] at hr
  split at hr
  ·rename_i cs1 s2 h1
   split at hr
   ·rename_i ds s3 h2
    simp only [Option.some.injEq,Prod.mk.injEq] at hr
    obtain ⟨rfl,rfl⟩:=hr
    obtain ⟨hc1,hc2⟩:=hc.append
    refine wpListIn_step fun K hK' => ?_
    refine QP hV h1 hc1 hs (fun _ _=>rfl) (fun _ _=>rfl) (fun hn d hd=>QN h1 hn hd) fun M' σ' a' w' hs'=>hK' _ _ (QU hV l2 l s2 s3 ds h2 hc2 M' σ' a' w' ?_ hK)
    rw [(EU h1).1,(EU h1).2]
    exact hs'
   cases hr
  cases hr
def R1 (P:Program) (V:Env P) (N:Nat) (ops:Array Oper) (l:List Oper) (ts hs:List Nat) (s:AS):Option (List Prop×AS):=match Mh P V N ops l s with
 | some (cs,s1)=>some (cs,LM ts hs s1)
 | none=>none
theorem Hp {E:TypeId->Option (List Kd)} (hE:Io P ⟨fun _=>none,E,fun _=>false,fun _=>none⟩) {ops:Array Oper} {l:List Oper} {K:AS->Prop} (k:Nat) (ow:List Nat) (qs:List (Nat×(Bool×Nat))) (tbl:List (Nat×FuncId×List Av×Ef)) (ts ns:List Nat) (cs:List Prop) (S:AS) (htbl:Gm P tbl)
  (hr:R1 P ⟨EI tbl,E,Au ow,get qs⟩ N ops (l.take k) ts ns s=some (cs,S)) (hc:Bi cs) (h:AWL P rd N W0 X M0 ops (l.drop k) K S):AWL P rd N W0 X M0 ops l K s:=by
 have hV:=htbl.env (O:=Au ow) (q:=get qs) hE
 intro M σ a w hs Q' hQ'
 unfold R1 at hr
 split at hr
 ·rename_i cs1 s1 h1
  simp only [Option.some.injEq,Prod.mk.injEq] at hr
  obtain ⟨rfl,rfl⟩:=hr
  have key:=QU (Q':=Q') (rd:=rd) hV (l.drop k) (l.take k) s s1 cs1 h1 hc M σ a w hs fun M' σ' a' w' hs'=>h M' σ' a' w' (EA hs' ts ns) Q' hQ'
  rw [List.take_append_drop] at key
  exact key
 cases hr
theorem GL {E:TypeId->Option (List Kd)} (hE:Io P ⟨fun _=>none,E,fun _=>false,fun _=>none⟩) {ops:Array Oper} {l:List Oper} {K:AS->Prop} (ow:List Nat) (qs:List (Nat×(Bool×Nat))) (tbl:List (Nat×FuncId×List Av×Ef)) (ts ns:List Nat) (cs:List Prop) (S:AS) (htbl:Gm P tbl)
  (hr:R1 P ⟨EI tbl,E,Au ow,get qs⟩ N ops l ts ns s=some (cs,S)) (hc:Bi cs) (h:K S):AWL P rd N W0 X M0 ops l K s:=by
 have hV:=htbl.env (O:=Au ow) (q:=get qs) hE
 intro M σ a w hs Q' hQ'
 unfold R1 at hr
 split at hr
 ·rename_i cs1 s1 h1
  simp only [Option.some.injEq,Prod.mk.injEq] at hr
  obtain ⟨rfl,rfl⟩:=hr
  exact PN (Q':=Q') (rd:=rd) hV l s s1 cs1 h1 hc M σ a w hs fun M' σ' a' w' hs'=>hQ' _ M' σ' a' w' h (EA hs' ts ns)
 cases hr
theorem mE (n:Nat) (b b':Blk) (hn:get s.h n=some b) (hb:∀ M σ w x,BX M σ w x b->BX M σ w x b'):Cv N W0 X M0 s ⟨s.t,put s.h n b'⟩:=by
 intro M σ a w hs
 have hk:∀ m c,get (put s.h n b') m=some c->∃ b0,get s.h m=some b0/\(BX M σ w (σ m) b0->BX M σ w (σ m) c):=fun m c hm=>by
  rw [JO] at hm
  split at hm
  ·rename_i e
   subst e
   injection hm with hm
   subst hm
   exact ⟨b,hn,hb M σ w _⟩
  exact ⟨c,hm,id⟩
 refine ⟨M,σ,hs.os,hs.tape,hs.output,hs.size,hs.old,hs.sub,hs.new,hs.pin,hs.defers,hs.room,hs.tmps,hs.imm,fun m c hm => ?_,fun m c hm => ?_,fun m k c c' hm hk' hne => ?_⟩
 ·obtain ⟨b0,e1,e2⟩:=hk m c hm;exact e2 (hs.blk m b0 e1)
 ·obtain ⟨b0,e1,_⟩:=hk m c hm;exact hs.loc m b0 e1
 obtain ⟨b0,e1,_⟩:=hk m c hm;obtain ⟨b0',e1',_⟩:=hk k c' hk';exact hs.inj m k b0 b0' e1 e1' hne
def Sd:Nat->List (List Cl)->List (Nat×List Cl)
 | _,[]=>[]
 | k,l::r=>(k,l)::Sd (k+1) r
theorem Kr:∀ (ls:List (List Cl)) (k i:Nat),get (Sd k ls) i=if k<=i then ls[i-k]? else none
 | [],k,i=>by simp [Sd,get]
 | l::r,k,i=>by
  simp only [Sd,get,CS]
  by_cases h:k=i
  ·subst h;simp
  simp only [h,decide_false,cond_false]
  rw [Kr r (k+1) i]
  by_cases h2:k<=i
  ·rw [if_pos (by omega),if_pos h2,show i-k=(i-(k+1))+1 by omega,List.getElem?_cons_succ]
  rw [if_neg (by omega),if_neg h2]
theorem mB {s:AS} (S:AS) (n sz len:Nat) (f:Nat->Nat->Cl) (ty:TypeId) (hn:get s.h n=some (.row sz len f ty)) (hl:Nat.blt 0 len=true) (hS:(⟨s.t,put s.h n (.rowx sz len (fun _ _=>default) ty (Sd 0 ((List.range len).map fun i=>Gd f i 0 sz)))⟩:AS)=S):Cv N W0 X M0 s S:=by
 subst hS
 have h0:0<len:=by
  have h1:Nat.ble (0+1) len=true:=hl
  exact Nat.le_of_ble_eq_true h1
 refine mE n _ _ hn fun M σ w x hb => ?_
 rcases hb with ⟨_,h⟩ | ⟨e0,c,e1,e2,e3,e4,g,e5⟩
 ·omega
 refine ⟨e0,c,e1,e2,e3,e4,g,fun i j hi hj=>⟨(e5 i j hi hj).1,fun hno => ?_⟩,fun i l hl => ?_⟩
 ·rw [Kr] at hno
  simp [hi] at hno
 rw [Kr,if_pos (Nat.zero_le _),Nat.sub_zero,List.getElem?_map] at hl
 by_cases hi:i<len
 ·rw [List.getElem?_range hi] at hl
  simp only [Option.map_some,Option.some.injEq] at hl
  subst hl
  refine ⟨hi,L2.of (by simp [Dh]) fun j a b ha hb => ?_⟩
  have hj:j<sz:=by have:=(List.getElem?_eq_some_iff.1 ha).1;rwa [Dh] at this
  rw [JS _ _ _ _ _ hj,Nat.zero_add] at ha
  injection ha with ha
  subst ha
  rw [List.getElem?_map,List.getElem?_range hj] at hb
  simp only [Option.map_some,Option.some.injEq] at hb
  subst hb
  exact RN (e5 i j hi hj).2
 rw [List.getElem?_eq_none (by simp;omega)] at hl
 cases hl
theorem mD {s:AS} (S:AS) (n sz len:Nat) (f:Nat->Nat->Cl) (ty:TypeId) (ls:List (List Cl)) (hn:get s.h n=some (.rowx sz len f ty (Sd 0 ls))) (hlen:Nat.beq ls.length len=true) (hsz:ls.all (fun l=>Nat.beq l.length sz&&l.all Cl.dv)=true) (hS:(⟨s.t,put s.h n (.row sz len (As sz len ls.flatten) ty)⟩:AS)=S):Cv N W0 X M0 s S:=by
 subst hS
 have hlen:=Nat.eq_of_beq_eq_true hlen
 refine mE n _ _ hn fun M σ w x hb => ?_
 obtain ⟨e0,c,e1,e2,e3,e4,g,e5,e6⟩:=hb
 refine .inr ⟨e0,c,e1,e2,e3,e4,g,fun i j hi hj=>⟨(e5 i j hi hj).1,?_⟩⟩
 have hil:i<ls.length:=by omega
 have hmem:=List.getElem_mem hil
 have hall:=(List.all_eq_true.1 hsz) _ hmem
 simp only [Bool.and_eq_true] at hall
 have hli:=Nat.eq_of_beq_eq_true hall.1
 obtain ⟨_,hL⟩:=e6 i ls[i] (by rw [Kr,if_pos (Nat.zero_le _),Nat.sub_zero,List.getElem?_eq_getElem hil])
 have hflat:∀ (q:List (List Cl)) (i j:Nat) (hi:i<q.length),(∀ l∈q,l.length=sz)->j<sz->q.flatten[i*sz+j]? = q[i][j]? := by
  intro q
  induction q with
  | nil=>intro i j hi;simp at hi
  | cons l r ih =>
   intro i j hi hall hj
   have h1:=hall l (by simp)
   cases i with
   | zero=>simp [List.getElem?_append,h1,hj]
   | succ i =>
    rw [List.flatten_cons,List.getElem?_append_right (by rw [h1,Nat.add_mul];omega),h1,show (i+1)*sz+j-sz=i*sz+j by rw [Nat.add_mul];omega]
    simpa using ih i j (by simpa using hi) (fun l hl=>hall l (by simp [hl])) hj
 have hjl:j<ls[i].length:=by omega
 rw [WT _ _ _ _ _ hi,List.getD_eq_getElem?_getD,hflat ls i j hil (fun l hl=>by
  have h:=(List.all_eq_true.1 hsz) l hl
  simp only [Bool.and_eq_true] at h
  exact Nat.eq_of_beq_eq_true h.1) hj,List.getElem?_eq_getElem hjl,Option.getD_some]
 obtain ⟨v,hv,hR⟩:=hL.get j _ (List.getElem?_eq_getElem hjl)
 rw [List.getElem?_map,List.getElem?_range hj] at hv
 simp only [Option.map_some,Option.some.injEq] at hv
 subst hv
 exact NJ ((List.all_eq_true.1 hall.2) _ (List.getElem_mem hjl)) hR
end
end
section
open Go.RowKit Go.MapKept
def Rh (is:List Nat):Nat->List Cl->List Cl->List Cl
 | k,x::a,y::b=>(bif Au is k then x else y)::Rh is (k+1) a b
 | _,_,_=>[]
def Xq (is:List Nat) (vs:Nat->Value):Nat->List Cl->List Cl
 | k,y::b=>(bif Au is k then .val (vs k) else y)::Xq is vs (k+1) b
 | _,[]=>[]
section
variable {P:Program} {M M':Nat→Option Obj} {σ σ':Nat→Loc} {w w':World}
theorem ZL (is:List Nat) (vs:Nat->Value):∀ (k:Nat) (l l0:List Cl) (c:List Value),l=Rh is k l l0->l.length=l0.length->(∀ j,j<c.length->vs (k+j)=c.getD j undef)->(∀ x∈l0,x.dv=true\/True)->L2 (R M σ) l c->L2 (R M σ) (Xq is vs k l0) c
 | k,[],[],c,_,_,_,_,h=>by cases h;exact .nil
 | k,[],_::_,c,_,hl,_,_,h=>by simp at hl
 | k,_::_,[],c,_,hl,_,_,h=>by simp at hl
 | k,x::l,y::l0,c,he,hl,hv,hd,h=>by
  cases h with
  | cons h1 h2 =>
   rename_i v c
   simp only [Rh,List.cons.injEq] at he
   refine .cons ?_ (ZL is vs (k+1) l l0 c he.2 (by simpa using hl) (fun j hj=>by
    have:=hv (j+1) (by simp;omega)
    rw [show k+1+j=k+(j+1) by omega,this];rfl) (fun x hx=>.inr trivial) h2)
   cases hm:Au is k with
   | true =>
    have:=hv 0 (by simp)
    simp only [cond_true]
    exact ⟨by rw [show k=k+0 from rfl,this];rfl,by rw [show k=k+0 from rfl,this];exact RK h1⟩
   | false =>
    rw [hm] at he
    simp only [cond_false] at he ⊢
    rw [<- he.1];exact h1
theorem VH (is:List Nat) (vs:Nat->Value) (hM:∀ b o,M b=some o->M' b=some o):∀ (k:Nat) (l l1:List Cl) (c c':List Value),l.length=l1.length->(∀ j,j<c.length->vs (k+j)=c.getD j undef)->L2 (R M σ) l c->L2 (R M' σ) (Xq is vs k l1) c'->L2 (R M' σ) (Rh is k l l1) c'
 | k,[],[],c,c',_,_,_,h=>by cases h;exact .nil
 | k,[],_::_,c,c',hl,_,_,h=>by simp at hl
 | k,_::_,[],c,c',hl,_,_,h=>by simp at hl
 | k,x::l,y::l1,c,c',hl,hv,h0,h=>by
  cases h0 with
  | cons h1 h2 =>
   rename_i v c
   simp only [Xq] at h
   cases h with
   | cons h3 h4 =>
    simp only [Rh]
    refine .cons ?_ (VH is vs hM (k+1) l l1 c _ (by simpa using hl) (fun j hj=>by
     have:=hv (j+1) (by simp;omega)
     rw [show k+1+j=k+(j+1) by omega,this];rfl) h2 h4)
    cases hm:Au is k with
    | true =>
     rw [hm] at h3
     have h5:=h3.1
     have h6:=hv 0 (by simp)
     rw [h5,show k=k+0 from rfl,h6]
     exact Dl hM (fun _ _=>rfl) h1
    | false=>rw [hm] at h3;exact h3
theorem nY {hh:Nat->Option Blk} {f:FuncId} {K L n m:Nat} {xs:List Av} {args:List Value} {b d b0 d0 b1 d1:Blk} {r:Tv} (hx:xs.all (QW K L)=true) (hKL:Nat.beq K L=false) (hnm':n≠m) (hs:Std M σ w hh) (hn:hh n=some b) (hm:hh m=some d) (hnil:(σ n).nil=false) (hnil2:(σ m).nil=false) (hblk:∀ σ',(∀ q,q≠K->q≠L->σ' q=σ q)->BX M σ' w (σ n) b0) (hblk2:∀ σ',BX M σ' w (σ m) d0)
  (hargs:L2 (RA M σ) (xs.map (Fd K n L m)) args) (h:Wr2 P f K L xs b0 d0 r b1 d1):Calls P f args.toArray w (fun en w'=>∃ U,en=.returned U/\∃ M',Gg w w' M M' (fun b=>only (σ n) b\/only (σ m) b)/\(∀ σ',RT M' σ' r U)/\(∀ σ',BX M' σ' w' (σ n) b1)/\∀ σ',BX M' σ' w' (σ m) d1):=by
 have hne:K≠L:=fun e=>by rw [e,Nat.beq_refl] at hKL;cases hKL
 have hM:M (σ n).b=none:=by
  rcases hs.loc n _ hn with h | h
  ·rw [hnil] at h;cases h
  exact h
 have hM2:M (σ m).b=none:=by
  rcases hs.loc m _ hm with h | h
  ·rw [hnil2] at h;cases h
  exact h
 have hbne:(σ n).b≠(σ m).b:=by
  rcases hs.inj n m _ _ hn hm hnm' with h | h | h
  ·rw [hnil] at h;cases h
  ·rw [hnil2] at h;cases h
  exact h
 let σ2:Nat->Loc:=upd (upd σ K (σ n)) L (σ m)
 have hL:σ2 L=σ m:=BH _ _ _
 have hK:σ2 K=σ n:=by
  show upd _ L _ K=_
  rw [CK _ _ hne];exact BH _ _ _
 have hrest:∀ q,q≠K->q≠L->σ2 q=σ q:=fun q h1 h2=>by
  show upd _ L _ q=_
  rw [CK _ _ h2,CK _ _ h1]
 have hargs2:L2 (RA M σ2) xs args:=by
  refine L2.of (by have:=hargs.length;simpa using this) fun i x V hxi hV => ?_
  obtain ⟨V',hV',hR⟩:=hargs.get i (Fd K n L m x) (by rw [List.getElem?_map,hxi];rfl)
  rw [hV] at hV';injection hV' with hV';subst hV'
  have hok:=(List.all_eq_true.1 hx) x (List.mem_of_getElem? hxi)
  unfold QW at hok
  split at hok
  ·rename_i q off
   by_cases hq:q=K
   ·subst hq
    simp only [Fd,Nat.beq_refl,cond_true] at hR
    have hR':V=.pointer (some ⟨(σ n).b,off,none⟩):=hR
    show V=.pointer (some ⟨(σ2 q).b,off,none⟩)
    rw [hK];exact hR'
   have hqb:Nat.beq q K=false:=by
    cases hb:Nat.beq q K with
    | false=>rfl
    | true=>exact absurd (Nat.eq_of_beq_eq_true hb) hq
   rw [hqb] at hok
   have:=Nat.eq_of_beq_eq_true hok
   subst this
   simp only [Fd,hqb,Nat.beq_refl,cond_true,cond_false] at hR
   have hR':V=.pointer (some ⟨(σ m).b,off,none⟩):=hR
   show V=.pointer (some ⟨(σ2 q).b,off,none⟩)
   rw [hL];exact hR'
  rename_i hnp
  have:Fd K n L m x=x:=by
   unfold Fd
   split
   ·rename_i q off;exact (hnp q off rfl).elim
   rfl
  rw [this] at hR
  exact HU (σ':=σ2) (r:=.av x) hok hR
 refine (h M σ2 w args hs.imm (by rw [hK];exact ⟨hblk σ2 hrest,hnil,hM⟩) (by rw [hL];exact ⟨hblk2 σ2,hnil2,hM2⟩) (by rw [hK,hL];exact hbne) hargs2).mono ?_
 rintro en w' ⟨U,hU,M',hk,hR,hb,hb2⟩
 rw [hK,hL] at hk
 refine ⟨U,hU,M',hk,hR,fun σ' => ?_,fun σ' => ?_⟩
 ·have:=hb σ';rw [hK] at this;exact this
 have:=hb2 σ';rw [hL] at this;exact this
def wqV (n m:Nat) (is:List Nat) (l0:List Cl) (ty:TypeId) (d0:Blk) (r:Tv) (d1:Blk):Ef:=.wq m n fun y x=>match x with
 | .cells l ty'=>bif Nat.beq l.length l0.length then some ([Blk.cells l ty'=.cells (Rh is 0 l l0) ty,y=d0],r,d1) else none
 | _=>none
theorem Jd {f:FuncId} {K L n m:Nat} {xs:List Av} {is:List Nat} {l0:List Cl} {ty:TypeId} {d0 d1:Blk} {r:Tv} {B0:(Nat->Value)->List Cl} (h1:∀ args w,(callFunc f args).run P w=.ok (.enter f args) w) (hx:xs.all (QW K L)=true) (hKL:Nat.beq K L=false) (hnm:Nat.beq n m=false) (hd2:KY d0=true) (hdl:∀ vs,(Xq is vs 0 l0).all Cl.dv=true)
  (e0:∀ vs,Xq is vs 0 l0=B0 vs) (h:∀ vs,Wr2 P f K L xs (.cells (B0 vs) ty) d0 r (.cells (B0 vs) ty) d1):Eo P f (xs.map (Fd K n L m)) (wqV n m is l0 ty d0 r d1):=by
 have hnm':n≠m:=fun e=>by rw [e,Nat.beq_refl] at hnm;cases hnm
 refine .inl ⟨h1,fun M σ w hh args cs' g hs hargs hres hc => ?_⟩
 simp only [wqV,res] at hres
 cases hm:hh m with
 | none=>rw [hm] at hres;cases hres
 | some d =>
  cases hn:hh n with
  | none=>rw [hn,hm] at hres;cases hres
  | some b =>
   rw [hn,hm] at hres
   cases b with
   | row=>simp at hres
   | omap=>simp at hres
   | rowx=>simp at hres
   | cells l ty' =>
    simp only at hres
    cases hlen:Nat.beq l.length l0.length with
    | false=>rw [hlen] at hres;simp at hres
    | true =>
     have hmn:Nat.beq m n=false:=by
      cases hb:Nat.beq m n with
      | false=>rfl
      | true=>exact absurd (Nat.eq_of_beq_eq_true hb).symm hnm'
     rw [hlen,hmn] at hres
     simp only [cond_true,Option.some.injEq,Prod.mk.injEq] at hres
     obtain ⟨rfl,rfl⟩:=hres
     have hlen0:=Nat.eq_of_beq_eq_true hlen
     have hbd:=hc.head
     have hdd:=hc.tail.head
     subst hdd
     injection hbd with hl hty
     subst hty
     obtain ⟨hnil,c,hheap,hL⟩:=hs.blk n _ hn
     have hblk2:=hs.blk m _ hm
     have hnil2:(σ m).nil=false:=by
      cases d with
      | row=>cases hd2
      | omap=>cases hd2
      | rowx=>cases hd2
      | cells l ty=>exact hblk2.1
     let vs:Nat->Value:=fun k=>c.getD k undef
     have hvs:∀ j,j<c.length->vs (0+j)=c.getD j undef:=fun j _=>by simp only [vs,Nat.zero_add]
     have hin:L2 (R M σ) (Xq is vs 0 l0) c:=ZL is vs 0 l l0 c hl hlen0 hvs (fun _ _=>.inr trivial) hL
     have hcall:=nY (b0:=Blk.cells (B0 vs) ty') (b1:=Blk.cells (B0 vs) ty') hx hKL hnm' hs hn hm hnil hnil2 (fun σ' _=>⟨hnil,c,hheap,by rw [<- e0 vs];exact hin.mono fun a ha v hv=>(Jw ((List.all_eq_true.1 (hdl vs)) a ha)).2 ((Jw ((List.all_eq_true.1 (hdl vs)) a ha)).1 hv)⟩) (fun σ'=>F6 hd2 hblk2) hargs (h vs)
     refine hcall.mono ?_
     rintro en w' ⟨U,hU,M',hk,hR,hb,hb2⟩
     refine ⟨U,hU,fun dst _=>⟨M',σ,SK hk fun b hb=>hb.symm,rfl,hR σ,hb2 σ,?_⟩⟩
     obtain ⟨k1,c',k2,k3⟩:=hb σ
     refine ⟨k1,c',k2,?_⟩
     rw [<- e0 vs] at k3
     have k4:=VH is vs hk.sub 0 l l0 c c' hlen0 hvs hL k3
     rw [<- hl] at k4
     exact k4
end
end
section
open Go.RowKit Go.MapKept
def ZK (P:Program) (V:Env P) (N:Nat) (o:Oper) (G:Prop) (s:AS):Option (List Prop×AS):=match eff P V o.dst o.op (evG (get s.t) (HI o.op)) with
 | some e=>match res (get s.h) e with
  | some (cs,g)=>bif IZ N s o.dst g then some (LJ (get s.t) G (HI o.op)++cs,WE s o.dst g) else none
  | none=>none
 | none=>none
section
variable {P:Program} {rd:Option Nat} {N:Nat} {W0:World} {X:Nat→Option Loc} {M0:Nat→Option Obj} {s:AS}
theorem RG {E:TypeId->Option (List Kd)} (hE:Io P ⟨fun _=>none,E,fun _=>false,fun _=>none⟩) {ops:Array Oper} {o:Oper} {l:List Oper} {K:AS->Prop} (j:Nat) (want:Bool) (G:Prop) (qs:List (Nat×(Bool×Nat))) (tbl:List (Nat×FuncId×List Av×Ef)) (cs:List Prop) (S:AS) (hg:o.guard=some (j,want)) (hG:Gb (get s.t) ops j want=some G) (hGp:G) (htbl:Gm P tbl)
  (hst:ZK P ⟨EI tbl,E,Au [],get qs⟩ N o G s=some (cs,S)) (hc:Bi cs) (h:AWL P rd N W0 X M0 ops l K S):AWL P rd N W0 X M0 ops (o::l) K s:=by
 have hV:=htbl.env (O:=Au []) (q:=get qs) hE
 intro M σ a w hs Q' hQ'
 refine wpListIn_step fun K0 hK' => ?_
 rw [if_pos ((Ea hs.tmps hs.room hg hG).2 hGp)]
 unfold ZK at hst
 split at hst
 ·rename_i e he
  split at hst
  ·rename_i cs' g hr
   cases hok:IZ N s o.dst g with
   | false=>rw [hok] at hst;cases hst
   | true =>
    rw [hok] at hst
    simp only [cond_true,Option.some.injEq,Prod.mk.injEq] at hst
    obtain ⟨rfl,rfl⟩:=hst
    obtain ⟨hc1,hc2⟩:=hc.append
    have hgo0:=Kq hok (fun n v b hg=>by subst hg;exact Tu hr) (fun l v hg=>by subst hg;exact PO hr) (fun n q v b bq hg=>by subst hg;exact Tw hr) (fun n b v hg=>by subst hg;exact PP hr)
    refine (Ue hV (fun x v hv=>Yg hGp hc1 hs.tmps hv) he hs.std hr hc2 (UY hgo0)).wp ?_ (fun c hc=>by rw [hc] at he;cases he)
    rintro U w' ⟨M',σ',ho⟩
    have hsim:=OA hs ho hgo0
    rw [<- (FP s o.dst g).1,<- (FP s o.dst g).2] at hsim
    exact hK' _ _ (h M' σ' _ w' hsim Q' hQ')
  cases hst
 cases hst
theorem HT {ops:Array Oper} {o:Oper} {l:List Oper} {K:AS->Prop} (j:Nat) (want:Bool) (G:Prop) (S:AS) (hg:o.guard=some (j,want)) (hG:Gb (get s.t) ops j want=some G) (hGn:¬ G) (hok:IZ N s o.dst (.val (.av (.one (.val (.bool false)))))=true) (hS:PG s o.dst (.grd G (.one (.val (.bool false))))=S)
  (h:AWL P rd N W0 X M0 ops l K S):AWL P rd N W0 X M0 ops (o::l) K s:=by
 subst hS
 intro M σ a w hs Q' hQ'
 refine wpListIn_step fun K0 hK' => ?_
 rw [if_neg (fun h=>hGn ((Ea hs.tmps hs.room hg hG).1 h))]
 refine ⟨fun _ _=>trivial,?_⟩
 have hgo0:=Kq hok (fun n v b hg=>by cases hg) (fun l v hg=>by cases hg) (fun n q v b bq hg=>by cases hg) (fun n b v hg=>by cases hg)
 have hsim:=OA hs (g:=.val (.grd G (.one (.val (.bool false))))) (V:=undef) (w':=w) (M':=M) (σ':=σ) ⟨Gg.refl hs.imm _,rfl,fun h=>absurd h hGn,fun _=>rfl⟩ ⟨hgo0.1,trivial⟩
 rw [<- (FP s o.dst _).1,<- (FP s o.dst _).2] at hsim
 exact hK' _ _ (h M σ _ w hsim Q' hQ')
end
end
section
open Go.RowKit
def BkN:Blk->Prop
 | .cells l _=>∀ c∈l,NM c
 | .row _ _ f _=>∀ i j,NM (f i j)
 | .omap _ _ _ _ vf=>∀ i j,NM (vf i j)
 | .rowx .. => False
theorem ZC {M M':Nat->Option Obj} (h:∀ b c t f,M b=some (.cells c t f)->M' b=some (.cells c t f)) {σ:Nat->Loc} {w:World} {x:Loc} {b:Blk} (hr:BX M σ w x b) (hn:BkN b):BX M' σ w x b:=by
 cases b with
 | cells l ty =>
  obtain ⟨h0,c,hc,hl⟩:=hr
  exact ⟨h0,c,hc,hl.mono fun a ha b hb=>Wc h hb (hn a ha)⟩
 | row sz len f ty =>
  rcases hr with hr | ⟨h0,c,hc,h1,h2,h3,g,hg⟩
  ·exact .inl hr
  exact .inr ⟨h0,c,hc,h1,h2,h3,g,fun i j hi hj=>⟨(hg i j hi hj).1,RM h (hg i j hi hj).2 (hn i j)⟩⟩
 | omap agg nv len kf vf =>
  obtain ⟨h0,es,ck,g,hc,h1,h2,h3⟩:=hr
  exact ⟨h0,es,ck,g,hc,h1,h2,fun i j hi hj=>RM h (h3 i j hi hj) (hn i j)⟩
 | rowx=>exact hn.elim
def Blk.isP:Blk->Bool
 | .cells .. => true
 | .omap .. => true
 | _=>false
def Blk.isR:Blk->Bool
 | .row .. => true
 | _=>false
def slV:Value->Bool
 | .slice (some _) _ _=>true
 | _=>false
def UH (o:Obj) (k:Nat):Option Value:=match o with
 | .cells c _ _=>c[k]?
 | _=>none
def Ju (bq off:Nat) (W:World) (b:Nat):Prop:=∃ o len cap,W.heap[bq]? = some o/\UH o off=some (.slice (some ⟨b,0,none⟩) len cap)
def Qy (q off r:Nat) (h:List (Nat×Blk)):Bool:=match get h q with
 | some (.cells l _)=>(match get h r with
  | some (.row ..)=>(match l[off]? with
   | some (.own r' _ _)=>Nat.beq r' r
   | _=>false)
  | none=>(match l[off]? with
   | none=>true
   | some (.val v) => !slV v
   | some (.ptr ..)=>true
   | _=>false)
  | _=>false)
 | _=>false
def PXr (pids:List Nat) (r:Nat) (G:Prop) (X:Nat->Option Loc):Prop:=∀ m x,X m=some x->(∃ q,Au pids q=true/\∃ y,X q=some y/\y.b=x.b)\/(m=r/\G/\x.nil=false)
section
variable {N:Nat} {W0 W W':World} {X XA:Nat→Option Loc} {M0 M M' M3:Nat→Option Obj} {σ σ' σ3:Nat→Loc} {T T':Nat→Option Tv} {H H':Nat→Option Blk} {a a':Act} {h:List (Nat×Blk)} {q off r:Nat}
theorem UW (hs:Sim N W0 X M0 M σ T (get h) a W) (hb:Qy q off r h=true) {b:Nat} (hh:Ju (σ q).b off W b):(∃ x,get h r=some x)/\(σ r).nil=false/\(σ r).b=b:=by
 unfold Qy at hb
 cases hq:get h q with
 | none=>rw [hq] at hb;cases hb
 | some bq =>
  rw [hq] at hb
  cases bq with
  | cells l ty =>
   obtain ⟨hn,c,hc,hl⟩:=hs.blk q _ hq
   obtain ⟨o,len,cap,ho,hcell⟩:=hh
   rw [hc] at ho;injection ho with ho;subst ho
   have hcl:c[off]? = some (.slice (some ⟨b,0,none⟩) len cap):=by simpa [UH] using hcell
   have hoff:off<l.length:=by rw [hl.length];exact (List.getElem?_eq_some_iff.1 hcl).1
   have hcl2:l[off]? = some l[off]:=List.getElem?_eq_getElem hoff
   obtain ⟨v,hv,hR⟩:=hl.get off _ hcl2
   rw [hcl] at hv;injection hv with hv;subst hv
   generalize l[off]=cl at hcl2 hR
   cases hr:get h r with
   | none =>
    simp only [hr,hcl2] at hb
    exfalso
    cases cl with
    | val u =>
     obtain ⟨h1,_⟩:=hR
     subst h1
     simp [slV] at hb
    | ptr n o=>cases hR
    | _=>cases hb
   | some br =>
    simp only [hr,hcl2] at hb
    cases br with
    | row sz len' f ty' =>
     cases cl with
     | own r' sz' len'' =>
      have:=Nat.eq_of_beq_eq_true hb
      subst this
      unfold R at hR
      split at hR
      ·cases hR.2
      rename_i hnil
      injection hR with h1
      injection h1 with h1
      injection h1 with h1
      exact ⟨⟨_,rfl⟩,by simpa using hnil,h1.symm⟩
     | _=>cases hb
    | _=>cases hb
  | _=>cases hb
theorem WC (hs:Sim N W0 X M0 M σ T (get h) a W) (hb:Qy q off r h=true) {x:Blk} (hr:get h r=some x) (hn:(σ r).nil=false):Ju (σ q).b off W (σ r).b:=by
 unfold Qy at hb
 cases hq:get h q with
 | none=>rw [hq] at hb;cases hb
 | some bq =>
  rw [hq] at hb
  cases bq with
  | cells l ty =>
   obtain ⟨_,c,hc,hl⟩:=hs.blk q _ hq
   simp only [hr] at hb
   cases x with
   | row sz len' f ty' =>
    cases hcl:l[off]? with
    | none=>simp only [hcl] at hb;cases hb
    | some cl =>
     simp only [hcl] at hb
     cases cl with
     | own r' sz' len'' =>
      have:=Nat.eq_of_beq_eq_true hb
      subst this
      obtain ⟨v,hv,hR⟩:=hl.get off _ hcl
      unfold R at hR
      rw [hn] at hR
      exact ⟨_,len'',(σ r').cap,hc,by simp only [UH,List.getElem?_toArray];rw [hv];exact congrArg some hR⟩
     | _=>cases hb
   | _=>cases hb
  | _=>cases hb
section
 open Go.Proofs.YtheobjkgllmnmaaGreat renaming ZC→mp0
theorem gX {Xr X2:Nat->Option Loc} (hs:Sim N W0 XA M0 M' σ' T H a W) (hr:Sim N W Xr M' M3 σ3 T' H' a' W') (hin:∀ b,inX Xr b->inX XA b\/W0.heap.size<=b)
  {H2:Nat->Option Blk} (hH2:∀ n b,H2 n=some b->H' n=some b) (hH:∀ n b,H2 n=some b->BkN b) {a2:Act} {T2:Nat->Option Tv} (hsz:a2.tmps.size=N) (hT2:∀ i v,T2 i=some v->RT (JZ M' M3) σ3 v (a2.tmps.getD i undef)) (hX2:∀ n x,X2 n=some x->N<=n/\σ3 n=x) (hX3:∀ b,inX XA b↔inX X2 b) (hd:Hu X2 M0 (JZ M' M3) a2.defers) :
  Sim N W0 X2 M0 (JZ M' M3) σ3 T2 H2 a2 W':=mac0
end
theorem Xn (hs:Sim N W0 X M0 M σ T H a W) {row:Option Nat} (hH:∀ n b,H n=some b->b.isM=true->∀ r,row=some r->(σ n).b<r) (hg:W.grownBy W' row) (hr:∀ r,row=some r->W0.heap.size<=r/\(∃ o:Obj,W.heap[r]? = some o/\o.isCells=false)/\M r=none):Sim N W0 X M0 M σ T H a W':=by
 have hsame:∀ b (o:Obj),W.heap[b]? = some o->(o.isCells=true\/M b=some o\/b<W0.heap.size)->W'.heap[b]? = some o:=fun b o hb hc=>by
  refine (hg.block b (Array.getElem?_eq_some_iff.1 hb).1 fun e => ?_).trans hb
  obtain ⟨h1,⟨o',h2,h3⟩,h4⟩:=hr b e.symm
  rw [hb] at h2;injection h2 with h2;subst h2
  rcases hc with h | h | h
  ·rw [h3] at h;cases h
  ·rw [h4] at h;cases h
  omega
 refine ⟨hg.os.trans hs.os,hg.tape.trans hs.tape,hg.output.trans hs.output,Nat.le_trans hs.size hg.size,fun b hb hx => ?_,hs.sub,hs.new,hs.pin,hs.defers,hs.room,hs.tmps,fun b o h=>hsame b o (hs.imm b o h) (.inr (.inl h)),fun n b h => ?_,hs.loc,hs.inj⟩
 ·have h1:=hs.old b hb hx
  have h2:W0.heap[b]? = some W0.heap[b]:=Array.getElem?_eq_getElem hb
  rw [h2] at h1 ⊢
  exact hsame b _ h1 (.inr (.inr hb))
 refine (hs.blk n b h).mono (fun _ _ h=>h) (fun _ _=>rfl) fun hn => ?_
 have hb:=hs.blk n b h
 cases b with
 | cells l ty=>obtain ⟨_,c,hc,_⟩:=hb;rw [hc];exact hsame _ _ hc (.inl rfl)
 | row sz len f ty =>
  rcases hb with ⟨h0,_⟩ | ⟨_,c,hc,_⟩
  ·rw [hn] at h0;cases h0
  rw [hc];exact hsame _ _ hc (.inl rfl)
 | omap =>
  obtain ⟨_,es,ck,g,hc,_⟩:=hb
  exact hg.block _ (Array.getElem?_eq_some_iff.1 hc).1 fun e=>by have:=hH n _ h rfl _ e.symm;omega
 | rowx sz len f ty hh=>obtain ⟨_,c,hc,_⟩:=hb;rw [hc];exact hsame _ _ hc (.inl rfl)
theorem R0 {fid:Nat} {XB:Nat->Option Loc} {σ2:Nat->Loc} (hs:Sim N W0 XA M0 M' σ' T H a W) {a2:Act} (hd:a2.defers=[]) (hr:a2.tmps.size=N) (hpin:∀ n x,XB n=some x->N<=n/\σ2 n=x) (hσ:∀ n,n≠fid->σ2 n=σ' n)
  (hT:∀ i v,T' i=some v->RT M' σ' v (a2.tmps.getD i undef)/\v.no fid=true) (hHf:∀ n b,H n=some b->n≠fid/\b.no fid=true/\((σ' n).nil=true\/inX XB (σ' n).b)):Sim N W XB M' M' σ2 T' H a2 W:=by
 refine ⟨rfl,rfl,rfl,Nat.le_refl _,fun _ _ _=>rfl,fun _ _ h=>h,fun b o h h'=>by (rw [h] at h';cases h'),hpin,⟨by rw [hd];trivial,fun _=>hd⟩,hr,fun i v hv=>Da (fun _ _ h=>h) (fun d hd=>hσ d fun e => ?_) (hT i v hv).1,hs.imm,fun n b hb => ?_,fun n b hb => ?_,fun n m b c hb hc hne => ?_⟩
 ·subst e;rw [(hT i v hv).2] at hd;cases hd
 ·obtain ⟨h1,h2,h3⟩:=hHf n b hb
  rw [hσ n h1]
  exact (hs.blk n b hb).mono (fun _ _ h=>h) (fun d hd=>hσ d fun e=>by subst e;rw [h2] at hd;cases hd) (fun _=>rfl)
 ·obtain ⟨h1,h2,h3⟩:=hHf n b hb
  rw [hσ n h1]
  rcases hs.loc n b hb with h4 | h4
  ·exact .inl h4
  exact h3.imp id fun h=>⟨h4.1,.inr h⟩
 rw [hσ n (hHf n b hb).1,hσ m (hHf m c hc).1]
 exact hs.inj n m b c hb hc hne
end
end
section
open Go.RowKit
def ZR (N:Nat) (pids:List Nat) (fid q r:Nat) (t0:List (Nat×Tv)) (ps:Array Tmp):Bool :=
 t0.all (fun p=>pvT pids p.2)&&(pids.all (fun m=>Nat.ble N m)&&(!Au pids fid&&(!Au pids r&&(!Nat.beq r fid&&(Nat.ble N fid&&(Nat.ble N r&&(Au pids q&&ps.toList.all (fun p=>Nat.blt p N))))))))
def famB (pids:List Nat) (fid q off r:Nat) (h:List (Nat×Blk)):Bool :=
 h.all (fun p=>(Au pids p.1&&p.2.isP||Nat.beq p.1 r&&p.2.isR)&&p.2.no fid)&&(pids.all (fun m=>(get h m).isSome)&&Qy q off r h)
def HsN (h:List (Nat×Blk)):Prop:=∀ n b,get h n=some b->BkN b
theorem Sn {l:List Cl} {ty:TypeId} (h:∀ c∈l,NM c):BkN (.cells l ty):=h
theorem uA {α:Type} [Inhabited α] {sz len:Nat} {c:α->List Cl} {xs:List α} {ty:TypeId} (h:∀ x,∀ y∈c x,NM y):BkN (.row sz len (AO c xs) ty):=fun i j=>by
 unfold AO
 rw [List.getD_eq_getElem?_getD]
 cases hj:(c (xs.getD i default))[j]? with
 | none=>exact .val _
 | some y=>exact h _ y (List.mem_of_getElem? hj)
theorem uB {κ α:Type} [Inhabited κ] [Inhabited α] {agg:Bool} {nv len:Nat} {kf:Nat->Value} {c:α->List Cl} {xs:List (κ×α)} (h:∀ x,∀ y∈c x,NM y):BkN (.omap agg nv len kf (vfG c xs)):=fun i j=>by
 unfold vfG
 rw [List.getD_eq_getElem?_getD]
 cases hj:(c (xs.getD i default).2)[j]? with
 | none=>exact .val _
 | some y=>exact h _ y (List.mem_of_getElem? hj)
def nC (pids:List Nat) (n r:Nat) (s:AS):Bool := !Nat.beq r n&&pids.all fun q => !Nat.beq q n&&match get s.h q with | some (.cells ..)=>true | some (.omap ..)=>true | _=>false
section
variable {P:Program} {N:Nat} {W0:World} {X:Nat→Option Loc} {M0:Nat→Option Obj} {s:AS}
theorem RB (S:AS) (n:Nat) (l:List Cl) (ty:TypeId) (pids:List Nat) (r:Nat) {G:Prop} (hX:PXr pids r G X) (hK:nC pids n r s=true) (hG:G->∃ b,get s.h r=some b) (hn:get s.h n=some (.cells l ty)) (hdv:l.all Cl.dv=true) (hS:fxS n l s=S):Cv N W0 X M0 s S:=by
 subst hS
 intro M σ a w hs
 simp only [nC,Bool.and_eq_true,Bool.not_eq_true'] at hK
 obtain ⟨hrn,hK⟩:=hK
 obtain ⟨M',h1⟩:=Tt n l ty (fun hnil=>by
  rintro ⟨m,x,h1,h2⟩
  have key:∀ q y bk,q≠n->X q=some y->y.b=x.b->(σ q).nil=false->get s.h q=some bk->False:=fun q y bk hqn hy hyx h4 hb=>by
   have h5:=(hs.pin q y hy).2
   rcases hs.inj q n _ _ hb hn hqn with h6 | h6 | h6
   ·rw [h4] at h6;cases h6
   ·rw [hnil] at h6;cases h6
   exact h6 (by rw [h5,hyx,h2])
  rcases hX m x h1 with ⟨q,hq,y,hy,hyx⟩ | ⟨rfl,hg,hxn⟩
  ·have h3:=List.all_eq_true.1 hK q (UN hq)
   simp only [Bool.and_eq_true,Bool.not_eq_true'] at h3
   have hqn:q≠n:=fun e=>by have:=h3.1;rw [e,Nat.beq_refl] at this;cases this
   cases hb:get s.h q with
   | none=>rw [hb] at h3;cases h3.2
   | some bk =>
    rw [hb] at h3
    refine key q y bk hqn hy hyx ?_ hb
    have h4:=hs.blk q _ hb
    cases bk with
    | row=>cases h3.2
    | rowx=>cases h3.2
    | omap=>exact h4.1
    | cells lq tq=>exact h4.1
  obtain ⟨bk,hb⟩:=hG hg
  refine key m x bk (fun e=>by rw [e,Nat.beq_refl] at hrn;cases hrn) h1 rfl ?_ hb
  rw [(hs.pin m x h1).2];exact hxn) hn hdv hs
 exact ⟨M',σ,h1⟩
end
end
section
open Go.RowKit
theorem Vt:Tryz.prog.follows .mixedOrders=true:=by kernel_rfl
structure AC where
 X:Int
 Y:Int
 deriving Inhabited
def AC.c (x:AC):List Cl:=[.i x.X,.i x.Y]
structure Ae where
 At:AC
 Turn:Int
 Mirror:Bool
 deriving Inhabited
def Ae.c (x:Ae):List Cl:=[.i x.At.X,.i x.At.Y,.i x.Turn,.b x.Mirror]
structure AF where
 Kind:Int
 A:AC
 B:AC
 C:AC
 deriving Inhabited
def AF.c (x:AF):List Cl:=[.i x.Kind,.i x.A.X,.i x.A.Y,.i x.B.X,.i x.B.Y,.i x.C.X,.i x.C.Y]
structure Ak where
 X0:Int
 Y0:Int
 X1:Int
 Y1:Int
 deriving Inhabited
def Ak.c (x:Ak):List Cl:=[.i x.X0,.i x.Y0,.i x.X1,.i x.Y1]
structure AD where
 L:(List Int)
 At:Int
 deriving Inhabited
def AD.c (x:AD):List Cl:=[lst 1 (fun x=>[.i x]) x.L,.i x.At]
structure OpL where
 len:Nat
 f:Nat->Nat->Cl
 deriving Inhabited
abbrev opL (x:OpL):Cl:=.list false 8 x.len x.f
structure Ag where
 Ref:ByteArray
 Pad:ByteArray
 deriving Inhabited
def Ag.c (x:Ag):List Cl:=[.s x.Ref,.s x.Pad]
structure Bf where
 Name:ByteArray
 Pins:(List Ag)
 deriving Inhabited
def Bf.c (x:Bf):List Cl:=[.s x.Name,lst 2 Ag.c x.Pins]
structure AE where
 Id:Int
 Ref:ByteArray
 Type':ByteArray
 At:AC
 Turn:Int
 Under:Bool
 deriving Inhabited
def AE.c (x:AE):List Cl:=[.i x.Id,.s x.Ref,.s x.Type',.i x.At.X,.i x.At.Y,.i x.Turn,.b x.Under]
structure AP where
 Kind:Int
 Edges:(List AF)
 R:Int
 deriving Inhabited
def AP.c (x:AP):List Cl:=[.i x.Kind,lst 7 AF.c x.Edges,.i x.R]
structure A1 where
 Name:ByteArray
 Shape:AP
 At:AC
 Drill:Int
 deriving Inhabited
def A1.c (x:A1):List Cl:=[.s x.Name,.i x.Shape.Kind,lst 7 AF.c x.Shape.Edges,.i x.Shape.R,.i x.At.X,.i x.At.Y,.i x.Drill]
structure Bm where
 Pad:ByteArray
 Group:Int
 deriving Inhabited
def Bm.c (x:Bm):List Cl:=[.s x.Pad,.i x.Group]
structure A5 where
 Kind:Int
 Legs:(List Bm)
 deriving Inhabited
def A5.c (x:A5):List Cl:=[.i x.Kind,lst 2 Bm.c x.Legs]
structure AQ where
 Name:ByteArray
 Pads:(List A1)
 Gates:(List A5)
 deriving Inhabited
def AQ.c (x:AQ):List Cl:=[.s x.Name,lst 7 A1.c x.Pads,lst 2 A5.c x.Gates]
structure Ab where
 Id:Int
 Net:ByteArray
 Layer:Int
 Shape:AP
 deriving Inhabited
def Ab.c (x:Ab):List Cl:=[.i x.Id,.s x.Net,.i x.Layer,.i x.Shape.Kind,lst 7 AF.c x.Shape.Edges,.i x.Shape.R]
structure A4 where
 Id:Int
 Net:ByteArray
 At:AC
 R:Int
 Drill:Int
 From:Int
 To:Int
 deriving Inhabited
def A4.c (x:A4):List Cl:=[.i x.Id,.s x.Net,.i x.At.X,.i x.At.Y,.i x.R,.i x.Drill,.i x.From,.i x.To]
structure Be where
 Id:Int
 Net:ByteArray
 Layer:Int
 Pitch:Int
 Priority:Int
 Relief:Int
 Spoke:Int
 Rects:(List Ak)
 deriving Inhabited
def Be.c (x:Be):List Cl:=[.i x.Id,.s x.Net,.i x.Layer,.i x.Pitch,.i x.Priority,.i x.Relief,.i x.Spoke,lst 4 Ak.c x.Rects]
structure C8 where
 Id:Int
 Layer:Int
 Shape:AP
 deriving Inhabited
def C8.c (x:C8):List Cl:=[.i x.Id,.i x.Layer,.i x.Shape.Kind,lst 7 AF.c x.Shape.Edges,.i x.Shape.R]
structure Ar where
 Id:Int
 Shape:AP
 deriving Inhabited
def Ar.c (x:Ar):List Cl:=[.i x.Id,.i x.Shape.Kind,lst 7 AF.c x.Shape.Edges,.i x.Shape.R]
structure Cj where
 Name:ByteArray
 Nets:(List ByteArray)
 deriving Inhabited
def Cj.c (x:Cj):List Cl:=[.s x.Name,lst 1 (fun x=>[.s x]) x.Nets]
structure Ej where
 Op:Int
 Text:ByteArray
 N:Int
 Box:Ak
 L:OpL
 deriving Inhabited
def Ej.c (x:Ej):List Cl:=[.i x.Op,.s x.Text,.i x.N,.i x.Box.X0,.i x.Box.Y0,.i x.Box.X1,.i x.Box.Y1,opL x.L]
structure BD where
 Name:ByteArray
 Priority:Int
 What:Int
 A:Ej
 B:Ej
 Value:Int
 deriving Inhabited
def BD.c (x:BD):List Cl:=[.s x.Name,.i x.Priority,.i x.What,.i x.A.Op,.s x.A.Text,.i x.A.N,.i x.A.Box.X0,.i x.A.Box.Y0,.i x.A.Box.X1,.i x.A.Box.Y1,opL x.A.L,.i x.B.Op,.s x.B.Text,.i x.B.N,.i x.B.Box.X0,.i x.B.Box.Y0,.i x.B.Box.X1,.i x.B.Box.Y1,opL x.B.L,.i x.Value]
structure CQ where
 A:Int
 B:Int
 Rule:ByteArray
 deriving Inhabited
def CQ.c (x:CQ):List Cl:=[.i x.A,.i x.B,.s x.Rule]
structure Dz where
 Name:ByteArray
 Nets:(List ByteArray)
 Within:Int
 deriving Inhabited
def Dz.c (x:Dz):List Cl:=[.s x.Name,lst 1 (fun x=>[.s x]) x.Nets,.i x.Within]
structure AH where
 Layers:Int
 Outline:AP
 Parts:(List AE)
 Nets:(List Bf)
 Tracks:(List Ab)
 Vias:(List A4)
 Pours:(List Be)
 Keeps:(List C8)
 Slots:(List Ar)
 Classes:(List Cj)
 Rules:(List BD)
 Waivers:(List CQ)
 Matches:(List Dz)
 deriving Inhabited
def AH.c (x:AH):List Cl:=[.i x.Layers,.i x.Outline.Kind,lst 7 AF.c x.Outline.Edges,.i x.Outline.R,lst 7 AE.c x.Parts,lst 2 Bf.c x.Nets,lst 6 Ab.c x.Tracks,lst 8 A4.c x.Vias,lst 8 Be.c x.Pours,lst 5 C8.c x.Keeps,lst 4 Ar.c x.Slots,lst 2 Cj.c x.Classes,lst 20 BD.c x.Rules,lst 3 CQ.c x.Waivers,lst 3 Dz.c x.Matches]
structure Ad where
 Id:Int
 Pad:ByteArray
 Kind:Int
 Net:ByteArray
 From:Int
 To:Int
 Shape:AP
 deriving Inhabited
def Ad.c (x:Ad):List Cl:=[.i x.Id,.s x.Pad,.i x.Kind,.s x.Net,.i x.From,.i x.To,.i x.Shape.Kind,lst 7 AF.c x.Shape.Edges,.i x.Shape.R]
structure Wb where
 e0:Int
 e1:Int
 e2:Int
 deriving Inhabited
def Wb.c (x:Wb):List Cl:=[.i x.e0,.i x.e1,.i x.e2]
structure uC where
 deriving Inhabited
def uC.c (x:uC):List Cl:=[]
structure Ao where
 Shape:AP
 From:Int
 To:Int
 Plated:Bool
 deriving Inhabited
def Ao.c (x:Ao):List Cl:=[.i x.Shape.Kind,lst 7 AF.c x.Shape.Edges,.i x.Shape.R,.i x.From,.i x.To,.b x.Plated]
structure TA91 where
 e0:Ad
 e1:Ad
 deriving Inhabited
def TA91.c (x:TA91):List Cl:=[.i x.e0.Id,.s x.e0.Pad,.i x.e0.Kind,.s x.e0.Net,.i x.e0.From,.i x.e0.To,.i x.e0.Shape.Kind,lst 7 AF.c x.e0.Shape.Edges,.i x.e0.Shape.R,.i x.e1.Id,.s x.e1.Pad,.i x.e1.Kind,.s x.e1.Net,.i x.e1.From,.i x.e1.To,.i x.e1.Shape.Kind,lst 7 AF.c x.e1.Shape.Edges,.i x.e1.Shape.R]
structure DS where
 Board:(List (List Int))
 Odd:Wb
 deriving Inhabited
def DS.c (x:DS):List Cl:=[lst 1 (fun x=>[lst 1 (fun x=>[.i x]) x]) x.Board,.i x.Odd.e0,.i x.Odd.e1,.i x.Odd.e2]
structure D5 where
 e0:Int
 e1:Int
 deriving Inhabited
def D5.c (x:D5):List Cl:=[.val (.int .u64 x.e0),.val (.int .u64 x.e1)]
def eqE:TypeId->Option (List Kd):=fun T=>get [(66,[.int .i64,.int .i64]),(68,[.int .i64,.int .i64,.int .i64,.int .i64,.int .i64,.int .i64,.int .i64]),(90,[.int .i64,.int .i64,.int .i64,.int .i64]),(106,[.str,.str]),(254,[.int .u64,.int .u64])] T
theorem C2:Io Tryz.prog ⟨fun _=>none,eqE,fun _=>false,fun _=>none⟩:=by
 intro T ks h
 have hm:(T,ks)∈_:=C6 h
 simp only [List.mem_cons,Prod.mk.injEq,List.not_mem_nil,or_false] at hm
 rcases hm with ⟨rfl,rfl⟩ | ⟨rfl,rfl⟩ | ⟨rfl,rfl⟩ | ⟨rfl,rfl⟩ | ⟨rfl,rfl⟩
 all_goals exact ⟨by kernel_rfl,by kernel_rfl,_,rfl,rfl⟩
theorem rg {rd:Option Nat} {N:Nat} {W0:World} {X:Nat→Option Loc} {M0:Nat→Option Obj} {Q:Exit→AS→Prop} {s:AS} {id:Nat} {l:List Oper} (S:AS) (h:Q .normal S) (hr:H5 Tryz.prog ⟨EI [],eqE,Au [],get []⟩ N l (S.t.map Prod.fst) (S.h.map Prod.fst) s=some ([],S):=by kernel_rfl):AWp Tryz.prog rd N W0 X M0 (.region id l.toArray false) Q s:=Cu C2 [] [] [] _ _ [] S .nil hr .nil h
theorem rn {rd:Option Nat} {N:Nat} {W0:World} {X:Nat→Option Loc} {M0:Nat→Option Obj} {K:AS→Prop} {Q:Exit→AS→Prop} {s:AS} {id:Nat} {l:List Oper} (S:AS) (h:K S) (hr:H5 Tryz.prog ⟨EI [],eqE,Au [],get []⟩ N l (S.t.map Prod.fst) (S.h.map Prod.fst) s=some ([],S):=by kernel_rfl):AWp Tryz.prog rd N W0 X M0 (.region id l.toArray false) (ATh K Q) s:=rg S (AG h) hr
theorem rc {rd:Option Nat} {N:Nat} {W0:World} {X:Nat→Option Loc} {M0:Nat→Option Obj} {Q:Exit→AS→Prop} {s:AS} {id:Nat} {l:List Oper} (tbl:List (Nat×FuncId×List Av×Ef)) (cs:List Prop) (S:AS) (htbl:Gm Tryz.prog tbl) (hc:Bi cs) (h:Q .normal S) (hr:H5 Tryz.prog ⟨EI tbl,eqE,Au [],get []⟩ N l (S.t.map Prod.fst) (S.h.map Prod.fst) s=some (cs,S):=by kernel_rfl):AWp Tryz.prog rd N W0 X M0 (.region id l.toArray false) Q s:=Cu C2 [] [] tbl _ _ cs S htbl hr hc h
abbrev gi (c:Bool):Prop:=c=false→c=false
abbrev gt (c:Bool):Prop:=c=true→c=true
abbrev gj (c:Bool) (p:Prop):Prop:=c=false→p
abbrev gk (c:Bool) (p:Prop):Prop:=c=true→p
theorem ci {p:Prop} {l:List Prop} (h:Bi l):Bi ((p→p)::l):=.cons id h
abbrev tO (c:Cl):Tv:=.av (.one c)
abbrev gD (l:List Cl):Nat→Nat→Cl:=fun _ j_=>l.getD j_ default
theorem rr {a:Cl} {x y:List Cl} (h:L2 ClE x y):L2 ClE (a::x) (a::y):=.cons (.refl _) h
theorem oT {p:Prop} [Decidable p] (h:decide p=true):p:=of_decide_eq_true h
theorem oF {p:Prop} [Decidable p] (h:decide p=false):¬ p:=of_decide_eq_false h
theorem vk {N:Nat} {W0:World} {X:Nat→Option Loc} {M0:Nat→Option Obj} {s:AS} (ts ns:List Nat):Cv N W0 X M0 s (LM ts ns s):=aJ ts ns _ rfl
theorem ck {N:Nat} {W0:World} {X:Nat→Option Loc} {M0:Nat→Option Obj} {s:AS} (S:AS) (h:LM (S.t.map Prod.fst) (S.h.map Prod.fst) s=S:=by kernel_rfl):Cv N W0 X M0 s S:=aJ _ _ S h
theorem wr {N:Nat} {W0:World} {X:Nat→Option Loc} {M0:Nat→Option Obj} {s:AS} {K:List Nat} (S:AS) (q d:Nat) (hX:∀ k x,X k=some x→Au K k=true) (h1:OD K q=true:=by kernel_rfl) (h2:OD K d=true:=by kernel_rfl) (hd:noD d s=true:=by kernel_rfl) (hS:oP q d s=S:=by kernel_rfl):Cv N W0 X M0 s S:=xA S q d hX h1 h2 hd hS
theorem vr {N:Nat} {W0:World} {X:Nat→Option Loc} {M0:Nat→Option Obj} {s:AS} {K:List Nat} (q d:Nat) (hX:∀ k x,X k=some x→Au K k=true) (h1:OD K q=true:=by kernel_rfl) (h2:OD K d=true:=by kernel_rfl) (hd:noD d s=true:=by kernel_rfl):Cv N W0 X M0 s (oP q d s):=wr _ q d hX h1 h2 hd rfl
theorem wf {N:Nat} {W0:World} {X:Nat→Option Loc} {M0:Nat→Option Obj} {s:AS} {K:List Nat} (S:AS) (n sz len:Nat) (f:Nat→Nat→Cl) (ty:TypeId) (hX:∀ k x,X k=some x→Au K k=true) (ho:Bi (YE n sz len s.t (VW n sz len s.h))) (hK:xok K n s=true:=by kernel_rfl) (hn:get s.h n=some (.row sz len f ty):=by kernel_rfl) (hS:fzS n sz len f s=S:=by kernel_rfl):Cv N W0 X M0 s S:=cv_fz S n sz len f ty hX hK hn ho hS
theorem vf {N:Nat} {W0:World} {X:Nat→Option Loc} {M0:Nat→Option Obj} {s:AS} {K:List Nat} (n sz len:Nat) (f:Nat→Nat→Cl) (ty:TypeId) (hX:∀ k x,X k=some x→Au K k=true) (ho:Bi (YE n sz len s.t (VW n sz len s.h))) (hK:xok K n s=true:=by kernel_rfl) (hn:get s.h n=some (.row sz len f ty):=by kernel_rfl):Cv N W0 X M0 s (fzS n sz len f s):=wf _ n sz len f ty hX ho hK hn rfl
theorem wg {N:Nat} {W0:World} {X:Nat→Option Loc} {M0:Nat→Option Obj} {s:AS} {K:List Nat} (S:AS) (d sz:Nat) (f:Nat→Nat→Cl) (ty:TypeId) (it ih:List (Nat×List Nat)) (hX:∀ k x,X k=some x→Au K k=true) (h2:OD K d=true:=by kernel_rfl) (hd:noD d s=true:=by kernel_rfl) (hS:ghS d sz f ty it ih s=S:=by kernel_rfl):Cv N W0 X M0 s S:=mC S d sz f ty it ih hX h2 hd hS
theorem vg {N:Nat} {W0:World} {X:Nat→Option Loc} {M0:Nat→Option Obj} {s:AS} {K:List Nat} (d sz:Nat) (f:Nat→Nat→Cl) (ty:TypeId) (it ih:List (Nat×List Nat)) (hX:∀ k x,X k=some x→Au K k=true) (h2:OD K d=true:=by kernel_rfl) (hd:noD d s=true:=by kernel_rfl):Cv N W0 X M0 s (ghS d sz f ty it ih s):=wg _ d sz f ty it ih hX h2 hd rfl
theorem rs {rd:Option Nat} {N:Nat} {W0:World} {X:Nat→Option Loc} {M0:Nat→Option Obj} {Q:Exit→AS→Prop} {s:AS} {id:Nat} {l:List Oper} (d:Nat) (c:FuncId×List Av×Ef) (S:AS) (hx:Eo Tryz.prog c.1 c.2.1 c.2.2) (h:Q .normal S) (hr:H5 Tryz.prog ⟨EI [(d,c)],eqE,Au [],get []⟩ N l (S.t.map Prod.fst) (S.h.map Prod.fst) s=some ([Ap c.2.1],S):=by kernel_rfl):AWp Tryz.prog rd N W0 X M0 (.region id l.toArray false) Q s:=rc _ _ S (.cons hx .nil) (.cons rfl .nil) h hr
theorem rb {rd:Option Nat} {N:Nat} {W0:World} {X:Nat→Option Loc} {M0:Nat→Option Obj} {Q:Exit→AS→Prop} {s:AS} {id:Nat} {l:List Oper} (d:Nat) (c:FuncId×List Av×Ef) (b:Blk) (S:AS) (hx:Eo Tryz.prog c.1 c.2.1 c.2.2) (h:Q .normal S) (hr:H5 Tryz.prog ⟨EI [(d,c)],eqE,Au [],get []⟩ N l (S.t.map Prod.fst) (S.h.map Prod.fst) s=some ([Ap c.2.1,Bv b],S):=by kernel_rfl):AWp Tryz.prog rd N W0 X M0 (.region id l.toArray false) Q s:=rc _ _ S (.cons hx .nil) (.cons rfl (.cons rfl .nil)) h hr
theorem nz {a:Nat} {p:Prop} (h:a<0):p:=absurd h (Nat.not_lt_zero _)
abbrev gp (p:Prop):Prop:=p→p
abbrev t2 (c:Bool) (l:List Prop):List Prop:=gt c::gt c::l
abbrev i2 (c:Bool) (l:List Prop):List Prop:=gi c::gi c::l
theorem c2 {p:Prop} {l:List Prop} (h:Bi l):Bi ((p→p)::(p→p)::l):=ci (ci h)
abbrev t3 (c:Bool) (l:List Prop):List Prop:=gt c::gt c::gt c::l
abbrev i3 (c:Bool) (l:List Prop):List Prop:=gi c::gi c::gi c::l
theorem c3 {p:Prop} {l:List Prop} (h:Bi l):Bi ((p→p)::(p→p)::(p→p)::l):=ci (ci (ci h))
abbrev t4 (c:Bool) (l:List Prop):List Prop:=gt c::gt c::gt c::gt c::l
abbrev i4 (c:Bool) (l:List Prop):List Prop:=gi c::gi c::gi c::gi c::l
theorem c4 {p:Prop} {l:List Prop} (h:Bi l):Bi ((p→p)::(p→p)::(p→p)::(p→p)::l):=ci (ci (ci (ci h)))
abbrev t5 (c:Bool) (l:List Prop):List Prop:=gt c::gt c::gt c::gt c::gt c::l
abbrev i5 (c:Bool) (l:List Prop):List Prop:=gi c::gi c::gi c::gi c::gi c::l
theorem c5 {p:Prop} {l:List Prop} (h:Bi l):Bi ((p→p)::(p→p)::(p→p)::(p→p)::(p→p)::l):=ci (ci (ci (ci (ci h))))
theorem xl {P:Program} {N:Nat} {W0:World} {X:Nat→Option Loc} {M0:Nat→Option Obj} {fn:Func} {φ:Tv→AS→Prop} {s:AS} (V:Tv) (h:φ V s) (hr:Xv P s fn.results.toList=some V:=by kernel_rfl):Rg P N W0 X M0 fn φ .ret s:=⟨_,Cv.refl _,.inl rfl,V,hr,h⟩
theorem xn {P:Program} {N:Nat} {W0:World} {X:Nat→Option Loc} {M0:Nat→Option Obj} {fn:Func} {φ:Tv→AS→Prop} {s:AS} (V:Tv) (h:φ V s) (hr:Xv P s fn.results.toList=some V:=by kernel_rfl):Rg P N W0 X M0 fn φ .normal s:=⟨_,Cv.refl _,.inr rfl,V,hr,h⟩
theorem yl {P:Program} {N:Nat} {W0:World} {X:Nat→Option Loc} {M0:Nat→Option Obj} {fn:Func} {φ:Tv→AS→Prop} {s t:AS} (cv:Cv N W0 X M0 s t) (V:Tv) (h:φ V t) (hr:Xv P t fn.results.toList=some V:=by kernel_rfl):Rg P N W0 X M0 fn φ .ret s:=⟨_,cv,.inl rfl,V,hr,h⟩
theorem yn {P:Program} {N:Nat} {W0:World} {X:Nat→Option Loc} {M0:Nat→Option Obj} {fn:Func} {φ:Tv→AS→Prop} {s t:AS} (cv:Cv N W0 X M0 s t) (V:Tv) (h:φ V t) (hr:Xv P t fn.results.toList=some V:=by kernel_rfl):Rg P N W0 X M0 fn φ .normal s:=⟨_,cv,.inr rfl,V,hr,h⟩
theorem dw {rd:Option Nat} {N:Nat} {W0:World} {X:Nat→Option Loc} {M0:Nat→Option Obj} {Q:Exit→AS→Prop} {s:AS} {id:Nat} {l:List Oper} (ow:List Nat) (tbl:List (Nat×FuncId×List Av×Ef)) (cs:List Prop) (S:AS) (htbl:Gm Tryz.prog tbl) (hc:Bi cs) (h:Q .normal S) (hr:H5 Tryz.prog ⟨EI tbl,eqE,Au ow,get []⟩ N l (S.t.map Prod.fst) (S.h.map Prod.fst) s=some (cs,S):=by kernel_rfl) (hd:Q9 Tryz.prog ⟨EI tbl,eqE,Au ow,get []⟩ N l s=true:=by kernel_rfl):AWp Tryz.prog rd N W0 X M0 (.region id l.toArray true) Q s:=aV Vt C2 ow [] tbl _ _ cs S htbl hr hd hc h
abbrev CT:=FuncId×List Av×Ef
theorem hk0:∀ k x,noX k=some x→Au [] k=true:=fun k x h=>by cases h
abbrev OKc (c:CT):Prop:=Eo Tryz.prog c.1 c.2.1 c.2.2
abbrev dfc:Nat→Cl:=fun _=>default
abbrev eIn:Int→List Cl:=fun x=>[.i x]
theorem oM {p:Prop} (h:p:=by omega):p:=h
abbrev PuP (f:FuncId) (xs:List Av) (r:Tv):Prop:=E5 Tryz.prog f xs r
theorem pwf {f:FuncId} {fn:Func} {c:Code} (hf:Tryz.prog.funcs[f]? = some fn) {xs:List Av} {r:Tv}
    (h:∀ (W0:World) (M0:Nat→Option Obj),AWp Tryz.prog none fn.ntmps W0 noX M0 c (Rg Tryz.prog fn.ntmps W0 noX M0 fn fun r' _=>TvE r' r) ⟨Dw 0 xs,[]⟩) (hb:fn.body=some c:=by rfl) (hN:Nat.ble xs.length fn.ntmps=true:=by kernel_rfl) (hd:r.dv=true:=by kernel_rfl):PuP f xs r:=VN hf hb hN hd h
theorem cWr {f:FuncId} {K n:Nat} {xs:List Av} {b0 b1:Blk} {r:Tv} (h:Wr Tryz.prog f K xs b0 r b1) (h1:∀ args w,(callFunc f args).run Tryz.prog w=.ok (.enter f args) w:=by intros;kernel_rfl) (hx:xs.all (iC K)=true:=by kernel_rfl) (hd0:KY b0=true:=by kernel_rfl):Eo Tryz.prog f (xs.map (Bq K n)) (wrI n b0 r b1):=dP h1 hx hd0 h
theorem cPu {f:FuncId} {xs:List Av} {cs:List Prop} {r:Tv} (h:E5 Tryz.prog f xs r) (h1:∀ args w,(callFunc f args).run Tryz.prog w=.ok (.enter f args) w:=by intros;kernel_rfl):Eo Tryz.prog f xs (.val cs r):=WW h1 fun _=>h
theorem rr2 {a b:Cl} {x y:List Cl} (q:L2 ClE x y):L2 ClE (a::b::x) (a::b::y):=rr (rr q)
theorem rr3 {a b c:Cl} {x y:List Cl} (q:L2 ClE x y):L2 ClE (a::b::c::x) (a::b::c::y):=rr (rr (rr q))
theorem rr4 {a b c d:Cl} {x y:List Cl} (q:L2 ClE x y):L2 ClE (a::b::c::d::x) (a::b::c::d::y):=rr (rr (rr (rr q)))
theorem rr5 {a b c d e:Cl} {x y:List Cl} (q:L2 ClE x y):L2 ClE (a::b::c::d::e::x) (a::b::c::d::e::y):=rr (rr (rr (rr (rr q))))
theorem rr9 {a b c d e f g h i:Cl} {x y:List Cl} (q:L2 ClE x y):L2 ClE (a::b::c::d::e::f::g::h::i::x) (a::b::c::d::e::f::g::h::i::y):=rr (rr (rr (rr (rr (rr (rr (rr (rr q))))))))

def Al (x0:AC):Bool:=bif decide (((max x0.X x0.Y):Int)<=67108864) then decide ((((-67108864)):Int)<=(min x0.X x0.Y)) else false
def Bb (x0:AC):CT:=(131,[.agg (AC.c x0)],.val [] (.av (.one (.b (Al x0)))))
theorem bR (x0:AC):PuP 131 (Bb x0).2.1 (tO (.b (Al x0))):=by
 refine pwf Tryz.func131 fun W0 M0 => ?_
 refine AB<|rn ⟨[(1,tP 1 0)],[(1,.cells (AC.c x0) 66)]⟩<|AB ?_
 refine rc [] ((gt (decide (((max x0.X x0.Y):Int)<=67108864)))::(t5 (decide (((max x0.X x0.Y):Int)<=67108864)) [])) ⟨[(2,tB (bif decide (((max x0.X x0.Y):Int)<=67108864) then decide ((((-67108864)):Int)<=(min x0.X x0.Y)) else false))],[]⟩ .nil (ci (c5 .nil))<|AG<|AW ?_
 exact xl (tO (.b (bif decide (((max x0.X x0.Y):Int)<=67108864) then decide ((((-67108864)):Int)<=(min x0.X x0.Y)) else false))) (Aa (by rfl))
theorem Cy (x0:AC):OKc (Bb x0):=cPu<|bR x0
def AM (x0:AC) (x1:AC):AC:=AC.mk (W64 (x0.X-x1.X)) (W64 (x0.Y-x1.Y))
def CF (x0:AC) (x1:AC):CT:=(137,[.agg (AC.c x0),.agg (AC.c x1)],.val [] (.av (.agg (AC.c (AM x0 x1)))))
theorem oW (x0:AC) (x1:AC):PuP 137 (CF x0 x1).2.1 (.av (.agg (AC.c (AM x0 x1)))):=by
 refine pwf Tryz.func137 fun W0 M0 => ?_
 refine AB<|rn ⟨[(2,tP 2 0),(3,tP 3 0),(4,tP 4 0)],[(2,.cells (AC.c x0) 66),(3,.cells (AC.c x1) 66),(4,.cells [.i 0,.i 0] 66)]⟩<|AB ?_
 refine rn ⟨[(4,tP 4 0)],[(4,.cells [.i (W64 (x0.X-x1.X)),.i (W64 (x0.Y-x1.Y))] 66)]⟩<|AW ?_
 exact xl (.av (.agg [.i (W64 (x0.X-x1.X)),.i (W64 (x0.Y-x1.Y))])) (Aa (by rfl))
theorem DX (x0:AC) (x1:AC):OKc (CF x0 x1):=cPu<|oW x0 x1
def Gu (x0:AC) (x1:AC):AC:=AC.mk (W64 (x0.X+x1.X)) (W64 (x0.Y+x1.Y))
def Uh (x0:AC) (x1:AC):CT:=(119,[.agg (AC.c x0),.agg (AC.c x1)],.val [] (.av (.agg (AC.c (Gu x0 x1)))))
theorem oY (x0:AC) (x1:AC):PuP 119 (Uh x0 x1).2.1 (.av (.agg (AC.c (Gu x0 x1)))):=by
 refine pwf Tryz.func119 fun W0 M0 => ?_
 refine AB<|rn ⟨[(2,tP 2 0),(3,tP 3 0),(4,tP 4 0)],[(2,.cells (AC.c x0) 66),(3,.cells (AC.c x1) 66),(4,.cells [.i 0,.i 0] 66)]⟩<|AB ?_
 refine rn ⟨[(4,tP 4 0)],[(4,.cells [.i (W64 (x0.X+x1.X)),.i (W64 (x0.Y+x1.Y))] 66)]⟩<|AW ?_
 exact xl (.av (.agg [.i (W64 (x0.X+x1.X)),.i (W64 (x0.Y+x1.Y))])) (Aa (by rfl))
theorem jK (x0:AC) (x1:AC):OKc (Uh x0 x1):=cPu<|oY x0 x1
def CG (x0:AC) (x1:AC):Int:=W64 ((W64 (x0.X*x1.X))+(W64 (x0.Y*x1.Y)))
def FQ (x0:AC) (x1:AC):CT:=(140,[.agg (AC.c x0),.agg (AC.c x1)],.val [] (.av (.one (.i (CG x0 x1)))))
theorem oX (x0:AC) (x1:AC):PuP 140 (FQ x0 x1).2.1 (tO (.i (CG x0 x1))):=by
 refine pwf Tryz.func140 fun W0 M0 => ?_
 refine AB<|rn ⟨[(2,tP 2 0),(3,tP 3 0)],[(2,.cells (AC.c x0) 66),(3,.cells (AC.c x1) 66)]⟩<|AB ?_
 refine rn ⟨[(4,tI (W64 ((W64 (x0.X*x1.X))+(W64 (x0.Y*x1.Y)))))],[]⟩<|AW ?_
 exact xl (tO (.i (W64 ((W64 (x0.X*x1.X))+(W64 (x0.Y*x1.Y)))))) (Aa (by rfl))
theorem KO (x0:AC) (x1:AC):OKc (FQ x0 x1):=cPu<|oX x0 x1
def BP (x0:AC) (x1:AC):Int:=W64 ((W64 (x0.X*x1.Y))-(W64 (x0.Y*x1.X)))
def EE (x0:AC) (x1:AC):CT:=(141,[.agg (AC.c x0),.agg (AC.c x1)],.val [] (.av (.one (.i (BP x0 x1)))))
theorem bS (x0:AC) (x1:AC):PuP 141 (EE x0 x1).2.1 (tO (.i (BP x0 x1))):=by
 refine pwf Tryz.func141 fun W0 M0 => ?_
 refine AB<|rn ⟨[(2,tP 2 0),(3,tP 3 0)],[(2,.cells (AC.c x0) 66),(3,.cells (AC.c x1) 66)]⟩<|AB ?_
 refine rn ⟨[(4,tI (W64 ((W64 (x0.X*x1.Y))-(W64 (x0.Y*x1.X)))))],[]⟩<|AW ?_
 exact xl (tO (.i (W64 ((W64 (x0.X*x1.Y))-(W64 (x0.Y*x1.X)))))) (Aa (by rfl))
theorem JI (x0:AC) (x1:AC):OKc (EE x0 x1):=cPu<|bS x0 x1
def Ex (x0:AC) (x1:AC) (x2:AC):Int:=bif decide ((0:Int)<(BP (AM x1 x0) (AM x2 x0))) then (1) else (bif decide (((BP (AM x1 x0) (AM x2 x0)):Int)<0) then ((-1)) else (0))
def NC (x0:AC) (x1:AC) (x2:AC):CT:=(189,[.agg (AC.c x0),.agg (AC.c x1),.agg (AC.c x2)],.val [] (.av (.one (.i (Ex x0 x1 x2)))))
theorem iQ (x0:AC) (x1:AC) (x2:AC):PuP 189 (NC x0 x1 x2).2.1 (tO (.i (Ex x0 x1 x2))):=by
 refine pwf Tryz.func189 fun W0 M0 => ?_
 refine AB<|rn ⟨[(3,tP 3 0),(4,tP 4 0),(5,tP 5 0)],[(3,.cells (AC.c x0) 66),(4,.cells (AC.c x1) 66),(5,.cells (AC.c x2) 66)]⟩ ?_
 refine AB<|AB ?_
 refine dw [] [(10,CF x1 x0),(13,CF x2 x0),(14,EE (AM x1 x0) (AM x2 x0))] [Ap (CF x1 x0).2.1,Ap (CF x2 x0).2.1,Ap (EE (AM x1 x0) (AM x2 x0)).2.1] ⟨[(7,tI (BP (AM x1 x0) (AM x2 x0)))],[]⟩ (.cons (DX x1 x0) (.cons (DX x2 x0) (.cons (JI (AM x1 x0) (AM x2 x0)) .nil))) (.cons rfl (.cons rfl (.cons rfl .nil)))<|AG ?_
 refine AR<|AB ?_
 refine rn ⟨[(7,tI (BP (AM x1 x0) (AM x2 x0))),(15,tB (decide ((0:Int)<(BP (AM x1 x0) (AM x2 x0)))))],[]⟩ ?_
 refine AV _ rfl (fun h1 => ?_) (fun h1 => ?_)
 ·refine AB<|rn ⟨[(6,tI 1)],[]⟩ ?_
  refine AW<|Bo<|A7 ?_
  exact xl (tO (.i 1)) (Aa (by simp only [Ex,h1,cond_true,cond_false] <;> rfl))
 refine AB<|rn ⟨[(18,tB (decide (((BP (AM x1 x0) (AM x2 x0)):Int)<0)))],[]⟩ ?_
 refine AV _ rfl (fun h2 => ?_) (fun h2 => ?_)
 ·refine AB<|rn ⟨[(6,tI ((-1)))],[]⟩ ?_
  refine AW<|Bo<|A7 ?_
  exact xl (tO (.i ((-1)))) (Aa (by simp only [Ex,h1,h2,cond_true,cond_false] <;> rfl))
 refine AY<|BN ?_
 refine AG<|AB ?_
 refine rn ⟨[(6,tI 0)],[]⟩<|AW ?_
 exact xl (tO (.i 0)) (Aa (by simp only [Ex,h1,h2,cond_true,cond_false] <;> rfl))
theorem cJ (x0:AC) (x1:AC) (x2:AC):OKc (NC x0 x1 x2):=cPu<|iQ x0 x1 x2
def B3 (m:Ae):Int:=A64 m.Turn 3
variable (a0 a1 a2:AC) (e x0:AF) (m:Ae) (x1:AC) (k:Int) (p:AC)
def OQ:CT:=(118,[.agg (Ae.c m)],.val [] (.av (.one (.i (B3 m)))))
theorem bQ (m:Ae):PuP 118 (OQ m).2.1 (tO (.i (B3 m))):=by
 refine pwf Tryz.func118 fun W0 M0 => ?_
 refine AB<|rn ⟨[(1,tP 1 0)],[(1,.cells (Ae.c m) 74)]⟩<|AB ?_
 refine rn ⟨[(2,tI (A64 m.Turn 3))],[]⟩<|AW ?_
 exact xl (tO (.i (A64 m.Turn 3))) (Aa (by rfl))
theorem YG (m:Ae):OKc (OQ m):=cPu<|bQ m
theorem A64_3 (t:Int):0<=A64 t 3/\A64 t 3<=3:=by
 unfold A64
 rw [IntKind.wrap_i64]
 have h:((BitVec.ofInt 64 t &&& BitVec.ofInt 64 3).toNat)<=3:=by
  rw [BitVec.toNat_and]
  exact Nat.le_trans Nat.and_le_right (by decide)
 generalize (BitVec.ofInt 64 t &&& BitVec.ofInt 64 3).toNat=n at *
 omega
theorem ZJ (m:Ae):0<=B3 m/\B3 m<=3:=A64_3 m.Turn
def B9 (m:Ae) (p:AC):Nat->AC->Int->AC
 | 0,_,_=>default
 | n0+1,p',v13=>bif decide ((v13:Int)<(B3 m)) then ((B9 m p n0) (AC.mk (W64 (0-p'.Y)) p'.X) (v13+1)) else (Gu p' m.At)
def AZ (m:Ae) (p:AC):AC:=B9 m p ((((B3 m))-0).toNat+1) (AC.mk (bif m.Mirror then (W64 (0-p.X)) else p.X) p.Y) 0
def Bs:CT:=(62,[.agg (Ae.c m),.agg (AC.c p)],.val [] (.av (.agg (AC.c (AZ m p)))))
theorem kr {p:Prop} (h:p:=by kernel_rfl):p:=h
theorem at0 {p:Prop} (h:p:=by simp only [List.length_append,List.length_cons,List.length_nil];omega):p:=h
theorem at1 {p:Prop} (h:p:=by simp only [List.length_set,List.length_append,List.length_cons,List.length_nil];omega):p:=h
theorem at2 {p:Prop} (h:p:=by simp only [Bx];omega):p:=h
theorem ax0 {p:Prop} (h:p:=by first | omega | (dsimp only <;> first | trivial | omega | exact at0 | exact at1 | exact at2 | (simp;omega) | simp) | (first | trivial | omega | exact at0 | exact at1 | exact at2 | (simp;omega) | simp)):p:=h
theorem bT (m:Ae) (p:AC):PuP 62 (Bs m p).2.1 (.av (.agg (AC.c (AZ m p)))):=by
 refine pwf Tryz.func62 fun W0 M0 => ?_
 refine AB<|rn ⟨[(2,tP 2 0),(3,tP 3 0),(4,tP 4 0)],[(2,.cells (Ae.c m) 74),(3,.cells (AC.c p) 66),(4,.cells [.i 0,.i 0] 66)]⟩ ?_
 refine AB<|AB ?_
 refine rn ⟨[(2,tP 2 0),(3,tP 3 0),(4,tP 4 0),(6,tB m.Mirror)],[(2,.cells (Ae.c m) 74),(3,.cells (AC.c p) 66),(4,.cells [.i 0,.i 0] 66)]⟩ ?_
 refine Bd (⟨[(2,tP 2 0),(3,tP 3 0),(4,tP 4 0)],[(2,.cells (Ae.c m) 74),(3,.cells [.i (bif m.Mirror then (W64 (0-p.X)) else p.X),.i p.Y] 66),(4,.cells [.i 0,.i 0] 66)]⟩) ?_ ?_
 ·refine AV _ rfl (fun h1 => ?_) (fun h1 => ?_)
  ·refine rn ⟨[(2,tP 2 0),(3,tP 3 0),(4,tP 4 0)],[(2,.cells (Ae.c m) 74),(3,.cells [.i (W64 (0-p.X)),.i p.Y] 66),(4,.cells [.i 0,.i 0] 66)]⟩ ?_
   refine Ay ?_
   first | rfl | (simp only [h1,cond_true,cond_false] <;> rfl)
  refine AY<|AG ?_
  refine Cv.trans (ck (⟨[(2,tP 2 0),(3,tP 3 0),(4,tP 4 0)],[(2,.cells (Ae.c m) 74),(3,.cells (AC.c p) 66),(4,.cells [.i 0,.i 0] 66)]⟩)) (Ay ?_)
  first | rfl | (simp only [h1,cond_true,cond_false] <;> rfl)
 refine AB<|AB ?_
 refine rs 12 (OQ m) ⟨[(2,tP 2 0),(3,tP 3 0),(4,tP 4 0),(12,tI (B3 m)),(13,tI 0)],[(2,.cells (Ae.c m) 74),(3,.cells [.i (bif m.Mirror then (W64 (0-p.X)) else p.X),.i p.Y] 66),(4,.cells [.i 0,.i 0] 66)]⟩ (YG m)<|AG<|AR ?_
 refine BB (ι:=Nat×AC×Int) (fun x=>⟨[(2,tP 2 0),(3,tP 3 0),(4,tP 4 0),(12,tI (B3 m)),(13,tI x.2.2)],[(2,.cells (Ae.c m) 74),(3,.cells (AC.c x.2.1) 66),(4,.cells [.i 0,.i 0] 66)]⟩) (fun x=>(((B3 m))-x.2.2).toNat<x.1/\(0<=x.2.2/\x.2.2<=B3 m)/\B9 m p x.1 x.2.1 x.2.2=AZ m p) (fun x=>x.1) ?_ ((((B3 m))-0).toNat+1,AC.mk (bif m.Mirror then (W64 (0-p.X)) else p.X) p.Y,0) ⟨Nat.lt_succ_self _,(by show 0<=0/\0<=B3 m;(have:=ZJ m;omega)),(by simp only [AZ,cond_true,cond_false])⟩
 rintro ⟨n0,p',v13⟩ ⟨hm0,hinv0,hF0⟩
 try dsimp only at hm0 hinv0 hF0
 cases n0 with | zero=>exact nz hm0 | succ n0 => ?_
 have ht:=ZJ m
 have e1:W64 (v13+1)=v13+1:=Af oM oM
 refine AB<|rn ⟨[(2,tP 2 0),(3,tP 3 0),(4,tP 4 0),(12,tI (B3 m)),(13,tI v13),(14,tB (decide ((v13:Int)<(B3 m))))],[(2,.cells (Ae.c m) 74),(3,.cells (AC.c p') 66),(4,.cells [.i 0,.i 0] 66)]⟩<|AB ?_
 refine AV _ rfl (fun h1 => ?_) (fun h1 => ?_)
 ·have g1:=oT h1
  refine AY<|AG ?_
  refine AB<|AR ?_
  refine rg ⟨[(2,tP 2 0),(3,tP 3 0),(4,tP 4 0),(12,tI (B3 m)),(13,tI v13)],[(2,.cells (Ae.c m) 74),(3,.cells [.i (W64 (0-p'.Y)),.i p'.X] 66),(4,.cells [.i 0,.i 0] 66)]⟩<|BN<|AG ?_
  refine rg ⟨[(2,tP 2 0),(3,tP 3 0),(4,tP 4 0),(12,tI (B3 m)),(13,tI (W64 (v13+1)))],[(2,.cells (Ae.c m) 74),(3,.cells [.i (W64 (0-p'.Y)),.i p'.X] 66),(4,.cells [.i 0,.i 0] 66)]⟩ ?_
  (try rw [e1])
  refine AG ?_
  refine ⟨(n0,AC.mk (W64 (0-p'.Y)) p'.X,v13+1),⟨?_,?_,(by rw [<- hF0];simp only [B9,h1,cond_true,cond_false])⟩,Nat.lt_succ_self _,Ay kr⟩
  ·show (((B3 m))-(v13+1)).toNat<n0;omega
  exact ax0
 refine BF<|A3 ?_
 refine A3<|BG ?_
 refine AG<|AB ?_
 refine rs 25 (Uh p' m.At) ⟨[(4,tP 4 0)],[(4,.cells (AC.c (Gu p' m.At)) 66)]⟩ (jK p' m.At)<|AG<|AW ?_
 exact xl (.av (.agg (AC.c (Gu p' m.At)))) (Aa (by rw [<- hF0];first | (simp only [B9,h1,cond_true,cond_false] <;> rfl)))
theorem DD (m:Ae) (p:AC):OKc (Bs m p):=cPu<|bT m p
def BA (x0:AF):Ak:=Ak.mk (min x0.A.X x0.B.X) (min x0.A.Y x0.B.Y) (max x0.A.X x0.B.X) (max x0.A.Y x0.B.Y)
def HS:CT:=(82,[.agg (AF.c x0)],.val [] (.av (.agg (Ak.c (BA x0)))))
theorem iU (x0:AF):PuP 82 (HS x0).2.1 (.av (.agg (Ak.c (BA x0)))):=by
 refine pwf Tryz.func82 fun W0 M0 => ?_
 refine AB<|rn ⟨[(1,tP 1 0),(2,tP 2 0)],[(1,.cells (AF.c x0) 68),(2,.cells [.i 0,.i 0,.i 0,.i 0] 90)]⟩<|AB ?_
 refine rn ⟨[(2,tP 2 0)],[(2,.cells [.i (min x0.A.X x0.B.X),.i (min x0.A.Y x0.B.Y),.i (max x0.A.X x0.B.X),.i (max x0.A.Y x0.B.Y)] 90)]⟩<|AW ?_
 exact xl (.av (.agg [.i (min x0.A.X x0.B.X),.i (min x0.A.Y x0.B.Y),.i (max x0.A.X x0.B.X),.i (max x0.A.Y x0.B.Y)])) (Aa (by rfl))
theorem Ki (x0:AF):OKc (HS x0):=cPu<|iU x0
def B2 (x0:AF):Int:=bif decide ((x0.A.Y:Int)<x0.B.Y) then (1) else (bif decide ((x0.B.Y:Int)<x0.A.Y) then ((-1)) else (0))
def GK:CT:=(144,[.agg (AF.c x0)],.val [] (.av (.one (.i (B2 x0)))))
theorem VR (x0:AF):PuP 144 (GK x0).2.1 (tO (.i (B2 x0))):=by
 refine pwf Tryz.func144 fun W0 M0 => ?_
 refine AB<|rn ⟨[(1,tP 1 0)],[(1,.cells (AF.c x0) 68)]⟩ ?_
 refine AB<|AR<|AB ?_
 refine rn ⟨[(1,tP 1 0),(3,tB (decide ((x0.A.Y:Int)<x0.B.Y)))],[(1,.cells (AF.c x0) 68)]⟩ ?_
 refine AV _ rfl (fun h1 => ?_) (fun h1 => ?_)
 ·refine AB<|rn ⟨[(2,tI 1)],[]⟩ ?_
  refine AW<|Bo<|A7 ?_
  exact xl (tO (.i 1)) (Aa (by simp only [B2,h1,cond_true,cond_false] <;> rfl))
 refine AB<|rn ⟨[(11,tB (decide ((x0.B.Y:Int)<x0.A.Y)))],[]⟩ ?_
 refine AV _ rfl (fun h2 => ?_) (fun h2 => ?_)
 ·refine AB<|rn ⟨[(2,tI ((-1)))],[]⟩ ?_
  refine AW<|Bo<|A7 ?_
  exact xl (tO (.i ((-1)))) (Aa (by simp only [B2,h1,h2,cond_true,cond_false] <;> rfl))
 refine AY<|BN ?_
 refine AG<|AB ?_
 refine rn ⟨[(2,tI 0)],[]⟩<|AW ?_
 exact xl (tO (.i 0)) (Aa (by simp only [B2,h1,h2,cond_true,cond_false] <;> rfl))
theorem Mq (x0:AF):OKc (GK x0):=cPu<|VR x0
def Dm (x0:AF) (x1:AC):Int:=W64 ((CG (AM x1 x0.C) (AM x1 x0.C))-(CG (AM x0.A x0.C) (AM x0.A x0.C)))
def Ft:CT:=(191,[.agg (AF.c x0),.agg (AC.c x1)],.val [] (.av (.one (.i (Dm x0 x1)))))
theorem X8 (x0:AF) (x1:AC):PuP 191 (Ft x0 x1).2.1 (tO (.i (Dm x0 x1))):=by
 refine pwf Tryz.func191 fun W0 M0 => ?_
 refine AB<|rn ⟨[(2,tP 2 0),(3,tP 3 0)],[(2,.cells (AF.c x0) 68),(3,.cells (AC.c x1) 66)]⟩<|AB ?_
 refine dw [] [(10,CF x1 x0.C),(15,CF x0.A x0.C)] [Ap (CF x1 x0.C).2.1,Ap (CF x0.A x0.C).2.1] ⟨[(5,tP 5 0),(6,tP 6 0)],[(5,.cells (AC.c (AM x1 x0.C)) 66),(6,.cells (AC.c (AM x0.A x0.C)) 66)]⟩ (.cons (DX x1 x0.C) (.cons (DX x0.A x0.C) .nil)) (.cons rfl (.cons rfl .nil))<|AG<|AB ?_
 refine dw [] [(18,FQ (AM x1 x0.C) (AM x1 x0.C)),(21,FQ (AM x0.A x0.C) (AM x0.A x0.C))] [Ap (FQ (AM x1 x0.C) (AM x1 x0.C)).2.1,Ap (FQ (AM x0.A x0.C) (AM x0.A x0.C)).2.1] ⟨[(4,tI (W64 ((CG (AM x1 x0.C) (AM x1 x0.C))-(CG (AM x0.A x0.C) (AM x0.A x0.C)))))],[]⟩ (.cons (KO (AM x1 x0.C) (AM x1 x0.C)) (.cons (KO (AM x0.A x0.C) (AM x0.A x0.C)) .nil)) (.cons rfl (.cons rfl .nil))<|AG<|AW ?_
 exact xl (tO (.i (W64 ((CG (AM x1 x0.C) (AM x1 x0.C))-(CG (AM x0.A x0.C) (AM x0.A x0.C)))))) (Aa (by rfl))
theorem On (x0:AF) (x1:AC):OKc (Ft x0 x1):=cPu<|X8 x0 x1
def Co (x0:AF) (x1:Int):Bool:=bif !((decide ((((AM x0.A x0.C).X):Int)=0))==(decide ((((AM x0.A x0.C).Y):Int)=0))) then (decide (((AM x0.B x0.C).X)=((AZ (Ae.mk (AC.mk 0 0) x1 false) (AM x0.A x0.C)).X))&&(decide (((AM x0.B x0.C).Y)=((AZ (Ae.mk (AC.mk 0 0) x1 false) (AM x0.A x0.C)).Y))&&true)) else false
def Gs (x1:Int):CT:=(190,[.agg (AF.c x0),.one (.i x1)],.val [] (.av (.one (.b (Co x0 x1)))))
theorem T9 (x0:AF) (x1:Int):PuP 190 (Gs x0 x1).2.1 (tO (.b (Co x0 x1))):=by
 refine pwf Tryz.func190 fun W0 M0 => ?_
 refine AB<|rn ⟨[(1,tI x1),(2,tP 2 0)],[(2,.cells (AF.c x0) 68)]⟩<|AB ?_
 refine rs 10 (CF x0.A x0.C) ⟨[(1,tI x1),(2,tP 2 0),(5,tP 5 0)],[(2,.cells (AF.c x0) 68),(5,.cells (AC.c (AM x0.A x0.C)) 66)]⟩ (DX x0.A x0.C)<|AG<|AB ?_
 refine dw [] [(23,CF x0.B x0.C),(27,Bs (Ae.mk (AC.mk 0 0) x1 false) (AM x0.A x0.C))] (t4 (!((decide ((((AM x0.A x0.C).X):Int)=0))==(decide ((((AM x0.A x0.C).Y):Int)=0)))) ((gk (!((decide ((((AM x0.A x0.C).X):Int)=0))==(decide ((((AM x0.A x0.C).Y):Int)=0)))) (Ap (CF x0.B x0.C).2.1))::(t3 (!((decide ((((AM x0.A x0.C).X):Int)=0))==(decide ((((AM x0.A x0.C).Y):Int)=0)))) ((gk (!((decide ((((AM x0.A x0.C).X):Int)=0))==(decide ((((AM x0.A x0.C).Y):Int)=0)))) (Ap (Bs (Ae.mk (AC.mk 0 0) x1 false) (AM x0.A x0.C)).2.1))::(t3 (!((decide ((((AM x0.A x0.C).X):Int)=0))==(decide ((((AM x0.A x0.C).Y):Int)=0)))) []))))) ⟨[(4,tB (bif !((decide ((((AM x0.A x0.C).X):Int)=0))==(decide ((((AM x0.A x0.C).Y):Int)=0))) then (decide (((AM x0.B x0.C).X)=((AZ (Ae.mk (AC.mk 0 0) x1 false) (AM x0.A x0.C)).X))&&(decide (((AM x0.B x0.C).Y)=((AZ (Ae.mk (AC.mk 0 0) x1 false) (AM x0.A x0.C)).Y))&&true)) else false))],[]⟩ (.cons (DX x0.B x0.C) (.cons (DD (Ae.mk (AC.mk 0 0) x1 false) (AM x0.A x0.C)) .nil)) (c4 (.cons (fun _=>rfl) (c3 (.cons (fun _=>rfl) (c3 .nil)))))<|AG<|AW ?_
 exact xl (tO (.b (bif !((decide ((((AM x0.A x0.C).X):Int)=0))==(decide ((((AM x0.A x0.C).Y):Int)=0))) then (decide (((AM x0.B x0.C).X)=((AZ (Ae.mk (AC.mk 0 0) x1 false) (AM x0.A x0.C)).X))&&(decide (((AM x0.B x0.C).Y)=((AZ (Ae.mk (AC.mk 0 0) x1 false) (AM x0.A x0.C)).Y))&&true)) else false))) (Aa (by rfl))
theorem LI (x0:AF) (x1:Int):OKc (Gs x0 x1):=cPu<|T9 x0 x1
def G1 (x0:AF):Bool:=(decide (x0.C.X=0)&&(decide (x0.C.Y=0)&&true))
def OV:CT:=(172,[.agg (AF.c x0)],.val [] (.av (.one (.b (G1 x0)))))
theorem bZ (x0:AF):PuP 172 (OV x0).2.1 (tO (.b (G1 x0))):=by
 refine pwf Tryz.func172 fun W0 M0 => ?_
 refine AB<|rn ⟨[(1,tP 1 0)],[(1,.cells (AF.c x0) 68)]⟩<|AB ?_
 refine rn ⟨[(2,tB ((decide (x0.C.X=0)&&(decide (x0.C.Y=0)&&true))))],[]⟩<|AW ?_
 exact xl (tO (.b ((decide (x0.C.X=0)&&(decide (x0.C.Y=0)&&true))))) (Aa (by rfl))
theorem YJ (x0:AF):OKc (OV x0):=cPu<|bZ x0
def D0 (x0:AF):Bool:=Co x0 1
def HR:CT:=(175,[.agg (AF.c x0)],.val [] (.av (.one (.b (D0 x0)))))
theorem Qc (x0:AF):PuP 175 (HR x0).2.1 (tO (.b (D0 x0))):=by
 refine pwf Tryz.func175 fun W0 M0 => ?_
 refine AB<|rn ⟨[(1,tP 1 0)],[(1,.cells (AF.c x0) 68)]⟩<|AB ?_
 refine rs 4 (Gs x0 1) ⟨[(2,tB (Co x0 1))],[]⟩ (LI x0 1)<|AG<|AW ?_
 exact xl (tO (.b (Co x0 1))) (Aa (by rfl))
theorem PJ (x0:AF):OKc (HR x0):=cPu<|Qc x0
def DU (x0:AF):Bool:=Co x0 3
def Ge:CT:=(178,[.agg (AF.c x0)],.val [] (.av (.one (.b (DU x0)))))
theorem PH (x0:AF):PuP 178 (Ge x0).2.1 (tO (.b (DU x0))):=by
 refine pwf Tryz.func178 fun W0 M0 => ?_
 refine AB<|rn ⟨[(1,tP 1 0)],[(1,.cells (AF.c x0) 68)]⟩<|AB ?_
 refine rs 4 (Gs x0 3) ⟨[(2,tB (Co x0 3))],[]⟩ (LI x0 3)<|AG<|AW ?_
 exact xl (tO (.b (Co x0 3))) (Aa (by rfl))
theorem OB (x0:AF):OKc (Ge x0):=cPu<|PH x0
def F2 (x0:AF) (x1:AC):Bool:=decide (((Ex x0.A x0.B x1):Int)=(B2 x0))
def MK:CT:=(174,[.agg (AF.c x0),.agg (AC.c x1)],.val [] (.av (.one (.b (F2 x0 x1)))))
theorem X9 (x0:AF) (x1:AC):PuP 174 (MK x0 x1).2.1 (tO (.b (F2 x0 x1))):=by
 refine pwf Tryz.func174 fun W0 M0 => ?_
 refine AB<|rn ⟨[(2,tP 2 0),(3,tP 3 0)],[(2,.cells (AF.c x0) 68),(3,.cells (AC.c x1) 66)]⟩<|AB ?_
 refine dw [] [(10,NC x0.A x0.B x1),(12,GK x0)] [Ap (NC x0.A x0.B x1).2.1,Ap (GK x0).2.1] ⟨[(4,tB (decide (((Ex x0.A x0.B x1):Int)=(B2 x0))))],[]⟩ (.cons (cJ x0.A x0.B x1) (.cons (Mq x0) .nil)) (.cons rfl (.cons rfl .nil))<|AG<|AW ?_
 exact xl (tO (.b (decide (((Ex x0.A x0.B x1):Int)=(B2 x0))))) (Aa (by rfl))
theorem Vf (x0:AF) (x1:AC):OKc (MK x0 x1):=cPu<|X9 x0 x1
def DA (x0:AF) (x1:AC):Bool:=bif bif decide ((x0.C.X:Int)<x0.A.X) then true else decide ((x0.C.X:Int)<x0.B.X) then (bif decide ((x1.X:Int)<x0.C.X) then true else decide (((Dm x0 x1):Int)<0)) else (bif decide ((x1.X:Int)<x0.C.X) then decide ((0:Int)<(Dm x0 x1)) else false)
def Hn:CT:=(177,[.agg (AF.c x0),.agg (AC.c x1)],.val [] (.av (.one (.b (DA x0 x1)))))
theorem VS (x0:AF) (x1:AC):PuP 177 (Hn x0 x1).2.1 (tO (.b (DA x0 x1))):=by
 refine pwf Tryz.func177 fun W0 M0 => ?_
 refine AB<|rn ⟨[(2,tP 2 0),(3,tP 3 0)],[(2,.cells (AF.c x0) 68),(3,.cells (AC.c x1) 66)]⟩ ?_
 refine AB<|AB ?_
 refine rc [] (i2 (decide ((x0.C.X:Int)<x0.A.X)) (i5 (decide ((x0.C.X:Int)<x0.A.X)) [])) ⟨[(2,tP 2 0),(3,tP 3 0),(20,tB (bif decide ((x0.C.X:Int)<x0.A.X) then true else decide ((x0.C.X:Int)<x0.B.X)))],[(2,.cells (AF.c x0) 68),(3,.cells (AC.c x1) 66)]⟩ .nil (c2 (c5 .nil))<|AG ?_
 refine AV _ rfl (fun h1 => ?_) (fun h1 => ?_)
 ·refine AB<|rc [(30,Ft x0 x1)] (i2 (decide ((x1.X:Int)<x0.C.X)) ((gj (decide ((x1.X:Int)<x0.C.X)) (Ap (Ft x0 x1).2.1))::(i2 (decide ((x1.X:Int)<x0.C.X)) []))) ⟨[(4,tB (bif decide ((x1.X:Int)<x0.C.X) then true else decide (((Dm x0 x1):Int)<0)))],[]⟩ (.cons (On x0 x1) .nil) (c2 (.cons (fun _=>rfl) (c2 .nil)))<|AG ?_
  refine AW<|A7 ?_
  exact xl (tO (.b (bif decide ((x1.X:Int)<x0.C.X) then true else decide (((Dm x0 x1):Int)<0)))) (Aa (by simp only [DA,h1,cond_true,cond_false] <;> rfl))
 refine AY<|AG<|AB ?_
 refine rc [(42,Ft x0 x1)] (t2 (decide ((x1.X:Int)<x0.C.X)) ((gk (decide ((x1.X:Int)<x0.C.X)) (Ap (Ft x0 x1).2.1))::(t2 (decide ((x1.X:Int)<x0.C.X)) []))) ⟨[(4,tB (bif decide ((x1.X:Int)<x0.C.X) then decide ((0:Int)<(Dm x0 x1)) else false))],[]⟩ (.cons (On x0 x1) .nil) (c2 (.cons (fun _=>rfl) (c2 .nil)))<|AG<|AW ?_
 exact xl (tO (.b (bif decide ((x1.X:Int)<x0.C.X) then decide ((0:Int)<(Dm x0 x1)) else false))) (Aa (by simp only [DA,h1,cond_true,cond_false] <;> rfl))
theorem Mr (x0:AF) (x1:AC):OKc (Hn x0 x1):=cPu<|VS x0 x1
def MI:CT:=(164,[.one (.i 1)],.val [] (.tup [.agg [.clo 172 0 dfc,.clo 173 0 dfc,.clo 174 0 dfc,.i 1],.one (.b true)]))
theorem X6  : E5 Tryz.prog 164 (MI ).2.1 (.tup [.agg [.clo 172 0 dfc,.clo 173 0 dfc,.clo 174 0 dfc,.i 1],.one (.b true)]):=by
 refine pwf Tryz.func164 fun W0 M0 => ?_
 refine AB<|rn ⟨[(0,tI 1),(2,tP 2 0)],[(2,.cells [.val .nilFunc,.val .nilFunc,.val .nilFunc,.i 0] 241)]⟩ ?_
 refine AB<|AB ?_
 refine rn ⟨[(0,tI 1),(2,tP 2 0),(4,tI 1)],[(2,.cells [.val .nilFunc,.val .nilFunc,.val .nilFunc,.i 0] 241)]⟩ ?_
 refine AR<|AB ?_
 refine rn ⟨[(0,tI 1),(2,tP 2 0),(4,tI 1),(5,tB true)],[(2,.cells [.val .nilFunc,.val .nilFunc,.val .nilFunc,.i 0] 241)]⟩ ?_
 refine Cw kr<|AB ?_
 refine rn ⟨[(2,tP 2 0),(3,tB true)],[(2,.cells [.clo 172 0 dfc,.clo 173 0 dfc,.clo 174 0 dfc,.i 1] 241)]⟩ ?_
 refine AW<|Bo<|A7 ?_
 exact xl (.tup [.agg [.clo 172 0 dfc,.clo 173 0 dfc,.clo 174 0 dfc,.i 1],.one (.b true)]) (Aa rfl)
theorem Vd  : OKc (MI ):=cPu<|X6
def MH:CT:=(164,[.one (.i 2)],.val [] (.tup [.agg [.clo 175 0 dfc,.clo 176 0 dfc,.clo 177 0 dfc,.i 3],.one (.b true)]))
theorem X5  : E5 Tryz.prog 164 (MH ).2.1 (.tup [.agg [.clo 175 0 dfc,.clo 176 0 dfc,.clo 177 0 dfc,.i 3],.one (.b true)]):=by
 refine pwf Tryz.func164 fun W0 M0 => ?_
 refine AB<|rn ⟨[(0,tI 2),(2,tP 2 0)],[(2,.cells [.val .nilFunc,.val .nilFunc,.val .nilFunc,.i 0] 241)]⟩ ?_
 refine AB<|AB ?_
 refine rn ⟨[(0,tI 2),(2,tP 2 0),(4,tI 2)],[(2,.cells [.val .nilFunc,.val .nilFunc,.val .nilFunc,.i 0] 241)]⟩ ?_
 refine AR<|AB ?_
 refine rn ⟨[(0,tI 2),(2,tP 2 0),(4,tI 2),(5,tB false)],[(2,.cells [.val .nilFunc,.val .nilFunc,.val .nilFunc,.i 0] 241)]⟩ ?_
 refine FC kr<|AB ?_
 refine rn ⟨[(0,tI 2),(2,tP 2 0),(4,tI 2),(8,tB true)],[(2,.cells [.val .nilFunc,.val .nilFunc,.val .nilFunc,.i 0] 241)]⟩ ?_
 refine Cw kr<|AB ?_
 refine rn ⟨[(2,tP 2 0),(3,tB true)],[(2,.cells [.clo 175 0 dfc,.clo 176 0 dfc,.clo 177 0 dfc,.i 3] 241)]⟩ ?_
 refine AW<|Bo<|A7 ?_
 exact xl (.tup [.agg [.clo 175 0 dfc,.clo 176 0 dfc,.clo 177 0 dfc,.i 3],.one (.b true)]) (Aa rfl)
theorem Vc  : OKc (MH ):=cPu<|X5
def MG:CT:=(164,[.one (.i 3)],.val [] (.tup [.agg [.clo 178 0 dfc,.clo 176 0 dfc,.clo 177 0 dfc,.i 2],.one (.b true)]))
theorem X4  : E5 Tryz.prog 164 (MG ).2.1 (.tup [.agg [.clo 178 0 dfc,.clo 176 0 dfc,.clo 177 0 dfc,.i 2],.one (.b true)]):=by
 refine pwf Tryz.func164 fun W0 M0 => ?_
 refine AB<|rn ⟨[(0,tI 3),(2,tP 2 0)],[(2,.cells [.val .nilFunc,.val .nilFunc,.val .nilFunc,.i 0] 241)]⟩ ?_
 refine AB<|AB ?_
 refine rn ⟨[(0,tI 3),(2,tP 2 0),(4,tI 3)],[(2,.cells [.val .nilFunc,.val .nilFunc,.val .nilFunc,.i 0] 241)]⟩ ?_
 refine AR<|AB ?_
 refine rn ⟨[(0,tI 3),(2,tP 2 0),(4,tI 3),(5,tB false)],[(2,.cells [.val .nilFunc,.val .nilFunc,.val .nilFunc,.i 0] 241)]⟩ ?_
 refine FC kr<|AB ?_
 refine rn ⟨[(0,tI 3),(2,tP 2 0),(4,tI 3),(8,tB false)],[(2,.cells [.val .nilFunc,.val .nilFunc,.val .nilFunc,.i 0] 241)]⟩ ?_
 refine FC kr<|AB ?_
 refine rn ⟨[(0,tI 3),(2,tP 2 0),(11,tB true)],[(2,.cells [.val .nilFunc,.val .nilFunc,.val .nilFunc,.i 0] 241)]⟩ ?_
 refine Cw kr<|AB ?_
 refine rn ⟨[(2,tP 2 0),(3,tB true)],[(2,.cells [.clo 178 0 dfc,.clo 176 0 dfc,.clo 177 0 dfc,.i 2] 241)]⟩ ?_
 refine AW<|Bo<|A7 ?_
 exact xl (.tup [.agg [.clo 178 0 dfc,.clo 176 0 dfc,.clo 177 0 dfc,.i 2],.one (.b true)]) (Aa rfl)
theorem Vb  : OKc (MG ):=cPu<|X4
def MF:CT:=(164,[.one (.i k)],.val [] (.tup [.agg [.val .nilFunc,.val .nilFunc,.val .nilFunc,.i k],.one (.b false)]))
theorem X3 (k:Int) (k1:¬ k=1) (k2:¬ k=2) (k3:¬ k=3):PuP 164 (MF k).2.1 (.tup [.agg [.val .nilFunc,.val .nilFunc,.val .nilFunc,.i k],.one (.b false)]):=by
 refine pwf Tryz.func164 fun W0 M0 => ?_
 refine AB<|rn ⟨[(0,tI k),(2,tP 2 0)],[(2,.cells [.val .nilFunc,.val .nilFunc,.val .nilFunc,.i 0] 241)]⟩ ?_
 refine AB<|AB ?_
 refine rn ⟨[(0,tI k),(2,tP 2 0),(4,tI k)],[(2,.cells [.val .nilFunc,.val .nilFunc,.val .nilFunc,.i 0] 241)]⟩ ?_
 refine AR<|AB ?_
 refine rn ⟨[(0,tI k),(2,tP 2 0),(4,tI k),(5,tB (decide ((k:Int)=1)))],[(2,.cells [.val .nilFunc,.val .nilFunc,.val .nilFunc,.i 0] 241)]⟩ ?_
 refine AV _ rfl (fun h=>absurd ((decide_eq_false k1).symm.trans h) (by decide)) (fun _ => ?_)
 refine AB<|rn ⟨[(0,tI k),(2,tP 2 0),(4,tI k),(8,tB (decide ((k:Int)=2)))],[(2,.cells [.val .nilFunc,.val .nilFunc,.val .nilFunc,.i 0] 241)]⟩ ?_
 refine AV _ rfl (fun h=>absurd ((decide_eq_false k2).symm.trans h) (by decide)) (fun _ => ?_)
 refine AB<|rn ⟨[(0,tI k),(2,tP 2 0),(11,tB (decide ((k:Int)=3)))],[(2,.cells [.val .nilFunc,.val .nilFunc,.val .nilFunc,.i 0] 241)]⟩ ?_
 refine AV _ rfl (fun h=>absurd ((decide_eq_false k3).symm.trans h) (by decide)) (fun _ => ?_)
 refine AY<|BN ?_
 refine AG<|AB ?_
 refine rn ⟨[(2,tP 2 0),(3,tB false)],[(2,.cells [.val .nilFunc,.val .nilFunc,.val .nilFunc,.i k] 241)]⟩<|AW ?_
 exact xl (.tup [.agg [.val .nilFunc,.val .nilFunc,.val .nilFunc,.i k],.one (.b false)]) (Aa rfl)
theorem Va (k:Int) (k1:¬ k=1) (k2:¬ k=2) (k3:¬ k=3):OKc (MF k):=cPu<|X3 k k1 k2 k3
def Z00:Bool:=bif Al a0 then Al a1 else false
def Z01:Bool:=bif Z00 a0 a1 then Al a2 else false
def Z02:Bool:=bif Z01 a0 a1 a2 then G1 (AF.mk 1 a0 a1 a2) else false
def dN:CT:=(130,[.agg [.i 1,.i a0.X,.i a0.Y,.i a1.X,.i a1.Y,.i a2.X,.i a2.Y]],.val [] (.tup [.agg [.clo 172 0 dfc,.clo 173 0 dfc,.clo 174 0 dfc,.i 1],.one (.b (Z02 a0 a1 a2))]))
theorem wN {p:Prop} (h:p:=by
 refine pwf Tryz.func130 fun W0 M0 => ?_
 refine AB<|rn ⟨[(1,tP 1 0),(2,tP 2 0)],[(1,.cells [.i mp0,.i a0.X,.i a0.Y,.i a1.X,.i a1.Y,.i a2.X,.i a2.Y] 68),(2,.cells [.val .nilFunc,.val .nilFunc,.val .nilFunc,.i 0] 241)]⟩<|AB ?_
 refine rs 9 mp1 ⟨[(1,tP 1 0),(2,tP 2 0),(4,tP 4 0),(5,tB true)],[(1,.cells [.i mp0,.i a0.X,.i a0.Y,.i a1.X,.i a1.Y,.i a2.X,.i a2.Y] 68),(2,.cells [.val .nilFunc,.val .nilFunc,.val .nilFunc,.i 0] 241),(4,.cells [.clo mp2 0 (fun _=>default),.clo mp3 0 (fun _=>default),.clo mp4 0 (fun _=>default),.i mp5] 241)]⟩ (mp6)<|AG<|AB ?_
 refine dw [] [(17,Bb a0),(22,Bb a1),(27,Bb a2),(33,mp7 (AF.mk mp0 a0 a1 a2))] ((((true)=true)->((true)=true))::(((true)=true)->((true)=true))::(((true)=true)->(Ap (Bb a0).2.1))::((true)=true->((true)=true))::(t2 (Al a0) ((gk (Al a0) (Ap (Bb a1).2.1))::(gt (Al a0))::(gp ((mp8 a0 a1)=true))::(gp ((mp8 a0 a1)=true))::(((mp8 a0 a1)=true)->(Ap (Bb a2).2.1))::(gp ((mp8 a0 a1)=true))::(t3 (mp9 a0 a1 a2) [gk (mp9 a0 a1 a2) (Ap (mp7 (AF.mk mp0 a0 a1 a2)).2.1),gt (mp9 a0 a1 a2)])))) ⟨[(2,tP 2 0),(3,tB (mp10 a0 a1 a2))],[(2,.cells [.clo mp2 0 (fun _=>default),.clo mp3 0 (fun _=>default),.clo mp4 0 (fun _=>default),.i mp5] 241)]⟩ (.cons (Cy a0) (.cons (Cy a1) (.cons (Cy a2) (.cons (mp11 (AF.mk mp0 a0 a1 a2)) .nil)))) (ci (ci (.cons (fun _=>rfl) (ci (c2 (.cons (fun _=>rfl) (ci (ci (ci (.cons (fun _=>rfl) (ci (c3 (.cons (fun _=>rfl) (ci .nil))))))))))))))<|AG<|AW ?_
 exact xl (.tup [.agg [.clo mp2 0 (fun _=>default),.clo mp3 0 (fun _=>default),.clo mp4 0 (fun _=>default),.i mp5],.one (.b (mp10 a0 a1 a2))]) (Aa rfl)):p:=h
section
 open Go.Proofs.YtheobjkgllmnmaaGreat renaming ni1→mp0,MI→mp1,tR→mp2,tQ→mp3,tN→mp4,ni1→mp5,Vd→mp6,OV→mp7,Z00→mp8,Z01→mp9,Z02→mp10,YJ→mp11
theorem pof1 (a0:AC) (a1:AC) (a2:AC):PuP 130 (dN a0 a1 a2).2.1 (.tup [.agg [.clo 172 0 dfc,.clo 173 0 dfc,.clo 174 0 dfc,.i 1],.one (.b (Z02 a0 a1 a2))]):=wN
end
theorem Ze (a0:AC) (a1:AC) (a2:AC):OKc (dN a0 a1 a2):=cPu<|pof1 a0 a1 a2
def Z03:Bool:=bif Al a0 then Al a1 else false
def Z04:Bool:=bif Z03 a0 a1 then Al a2 else false
def Z05:Bool:=bif Z04 a0 a1 a2 then D0 (AF.mk 2 a0 a1 a2) else false
def dM:CT:=(130,[.agg [.i 2,.i a0.X,.i a0.Y,.i a1.X,.i a1.Y,.i a2.X,.i a2.Y]],.val [] (.tup [.agg [.clo 175 0 dfc,.clo 176 0 dfc,.clo 177 0 dfc,.i 3],.one (.b (Z05 a0 a1 a2))]))
section
 open Go.Proofs.YtheobjkgllmnmaaGreat renaming ni2→mp0,MH→mp1,kA→mp2,Zn→mp3,Zm→mp4,ni3→mp5,Vc→mp6,HR→mp7,Z03→mp8,Z04→mp9,Z05→mp10,PJ→mp11
theorem pof2 (a0:AC) (a1:AC) (a2:AC):PuP 130 (dM a0 a1 a2).2.1 (.tup [.agg [.clo 175 0 dfc,.clo 176 0 dfc,.clo 177 0 dfc,.i 3],.one (.b (Z05 a0 a1 a2))]):=wN
end
theorem Zd (a0:AC) (a1:AC) (a2:AC):OKc (dM a0 a1 a2):=cPu<|pof2 a0 a1 a2
def Z06:Bool:=bif Al a0 then Al a1 else false
def Z07:Bool:=bif Z06 a0 a1 then Al a2 else false
def Z08:Bool:=bif Z07 a0 a1 a2 then DU (AF.mk 3 a0 a1 a2) else false
def dL:CT:=(130,[.agg [.i 3,.i a0.X,.i a0.Y,.i a1.X,.i a1.Y,.i a2.X,.i a2.Y]],.val [] (.tup [.agg [.clo 178 0 dfc,.clo 176 0 dfc,.clo 177 0 dfc,.i 2],.one (.b (Z08 a0 a1 a2))]))
section
 open Go.Proofs.YtheobjkgllmnmaaGreat renaming ni3→mp0,MG→mp1,jZ→mp2,Zn→mp3,Zm→mp4,ni2→mp5,Vb→mp6,Ge→mp7,Z06→mp8,Z07→mp9,Z08→mp10,OB→mp11
theorem pof3 (a0:AC) (a1:AC) (a2:AC):PuP 130 (dL a0 a1 a2).2.1 (.tup [.agg [.clo 178 0 dfc,.clo 176 0 dfc,.clo 177 0 dfc,.i 2],.one (.b (Z08 a0 a1 a2))]):=wN
end
theorem Zc (a0:AC) (a1:AC) (a2:AC):OKc (dL a0 a1 a2):=cPu<|pof3 a0 a1 a2
def dK:CT:=(130,[.agg (AF.c e)],.val [] (.tup [.agg [.val .nilFunc,.val .nilFunc,.val .nilFunc,.i e.Kind],.one (.b false)]))
theorem pofN (e:AF) (k1:¬ e.Kind=1) (k2:¬ e.Kind=2) (k3:¬ e.Kind=3):PuP 130 (dK e).2.1 (.tup [.agg [.val .nilFunc,.val .nilFunc,.val .nilFunc,.i e.Kind],.one (.b false)]):=by
 refine pwf Tryz.func130 fun W0 M0 => ?_
 refine AB<|rn ⟨[(1,tP 1 0),(2,tP 2 0)],[(1,.cells (AF.c e) 68),(2,.cells [.val .nilFunc,.val .nilFunc,.val .nilFunc,.i 0] 241)]⟩<|AB ?_
 refine rs 9 (MF e.Kind) ⟨[(1,tP 1 0),(2,tP 2 0),(4,tP 4 0),(5,tB false)],[(1,.cells (AF.c e) 68),(2,.cells [.val .nilFunc,.val .nilFunc,.val .nilFunc,.i 0] 241),(4,.cells [.val .nilFunc,.val .nilFunc,.val .nilFunc,.i e.Kind] 241)]⟩ (Va e.Kind k1 k2 k3)<|AG<|AB ?_
 refine dw [] [(17,Bb e.A),(22,Bb e.B),(27,Bb e.C)] [((false)=true)->((false)=true),((false)=true)->((false)=true),((false)=true)->(Ap (Bb e.A).2.1),(false)=true->((false)=true),((false)=true)->((false)=true),((false)=true)->((false)=true),((false)=true)->(Ap (Bb e.B).2.1),(false)=true->((false)=true),((false)=true)->((false)=true),((false)=true)->((false)=true),((false)=true)->(Ap (Bb e.C).2.1),(false)=true->((false)=true),((false)=true)->((false)=true),¬ ((false)=true),(false)=true->((false)=true)] ⟨[(2,tP 2 0),(3,tB false)],[(2,.cells [.val .nilFunc,.val .nilFunc,.val .nilFunc,.i e.Kind] 241)]⟩ (.cons (Cy e.A) (.cons (Cy e.B) (.cons (Cy e.C) .nil))) (ci (ci (.cons (fun _=>rfl) (ci (ci (ci (.cons (fun _=>rfl) (ci (ci (ci (.cons (fun _=>rfl) (ci (ci (.cons (by simp) (ci .nil)))))))))))))))<|AG<|AW ?_
 exact xl (.tup [.agg [.val .nilFunc,.val .nilFunc,.val .nilFunc,.i e.Kind],.one (.b false)]) (Aa rfl)
theorem Zb (e:AF) (k1:¬ e.Kind=1) (k2:¬ e.Kind=2) (k3:¬ e.Kind=3):OKc (dK e):=cPu<|pofN e k1 k2 k3
def Z09:Bool := !(bif bif Al a0 then Al a1 else false then Al a2 else false)
def LD (a0:AC) (a1:AC) (a2:AC):Int:=bif Z02 a0 a1 a2 then (0) else (bif Z09 a0 a1 a2 then (10) else (11))
def sD:CT:=(79,[.agg [.i 1,.i a0.X,.i a0.Y,.i a1.X,.i a1.Y,.i a2.X,.i a2.Y]],.val [] (.av (.one (.i (LD a0 a1 a2)))))
theorem wM {p:Prop} (h:p:=by
 refine pwf Tryz.func79 fun W0 M0 => ?_
 refine AB<|rn ⟨[(1,tP 1 0)],[(1,.cells [.i mp0,.i a0.X,.i a0.Y,.i a1.X,.i a1.Y,.i a2.X,.i a2.Y] 68)]⟩ ?_
 refine AB<|AB ?_
 refine rs 7 (mp1 a0 a1 a2) ⟨[(1,tP 1 0),(4,tB (mp2 a0 a1 a2))],[(1,.cells [.i mp0,.i a0.X,.i a0.Y,.i a1.X,.i a1.Y,.i a2.X,.i a2.Y] 68)]⟩ (mp3 a0 a1 a2)<|AG ?_
 refine AR<|AB ?_
 refine rn ⟨[(1,tP 1 0),(10,tB (mp2 a0 a1 a2))],[(1,.cells [.i mp0,.i a0.X,.i a0.Y,.i a1.X,.i a1.Y,.i a2.X,.i a2.Y] 68)]⟩ ?_
 refine AV _ rfl (fun h1 => ?_) (fun h1 => ?_)
 ·refine AB<|rn ⟨[(2,tI 0)],[]⟩ ?_
  refine AW<|Bo<|A7 ?_
  exact xl (tO (.i 0)) (Aa (by simp only [mp4,h1,cond_true,cond_false] <;> rfl))
 refine AB<|rc [(24,Bb a0),(28,Bb a1),(33,Bb a2)] [((true)=true)->((true)=true),((true)=true)->((true)=true),(true)=true->((true)=true),((true)=true)->((true)=true),((true)=true)->((true)=true),((true)=true)->(Ap (Bb a0).2.1),((true)=true)->((true)=true),gp (((true)=true)/\(Al a0)=true),gp (((true)=true)/\(Al a0)=true),(((true)=true)/\(Al a0)=true)->(Ap (Bb a1).2.1),((true)=true)->((true)=true),((true)=true)->((Al a0)=true->(((true)=true)/\(Al a0)=true)),((true)=true)->((true)=true),gp (((true)=true)/\(bif Al a0 then Al a1 else false)=true),gp (((true)=true)/\(bif Al a0 then Al a1 else false)=true),(((true)=true)/\(bif Al a0 then Al a1 else false)=true)->(Ap (Bb a2).2.1),((true)=true)->((true)=true),((true)=true)->((bif Al a0 then Al a1 else false)=true->(((true)=true)/\(bif Al a0 then Al a1 else false)=true)),((true)=true)->((true)=true),(true)=true->((true)=true)] ⟨[(12,tB (mp5 a0 a1 a2))],[]⟩ (.cons (Cy a0) (.cons (Cy a1) (.cons (Cy a2) .nil))) (ci (ci (ci (ci (ci (.cons (fun _=>rfl) (ci (ci (ci (.cons (fun _=>rfl) (ci (.cons (by intros;first | assumption | exact ⟨by assumption,by assumption⟩ | simp_all) (ci (ci (ci (.cons (fun _=>rfl) (ci (.cons (by intros;first | assumption | exact ⟨by assumption,by assumption⟩ | simp_all) (ci (ci .nil))))))))))))))))))))<|AG ?_
 refine AV _ rfl (fun h2 => ?_) (fun h2 => ?_)
 ·refine AB<|rn ⟨[(2,tI 10)],[]⟩ ?_
  refine AW<|Bo<|A7 ?_
  exact xl (tO (.i 10)) (Aa (by simp only [mp4,h1,h2,cond_true,cond_false] <;> rfl))
 refine AY<|BN ?_
 refine AG<|AB ?_
 refine rn ⟨[(2,tI 11)],[]⟩<|AW ?_
 exact xl (tO (.i 11)) (Aa (by simp only [mp4,h1,h2,cond_true,cond_false] <;> rfl))):p:=h
section
 open Go.Proofs.YtheobjkgllmnmaaGreat renaming ni1→mp0,dN→mp1,Z02→mp2,Ze→mp3,LD→mp4,Z09→mp5
theorem pU (a0:AC) (a1:AC) (a2:AC):PuP 79 (sD a0 a1 a2).2.1 (tO (.i (LD a0 a1 a2))):=wM
end
def Z0a:Bool := !(bif bif Al a0 then Al a1 else false then Al a2 else false)
def LC (a0:AC) (a1:AC) (a2:AC):Int:=bif Z05 a0 a1 a2 then (0) else (bif Z0a a0 a1 a2 then (10) else (11))
def sC:CT:=(79,[.agg [.i 2,.i a0.X,.i a0.Y,.i a1.X,.i a1.Y,.i a2.X,.i a2.Y]],.val [] (.av (.one (.i (LC a0 a1 a2)))))
section
 open Go.Proofs.YtheobjkgllmnmaaGreat renaming ni2→mp0,dM→mp1,Z05→mp2,Zd→mp3,LC→mp4,Z0a→mp5
theorem pT (a0:AC) (a1:AC) (a2:AC):PuP 79 (sC a0 a1 a2).2.1 (tO (.i (LC a0 a1 a2))):=wM
end
def Z0b:Bool := !(bif bif Al a0 then Al a1 else false then Al a2 else false)
def LB (a0:AC) (a1:AC) (a2:AC):Int:=bif Z08 a0 a1 a2 then (0) else (bif Z0b a0 a1 a2 then (10) else (11))
def sB:CT:=(79,[.agg [.i 3,.i a0.X,.i a0.Y,.i a1.X,.i a1.Y,.i a2.X,.i a2.Y]],.val [] (.av (.one (.i (LB a0 a1 a2)))))
section
 open Go.Proofs.YtheobjkgllmnmaaGreat renaming ni3→mp0,dL→mp1,Z08→mp2,Zc→mp3,LB→mp4,Z0b→mp5
theorem pS (a0:AC) (a1:AC) (a2:AC):PuP 79 (sB a0 a1 a2).2.1 (tO (.i (LB a0 a1 a2))):=wM
end
def Jl (e:AF):Int:=bif bif bif decide ((1:Int)<=e.Kind) then decide ((e.Kind:Int)<=3) else false then !(bif bif Al e.A then Al e.B else false then Al e.C else false) else false then (10) else (11)
def sA:CT:=(79,[.agg (AF.c e)],.val [] (.av (.one (.i (Jl e)))))
theorem pR (e:AF) (k1:¬ e.Kind=1) (k2:¬ e.Kind=2) (k3:¬ e.Kind=3):PuP 79 (sA e).2.1 (tO (.i (Jl e))):=by
 refine pwf Tryz.func79 fun W0 M0 => ?_
 refine AB<|rn ⟨[(1,tP 1 0)],[(1,.cells (AF.c e) 68)]⟩ ?_
 refine AB<|AB ?_
 refine rs 7 (dK e) ⟨[(1,tP 1 0),(4,tB false)],[(1,.cells (AF.c e) 68)]⟩ (Zb e k1 k2 k3)<|AG ?_
 refine AR<|AB ?_
 refine rn ⟨[(1,tP 1 0),(10,tB false)],[(1,.cells (AF.c e) 68)]⟩ ?_
 refine FC kr<|AB ?_
 refine rc [(24,Bb e.A),(28,Bb e.B),(33,Bb e.C)] (t3 (decide ((1:Int)<=e.Kind)) (t2 (bif decide ((1:Int)<=e.Kind) then decide ((e.Kind:Int)<=3) else false) ((gk (bif decide ((1:Int)<=e.Kind) then decide ((e.Kind:Int)<=3) else false) (Ap (Bb e.A).2.1))::(gt (bif decide ((1:Int)<=e.Kind) then decide ((e.Kind:Int)<=3) else false))::(gp (((bif decide ((1:Int)<=e.Kind) then decide ((e.Kind:Int)<=3) else false)=true)/\(Al e.A)=true))::(gp (((bif decide ((1:Int)<=e.Kind) then decide ((e.Kind:Int)<=3) else false)=true)/\(Al e.A)=true))::((((bif decide ((1:Int)<=e.Kind) then decide ((e.Kind:Int)<=3) else false)=true)/\(Al e.A)=true)->(Ap (Bb e.B).2.1))::(gt (bif decide ((1:Int)<=e.Kind) then decide ((e.Kind:Int)<=3) else false))::(((bif decide ((1:Int)<=e.Kind) then decide ((e.Kind:Int)<=3) else false)=true)->((Al e.A)=true->(((bif decide ((1:Int)<=e.Kind) then decide ((e.Kind:Int)<=3) else false)=true)/\(Al e.A)=true)))::(gt (bif decide ((1:Int)<=e.Kind) then decide ((e.Kind:Int)<=3) else false))::(gp (((bif decide ((1:Int)<=e.Kind) then decide ((e.Kind:Int)<=3) else false)=true)/\(bif Al e.A then Al e.B else false)=true))::(gp (((bif decide ((1:Int)<=e.Kind) then decide ((e.Kind:Int)<=3) else false)=true)/\(bif Al e.A then Al e.B else false)=true))::((((bif decide ((1:Int)<=e.Kind) then decide ((e.Kind:Int)<=3) else false)=true)/\(bif Al e.A then Al e.B else false)=true)->(Ap (Bb e.C).2.1))::(gt (bif decide ((1:Int)<=e.Kind) then decide ((e.Kind:Int)<=3) else false))::(((bif decide ((1:Int)<=e.Kind) then decide ((e.Kind:Int)<=3) else false)=true)->((bif Al e.A then Al e.B else false)=true->(((bif decide ((1:Int)<=e.Kind) then decide ((e.Kind:Int)<=3) else false)=true)/\(bif Al e.A then Al e.B else false)=true)))::(t2 (bif decide ((1:Int)<=e.Kind) then decide ((e.Kind:Int)<=3) else false) [])))) ⟨[(12,tB (bif bif decide ((1:Int)<=e.Kind) then decide ((e.Kind:Int)<=3) else false then !(bif bif Al e.A then Al e.B else false then Al e.C else false) else false))],[]⟩ (.cons (Cy e.A) (.cons (Cy e.B) (.cons (Cy e.C) .nil))) (c3 (c2 (.cons (fun _=>rfl) (ci (ci (ci (.cons (fun _=>rfl) (ci (.cons (by intros;first | assumption | exact ⟨by assumption,by assumption⟩ | simp_all) (ci (ci (ci (.cons (fun _=>rfl) (ci (.cons (by intros;first | assumption | exact ⟨by assumption,by assumption⟩ | simp_all) (c2 .nil))))))))))))))))<|AG ?_
 refine AV _ rfl (fun h4 => ?_) (fun h4 => ?_)
 ·refine AB<|rn ⟨[(2,tI 10)],[]⟩ ?_
  refine AW<|Bo<|A7 ?_
  exact xl (tO (.i 10)) (Aa (by simp only [Jl,h4,cond_true,cond_false] <;> rfl))
 refine AY<|BN ?_
 refine AG<|AB ?_
 refine rn ⟨[(2,tI 11)],[]⟩<|AW ?_
 exact xl (tO (.i 11)) (Aa (by simp only [Jl,h4,cond_true,cond_false] <;> rfl))
def D8 (e:AF)  : Int:=if e.Kind=1 then LD e.A e.B e.C  else if e.Kind=2 then LC e.A e.B e.C  else if e.Kind=3 then LB e.A e.B e.C  else Jl e
def Yu:CT:=(79,[.agg (AF.c e)],.val [] (.av (.one (.i (D8 e )))))
theorem vM (e:AF)  : PuP 79 (Yu e ).2.1 (.av (.one (.i (D8 e )))):=by
 by_cases k1:e.Kind=1
 ·have hF:D8 e  = LD e.A e.B e.C  := by unfold D8;rw [if_pos k1]
  rw [hF];obtain ⟨k,a0,a1,a2⟩:=e;simp only at k1;subst k1;exact pU a0 a1 a2 
 by_cases k2:e.Kind=2
 ·have hF:D8 e  = LC e.A e.B e.C  := by unfold D8;rw [if_neg k1];rw [if_pos k2]
  rw [hF];obtain ⟨k,a0,a1,a2⟩:=e;simp only at k2;subst k2;exact pT a0 a1 a2 
 by_cases k3:e.Kind=3
 ·have hF:D8 e  = LB e.A e.B e.C  := by unfold D8;rw [if_neg k1];rw [if_neg k2];rw [if_pos k3]
  rw [hF];obtain ⟨k,a0,a1,a2⟩:=e;simp only at k3;subst k3;exact pS a0 a1 a2 
 have hF:D8 e  = Jl e  := by unfold D8;rw [if_neg k1,if_neg k2,if_neg k3]
 rw [hF];exact pR e  k1 k2 k3
theorem qJ (e:AF)  : OKc (Yu e ):=cPu<|vM e
def Z0c:Bool:=bif !(Z02 a0 a1 a2) then true else true
def Kg (a0:AC) (a1:AC) (a2:AC):Int:=bif Z0c a0 a1 a2 then (0) else (max (max (max ((AM a0 a2).X) (W64 (0-((AM a0 a2).X)))) ((AM a0 a2).Y)) (W64 (0-((AM a0 a2).Y))))
def mO:CT:=(138,[.agg [.i 1,.i a0.X,.i a0.Y,.i a1.X,.i a1.Y,.i a2.X,.i a2.Y]],.val [] (.av (.one (.i (Kg a0 a1 a2)))))
theorem wL {p:Prop} (h:p:=by
 refine pwf Tryz.func138 fun W0 M0 => ?_
 refine AB<|rn ⟨[(1,tP 1 0)],[(1,.cells [.i mp0,.i a0.X,.i a0.Y,.i a1.X,.i a1.Y,.i a2.X,.i a2.Y] 68)]⟩ ?_
 refine AB<|AB ?_
 refine rs 8 (mp1 a0 a1 a2) ⟨[(1,tP 1 0),(4,tB (mp2 a0 a1 a2))],[(1,.cells [.i mp0,.i a0.X,.i a0.Y,.i a1.X,.i a1.Y,.i a2.X,.i a2.Y] 68)]⟩ (mp3 a0 a1 a2)<|AG<|AB ?_
 refine rc [] (i3 (!(mp2 a0 a1 a2)) []) ⟨[(1,tP 1 0),(17,tB (mp4 a0 a1 a2))],[(1,.cells [.i mp0,.i a0.X,.i a0.Y,.i a1.X,.i a1.Y,.i a2.X,.i a2.Y] 68)]⟩ .nil (c3 .nil)<|AG ?_
 refine AV _ rfl (fun h1 => ?_) (fun h1 => ?_)
 ·refine AB<|rn ⟨[(2,tI 0)],[]⟩ ?_
  refine AW<|A7 ?_
  exact xl (tO (.i 0)) (Aa (by simp only [mp5,h1,cond_true,cond_false] <;> rfl))
 refine AY<|AG<|AB ?_
 refine rs 22 (CF a0 a2) ⟨[(5,tP 5 0)],[(5,.cells (AC.c (AM a0 a2)) 66)]⟩ (DX a0 a2)<|AG<|AB ?_
 refine rn ⟨[(2,tI (max (max (max ((AM a0 a2).X) (W64 (0-((AM a0 a2).X)))) ((AM a0 a2).Y)) (W64 (0-((AM a0 a2).Y)))))],[]⟩<|AW ?_
 exact xl (tO (.i (max (max (max ((AM a0 a2).X) (W64 (0-((AM a0 a2).X)))) ((AM a0 a2).Y)) (W64 (0-((AM a0 a2).Y)))))) (Aa (by simp only [mp5,h1,cond_true,cond_false] <;> rfl))):p:=h
section
 open Go.Proofs.YtheobjkgllmnmaaGreat renaming ni1→mp0,dN→mp1,Z02→mp2,Ze→mp3,Z0c→mp4,Kg→mp5
theorem jD (a0:AC) (a1:AC) (a2:AC):PuP 138 (mO a0 a1 a2).2.1 (tO (.i (Kg a0 a1 a2))):=wL
end
def Z0d:Bool:=bif !(Z05 a0 a1 a2) then true else false
def Kf (a0:AC) (a1:AC) (a2:AC):Int:=bif Z0d a0 a1 a2 then (0) else (max (max (max ((AM a0 a2).X) (W64 (0-((AM a0 a2).X)))) ((AM a0 a2).Y)) (W64 (0-((AM a0 a2).Y))))
def mN:CT:=(138,[.agg [.i 2,.i a0.X,.i a0.Y,.i a1.X,.i a1.Y,.i a2.X,.i a2.Y]],.val [] (.av (.one (.i (Kf a0 a1 a2)))))
section
 open Go.Proofs.YtheobjkgllmnmaaGreat renaming ni2→mp0,dM→mp1,Z05→mp2,Zd→mp3,Z0d→mp4,Kf→mp5
theorem jC (a0:AC) (a1:AC) (a2:AC):PuP 138 (mN a0 a1 a2).2.1 (tO (.i (Kf a0 a1 a2))):=wL
end
def Z0e:Bool:=bif !(Z08 a0 a1 a2) then true else false
def Ke (a0:AC) (a1:AC) (a2:AC):Int:=bif Z0e a0 a1 a2 then (0) else (max (max (max ((AM a0 a2).X) (W64 (0-((AM a0 a2).X)))) ((AM a0 a2).Y)) (W64 (0-((AM a0 a2).Y))))
def mM:CT:=(138,[.agg [.i 3,.i a0.X,.i a0.Y,.i a1.X,.i a1.Y,.i a2.X,.i a2.Y]],.val [] (.av (.one (.i (Ke a0 a1 a2)))))
section
 open Go.Proofs.YtheobjkgllmnmaaGreat renaming ni3→mp0,dL→mp1,Z08→mp2,Zc→mp3,Z0e→mp4,Ke→mp5
theorem jB (a0:AC) (a1:AC) (a2:AC):PuP 138 (mM a0 a1 a2).2.1 (tO (.i (Ke a0 a1 a2))):=wL
end
def NU (e:AF):Int:=0
def mL:CT:=(138,[.agg (AF.c e)],.val [] (.av (.one (.i (NU e)))))
theorem jA (e:AF) (k1:¬ e.Kind=1) (k2:¬ e.Kind=2) (k3:¬ e.Kind=3):PuP 138 (mL e).2.1 (tO (.i (NU e))):=by
 refine pwf Tryz.func138 fun W0 M0 => ?_
 refine AB<|rn ⟨[(1,tP 1 0)],[(1,.cells (AF.c e) 68)]⟩ ?_
 refine AB<|AB ?_
 refine rs 8 (dK e) ⟨[(1,tP 1 0),(4,tB false)],[(1,.cells (AF.c e) 68)]⟩ (Zb e k1 k2 k3)<|AG<|AB ?_
 refine rc [] [((true)=false)->((true)=false),((true)=false)->((true)=false),(true)=false->((true)=false)] ⟨[(1,tP 1 0),(17,tB true)],[(1,.cells (AF.c e) 68)]⟩ .nil (ci (ci (ci .nil)))<|AG ?_
 refine Cw kr<|AB ?_
 refine rn ⟨[(2,tI 0)],[]⟩ ?_
 refine AW<|A7 ?_
 exact xl (tO (.i 0)) (Aa (by rfl))
def CA (e:AF)  : Int:=if e.Kind=1 then Kg e.A e.B e.C  else if e.Kind=2 then Kf e.A e.B e.C  else if e.Kind=3 then Ke e.A e.B e.C  else NU e
def Pb:CT:=(138,[.agg (AF.c e)],.val [] (.av (.one (.i (CA e )))))
theorem pM (e:AF)  : PuP 138 (Pb e ).2.1 (.av (.one (.i (CA e )))):=by
 by_cases k1:e.Kind=1
 ·have hF:CA e  = Kg e.A e.B e.C  := by unfold CA;rw [if_pos k1]
  rw [hF];obtain ⟨k,a0,a1,a2⟩:=e;simp only at k1;subst k1;exact jD a0 a1 a2 
 by_cases k2:e.Kind=2
 ·have hF:CA e  = Kf e.A e.B e.C  := by unfold CA;rw [if_neg k1];rw [if_pos k2]
  rw [hF];obtain ⟨k,a0,a1,a2⟩:=e;simp only at k2;subst k2;exact jC a0 a1 a2 
 by_cases k3:e.Kind=3
 ·have hF:CA e  = Ke e.A e.B e.C  := by unfold CA;rw [if_neg k1];rw [if_neg k2];rw [if_pos k3]
  rw [hF];obtain ⟨k,a0,a1,a2⟩:=e;simp only at k3;subst k3;exact jB a0 a1 a2 
 have hF:CA e  = NU e  := by unfold CA;rw [if_neg k1,if_neg k2,if_neg k3]
 rw [hF];exact jA e  k1 k2 k3
theorem jR (e:AF)  : OKc (Pb e ):=cPu<|pM e
def S4 (a0:AC) (a1:AC) (a2:AC) (p:AC):Int:=bif bif bif bif !(Z02 a0 a1 a2) then true else decide ((p.Y:Int)<((BA (AF.mk 1 a0 a1 a2)).Y0)) then true else decide ((((BA (AF.mk 1 a0 a1 a2)).Y1):Int)<=p.Y) then true else decide ((((BA (AF.mk 1 a0 a1 a2)).X1):Int)<=p.X) then (0) else (bif bif decide ((p.X:Int)<((BA (AF.mk 1 a0 a1 a2)).X0)) then true else F2 (AF.mk 1 a0 a1 a2) p then (B2 (AF.mk 1 a0 a1 a2)) else (0))
def cRay1:CT:=(90,[.agg [.i 1,.i a0.X,.i a0.Y,.i a1.X,.i a1.Y,.i a2.X,.i a2.Y],.agg (AC.c p)],.val [] (.av (.one (.i (S4 a0 a1 a2 p)))))
theorem wK {p:Prop} (h:p:=by
 refine pwf Tryz.func90 fun W0 M0 => ?_
 refine AB<|rn ⟨[(2,tP 2 0),(3,tP 3 0)],[(2,.cells [.i mp0,.i a0.X,.i a0.Y,.i a1.X,.i a1.Y,.i a2.X,.i a2.Y] 68),(3,.cells (AC.c p) 66)]⟩<|AB ?_
 refine rs 10 (mp1 a0 a1 a2) ⟨[(2,tP 2 0),(3,tP 3 0),(5,tP 5 0),(6,tB (mp2 a0 a1 a2))],[(2,.cells [.i mp0,.i a0.X,.i a0.Y,.i a1.X,.i a1.Y,.i a2.X,.i a2.Y] 68),(3,.cells (AC.c p) 66),(5,.cells [.clo mp3 0 (fun _=>default),.clo mp4 0 (fun _=>default),.clo mp5 0 (fun _=>default),.i mp6] 241)]⟩ (mp7 a0 a1 a2)<|AG<|AB ?_
 refine rs 14 (HS (AF.mk mp0 a0 a1 a2)) ⟨[(2,tP 2 0),(3,tP 3 0),(5,tP 5 0),(6,tB (mp2 a0 a1 a2)),(7,tP 7 0)],[(2,.cells [.i mp0,.i a0.X,.i a0.Y,.i a1.X,.i a1.Y,.i a2.X,.i a2.Y] 68),(3,.cells (AC.c p) 66),(5,.cells [.clo mp3 0 (fun _=>default),.clo mp4 0 (fun _=>default),.clo mp5 0 (fun _=>default),.i mp6] 241),(7,.cells (Ak.c (BA (AF.mk mp0 a0 a1 a2))) 90)]⟩ (Ki (AF.mk mp0 a0 a1 a2))<|AG ?_
 refine AB<|AB ?_
 refine rc [] (i5 (!(mp2 a0 a1 a2)) (i5 (bif !(mp2 a0 a1 a2) then true else decide ((p.Y:Int)<((BA (AF.mk mp0 a0 a1 a2)).Y0))) (i5 (bif bif !(mp2 a0 a1 a2) then true else decide ((p.Y:Int)<((BA (AF.mk mp0 a0 a1 a2)).Y0)) then true else decide ((((BA (AF.mk mp0 a0 a1 a2)).Y1):Int)<=p.Y)) []))) ⟨[(2,tP 2 0),(3,tP 3 0),(5,tP 5 0),(7,tP 7 0),(37,tB (bif bif bif !(mp2 a0 a1 a2) then true else decide ((p.Y:Int)<((BA (AF.mk mp0 a0 a1 a2)).Y0)) then true else decide ((((BA (AF.mk mp0 a0 a1 a2)).Y1):Int)<=p.Y) then true else decide ((((BA (AF.mk mp0 a0 a1 a2)).X1):Int)<=p.X)))],[(2,.cells [.i mp0,.i a0.X,.i a0.Y,.i a1.X,.i a1.Y,.i a2.X,.i a2.Y] 68),(3,.cells (AC.c p) 66),(5,.cells [.clo mp3 0 (fun _=>default),.clo mp4 0 (fun _=>default),.clo mp5 0 (fun _=>default),.i mp6] 241),(7,.cells (Ak.c (BA (AF.mk mp0 a0 a1 a2))) 90)]⟩ .nil (c5 (c5 (c5 .nil)))<|AG ?_
 refine AV _ rfl (fun h1 => ?_) (fun h1 => ?_)
 ·refine AB<|rn ⟨[(4,tI 0)],[]⟩ ?_
  refine AW<|A7 ?_
  exact xl (tO (.i 0)) (Aa (by simp only [mp8,h1,cond_true,cond_false] <;> rfl))
 refine AY<|AG ?_
 refine AB<|AB ?_
 refine rc [(48,mp9 (AF.mk mp0 a0 a1 a2) p)] (i4 (decide ((p.X:Int)<((BA (AF.mk mp0 a0 a1 a2)).X0))) [gj (decide ((p.X:Int)<((BA (AF.mk mp0 a0 a1 a2)).X0))) (Ap (mp9 (AF.mk mp0 a0 a1 a2) p).2.1),gi (decide ((p.X:Int)<((BA (AF.mk mp0 a0 a1 a2)).X0)))]) ⟨[(2,tP 2 0),(49,tB (bif decide ((p.X:Int)<((BA (AF.mk mp0 a0 a1 a2)).X0)) then true else mp10 (AF.mk mp0 a0 a1 a2) p))],[(2,.cells [.i mp0,.i a0.X,.i a0.Y,.i a1.X,.i a1.Y,.i a2.X,.i a2.Y] 68)]⟩ (.cons (mp11 (AF.mk mp0 a0 a1 a2) p) .nil) (c4 (.cons (fun _=>rfl) (ci .nil)))<|AG ?_
 refine AV _ rfl (fun h2 => ?_) (fun h2 => ?_)
 ·refine AB<|rs 51 (GK (AF.mk mp0 a0 a1 a2)) ⟨[(4,tI (B2 (AF.mk mp0 a0 a1 a2)))],[]⟩ (Mq (AF.mk mp0 a0 a1 a2))<|AG ?_
  refine AW<|A7 ?_
  exact xl (tO (.i (B2 (AF.mk mp0 a0 a1 a2)))) (Aa (by simp only [mp8,h1,h2,cond_true,cond_false] <;> rfl))
 refine AY<|AG<|AB ?_
 refine rn ⟨[(4,tI 0)],[]⟩<|AW ?_
 exact xl (tO (.i 0)) (Aa (by simp only [mp8,h1,h2,cond_true,cond_false] <;> rfl))):p:=h
section
 open Go.Proofs.YtheobjkgllmnmaaGreat renaming ni1→mp0,dN→mp1,Z02→mp2,tR→mp3,tQ→mp4,tN→mp5,ni1→mp6,Ze→mp7,S4→mp8,MK→mp9,F2→mp10,Vf→mp11
theorem pRay1 (a0:AC) (a1:AC) (a2:AC) (p:AC):PuP 90 (cRay1 a0 a1 a2 p).2.1 (tO (.i (S4 a0 a1 a2 p))):=wK
end
def S3 (a0:AC) (a1:AC) (a2:AC) (p:AC):Int:=bif bif bif bif !(Z05 a0 a1 a2) then true else decide ((p.Y:Int)<((BA (AF.mk 2 a0 a1 a2)).Y0)) then true else decide ((((BA (AF.mk 2 a0 a1 a2)).Y1):Int)<=p.Y) then true else decide ((((BA (AF.mk 2 a0 a1 a2)).X1):Int)<=p.X) then (0) else (bif bif decide ((p.X:Int)<((BA (AF.mk 2 a0 a1 a2)).X0)) then true else DA (AF.mk 2 a0 a1 a2) p then (B2 (AF.mk 2 a0 a1 a2)) else (0))
def cRay2:CT:=(90,[.agg [.i 2,.i a0.X,.i a0.Y,.i a1.X,.i a1.Y,.i a2.X,.i a2.Y],.agg (AC.c p)],.val [] (.av (.one (.i (S3 a0 a1 a2 p)))))
section
 open Go.Proofs.YtheobjkgllmnmaaGreat renaming ni2→mp0,dM→mp1,Z05→mp2,kA→mp3,Zn→mp4,Zm→mp5,ni3→mp6,Zd→mp7,S3→mp8,Hn→mp9,DA→mp10,Mr→mp11
theorem pRay2 (a0:AC) (a1:AC) (a2:AC) (p:AC):PuP 90 (cRay2 a0 a1 a2 p).2.1 (tO (.i (S3 a0 a1 a2 p))):=wK
end
def S0 (a0:AC) (a1:AC) (a2:AC) (p:AC):Int:=bif bif bif bif !(Z08 a0 a1 a2) then true else decide ((p.Y:Int)<((BA (AF.mk 3 a0 a1 a2)).Y0)) then true else decide ((((BA (AF.mk 3 a0 a1 a2)).Y1):Int)<=p.Y) then true else decide ((((BA (AF.mk 3 a0 a1 a2)).X1):Int)<=p.X) then (0) else (bif bif decide ((p.X:Int)<((BA (AF.mk 3 a0 a1 a2)).X0)) then true else DA (AF.mk 3 a0 a1 a2) p then (B2 (AF.mk 3 a0 a1 a2)) else (0))
def cRay3:CT:=(90,[.agg [.i 3,.i a0.X,.i a0.Y,.i a1.X,.i a1.Y,.i a2.X,.i a2.Y],.agg (AC.c p)],.val [] (.av (.one (.i (S0 a0 a1 a2 p)))))
section
 open Go.Proofs.YtheobjkgllmnmaaGreat renaming ni3→mp0,dL→mp1,Z08→mp2,jZ→mp3,Zn→mp4,Zm→mp5,ni2→mp6,Zc→mp7,S0→mp8,Hn→mp9,DA→mp10,Mr→mp11
theorem pRay3 (a0:AC) (a1:AC) (a2:AC) (p:AC):PuP 90 (cRay3 a0 a1 a2 p).2.1 (tO (.i (S0 a0 a1 a2 p))):=wK
end
def Wo (e:AF) (p:AC):Int:=0
def cRayN:CT:=(90,[.agg (AF.c e),.agg (AC.c p)],.val [] (.av (.one (.i (Wo e p)))))
theorem pRayN (e:AF) (p:AC) (k1:¬ e.Kind=1) (k2:¬ e.Kind=2) (k3:¬ e.Kind=3):PuP 90 (cRayN e p).2.1 (tO (.i (Wo e p))):=by
 refine pwf Tryz.func90 fun W0 M0 => ?_
 refine AB<|rn ⟨[(2,tP 2 0),(3,tP 3 0)],[(2,.cells (AF.c e) 68),(3,.cells (AC.c p) 66)]⟩<|AB ?_
 refine rs 10 (dK e) ⟨[(2,tP 2 0),(3,tP 3 0),(5,tP 5 0),(6,tB false)],[(2,.cells (AF.c e) 68),(3,.cells (AC.c p) 66),(5,.cells [.val .nilFunc,.val .nilFunc,.val .nilFunc,.i e.Kind] 241)]⟩ (Zb e k1 k2 k3)<|AG<|AB ?_
 refine rs 14 (HS e) ⟨[(2,tP 2 0),(3,tP 3 0),(5,tP 5 0),(6,tB false),(7,tP 7 0)],[(2,.cells (AF.c e) 68),(3,.cells (AC.c p) 66),(5,.cells [.val .nilFunc,.val .nilFunc,.val .nilFunc,.i e.Kind] 241),(7,.cells (Ak.c (BA e)) 90)]⟩ (Ki e)<|AG ?_
 refine AB<|AB ?_
 refine rc [] [((true)=false)->((true)=false),((true)=false)->((true)=false),((true)=false)->((true)=false),((true)=false)->((true)=false),(true)=false->((true)=false),((true)=false)->((true)=false),((true)=false)->((true)=false),((true)=false)->((true)=false),((true)=false)->((true)=false),(true)=false->((true)=false),((true)=false)->((true)=false),((true)=false)->((true)=false),((true)=false)->((true)=false),((true)=false)->((true)=false),(true)=false->((true)=false)] ⟨[(2,tP 2 0),(3,tP 3 0),(5,tP 5 0),(7,tP 7 0),(37,tB true)],[(2,.cells (AF.c e) 68),(3,.cells (AC.c p) 66),(5,.cells [.val .nilFunc,.val .nilFunc,.val .nilFunc,.i e.Kind] 241),(7,.cells (Ak.c (BA e)) 90)]⟩ .nil (ci (ci (ci (ci (ci (ci (ci (ci (ci (ci (ci (ci (ci (ci (ci .nil)))))))))))))))<|AG ?_
 refine Cw kr<|AB ?_
 refine rn ⟨[(4,tI 0)],[]⟩ ?_
 refine AW<|A7 ?_
 exact xl (tO (.i 0)) (Aa (by rfl))
def Ik (e:AF) (p:AC):Int:=if e.Kind=1 then S4 e.A e.B e.C p else if e.Kind=2 then S3 e.A e.B e.C p else if e.Kind=3 then S0 e.A e.B e.C p else Wo e p
def xK:CT:=(90,[.agg (AF.c e),.agg (AC.c p)],.val [] (.av (.one (.i (Ik e p)))))
theorem pRay (e:AF) (p:AC):PuP 90 (xK e p).2.1 (.av (.one (.i (Ik e p)))):=by
 by_cases k1:e.Kind=1
 ·have hF:Ik e p=S4 e.A e.B e.C p:=by unfold Ik;rw [if_pos k1]
  rw [hF];obtain ⟨k,a0,a1,a2⟩:=e;simp only at k1;subst k1;exact pRay1 a0 a1 a2 p
 by_cases k2:e.Kind=2
 ·have hF:Ik e p=S3 e.A e.B e.C p:=by unfold Ik;rw [if_neg k1];rw [if_pos k2]
  rw [hF];obtain ⟨k,a0,a1,a2⟩:=e;simp only at k2;subst k2;exact pRay2 a0 a1 a2 p
 by_cases k3:e.Kind=3
 ·have hF:Ik e p=S0 e.A e.B e.C p:=by unfold Ik;rw [if_neg k1];rw [if_neg k2];rw [if_pos k3]
  rw [hF];obtain ⟨k,a0,a1,a2⟩:=e;simp only at k3;subst k3;exact pRay3 a0 a1 a2 p
 have hF:Ik e p=Wo e p:=by unfold Ik;rw [if_neg k1,if_neg k2,if_neg k3]
 rw [hF];exact pRayN e p k1 k2 k3
theorem okRay (e:AF) (p:AC):OKc (xK e p):=cPu<|pRay e p
def Re (a0:AC) (a1:AC) (a2:AC) (m:Ae):AF:=AF.mk 1 (AZ m a0) (AZ m a1) a2
def xO:CT:=(152,[.agg [.i 1,.i a0.X,.i a0.Y,.i a1.X,.i a1.Y,.i a2.X,.i a2.Y],.agg (Ae.c m)],.val [] (.av (.agg (AF.c (Re a0 a1 a2 m)))))
theorem vH (a0:AC) (a1:AC) (a2:AC) (m:Ae):PuP 152 (xO a0 a1 a2 m).2.1 (.av (.agg (AF.c (Re a0 a1 a2 m)))):=by
 refine pwf Tryz.func152 fun W0 M0 => ?_
 refine AB<|rn ⟨[(2,tP 2 0),(3,tP 3 0),(4,tP 4 0)],[(2,.cells [.i 1,.i a0.X,.i a0.Y,.i a1.X,.i a1.Y,.i a2.X,.i a2.Y] 68),(3,.cells (Ae.c m) 74),(4,.cells [.i 0,.i 0,.i 0,.i 0,.i 0,.i 0,.i 0] 68)]⟩ ?_
 refine AB<|AB ?_
 refine rs 9 (dN a0 a1 a2) ⟨[(2,tP 2 0),(3,tP 3 0),(4,tP 4 0),(5,tP 5 0)],[(2,.cells [.i 1,.i a0.X,.i a0.Y,.i a1.X,.i a1.Y,.i a2.X,.i a2.Y] 68),(3,.cells (Ae.c m) 74),(4,.cells [.i 0,.i 0,.i 0,.i 0,.i 0,.i 0,.i 0] 68),(5,.cells [.clo 172 0 dfc,.clo 173 0 dfc,.clo 174 0 dfc,.i 1] 241)]⟩ (Ze a0 a1 a2)<|AG<|AB ?_
 refine rn ⟨[(2,tP 2 0),(3,tP 3 0),(4,tP 4 0),(5,tP 5 0),(13,tB m.Mirror)],[(2,.cells [.i 1,.i a0.X,.i a0.Y,.i a1.X,.i a1.Y,.i a2.X,.i a2.Y] 68),(3,.cells (Ae.c m) 74),(4,.cells [.i 0,.i 0,.i 0,.i 0,.i 0,.i 0,.i 0] 68),(5,.cells [.clo 172 0 dfc,.clo 173 0 dfc,.clo 174 0 dfc,.i 1] 241)]⟩ ?_
 refine Bd (⟨[(2,tP 2 0),(3,tP 3 0),(4,tP 4 0)],[(2,.cells [.i 1,.i a0.X,.i a0.Y,.i a1.X,.i a1.Y,.i a2.X,.i a2.Y] 68),(3,.cells (Ae.c m) 74),(4,.cells [.i 0,.i 0,.i 0,.i 0,.i 0,.i 0,.i 0] 68)]⟩) ?_ ?_
 ·refine AV _ rfl (fun h1 => ?_) (fun h1 => ?_)
  ·refine rn ⟨[(2,tP 2 0),(3,tP 3 0),(4,tP 4 0)],[(2,.cells [.i 1,.i a0.X,.i a0.Y,.i a1.X,.i a1.Y,.i a2.X,.i a2.Y] 68),(3,.cells (Ae.c m) 74),(4,.cells [.i 0,.i 0,.i 0,.i 0,.i 0,.i 0,.i 0] 68)]⟩ ?_
   refine Ay ?_
   first | rfl | (simp only [h1,cond_true,cond_false] <;> rfl)
  refine AY<|AG ?_
  refine Cv.trans (ck (⟨[(2,tP 2 0),(3,tP 3 0),(4,tP 4 0)],[(2,.cells [.i 1,.i a0.X,.i a0.Y,.i a1.X,.i a1.Y,.i a2.X,.i a2.Y] 68),(3,.cells (Ae.c m) 74),(4,.cells [.i 0,.i 0,.i 0,.i 0,.i 0,.i 0,.i 0] 68)]⟩)) (Ay ?_)
  first | rfl | (simp only [h1,cond_true,cond_false] <;> rfl)
 refine AB<|AB ?_
 refine rn ⟨[(2,tP 2 0),(3,tP 3 0),(4,tP 4 0),(19,tB false)],[(2,.cells [.i 1,.i a0.X,.i a0.Y,.i a1.X,.i a1.Y,.i a2.X,.i a2.Y] 68),(3,.cells (Ae.c m) 74),(4,.cells [.i 0,.i 0,.i 0,.i 0,.i 0,.i 0,.i 0] 68)]⟩ ?_
 refine FC kr<|AY ?_
 refine AG<|AB ?_
 refine dw [] [(28,Bs m a0),(32,Bs m a1)] [Ap (Bs m a0).2.1,Ap (Bs m a1).2.1] ⟨[(2,tP 2 0),(4,tP 4 0)],[(2,.cells [.i 1,.i ((AZ m a0).X),.i ((AZ m a0).Y),.i ((AZ m a1).X),.i ((AZ m a1).Y),.i a2.X,.i a2.Y] 68),(4,.cells [.i 0,.i 0,.i 0,.i 0,.i 0,.i 0,.i 0] 68)]⟩ (.cons (DD m a0) (.cons (DD m a1) .nil)) (.cons rfl (.cons rfl .nil))<|AG<|AB ?_
 refine rn ⟨[(4,tP 4 0)],[(4,.cells [.i 1,.i ((AZ m a0).X),.i ((AZ m a0).Y),.i ((AZ m a1).X),.i ((AZ m a1).Y),.i a2.X,.i a2.Y] 68)]⟩<|AW ?_
 exact xl (.av (.agg [.i 1,.i ((AZ m a0).X),.i ((AZ m a0).Y),.i ((AZ m a1).X),.i ((AZ m a1).Y),.i a2.X,.i a2.Y])) (Aa (by rfl))
def Rd (a0:AC) (a1:AC) (a2:AC) (m:Ae):AF:=AF.mk (bif m.Mirror then 3 else 2) (AZ m a0) (AZ m a1) (AC.mk (bif !decide (((bif m.Mirror then 3 else 2):Int)=1) then ((AZ m a2).X) else a2.X) (bif !decide (((bif m.Mirror then 3 else 2):Int)=1) then ((AZ m a2).Y) else a2.Y))
def xN:CT:=(152,[.agg [.i 2,.i a0.X,.i a0.Y,.i a1.X,.i a1.Y,.i a2.X,.i a2.Y],.agg (Ae.c m)],.val [] (.av (.agg (AF.c (Rd a0 a1 a2 m)))))
theorem mac5 {p:Prop} (h:p:=by
 refine pwf Tryz.func152 fun W0 M0 => ?_
 refine AB<|rn ⟨[(2,tP 2 0),(3,tP 3 0),(4,tP 4 0)],[(2,.cells [.i mp0,.i a0.X,.i a0.Y,.i a1.X,.i a1.Y,.i a2.X,.i a2.Y] 68),(3,.cells (Ae.c m) 74),(4,.cells [.i 0,.i 0,.i 0,.i 0,.i 0,.i 0,.i 0] 68)]⟩ ?_
 refine AB<|AB ?_
 refine rs 9 (mp1 a0 a1 a2) ⟨[(2,tP 2 0),(3,tP 3 0),(4,tP 4 0),(5,tP 5 0)],[(2,.cells [.i mp0,.i a0.X,.i a0.Y,.i a1.X,.i a1.Y,.i a2.X,.i a2.Y] 68),(3,.cells (Ae.c m) 74),(4,.cells [.i 0,.i 0,.i 0,.i 0,.i 0,.i 0,.i 0] 68),(5,.cells [.clo mp2 0 (fun _=>default),.clo 176 0 dfc,.clo 177 0 dfc,.i mp3] 241)]⟩ (mp4 a0 a1 a2)<|AG<|AB ?_
 refine rn ⟨[(2,tP 2 0),(3,tP 3 0),(4,tP 4 0),(5,tP 5 0),(13,tB m.Mirror)],[(2,.cells [.i mp0,.i a0.X,.i a0.Y,.i a1.X,.i a1.Y,.i a2.X,.i a2.Y] 68),(3,.cells (Ae.c m) 74),(4,.cells [.i 0,.i 0,.i 0,.i 0,.i 0,.i 0,.i 0] 68),(5,.cells [.clo mp2 0 (fun _=>default),.clo 176 0 dfc,.clo 177 0 dfc,.i mp3] 241)]⟩ ?_
 refine Bd (⟨[(2,tP 2 0),(3,tP 3 0),(4,tP 4 0)],[(2,.cells [.i (bif m.Mirror then mp5 else mp6),.i a0.X,.i a0.Y,.i a1.X,.i a1.Y,.i a2.X,.i a2.Y] 68),(3,.cells (Ae.c m) 74),(4,.cells [.i 0,.i 0,.i 0,.i 0,.i 0,.i 0,.i 0] 68)]⟩) ?_ ?_
 ·refine AV _ rfl (fun h1 => ?_) (fun h1 => ?_)
  ·refine rn ⟨[(2,tP 2 0),(3,tP 3 0),(4,tP 4 0)],[(2,.cells [.i mp3,.i a0.X,.i a0.Y,.i a1.X,.i a1.Y,.i a2.X,.i a2.Y] 68),(3,.cells (Ae.c m) 74),(4,.cells [.i 0,.i 0,.i 0,.i 0,.i 0,.i 0,.i 0] 68)]⟩ ?_
   refine Ay ?_
   first | rfl | (simp only [h1,cond_true,cond_false] <;> rfl)
  refine AY<|AG ?_
  refine Cv.trans (ck (⟨[(2,tP 2 0),(3,tP 3 0),(4,tP 4 0)],[(2,.cells [.i mp0,.i a0.X,.i a0.Y,.i a1.X,.i a1.Y,.i a2.X,.i a2.Y] 68),(3,.cells (Ae.c m) 74),(4,.cells [.i 0,.i 0,.i 0,.i 0,.i 0,.i 0,.i 0] 68)]⟩)) (Ay ?_)
  first | rfl | (simp only [h1,cond_true,cond_false] <;> rfl)
 refine AB<|AB ?_
 refine rn ⟨[(2,tP 2 0),(3,tP 3 0),(4,tP 4 0),(19,tB (!decide (((bif m.Mirror then mp5 else mp6):Int)=1)))],[(2,.cells [.i (bif m.Mirror then mp5 else mp6),.i a0.X,.i a0.Y,.i a1.X,.i a1.Y,.i a2.X,.i a2.Y] 68),(3,.cells (Ae.c m) 74),(4,.cells [.i 0,.i 0,.i 0,.i 0,.i 0,.i 0,.i 0] 68)]⟩ ?_
 refine Bd (⟨[(2,tP 2 0),(3,tP 3 0),(4,tP 4 0)],[(2,.cells [.i (bif m.Mirror then mp5 else mp6),.i a0.X,.i a0.Y,.i a1.X,.i a1.Y,.i (bif !decide (((bif m.Mirror then mp5 else mp6):Int)=1) then ((AZ m a2).X) else a2.X),.i (bif !decide (((bif m.Mirror then mp5 else mp6):Int)=1) then ((AZ m a2).Y) else a2.Y)] 68),(3,.cells (Ae.c m) 74),(4,.cells [.i 0,.i 0,.i 0,.i 0,.i 0,.i 0,.i 0] 68)]⟩) ?_ ?_
 ·refine AV _ rfl (fun h1 => ?_) (fun h1 => ?_)
  ·have g1:=Bt h1
   refine rs 23 (Bs m a2) ⟨[(2,tP 2 0),(3,tP 3 0),(4,tP 4 0)],[(2,.cells [.i (bif m.Mirror then mp5 else mp6),.i a0.X,.i a0.Y,.i a1.X,.i a1.Y,.i ((AZ m a2).X),.i ((AZ m a2).Y)] 68),(3,.cells (Ae.c m) 74),(4,.cells [.i 0,.i 0,.i 0,.i 0,.i 0,.i 0,.i 0] 68)]⟩ (DD m a2)<|AG ?_
   refine Ay ?_
   first | rfl | (simp only [h1,cond_true,cond_false] <;> rfl)
  have g1:=Bl h1
  refine AY<|AG ?_
  refine Cv.trans (ck (⟨[(2,tP 2 0),(3,tP 3 0),(4,tP 4 0)],[(2,.cells [.i (bif m.Mirror then mp5 else mp6),.i a0.X,.i a0.Y,.i a1.X,.i a1.Y,.i a2.X,.i a2.Y] 68),(3,.cells (Ae.c m) 74),(4,.cells [.i 0,.i 0,.i 0,.i 0,.i 0,.i 0,.i 0] 68)]⟩)) (Ay ?_)
  first | rfl | (simp only [h1,cond_true,cond_false] <;> rfl)
 refine AB<|dw [] [(28,Bs m a0),(32,Bs m a1)] [Ap (Bs m a0).2.1,Ap (Bs m a1).2.1] ⟨[(2,tP 2 0),(4,tP 4 0)],[(2,.cells [.i (bif m.Mirror then mp5 else mp6),.i ((AZ m a0).X),.i ((AZ m a0).Y),.i ((AZ m a1).X),.i ((AZ m a1).Y),.i (bif !decide (((bif m.Mirror then mp5 else mp6):Int)=1) then ((AZ m a2).X) else a2.X),.i (bif !decide (((bif m.Mirror then mp5 else mp6):Int)=1) then ((AZ m a2).Y) else a2.Y)] 68),(4,.cells [.i 0,.i 0,.i 0,.i 0,.i 0,.i 0,.i 0] 68)]⟩ (.cons (DD m a0) (.cons (DD m a1) .nil)) (.cons rfl (.cons rfl .nil))<|AG<|AB ?_
 refine rn ⟨[(4,tP 4 0)],[(4,.cells [.i (bif m.Mirror then mp5 else mp6),.i ((AZ m a0).X),.i ((AZ m a0).Y),.i ((AZ m a1).X),.i ((AZ m a1).Y),.i (bif !decide (((bif m.Mirror then mp5 else mp6):Int)=1) then ((AZ m a2).X) else a2.X),.i (bif !decide (((bif m.Mirror then mp5 else mp6):Int)=1) then ((AZ m a2).Y) else a2.Y)] 68)]⟩<|AW ?_
 exact xl (.av (.agg [.i (bif m.Mirror then mp5 else mp6),.i ((AZ m a0).X),.i ((AZ m a0).Y),.i ((AZ m a1).X),.i ((AZ m a1).Y),.i (bif !decide (((bif m.Mirror then mp5 else mp6):Int)=1) then ((AZ m a2).X) else a2.X),.i (bif !decide (((bif m.Mirror then mp5 else mp6):Int)=1) then ((AZ m a2).Y) else a2.Y)])) (Aa (by rfl))):p:=h
section
 open Go.Proofs.YtheobjkgllmnmaaGreat renaming ni2→mp0,dM→mp1,kA→mp2,ni3→mp3,Zd→mp4,nn3→mp5,nn2→mp6
theorem vG (a0:AC) (a1:AC) (a2:AC) (m:Ae):PuP 152 (xN a0 a1 a2 m).2.1 (.av (.agg (AF.c (Rd a0 a1 a2 m)))):=mac5
end
def Rc (a0:AC) (a1:AC) (a2:AC) (m:Ae):AF:=AF.mk (bif m.Mirror then 2 else 3) (AZ m a0) (AZ m a1) (AC.mk (bif !decide (((bif m.Mirror then 2 else 3):Int)=1) then ((AZ m a2).X) else a2.X) (bif !decide (((bif m.Mirror then 2 else 3):Int)=1) then ((AZ m a2).Y) else a2.Y))
def xM:CT:=(152,[.agg [.i 3,.i a0.X,.i a0.Y,.i a1.X,.i a1.Y,.i a2.X,.i a2.Y],.agg (Ae.c m)],.val [] (.av (.agg (AF.c (Rc a0 a1 a2 m)))))
section
 open Go.Proofs.YtheobjkgllmnmaaGreat renaming ni3→mp0,dL→mp1,jZ→mp2,ni2→mp3,Zc→mp4,nn2→mp5,nn3→mp6
theorem vF (a0:AC) (a1:AC) (a2:AC) (m:Ae):PuP 152 (xM a0 a1 a2 m).2.1 (.av (.agg (AF.c (Rc a0 a1 a2 m)))):=mac5
end
def U2 (e:AF) (m:Ae):AF:=AF.mk e.Kind (AZ m e.A) (AZ m e.B) (AC.mk (bif !decide ((e.Kind:Int)=1) then ((AZ m e.C).X) else e.C.X) (bif !decide ((e.Kind:Int)=1) then ((AZ m e.C).Y) else e.C.Y))
def xL:CT:=(152,[.agg (AF.c e),.agg (Ae.c m)],.val [] (.av (.agg (AF.c (U2 e m)))))
theorem vE (e:AF) (m:Ae) (k1:¬ e.Kind=1) (k2:¬ e.Kind=2) (k3:¬ e.Kind=3):PuP 152 (xL e m).2.1 (.av (.agg (AF.c (U2 e m)))):=by
 refine pwf Tryz.func152 fun W0 M0 => ?_
 refine AB<|rn ⟨[(2,tP 2 0),(3,tP 3 0),(4,tP 4 0)],[(2,.cells (AF.c e) 68),(3,.cells (Ae.c m) 74),(4,.cells [.i 0,.i 0,.i 0,.i 0,.i 0,.i 0,.i 0] 68)]⟩ ?_
 refine AB<|AB ?_
 refine rs 9 (dK e) ⟨[(2,tP 2 0),(3,tP 3 0),(4,tP 4 0),(5,tP 5 0)],[(2,.cells (AF.c e) 68),(3,.cells (Ae.c m) 74),(4,.cells [.i 0,.i 0,.i 0,.i 0,.i 0,.i 0,.i 0] 68),(5,.cells [.val .nilFunc,.val .nilFunc,.val .nilFunc,.i e.Kind] 241)]⟩ (Zb e k1 k2 k3)<|AG<|AB ?_
 refine rn ⟨[(2,tP 2 0),(3,tP 3 0),(4,tP 4 0),(5,tP 5 0),(13,tB m.Mirror)],[(2,.cells (AF.c e) 68),(3,.cells (Ae.c m) 74),(4,.cells [.i 0,.i 0,.i 0,.i 0,.i 0,.i 0,.i 0] 68),(5,.cells [.val .nilFunc,.val .nilFunc,.val .nilFunc,.i e.Kind] 241)]⟩ ?_
 refine Bd (⟨[(2,tP 2 0),(3,tP 3 0),(4,tP 4 0)],[(2,.cells (AF.c e) 68),(3,.cells (Ae.c m) 74),(4,.cells [.i 0,.i 0,.i 0,.i 0,.i 0,.i 0,.i 0] 68)]⟩) ?_ ?_
 ·refine AV _ rfl (fun h4 => ?_) (fun h4 => ?_)
  ·refine rn ⟨[(2,tP 2 0),(3,tP 3 0),(4,tP 4 0)],[(2,.cells (AF.c e) 68),(3,.cells (Ae.c m) 74),(4,.cells [.i 0,.i 0,.i 0,.i 0,.i 0,.i 0,.i 0] 68)]⟩ ?_
   refine Ay ?_
   first | rfl | (simp only [h4,cond_true,cond_false] <;> rfl)
  refine AY<|AG ?_
  refine Cv.trans (ck (⟨[(2,tP 2 0),(3,tP 3 0),(4,tP 4 0)],[(2,.cells (AF.c e) 68),(3,.cells (Ae.c m) 74),(4,.cells [.i 0,.i 0,.i 0,.i 0,.i 0,.i 0,.i 0] 68)]⟩)) (Ay ?_)
  first | rfl | (simp only [h4,cond_true,cond_false] <;> rfl)
 refine AB<|AB ?_
 refine rn ⟨[(2,tP 2 0),(3,tP 3 0),(4,tP 4 0),(19,tB (!decide ((e.Kind:Int)=1)))],[(2,.cells (AF.c e) 68),(3,.cells (Ae.c m) 74),(4,.cells [.i 0,.i 0,.i 0,.i 0,.i 0,.i 0,.i 0] 68)]⟩ ?_
 refine Bd (⟨[(2,tP 2 0),(3,tP 3 0),(4,tP 4 0)],[(2,.cells [.i e.Kind,.i e.A.X,.i e.A.Y,.i e.B.X,.i e.B.Y,.i (bif !decide ((e.Kind:Int)=1) then ((AZ m e.C).X) else e.C.X),.i (bif !decide ((e.Kind:Int)=1) then ((AZ m e.C).Y) else e.C.Y)] 68),(3,.cells (Ae.c m) 74),(4,.cells [.i 0,.i 0,.i 0,.i 0,.i 0,.i 0,.i 0] 68)]⟩) ?_ ?_
 ·refine AV _ rfl (fun h4 => ?_) (fun h4 => ?_)
  ·have g4:=Bt h4
   refine rs 23 (Bs m e.C) ⟨[(2,tP 2 0),(3,tP 3 0),(4,tP 4 0)],[(2,.cells [.i e.Kind,.i e.A.X,.i e.A.Y,.i e.B.X,.i e.B.Y,.i ((AZ m e.C).X),.i ((AZ m e.C).Y)] 68),(3,.cells (Ae.c m) 74),(4,.cells [.i 0,.i 0,.i 0,.i 0,.i 0,.i 0,.i 0] 68)]⟩ (DD m e.C)<|AG ?_
   refine Ay ?_
   first | rfl | (simp only [h4,cond_true,cond_false] <;> rfl)
  have g4:=Bl h4
  refine AY<|AG ?_
  refine Cv.trans (ck (⟨[(2,tP 2 0),(3,tP 3 0),(4,tP 4 0)],[(2,.cells (AF.c e) 68),(3,.cells (Ae.c m) 74),(4,.cells [.i 0,.i 0,.i 0,.i 0,.i 0,.i 0,.i 0] 68)]⟩)) (Ay ?_)
  first | rfl | (simp only [h4,cond_true,cond_false] <;> rfl)
 refine AB<|dw [] [(28,Bs m e.A),(32,Bs m e.B)] [Ap (Bs m e.A).2.1,Ap (Bs m e.B).2.1] ⟨[(2,tP 2 0),(4,tP 4 0)],[(2,.cells [.i e.Kind,.i ((AZ m e.A).X),.i ((AZ m e.A).Y),.i ((AZ m e.B).X),.i ((AZ m e.B).Y),.i (bif !decide ((e.Kind:Int)=1) then ((AZ m e.C).X) else e.C.X),.i (bif !decide ((e.Kind:Int)=1) then ((AZ m e.C).Y) else e.C.Y)] 68),(4,.cells [.i 0,.i 0,.i 0,.i 0,.i 0,.i 0,.i 0] 68)]⟩ (.cons (DD m e.A) (.cons (DD m e.B) .nil)) (.cons rfl (.cons rfl .nil))<|AG<|AB ?_
 refine rn ⟨[(4,tP 4 0)],[(4,.cells [.i e.Kind,.i ((AZ m e.A).X),.i ((AZ m e.A).Y),.i ((AZ m e.B).X),.i ((AZ m e.B).Y),.i (bif !decide ((e.Kind:Int)=1) then ((AZ m e.C).X) else e.C.X),.i (bif !decide ((e.Kind:Int)=1) then ((AZ m e.C).Y) else e.C.Y)] 68)]⟩<|AW ?_
 exact xl (.av (.agg [.i e.Kind,.i ((AZ m e.A).X),.i ((AZ m e.A).Y),.i ((AZ m e.B).X),.i ((AZ m e.B).Y),.i (bif !decide ((e.Kind:Int)=1) then ((AZ m e.C).X) else e.C.X),.i (bif !decide ((e.Kind:Int)=1) then ((AZ m e.C).Y) else e.C.Y)])) (Aa (by rfl))
def EC (e:AF) (m:Ae):AF:=if e.Kind=1 then Re e.A e.B e.C m else if e.Kind=2 then Rd e.A e.B e.C m else if e.Kind=3 then Rc e.A e.B e.C m else U2 e m
def aQ:CT:=(152,[.agg (AF.c e),.agg (Ae.c m)],.val [] (.av (.agg (AF.c (EC e m)))))
theorem pMove (e:AF) (m:Ae):PuP 152 (aQ e m).2.1 (.av (.agg (AF.c (EC e m)))):=by
 by_cases k1:e.Kind=1
 ·have hF:EC e m=Re e.A e.B e.C m:=by unfold EC;rw [if_pos k1]
  rw [hF];obtain ⟨k,a0,a1,a2⟩:=e;simp only at k1;subst k1;exact vH a0 a1 a2 m
 by_cases k2:e.Kind=2
 ·have hF:EC e m=Rd e.A e.B e.C m:=by unfold EC;rw [if_neg k1];rw [if_pos k2]
  rw [hF];obtain ⟨k,a0,a1,a2⟩:=e;simp only at k2;subst k2;exact vG a0 a1 a2 m
 by_cases k3:e.Kind=3
 ·have hF:EC e m=Rc e.A e.B e.C m:=by unfold EC;rw [if_neg k1];rw [if_neg k2];rw [if_pos k3]
  rw [hF];obtain ⟨k,a0,a1,a2⟩:=e;simp only at k3;subst k3;exact vF a0 a1 a2 m
 have hF:EC e m=U2 e m:=by unfold EC;rw [if_neg k1,if_neg k2,if_neg k3]
 rw [hF];exact vE e m k1 k2 k3
theorem vY (e:AF) (m:Ae):OKc (aQ e m):=cPu<|pMove e m
end
section
open Go.ChangeShapes Go.WideShapes Go.ChangeAt Go.RowKit
theorem own:ownKnob Tryz.prog.godebug=none:=by kernel_rfl
theorem rP:laidOutB Tryz.prog=true:=by kernel_rfl
theorem opT57:Hq Tryz.prog 57 (fun xs:List Int=>[lst 1 eIn xs]) (fun xs=>xs.length<=maxLen/\∀ x∈xs,WF .i64 x):=Ol 1 Tryz.underlying57 kr (by decide) (R5 Tryz.underlying3)
theorem opT22:Hq Tryz.prog 22 (fun xs:List (List Int)=>[lst 1 (fun x=>[lst 1 eIn x]) xs]) (fun xs=>xs.length<=maxLen/\∀ x∈xs,(x.length<=maxLen/\∀ y∈x,WF .i64 y)):=Ol 1 Tryz.underlying22 kr (by decide) opT57
def Wb.ok (x:Wb):Prop:=WF .i64 x.e0/\WF .i64 x.e1/\WF .i64 x.e2/\True
theorem opT23:Hq Tryz.prog 23 Wb.c Wb.ok:=by
 refine R4 (VY Tryz.underlying23 kr (R5 Tryz.underlying3)) ?_
 rintro xs ⟨hl,hx⟩
 match xs,hl with
 | [a0,a1,a2],_=>exact ⟨⟨a0,a1,a2⟩,⟨hx _ (by simp),hx _ (by simp),hx _ (by simp),trivial⟩,rfl⟩
def DS.ok (x:DS):Prop:=(x.Board.length<=maxLen/\∀ y∈x.Board,(y.length<=maxLen/\∀ z∈y,WF .i64 z))/\Wb.ok x.Odd/\True
theorem opT25:Hq Tryz.prog 25 DS.c DS.ok:=by
 refine R4 (UB Tryz.underlying25 kr (Om 1 kr rfl opT22 (Om 3 kr rfl opT23 YF))) ?_
 rintro ⟨a0,a1,_⟩ ⟨h0,h1,_⟩
 exact ⟨⟨a0,a1⟩,⟨h0,h1,trivial⟩,rfl⟩
end
def Ck (x0:AC) (x1:AC):AC:=AC.mk (W64 (x0.X+x1.X)) (W64 (x0.Y+x1.Y))
def FB (x0:AC) (x1:AC):CT:=(123,[.agg (AC.c x0),.agg (AC.c x1)],.val [] (.av (.agg (AC.c (Ck x0 x1)))))
theorem bX (x0:AC) (x1:AC):PuP 123 (FB x0 x1).2.1 (.av (.agg (AC.c (Ck x0 x1)))):=by
 refine pwf Tryz.func123 fun W0 M0 => ?_
 refine AB<|rn ⟨[(2,tP 2 0),(3,tP 3 0),(4,tP 4 0)],[(2,.cells (AC.c x0) 66),(3,.cells (AC.c x1) 66),(4,.cells [.i 0,.i 0] 66)]⟩<|AB ?_
 refine rn ⟨[(4,tP 4 0)],[(4,.cells [.i (W64 (x0.X+x1.X)),.i (W64 (x0.Y+x1.Y))] 66)]⟩<|AW ?_
 exact xl (.av (.agg [.i (W64 (x0.X+x1.X)),.i (W64 (x0.Y+x1.Y))])) (Aa (by rfl))
theorem L3 (x0:AC) (x1:AC):OKc (FB x0 x1):=cPu<|bX x0 x1
def CH (x0:Int):Int:=Int.tmod (W64 ((Int.tmod x0 4)+4)) 4
def KX (x0:Int):CT:=(163,[.one (.i x0)],.val [] (.av (.one (.i (CH x0)))))
theorem au15 {p:Prop} (h:p:=by first | assumption | decide | omega):p:=h
theorem VO (x0:Int):PuP 163 (KX x0).2.1 (tO (.i (CH x0))):=by
 refine pwf Tryz.func163 fun W0 M0 => ?_
 refine AB<|rn ⟨[(0,tI x0)],[]⟩<|AB ?_
 refine rc [] [(4:Int)≠0,(4:Int)≠0] ⟨[(2,tI (Int.tmod (W64 ((Int.tmod x0 4)+4)) 4))],[]⟩ .nil (.cons au15 (.cons au15 .nil))<|AG<|AW ?_
 exact xl (tO (.i (Int.tmod (W64 ((Int.tmod x0 4)+4)) 4))) (Aa (by rfl))
theorem UD (x0:Int):OKc (KX x0):=cPu<|VO x0
def CR (x0:AC) (x1:Int):AC:=bif decide (((CH x1):Int)=1) then (AC.mk (W64 (0-x0.Y)) x0.X) else (bif decide (((CH x1):Int)=2) then (AC.mk (W64 (0-x0.X)) (W64 (0-x0.Y))) else (bif decide (((CH x1):Int)=3) then (AC.mk x0.Y (W64 (0-x0.X))) else (x0)))
def Gr (x0:AC) (x1:Int):CT:=(124,[.agg (AC.c x0),.one (.i x1)],.val [] (.av (.agg (AC.c (CR x0 x1)))))
theorem T3 (x0:AC) (x1:Int):PuP 124 (Gr x0 x1).2.1 (.av (.agg (AC.c (CR x0 x1)))):=by
 refine pwf Tryz.func124 fun W0 M0 => ?_
 refine AB<|rn ⟨[(1,tI x1),(2,tP 2 0),(4,tP 4 0)],[(2,.cells (AC.c x0) 66),(4,.cells [.i 0,.i 0] 66)]⟩ ?_
 refine AB<|AB ?_
 refine rs 6 (KX x1) ⟨[(2,tP 2 0),(4,tP 4 0),(6,tI (CH x1))],[(2,.cells (AC.c x0) 66),(4,.cells [.i 0,.i 0] 66)]⟩ (UD x1)<|AG ?_
 refine AR<|AB ?_
 refine rn ⟨[(2,tP 2 0),(4,tP 4 0),(6,tI (CH x1)),(7,tB (decide (((CH x1):Int)=1)))],[(2,.cells (AC.c x0) 66),(4,.cells [.i 0,.i 0] 66)]⟩ ?_
 refine AV _ rfl (fun h1 => ?_) (fun h1 => ?_)
 ·refine AB<|rn ⟨[(4,tP 4 0)],[(4,.cells [.i (W64 (0-x0.Y)),.i x0.X] 66)]⟩ ?_
  refine AW<|Bo<|A7 ?_
  exact xl (.av (.agg [.i (W64 (0-x0.Y)),.i x0.X])) (Aa (by simp only [CR,h1,cond_true,cond_false] <;> rfl))
 refine AB<|rn ⟨[(2,tP 2 0),(4,tP 4 0),(6,tI (CH x1)),(15,tB (decide (((CH x1):Int)=2)))],[(2,.cells (AC.c x0) 66),(4,.cells [.i 0,.i 0] 66)]⟩ ?_
 refine AV _ rfl (fun h2 => ?_) (fun h2 => ?_)
 ·refine AB<|rn ⟨[(4,tP 4 0)],[(4,.cells [.i (W64 (0-x0.X)),.i (W64 (0-x0.Y))] 66)]⟩ ?_
  refine AW<|Bo<|A7 ?_
  exact xl (.av (.agg [.i (W64 (0-x0.X)),.i (W64 (0-x0.Y))])) (Aa (by simp only [CR,h1,h2,cond_true,cond_false] <;> rfl))
 refine AB<|rn ⟨[(2,tP 2 0),(4,tP 4 0),(24,tB (decide (((CH x1):Int)=3)))],[(2,.cells (AC.c x0) 66),(4,.cells [.i 0,.i 0] 66)]⟩ ?_
 refine AV _ rfl (fun h3 => ?_) (fun h3 => ?_)
 ·refine AB<|rn ⟨[(4,tP 4 0)],[(4,.cells [.i x0.Y,.i (W64 (0-x0.X))] 66)]⟩ ?_
  refine AW<|Bo<|A7 ?_
  exact xl (.av (.agg [.i x0.Y,.i (W64 (0-x0.X))])) (Aa (by simp only [CR,h1,h2,h3,cond_true,cond_false] <;> rfl))
 refine AY<|BN ?_
 refine AG<|AB ?_
 refine rn ⟨[(4,tP 4 0)],[(4,.cells (AC.c x0) 66)]⟩<|AW ?_
 exact xl (.av (.agg (AC.c x0))) (Aa (by simp only [CR,h1,h2,h3,cond_true,cond_false] <;> rfl))
theorem Rj (x0:AC) (x1:Int):OKc (Gr x0 x1):=cPu<|T3 x0 x1
def B6 (x0:AC) (x1:Bool):AC:=AC.mk (bif x1 then (W64 (0-x0.X)) else x0.X) x0.Y
def FR (x0:AC) (x1:Bool):CT:=(125,[.agg (AC.c x0),.one (.b x1)],.val [] (.av (.agg (AC.c (B6 x0 x1)))))
theorem QY (x0:AC) (x1:Bool):PuP 125 (FR x0 x1).2.1 (.av (.agg (AC.c (B6 x0 x1)))):=by
 refine pwf Tryz.func125 fun W0 M0 => ?_
 refine AB<|rn ⟨[(1,tB x1),(2,tP 2 0),(4,tP 4 0)],[(2,.cells (AC.c x0) 66),(4,.cells [.i 0,.i 0] 66)]⟩ ?_
 refine AB<|AB ?_
 refine rn ⟨[(2,tP 2 0),(4,tP 4 0),(5,tB x1)],[(2,.cells (AC.c x0) 66),(4,.cells [.i 0,.i 0] 66)]⟩ ?_
 refine Bd (⟨[(2,tP 2 0),(4,tP 4 0)],[(2,.cells [.i (bif x1 then (W64 (0-x0.X)) else x0.X),.i x0.Y] 66),(4,.cells [.i 0,.i 0] 66)]⟩) ?_ ?_
 ·refine AV _ rfl (fun h1 => ?_) (fun h1 => ?_)
  ·refine rn ⟨[(2,tP 2 0),(4,tP 4 0)],[(2,.cells [.i (W64 (0-x0.X)),.i x0.Y] 66),(4,.cells [.i 0,.i 0] 66)]⟩ ?_
   refine Ay ?_
   first | rfl | (simp only [h1,cond_true,cond_false] <;> rfl)
  refine AY<|AG ?_
  refine Cv.trans (ck (⟨[(2,tP 2 0),(4,tP 4 0)],[(2,.cells (AC.c x0) 66),(4,.cells [.i 0,.i 0] 66)]⟩)) (Ay ?_)
  first | rfl | (simp only [h1,cond_true,cond_false] <;> rfl)
 refine AB<|rn ⟨[(4,tP 4 0)],[(4,.cells [.i (bif x1 then (W64 (0-x0.X)) else x0.X),.i x0.Y] 66)]⟩<|AW ?_
 exact xl (.av (.agg [.i (bif x1 then (W64 (0-x0.X)) else x0.X),.i x0.Y])) (Aa (by rfl))
theorem PI (x0:AC) (x1:Bool):OKc (FR x0 x1):=cPu<|QY x0 x1
def Z0f (x1:AC) (x0:Ae):AC:=CR (B6 x1 x0.Mirror) x0.Turn
def FF (x0:Ae) (x1:AC):AC:=Ck (Z0f x1 x0) x0.At
def FA (x0:Ae) (x1:AC):CT:=(66,[.agg (Ae.c x0),.agg (AC.c x1)],.val [] (.av (.agg (AC.c (FF x0 x1)))))
theorem VP (x0:Ae) (x1:AC):PuP 66 (FA x0 x1).2.1 (.av (.agg (AC.c (FF x0 x1)))):=by
 refine pwf Tryz.func66 fun W0 M0 => ?_
 refine AB<|rn ⟨[(2,tP 2 0),(3,tP 3 0),(4,tP 4 0)],[(2,.cells (Ae.c x0) 74),(3,.cells (AC.c x1) 66),(4,.cells [.i 0,.i 0] 66)]⟩<|AB ?_
 refine dw [] [(8,FR x1 x0.Mirror),(11,Gr (B6 x1 x0.Mirror) x0.Turn),(14,FB (Z0f x1 x0) x0.At)] [Ap (FR x1 x0.Mirror).2.1,Ap (Gr (B6 x1 x0.Mirror) x0.Turn).2.1,Ap (FB (Z0f x1 x0) x0.At).2.1] ⟨[(4,tP 4 0)],[(4,.cells (AC.c (Ck (Z0f x1 x0) x0.At)) 66)]⟩ (.cons (PI x1 x0.Mirror) (.cons (Rj (B6 x1 x0.Mirror) x0.Turn) (.cons (L3 (Z0f x1 x0) x0.At) .nil))) (.cons rfl (.cons rfl (.cons rfl .nil)))<|AG<|AW ?_
 exact xl (.av (.agg (AC.c (Ck (Z0f x1 x0) x0.At)))) (Aa (by rfl))
theorem JK (x0:Ae) (x1:AC):OKc (FA x0 x1):=cPu<|VP x0 x1
def Z0g (x2:Int) (x1:Int):AC:=FF (Ae.mk (AC.mk 0 0) x2 false) (AC.mk x1 0)
def Z0h (x3:Int) (x2:Int) (x1:Int):AC:=FF (Ae.mk (AC.mk 0 0) (bif decide ((x3:Int)=3) then (W64 (x2+3)) else (W64 (x2+1))) false) (AC.mk x1 0)
def FE (x0:AC) (x1:Int) (x2:Int) (x3:Int):AF:=AF.mk x3 (Ck x0 (Z0g x2 x1)) (Ck x0 (Z0h x3 x2 x1)) x0
def B8 (x0:AC) (x1:Int) (x2:Int) (x3:Int):CT:=(93,[.agg (AC.c x0),.one (.i x1),.one (.i x2),.one (.i x3)],.val [] (.av (.agg (AF.c (FE x0 x1 x2 x3)))))
theorem bW (x0:AC) (x1:Int) (x2:Int) (x3:Int):PuP 93 (B8 x0 x1 x2 x3).2.1 (.av (.agg (AF.c (FE x0 x1 x2 x3)))):=by
 refine pwf Tryz.func93 fun W0 M0 => ?_
 refine AB<|rn ⟨[(1,tI x1),(2,tI x2),(3,tI x3),(4,tP 4 0),(8,tP 8 0)],[(4,.cells (AC.c x0) 66),(8,.cells [.i 0,.i 0,.i 0,.i 0,.i 0,.i 0,.i 0] 68)]⟩<|AB ?_
 refine rs 16 (FA (Ae.mk (AC.mk 0 0) x2 false) (AC.mk x1 0)) ⟨[(1,tI x1),(2,tI x2),(3,tI x3),(4,tP 4 0),(8,tP 8 0),(9,tP 9 0)],[(4,.cells (AC.c x0) 66),(8,.cells [.i 0,.i 0,.i 0,.i 0,.i 0,.i 0,.i 0] 68),(9,.cells (AC.c (Z0g x2 x1)) 66)]⟩ (JK (Ae.mk (AC.mk 0 0) x2 false) (AC.mk x1 0))<|AG<|AB ?_
 refine rn ⟨[(1,tI x1),(2,tI x2),(3,tI x3),(4,tP 4 0),(8,tP 8 0),(9,tP 9 0),(10,tI (W64 (x2+1)))],[(4,.cells (AC.c x0) 66),(8,.cells [.i 0,.i 0,.i 0,.i 0,.i 0,.i 0,.i 0] 68),(9,.cells (AC.c (Z0g x2 x1)) 66)]⟩ ?_
 refine AB<|AB ?_
 refine rn ⟨[(1,tI x1),(2,tI x2),(3,tI x3),(4,tP 4 0),(8,tP 8 0),(9,tP 9 0),(10,tI (W64 (x2+1))),(20,tB (decide ((x3:Int)=3)))],[(4,.cells (AC.c x0) 66),(8,.cells [.i 0,.i 0,.i 0,.i 0,.i 0,.i 0,.i 0] 68),(9,.cells (AC.c (Z0g x2 x1)) 66)]⟩ ?_
 refine Bd (⟨[(1,tI x1),(3,tI x3),(4,tP 4 0),(8,tP 8 0),(9,tP 9 0),(10,tI (bif decide ((x3:Int)=3) then (W64 (x2+3)) else (W64 (x2+1))))],[(4,.cells (AC.c x0) 66),(8,.cells [.i 0,.i 0,.i 0,.i 0,.i 0,.i 0,.i 0] 68),(9,.cells (AC.c (Z0g x2 x1)) 66)]⟩) ?_ ?_
 ·refine AV _ rfl (fun h1 => ?_) (fun h1 => ?_)
  ·refine rn ⟨[(1,tI x1),(3,tI x3),(4,tP 4 0),(8,tP 8 0),(9,tP 9 0),(10,tI (W64 (x2+3)))],[(4,.cells (AC.c x0) 66),(8,.cells [.i 0,.i 0,.i 0,.i 0,.i 0,.i 0,.i 0] 68),(9,.cells (AC.c (Z0g x2 x1)) 66)]⟩ ?_
   refine Ay ?_
   first | rfl | (simp only [h1,cond_true,cond_false] <;> rfl)
  refine AY<|AG ?_
  refine Cv.trans (ck (⟨[(1,tI x1),(3,tI x3),(4,tP 4 0),(8,tP 8 0),(9,tP 9 0),(10,tI (W64 (x2+1)))],[(4,.cells (AC.c x0) 66),(8,.cells [.i 0,.i 0,.i 0,.i 0,.i 0,.i 0,.i 0] 68),(9,.cells (AC.c (Z0g x2 x1)) 66)]⟩)) (Ay ?_)
  first | rfl | (simp only [h1,cond_true,cond_false] <;> rfl)
 refine AB<|rs 27 (FA (Ae.mk (AC.mk 0 0) (bif decide ((x3:Int)=3) then (W64 (x2+3)) else (W64 (x2+1))) false) (AC.mk x1 0)) ⟨[(3,tI x3),(4,tP 4 0),(8,tP 8 0),(9,tP 9 0),(11,tP 11 0)],[(4,.cells (AC.c x0) 66),(8,.cells [.i 0,.i 0,.i 0,.i 0,.i 0,.i 0,.i 0] 68),(9,.cells (AC.c (Z0g x2 x1)) 66),(11,.cells (AC.c (Z0h x3 x2 x1)) 66)]⟩ (JK (Ae.mk (AC.mk 0 0) (bif decide ((x3:Int)=3) then (W64 (x2+3)) else (W64 (x2+1))) false) (AC.mk x1 0))<|AG<|AB ?_
 refine dw [] [(31,FB x0 (Z0g x2 x1)),(34,FB x0 (Z0h x3 x2 x1))] [Ap (FB x0 (Z0g x2 x1)).2.1,Ap (FB x0 (Z0h x3 x2 x1)).2.1] ⟨[(8,tP 8 0)],[(8,.cells [.i x3,.i ((Ck x0 (Z0g x2 x1)).X),.i ((Ck x0 (Z0g x2 x1)).Y),.i ((Ck x0 (Z0h x3 x2 x1)).X),.i ((Ck x0 (Z0h x3 x2 x1)).Y),.i x0.X,.i x0.Y] 68)]⟩ (.cons (L3 x0 (Z0g x2 x1)) (.cons (L3 x0 (Z0h x3 x2 x1)) .nil)) (.cons rfl (.cons rfl .nil))<|AG<|AW ?_
 exact xl (.av (.agg [.i x3,.i ((Ck x0 (Z0g x2 x1)).X),.i ((Ck x0 (Z0g x2 x1)).Y),.i ((Ck x0 (Z0h x3 x2 x1)).X),.i ((Ck x0 (Z0h x3 x2 x1)).Y),.i x0.X,.i x0.Y])) (Aa (by rfl))
theorem D6 (x0:AC) (x1:Int) (x2:Int) (x3:Int):OKc (B8 x0 x1 x2 x3):=cPu<|bW x0 x1 x2 x3
def U3 (n:Int) (m:Int):Int:=Int.tmod (W64 ((Int.tmod n m)+m)) m
def rZ (n:Int) (m:Int):CT:=(29,[.one (.i n),.one (.i m)],.val [] (.av (.one (.i (U3 n m)))))
theorem pMod (n:Int) (m:Int) (hm:m≠0):PuP 29 (rZ n m).2.1 (tO (.i (U3 n m))):=by
 refine pwf Tryz.func29 fun W0 M0 => ?_
 refine AB<|rn ⟨[(0,tI n),(1,tI m)],[]⟩<|AB ?_
 refine rc [] [(m:Int)≠0,(m:Int)≠0] ⟨[(4,tI (Int.tmod (W64 ((Int.tmod n m)+m)) m))],[]⟩ .nil (.cons au15 (.cons au15 .nil))<|AG<|AW ?_
 exact xl (tO (.i (Int.tmod (W64 ((Int.tmod n m)+m)) m))) (Aa (by rfl))
theorem okMod (n:Int) (m:Int) (hm:m≠0):OKc (rZ n m):=cPu<|pMod n m hm
def Bh (d:AD):Prop:=0<=d.At/\d.At<=d.L.length/\(d.L.length:Int)<=9223372036854775807
def AA (d:AD) (n:Int):(Int×AD):=bif decide ((((d.L.length:Int)):Int)<=d.At) then ((0,d)) else ((U3 (d.L.getD ((W64 ((W64 (d.At+1))-1)).toNat) default) n,AD.mk d.L (W64 (d.At+1))))
theorem au10 {p:Prop} (h:p:=by first | with_reducible assumption | omega | decide | (simp only [List.length_cons,List.length_nil,List.length_append];omega) | assumption):p:=h
theorem au0 {p:Prop} (h:p:=by first | decide | omega | exact M7 (by first | omega | (simp only [Bx];omega)) (by omega) | (simp only [Bx];omega) | (constructor <;> omega) | (simp only [List.length_append,List.length_cons,List.length_nil];omega) | (simp only [List.length_append,List.length_cons,List.length_nil,List.length_drop,List.length_take] at *;omega)):p:=h
theorem BU  (d:AD) (n:Int) (hd:Bh d) (hn:n≠0):Wr Tryz.prog 42 1000 [.one (.ptr 1000 0),.one (.i n)] (.cells (AD.c d) 117) (tO (.i ((AA d n).1))) (.cells (AD.c ((AA d n).2)) 117):=by
 refine IK Tryz.func42 rfl kr kr kr kr fun W0 M0 X hX => ?_
 obtain ⟨a1,a2,a3⟩:=hd
 refine AB<|rn ⟨[(0,tP 1000 0),(1,tI n)],[(1000,.cells (AD.c d) 117)]⟩ ?_
 refine AB<|AB ?_
 refine dw [] [] [] ⟨[(0,tP 1000 0),(1,tI n),(14,tB (decide ((((d.L.length:Int)):Int)<=d.At)))],[(1000,.cells (AD.c d) 117)]⟩ .nil .nil<|AG ?_
 refine AV _ rfl (fun h1 => ?_) (fun h1 => ?_)
 ·have g1:=oT h1
  refine AB<|rn ⟨[(4,tI 0)],[(1000,.cells (AD.c d) 117)]⟩ ?_
  refine AW<|A7 ?_
  exact xl (tO (.i 0)) ⟨Aa (by simp only [AA,h1,cond_true,cond_false] <;> rfl),.cells (AD.c d) 117,by kernel_rfl,Dk (by first | (simp only [AA,h1,cond_true,cond_false];done) | (simp only [AA,h1,cond_true,cond_false];kernel_rfl))⟩
 have g1:=oF h1
 refine AY<|AG<|AB ?_
 refine rn ⟨[(0,tP 1000 0),(1,tI n)],[(1000,.cells [lst 1 eIn d.L,.i (W64 (d.At+1))] 117)]⟩<|AB ?_
 refine dw [] [(34,rZ (d.L.getD ((W64 ((W64 (d.At+1))-1)).toNat) default) n)] [0<=(W64 ((W64 (d.At+1))-1):Int)/\(W64 ((W64 (d.At+1))-1):Int)<((d.L.length:Nat):Int),Ap (rZ (d.L.getD ((W64 ((W64 (d.At+1))-1)).toNat) default) n).2.1] ⟨[(4,tI (U3 (d.L.getD ((W64 ((W64 (d.At+1))-1)).toNat) default) n))],[(1000,.cells [lst 1 eIn d.L,.i (W64 (d.At+1))] 117)]⟩ (.cons (okMod (d.L.getD ((W64 ((W64 (d.At+1))-1)).toNat) default) n au10) .nil) (.cons au0 (.cons rfl .nil))<|AG<|AW ?_
 exact xl (tO (.i (U3 (d.L.getD ((W64 ((W64 (d.At+1))-1)).toNat) default) n))) ⟨Aa (by simp only [AA,h1,cond_true,cond_false] <;> rfl),.cells [lst 1 eIn d.L,.i (W64 (d.At+1))] 117,by kernel_rfl,Dk (by first | (simp only [AA,h1,cond_true,cond_false];done) | (simp only [AA,h1,cond_true,cond_false];kernel_rfl))⟩
theorem Cg {l:List Int} (h:(l.length:Int)<=9223372036854775807):Bh (AD.mk l 0):=⟨Int.le_refl _,by show (0:Int)<=(l.length:Int);omega,h⟩
theorem BT {d:AD} {n:Int} (h:Bh d):Bh (AA d n).2:=by
 obtain ⟨h1,h2,h3⟩:=h
 unfold AA
 by_cases hc:(d.L.length:Int)<=d.At
 ·simp only [hc,decide_true,cond_true];exact ⟨h1,h2,h3⟩
 simp only [hc,decide_false,cond_false]
 rw [Af (by omega) (by omega)]
 exact ⟨by show 0<=d.At+1;omega,by show d.At+1<=(d.L.length:Int);omega,h3⟩
theorem mod_b (n m:Int) (h0:0<m) (h1:m<=4611686018427387904):0<=U3 n m/\U3 n m<m:=by
 have e:U3 n m=n % m:=by
  unfold U3 W64
  rcases Int.lt_or_le n 0 with h | h
  ·have b1:=Int.emod_nonneg (-n) (show m≠0 by omega)
   have b2:=Int.emod_lt_of_pos (-n) h0
   rw [show n.tmod m = -((-n) % m) by rw [<- Int.tmod_eq_emod_of_nonneg (by omega),Int.neg_tmod,Int.neg_neg]]
   rw [IntKind.wrap_i64]
   rw [show (-((-n) % m)+m+9223372036854775808) % 18446744073709551616-9223372036854775808 = -((-n) % m)+m by omega]
   rw [Int.tmod_eq_emod_of_nonneg (by omega)]
   have e1:=Int.emod_add_mul_ediv (-n) m
   have e2 : -((-n) % m)+m=n+m*((-n)/m+1):=by grind
   rw [e2,Int.add_mul_emod_self_left]
  have b1:=Int.emod_nonneg n (show m≠0 by omega)
  have b2:=Int.emod_lt_of_pos n h0
  rw [Int.tmod_eq_emod_of_nonneg h,IntKind.wrap_i64]
  rw [show (n % m+m+9223372036854775808) % 18446744073709551616-9223372036854775808=n % m+m by omega]
  rw [Int.tmod_eq_emod_of_nonneg (by omega),Int.add_emod_right,Int.emod_emod_of_dvd _ (Int.dvd_refl m)]
 rw [e]
 exact ⟨Int.emod_nonneg n (by omega),Int.emod_lt_of_pos n h0⟩
theorem C5 (d:AD) (n:Int) (h0:0<n) (h1:n<=4611686018427387904):0<=(AA d n).1/\(AA d n).1<n:=by
 unfold AA
 by_cases hc:(d.L.length:Int)<=d.At
 ·simp only [hc,decide_true,cond_true];omega
 simp only [hc,decide_false,cond_false]
 exact mod_b _ n h0 h1
theorem UR {v a:Int} {d:AD} {n:Int} (h:v<W64 (a+(AA d n).1)) (h0:0<n) (h1:n<=1000000) (ha:0<=a) (hb:a<=1000000):v<a+n:=by
 have:=C5 d n h0 (by omega)
 rw [Af (by omega) (by omega)] at h
 omega
theorem UZ {v a:Int} {d:AD} {n:Int} (h:¬ v<W64 (a+(AA d n).1)) (h0:0<n) (h1:n<=1000000) (ha:0<=a) (hb:a<=1000000):W64 (a+(AA d n).1)<a+n:=by
 have:=C5 d n h0 (by omega)
 rw [Af (by omega) (by omega)]
 omega
theorem Pd {p q:Prop} [Decidable p] [Decidable q] (h:(bif decide p then decide q else false)=true):p/\q:=by
 by_cases hp:p
 ·rw [decide_eq_true hp] at h;exact ⟨hp,of_decide_eq_true h⟩
 rw [decide_eq_false hp] at h;cases h
theorem Cq {c:Bool} {a b:AD} (ha:Bh a) (hb:Bh b):Bh (bif c then a else b):=by cases c <;> assumption
theorem Kn (d:AD) (n k:Int) (h0:0<n) (h1:n<=4611686018427387904) (h2:n<=k):0<=(AA d n).1/\(AA d n).1<k:=⟨(C5 d n h0 h1).1,by have:=(C5 d n h0 h1).2;omega⟩
abbrev Ga:List (Nat×Tv):=[(2,tP 2 0),(3,tP 3 0)]
theorem pD  (l:(List AF)) (closed:Bool):E5 Tryz.prog 80 [.one (lst 7 AF.c l),.one (.b closed)] (.av (.one (.clo 132 2 (Aw [.eptr 1 1 (gD [lst 7 AF.c l]) 0 0,.eptr 1 1 (gD [.b closed]) 0 0])))):=by
 refine pwf Tryz.func80 fun W0 M0 => ?_
 refine AB<|rn ⟨Ga,[(2,.cells [lst 7 AF.c l] 26),(3,.cells [.b closed] 4)]⟩<|AB ?_
 refine rn ⟨[(4,tO (.clo 132 2 (Aw [.ptr 2 0,.ptr 3 0])))],[(2,.cells [lst 7 AF.c l] 26),(3,.cells [.b closed] 4)]⟩<|AW ?_
 exact yl (Cv.trans (Gc (⟨[(4,.av (.one (.clo 132 2 (Aw [.eptr 1 1 (gD [lst 7 AF.c l]) 0 0,.ptr 3 0]))))],[(3,.cells [.b closed] 4)]⟩) 2 [lst 7 AF.c l] 26 hk0 kr kr kr kr) (Cv.trans (Gc (⟨[(4,.av (.one (.clo 132 2 (Aw [.eptr 1 1 (gD [lst 7 AF.c l]) 0 0,.eptr 1 1 (gD [.b closed]) 0 0]))))],[]⟩) 3 [.b closed] 4 hk0 kr kr kr kr) (Cv.refl _))) (.av (.one (.clo 132 2 (Aw [.eptr 1 1 (gD [lst 7 AF.c l]) 0 0,.eptr 1 1 (gD [.b closed]) 0 0])))) (Aa rfl)
section
open Go.RowKit
def jnN (l:List AF) (closed:Bool):Nat:=(l.length-1)+(bif closed then 1 else 0)
def jnA (l:List AF) (x:Nat):AF:=if x+1<l.length then l.getD x default else l.getD (l.length-1) default
def jnB (l:List AF) (x:Nat):AF:=if x+1<l.length then l.getD (x+1) default else l.getD 0 default
abbrev PK (l:List AF):Cl:=.eptr 1 1 (fun _ j=>([lst 7 AF.c l]:List Cl).getD j default) 0 0
abbrev PL (c:Bool):Cl:=.eptr 1 1 (fun _ j=>([.b c]:List Cl).getD j default) 0 0
abbrev ylV (ly:Nat):Tv:=.av (.one (.val (.func (.yield ly) #[] #[])))
abbrev tOj (c:Cl):Tv:=.av (.one c)
theorem Mt:∀ x:AF,∀ y∈AF.c x,NM y:=by
 intro x y hy
 simp only [AF.c,List.mem_cons,List.not_mem_nil,or_false] at hy
 rcases hy with rfl | rfl | rfl | rfl | rfl | rfl | rfl <;> exact .val _
theorem UK (l:List AF):NM (PK l):=Dg fun y hy=>by rw [List.mem_singleton.1 hy];exact B5 Mt
theorem UL (c:Bool):NM (PL c):=Dg fun y hy=>by rw [List.mem_singleton.1 hy];exact .val _
theorem lX (x:AF):(AF.c x).all Cl.isV=true:=rfl
section
variable (l:List AF) (closed:Bool)
theorem cW (h:closed=true->1<=l.length) (hl:(l.length:Int)<=1000000):U0 Tryz.prog 132 2 (Aw [PK l,PL closed]) (jnN l closed) (fun x=>[.agg (AF.c (jnA l x.val)),.agg (AF.c (jnB l x.val))]):=by
 refine rR Tryz.func132 rfl rfl (fun x=>rfl) (fun x e he c hc => ?_) kr (fun i hi => ?_) ?_
 ·have:c.isV=true:=by
   simp only [List.mem_cons,List.not_mem_nil,or_false] at he
   rcases he with rfl | rfl
   ·exact List.all_eq_true.1 (lX _) c hc
   exact List.all_eq_true.1 (lX _) c hc
  simp only [List.mem_cons,List.not_mem_nil,or_false] at he
  rcases he with rfl | rfl <;> (simp only [Av.cells,AF.c,List.mem_cons,List.not_mem_nil,or_false] at hc;rcases hc with rfl | rfl | rfl | rfl | rfl | rfl | rfl <;> rfl)
 ·match i,hi with
  | 0,_=>rfl
  | 1,_=>rfl
 intro Ow n0 ly JJ Jx hO hJg hY
 have hT:∀ (v:Int) i u,get [(0,ylV ly),(1,tOj (PK l)),(2,tOj (PL closed)),(4,tI v)] i=some u->u.dv=true/\TvM u:=fun v=>BO (p:=fun u=>Tv.dv u=true/\TvM u) (by
  simp only [List.forall_mem_cons]
  exact ⟨⟨rfl,A8 (.val _)⟩,⟨rfl,A8 (UK l)⟩,⟨rfl,A8 (UL closed)⟩,⟨rfl,A8 (.val _)⟩,fun x hx=>by cases hx⟩)
 have hd0:∀ (v:Int) i u,get [(0,ylV ly),(1,tOj (PK l)),(2,tOj (PL closed)),(4,tI v)] i=some u->u.dv=true:=fun v i u h=>(hT v i u h).1
 refine Ca ?_
 refine Ca ?_
 refine Ce hO (BO (p:=fun u=>Tv.dv u=true) (by simp [Dw,B4,Tv.dv,Av.dv,Cl.dv,List.range,List.range.loop,Aw])) rfl fun W0 X1 M1 => ?_
 refine Cu C2 [] [] [] [0,1,2,4] [] [] ⟨[(0,ylV ly),(1,tOj (PK l)),(2,tOj (PL closed)),(4,tI 1)],[]⟩ .nil kr .nil ?_
 refine CW ?_
 refine Et ?_
 have eA:∀ k:Nat,k+1<l.length->[Av.agg (AF.c (l.getD ((W64 (((k:Int)+1)-1)).toNat) default)),Av.agg (AF.c (l.getD ((k:Int)+1).toNat default))]=[.agg (AF.c (jnA l k)),.agg (AF.c (jnB l k))]:=fun k hk=>by
  have e1:W64 (((k:Int)+1)-1)=(k:Int):=by rw [Af (by omega) (by omega)];omega
  have e2:((k:Int)+1).toNat=k+1:=by omega
  rw [e1,e2,Int.toNat_natCast]
  unfold jnA jnB
  rw [if_pos hk,if_pos hk]
 refine M5 (ι:=Nat) (fun k=>⟨[(0,ylV ly),(1,tOj (PK l)),(2,tOj (PL closed)),(4,tI ((k:Int)+1))],[]⟩) (fun k=>JJ k) (fun k=>k<=l.length-1) (fun k=>l.length-k) (fun k hk => ?_) 0 (Nat.zero_le _)
 refine Ca ?_
 refine Ca ?_
 refine Ce hO (hd0 _) rfl fun W0 X1 M1 => ?_
 refine Cu C2 [] [] [] [0,1,2,4,8] [] [] ⟨[(0,ylV ly),(1,tOj (PK l)),(2,tOj (PL closed)),(4,tI ((k:Int)+1)),(8,tB (decide ((((k:Int)+1):Int)<((l.length:Int)))))],[]⟩ .nil kr .nil ?_
 refine CW ?_
 refine EM (decide ((((k:Int)+1):Int)<((l.length:Int)))) kr (fun hc => ?_) (fun hc => ?_)
 ·have hlt:k+1<l.length:=by have:=of_decide_eq_true hc;omega
  refine FN ?_
  refine CW ?_
  refine Ca ?_
  refine Et ?_
  refine Ca ?_
  refine SL (ly:=ly) hO Vt C2 10 rfl [] [] [0,1,2,4,11,16,20] [0,1,2,4,22] [0<=(W64 (((k:Int)+1)-1):Int)/\(W64 (((k:Int)+1)-1):Int)<((l.length:Nat):Int),0<=(((k:Int)+1):Int)/\(((k:Int)+1):Int)<((l.length:Nat):Int)]
   [(0,ylV ly),(1,tOj (PK l)),(2,tOj (PL closed)),(4,tI ((k:Int)+1)),(11,ylV ly),(16,.av (.agg (AF.c (l.getD ((W64 (((k:Int)+1)-1)).toNat) default)))),(20,.av (.agg (AF.c (l.getD ((k:Int)+1).toNat default))))] kr kr ?conds kr kr [Av.agg (AF.c (l.getD ((W64 (((k:Int)+1)-1)).toNat) default)),Av.agg (AF.c (l.getD ((k:Int)+1).toNat default))] rfl rfl kr kr kr rfl kr ?hT1 (hJg k) (JJ (k+1)) (Jx (k+1)) ?hY [] [] ⟨[(0,ylV ly),(1,tOj (PK l)),(2,tOj (PL closed)),(4,tI ((k:Int)+1)),(22,tB (!true))],[]⟩ ⟨[(22,tB (!false))],[]⟩ kr .nil kr .nil ?hQt ?hQf ?hdv rfl
  case conds =>
   have e1:W64 (((k:Int)+1)-1)=(k:Int):=by rw [Af (by omega) (by omega)];omega
   exact .cons ⟨by rw [e1];omega,by rw [e1];omega⟩ (.cons ⟨by omega,by omega⟩ .nil)
  case hT1=>exact BO (p:=fun u=>Tv.dv u=true/\TvM u) (by
   simp only [List.forall_mem_cons]
   exact ⟨⟨rfl,A8 (.val _)⟩,⟨rfl,A8 (UK l)⟩,⟨rfl,A8 (UL closed)⟩,⟨rfl,A8 (.val _)⟩,⟨rfl,A8 (.val _)⟩,⟨rfl,Mt _⟩,⟨rfl,Mt _⟩,fun x hx=>by cases hx⟩)
  case hY =>
   intro W hW
   have hk2:k<jnN l closed:=by unfold jnN;omega
   rw [eA k hlt]
   exact hY k hk2 W hW
  case hQt =>
   refine CW ?_
   refine EM false kr (fun h=>by cases h) (fun _ => ?_)
   refine FN ?_
   refine SO ?_
   refine CW ?_
   refine Ce hO (fun i u h => ?_) rfl fun W0 X1 M1 => ?_
   ·exact BO (p:=fun u=>Tv.dv u=true) (by simp only [List.forall_mem_cons];exact ⟨rfl,rfl,rfl,rfl,rfl,fun x hx=>by cases hx⟩) i u h
   refine Cu C2 [] [] [] [0,1,2,4] [] [] ⟨[(0,ylV ly),(1,tOj (PK l)),(2,tOj (PL closed)),(4,tI (W64 (((k:Int)+1)+1)))],[]⟩ .nil kr .nil ?_
   refine CW ?_
   refine ⟨k+1,by omega,by omega,?_,rfl,rfl⟩
   have e3:W64 (((k:Int)+1)+1)=((k+1:Nat):Int)+1:=by rw [Af (by omega) (by omega)];omega
   rw [e3]
  case hQf =>
   refine CW ?_
   refine EM true kr (fun _ => ?_) (fun h=>by cases h)
   refine YW ?_
   exact ⟨.inl rfl,.inr ⟨k,by unfold jnN;omega,rfl⟩⟩
  case hdv=>exact BO (p:=fun u=>Tv.dv u=true) (by simp only [List.forall_mem_cons];exact ⟨rfl,rfl,rfl,rfl,rfl,fun x hx=>by cases hx⟩)
 have hge:¬ k+1<l.length:=by have:=of_decide_eq_false hc;omega
 refine M6 ?_
 refine LN ?_
 refine LN ?_
 refine M8 ?_
 refine CW ?_
 refine Ca ?_
 refine Ce hO (fun i u h => ?_) rfl fun W0 X1 M1 => ?_
 ·exact BO (p:=fun u=>Tv.dv u=true) (by simp only [List.forall_mem_cons];exact ⟨rfl,rfl,rfl,rfl,rfl,fun x hx=>by cases hx⟩) i u h
 refine Cu C2 [] [] [] [0,1,2,23] [] [] ⟨[(0,ylV ly),(1,tOj (PK l)),(2,tOj (PL closed)),(23,tB closed)],[]⟩ .nil kr .nil ?_
 refine CW ?_
 refine EM closed kr (fun hcl => ?_) (fun hcl => ?_)
 ·have h1:=h hcl
  have hkl:k=l.length-1:=by omega
  have hk2:k<jnN l closed:=by unfold jnN;rw [hcl];show k<l.length-1+1;omega
  have hn:k+1=jnN l closed:=by unfold jnN;rw [hcl];show k+1=l.length-1+1;omega
  have e1:W64 (((l.length:Int))-1)=((l.length-1:Nat):Int):=by rw [Af (by omega) (by omega)];omega
  refine SL (ly:=ly) hO Vt C2 10 rfl [] [] [0,1,2,24,30,33] [0] [0<=(W64 (((l.length:Int))-1):Int)/\(W64 (((l.length:Int))-1):Int)<((l.length:Nat):Int),0<=(0:Int)/\(0:Int)<((l.length:Nat):Int)]
   [(0,ylV ly),(1,tOj (PK l)),(2,tOj (PL closed)),(24,ylV ly),(30,.av (.agg (AF.c (l.getD ((W64 (((l.length:Int))-1)).toNat) default)))),(33,.av (.agg (AF.c (l.getD 0 default))))] kr kr ?conds kr kr [Av.agg (AF.c (l.getD ((W64 (((l.length:Int))-1)).toNat) default)),Av.agg (AF.c (l.getD 0 default))] rfl rfl kr kr kr rfl kr ?hT1 (hJg k) (JJ (k+1)) (Jx (k+1)) ?hY [] [] ⟨[(0,ylV ly)],[]⟩ ⟨[],[]⟩ kr .nil kr .nil ?hQt ?hQf ?hdv rfl
  case conds=>exact .cons ⟨by rw [e1];omega,by rw [e1];omega⟩ (.cons ⟨by omega,by omega⟩ .nil)
  case hT1=>exact BO (p:=fun u=>Tv.dv u=true/\TvM u) (by
   simp only [List.forall_mem_cons]
   exact ⟨⟨rfl,A8 (.val _)⟩,⟨rfl,A8 (UK l)⟩,⟨rfl,A8 (UL closed)⟩,⟨rfl,A8 (.val _)⟩,⟨rfl,Mt _⟩,⟨rfl,Mt _⟩,fun x hx=>by cases hx⟩)
  case hY =>
   intro W hW
   have:=hY k hk2 W hW
   have eL:[Av.agg (AF.c (l.getD ((W64 (((l.length:Int))-1)).toNat) default)),Av.agg (AF.c (l.getD 0 default))]=[.agg (AF.c (jnA l k)),.agg (AF.c (jnB l k))]:=by
    unfold jnA jnB
    rw [if_neg hge,if_neg hge,e1,Int.toNat_natCast]
   rw [eL]
   exact this
  case hQt =>
   refine ⟨.inr rfl,.inl ?_⟩
   rw [hn]
  case hQf=>exact ⟨.inr rfl,.inr ⟨k,hk2,rfl⟩⟩
  case hdv=>exact BO (p:=fun u=>Tv.dv u=true) (by simp only [List.forall_mem_cons];exact ⟨rfl,rfl,rfl,rfl,fun x hx=>by cases hx⟩)
 refine FN ?_
 refine ⟨.inr rfl,.inl ?_⟩
 have:k=jnN l closed:=by unfold jnN;rw [hcl];show k=l.length-1+0;omega
 rw [<- this]
end
end
theorem uU  (l:(List Ad)) (layer:Int):E5 Tryz.prog 69 [.one (lst 9 Ad.c l),.one (.i layer)] (.av (.one (.clo 126 2 (Aw [.eptr 1 1 (fun _ j_=>([lst 9 Ad.c l]:List Cl).getD j_ default) 0 0,.eptr 1 1 (fun _ j_=>([.i layer]:List Cl).getD j_ default) 0 0])))):=by
 refine pwf Tryz.func69 fun W0 M0 => ?_
 refine AB ?_
 refine Cu C2 [] [] [] [2,3] [2,3] [] ⟨[(2,tP 2 0),(3,tP 3 0)],[(2,.cells [lst 9 Ad.c l] 50),(3,.cells [.i layer] 3)]⟩ .nil kr .nil<|AG<|AB ?_
 refine Cu C2 [] [] [] [4] [2,3] [] ⟨[(4,.av (.one (.clo 126 2 (Aw [.ptr 2 0,.ptr 3 0]))))],[(2,.cells [lst 9 Ad.c l] 50),(3,.cells [.i layer] 3)]⟩ .nil kr .nil<|AG<|AW ?_
 exact ⟨_,Cv.trans (Gc (⟨[(4,.av (.one (.clo 126 2 (Aw [.eptr 1 1 (fun _ j_=>([lst 9 Ad.c l]:List Cl).getD j_ default) 0 0,.ptr 3 0]))))],[(3,.cells [.i layer] 3)]⟩) 2 [lst 9 Ad.c l] 50 hk0 kr kr kr kr) (Cv.trans (Gc (⟨[(4,.av (.one (.clo 126 2 (Aw [.eptr 1 1 (fun _ j_=>([lst 9 Ad.c l]:List Cl).getD j_ default) 0 0,.eptr 1 1 (fun _ j_=>([.i layer]:List Cl).getD j_ default) 0 0]))))],[]⟩) 3 [.i layer] 3 hk0 kr kr kr kr) (Cv.refl _)),.inl rfl,.av (.one (.clo 126 2 (Aw [.eptr 1 1 (fun _ j_=>([lst 9 Ad.c l]:List Cl).getD j_ default) 0 0,.eptr 1 1 (fun _ j_=>([.i layer]:List Cl).getD j_ default) 0 0]))),by kernel_rfl,Aa rfl⟩
section
open Go.RowKit
def IWL (P:Program) (N:Nat) (Ow:World->Nat->Prop) (n0:Nat) (ops:Array Oper) (l:List Oper) (Q:IQ) (s:AS) (J:World->Prop) (al:Bool):Prop :=
 ∀ W0 M σ a w,(J W0/\a.defers=[]/\IOk Ow n0 al M W0)->Sim N W0 noX M M σ (get s.t) (get s.h) a w->wpListIn (FW none) 0 P ops (fun e a' w'=>∃ s' J' al' W0' M' σ',Q e s' J' al'/\(J' W0'/\a'.defers=[]/\IOk Ow n0 al' M' W0')/\Sim N W0' noX M' M' σ' (get s'.t) (get s'.h) a' w') l a w
section
variable {P:Program} {N:Nat} {Ow:World→Nat→Prop} {n0:Nat} {Q:IQ} {s:AS} {J:World→Prop} {al:Bool} {ops:Array Oper} {l:List Oper} {o:Oper}
theorem L8 {id:Nat} (h:IWL P N Ow n0 l.toArray l Q s J al):IWp P N Ow n0 (.region id l.toArray false) Q s J al:=fun W0 M σ a w hJ hs=>wpIn_region_lit (h W0 M σ a w hJ hs)
theorem Hi (hO:OwS Ow n0) {E:TypeId->Option (List Kd)} (hE:Io P ⟨fun _=>none,E,fun _=>false,fun _=>none⟩) (k:Nat) (ts:List Nat) (cs:List Prop) (T:List (Nat×Tv)) (hr:R1 P ⟨EI [],E,Au [],get []⟩ N ops (l.take k) ts [] s=some (cs,⟨T,[]⟩)) (hc:Bi cs)
  (hdv:∀ i v,get s.t i=some v->v.dv=true) (hh:s.h=[]) (h:IWL P N Ow n0 ops (l.drop k) Q ⟨T,[]⟩ J al):IWL P N Ow n0 ops l Q s J al:=by
 have hV:Jv P ⟨EI [],E,Au [],get []⟩:=(Gm.nil (P:=P)).env (O:=Au []) (q:=get []) hE
 intro W0 M σ a w hJ hs
 unfold R1 at hr
 split at hr
 ·rename_i cs1 s1 h1
  simp only [Option.some.injEq,Prod.mk.injEq] at hr
  obtain ⟨rfl,hS⟩:=hr
  have key:=QU (rd:=none) (ops:=ops) (Q':=fun e a' w'=>∃ s' J' al' W0' M' σ',Q e s' J' al'/\(J' W0'/\a'.defers=[]/\IOk Ow n0 al' M' W0')/\Sim N W0' noX M' M' σ' (get s'.t) (get s'.h) a' w') hV (l.drop k) (l.take k) s s1 cs1 h1 hc M _ a w (IL hdv hh hJ.2.1 hs) fun M' σ' a' w' hs'=>by
   have hs2:=EA hs' ts []
   rw [hS] at hs2
   obtain ⟨hd,hs3⟩:=Fj hs2
   exact h W0 M' σ' a' w' ⟨hJ.1,hd,Hj hJ.2.2 hO hs2⟩ hs3
  rw [List.take_append_drop] at key
  exact key
 cases hr
theorem Mz (h:Q .normal s J al):IWL P N Ow n0 ops [] Q s J al:=fun W0 M σ a w hJ hs=>⟨s,J,al,W0,M,σ,h,hJ,hs⟩
theorem KT (ts:List Nat) (S:AS) (hS:LM ts [] s=S) (h:IWL P N Ow n0 ops l Q S J al):IWL P N Ow n0 ops l Q s J al:=by
 subst hS
 exact fun W0 M σ a w hJ hs=>h W0 M σ a w hJ (EA hs ts [])
theorem My (hO:OwS Ow n0) {E:TypeId->Option (List Kd)} (hE:Io P ⟨fun _=>none,E,fun _=>false,fun _=>none⟩) (j:Nat) (want:Bool) (G:Prop) (cs:List Prop) (T:List (Nat×Tv)) (hg:o.guard=some (j,want)) (hG:Gb (get s.t) ops j want=some G) (hGp:G)
  (hst:ZK P ⟨EI [],E,Au [],get []⟩ N o G s=some (cs,⟨T,[]⟩)) (hc:Bi cs) (hdv:∀ i v,get s.t i=some v->v.dv=true) (hh:s.h=[]) (h:IWL P N Ow n0 ops l Q ⟨T,[]⟩ J al):IWL P N Ow n0 ops (o::l) Q s J al:=by
 have hV:Jv P ⟨EI [],E,Au [],get []⟩:=(Gm.nil (P:=P)).env (O:=Au []) (q:=get []) hE
 intro W0 M σ a w hJ hs0
 have hs:=IL hdv hh hJ.2.1 hs0
 refine wpListIn_step fun K0 hK' => ?_
 rw [if_pos ((Ea hs.tmps hs.room hg hG).2 hGp)]
 unfold ZK at hst
 split at hst
 ·rename_i e he
  split at hst
  ·rename_i cs' g hr
   cases hok:IZ N s o.dst g with
   | false=>rw [hok] at hst;cases hst
   | true =>
    rw [hok] at hst
    simp only [cond_true,Option.some.injEq,Prod.mk.injEq] at hst
    obtain ⟨rfl,hS⟩:=hst
    obtain ⟨hc1,hc2⟩:=hc.append
    have hgo0:=Kq hok (fun n v b hg=>by subst hg;exact Tu hr) (fun l v hg=>by subst hg;exact PO hr) (fun n q v b bq hg=>by subst hg;exact Tw hr) (fun n b v hg=>by subst hg;exact PP hr)
    refine (Ue hV (fun x v hv=>Yg hGp hc1 hs.tmps hv) he hs.std hr hc2 (UY hgo0)).wp ?_ (fun c hc=>by rw [hc] at he;cases he)
    rintro U w' ⟨M',σ',ho⟩
    have hsim:=OA hs ho hgo0
    rw [<- (FP s o.dst g).1,<- (FP s o.dst g).2,hS] at hsim
    obtain ⟨hd,hs3⟩:=Fj hsim
    exact hK' _ _ (h W0 M' σ' _ w' ⟨hJ.1,hd,Hj hJ.2.2 hO hsim⟩ hs3)
  cases hst
 cases hst
theorem Qu (hO:OwS Ow n0) (hwant:∀ (M:Nat->Option Obj) (σ:Nat->Loc) (a:Act),(∀ i v,get s.t i=some v->RT M σ v (a.tmps.getD i undef))->a.tmps.size=N->Region.wanted o (yielded ops a.tmps)=true) {c:Call} {f:Operand} {ly d:Nat} (xs:List Av) (ho:o.op=.call c) (hcf:c.callee=.value f)
  (hf:evT (get s.t) f=some (.av (.one (.val (.func (.yield ly) #[] #[]))))) (hxs:EB (evT (get s.t)) c.args.toList=some xs) (hv:xs.all Av.isV=true) (hod:o.dst=some d) (hdN:Nat.blt d N=true) (hT1:∀ i v,get s.t i=some v->v.dv=true/\TvM v)
  (hJg:∀ A B,J A->A.grownBy B none->J B) (Jt Jf:World->Prop)
  (hY:∀ W,J W->YieldAt (FW none) 0 P ly (xs.map Av.toV).toArray W (fun e W'=>(e=.returned (.bool true)/\Jt W'/\KpS Ow W W')\/(e=.returned (.bool false)/\Jf W')))
  (tf:List Nat) (htf:∀ i v,get (IX s.t tf) i=some v->∃ u,v=.av (.one (.val u))) (hh:s.h=[])
  (ht:IWL P N Ow n0 ops l Q ⟨(d,tB true)::s.t,[]⟩ Jt true) (hff:IWL P N Ow n0 ops l Q ⟨(d,tB false)::IX s.t tf,[]⟩ Jf false):IWL P N Ow n0 ops (o::l) Q s J true:=by
 intro W0 M σ a w hJ hs
 refine wpListIn_step fun K0 hK' => ?_
 rw [if_pos (hwant M σ a hs.tmps hs.room)]
 have hgrow:W0.grownBy w none:={ os:=hs.os,tape:=hs.tape,output:=hs.output,size:=hs.size,block:=fun b hb _=>hs.old b hb (Ec b) }
 have hiok:=hJ.2.2
 have hdN':d<N:=by have:=Nat.le_of_ble_eq_true hdN;omega
 have hput:∀ (b:Bool) (T:List (Nat×Tv)) (M':Nat->Option Obj) (σ':Nat->Loc),(∀ i v,get T i=some v->RT M' σ' v (a.tmps.getD i undef))->∀ i v,get ((d,tB b)::T) i=some v->RT M' σ' v ((a.put o.dst (.bool b)).tmps.getD i undef):=fun b T M' σ' hT i v hv=>by
  have hds:d<a.tmps.size:=by rw [hs.room];exact hdN'
  simp only [get,CS] at hv
  rw [hod]
  by_cases hi:d=i
  ·subst hi
   simp at hv;subst hv
   have:(a.put (some d) (.bool b)).tmps.getD d undef=.bool b:=by simp [Act.put,Array.getD_eq_getD_getElem?,hds]
   rw [this]
   exact ⟨rfl,rfl⟩
  simp [hi] at hv
  have:(a.put (some d) (.bool b)).tmps.getD i undef=a.tmps.getD i undef:=by simp [Act.put,Array.getD_eq_getD_getElem?,Array.getElem?_setIfInBounds,hi]
  rw [this];exact hT i v hv
 have hsize:∀ b:Bool,(a.put o.dst (.bool b)).tmps.size=N:=fun b=>by rw [hod];simpa [Act.put] using hs.room
 have hdef:∀ b:Bool,(a.put o.dst (.bool b)).defers=[]:=fun b=>by rw [hod];simpa [Act.put] using hJ.2.1
 have hnew:∀ (b:Bool) (w2:World) (T:List (Nat×Tv)) (Mn:Nat->Option Obj),(∀ i v,get T i=some v->RT Mn σ v (a.tmps.getD i undef))->(∀ b o,Mn b=some o->w2.heap[b]? = some o)->Sim N w2 noX Mn Mn σ (get ((d,tB b)::T)) (get []) (a.put o.dst (.bool b)) w2:=fun b w2 T Mn hT himm =>
  ⟨rfl,rfl,rfl,Nat.le_refl _,fun _ _ _=>rfl,fun _ _ h=>h,fun b o h h'=>(by rw [h] at h';cases h'),fun m x hx=>(by cases hx),⟨by rw [hdef b];trivial,fun _=>hdef b⟩,hsize b,hput b T Mn σ hT,himm,fun n b hb=>(by cases hb),fun n b hb=>(by cases hb),fun n m b c hb=>(by cases hb)⟩
 refine U9 hs.tmps ho hcf hf hxs hv (hY w (hJg W0 w hJ.1 hgrow)) fun e w2 he => ?_
 rcases he with ⟨rfl,h5,h6⟩ | ⟨rfl,h5⟩
 ·have hst:∀ b,Ow w b->Ow W0 b:=hO.st W0 w (hiok rfl).1 fun b hb=>hs.old b hb (Ec b)
  refine ⟨_,rfl,hK' _ _ (ht w2 (Rm M) σ _ w2 ⟨h5,hdef true,fun _=>⟨Nat.le_trans (hiok rfl).1 (Nat.le_trans hs.size h6.1),fun b h=>(h6.2.2 b h).elim (fun h7=>Nat.lt_of_lt_of_le ((hiok rfl).2.1 b (hst b h7)) (Nat.le_trans hs.size h6.1)) And.right,fun b o' h hw2 => ?_⟩⟩ (hnew true w2 s.t (Rm M) (fun i v hv=>RL Jc (hs.tmps i v hv) (hT1 i v hv).2) fun b o' h => ?_))⟩
  ·rcases h6.2.2 b hw2 with h7 | h7
   ·exact (hiok rfl).2.2 b o' (DQ h).1 (hst b h7)
   have:=(Array.getElem?_eq_some_iff.1 (hs.imm b o' (DQ h).1)).1;omega
  exact h6.2.1 b o' (hs.imm b o' (DQ h).1) (DQ h).2 fun h7=>(hiok rfl).2.2 b o' (DQ h).1 (hst b h7)
 refine ⟨_,rfl,hK' _ _ (hff w2 noM σ _ w2 ⟨h5,hdef false,fun h=>by cases h⟩ (hnew false w2 (IX s.t tf) noM (fun i v hv => ?_) fun b o' h=>by cases h))⟩
 obtain ⟨u,rfl⟩:=htf i v hv
 exact hs.tmps i _ (Ib _ _ _ _ hv)
theorem cX (hO:OwS Ow n0) (j:Nat) (want:Bool) (G:Prop) (hg:o.guard=some (j,want)) (hG:Gb (get s.t) ops j want=some G) (hGp:G) {c:Call} {f:Operand} {ly d:Nat} (xs:List Av) (ho:o.op=.call c) (hcf:c.callee=.value f)
  (hf:evT (get s.t) f=some (.av (.one (.val (.func (.yield ly) #[] #[]))))) (hxs:EB (evT (get s.t)) c.args.toList=some xs) (hv:xs.all Av.isV=true) (hod:o.dst=some d) (hdN:Nat.blt d N=true) (hT1:∀ i v,get s.t i=some v->v.dv=true/\TvM v)
  (hJg:∀ A B,J A->A.grownBy B none->J B) (Jt Jf:World->Prop)
  (hY:∀ W,J W->YieldAt (FW none) 0 P ly (xs.map Av.toV).toArray W (fun e W'=>(e=.returned (.bool true)/\Jt W'/\KpS Ow W W')\/(e=.returned (.bool false)/\Jf W')))
  (tf:List Nat) (htf:∀ i v,get (IX s.t tf) i=some v->∃ u,v=.av (.one (.val u))) (hh:s.h=[])
  (ht:IWL P N Ow n0 ops l Q ⟨(d,tB true)::s.t,[]⟩ Jt true) (hff:IWL P N Ow n0 ops l Q ⟨(d,tB false)::IX s.t tf,[]⟩ Jf false):IWL P N Ow n0 ops (o::l) Q s J true :=
 Qu hO (fun M σ a h1 h2=>(Ea h1 h2 hg hG).2 hGp) xs ho hcf hf hxs hv hod hdN hT1 hJg Jt Jf hY tf htf hh ht hff
theorem YV (hO:OwS Ow n0) (hgn:o.guard=none) {c:Call} {f:Operand} {ly d:Nat} (xs:List Av) (ho:o.op=.call c) (hcf:c.callee=.value f)
  (hf:evT (get s.t) f=some (.av (.one (.val (.func (.yield ly) #[] #[]))))) (hxs:EB (evT (get s.t)) c.args.toList=some xs) (hv:xs.all Av.isV=true) (hod:o.dst=some d) (hdN:Nat.blt d N=true) (hT1:∀ i v,get s.t i=some v->v.dv=true/\TvM v)
  (hJg:∀ A B,J A->A.grownBy B none->J B) (Jt Jf:World->Prop)
  (hY:∀ W,J W->YieldAt (FW none) 0 P ly (xs.map Av.toV).toArray W (fun e W'=>(e=.returned (.bool true)/\Jt W'/\KpS Ow W W')\/(e=.returned (.bool false)/\Jf W')))
  (tf:List Nat) (htf:∀ i v,get (IX s.t tf) i=some v->∃ u,v=.av (.one (.val u))) (hh:s.h=[])
  (ht:IWL P N Ow n0 ops l Q ⟨(d,tB true)::s.t,[]⟩ Jt true) (hff:IWL P N Ow n0 ops l Q ⟨(d,tB false)::IX s.t tf,[]⟩ Jf false):IWL P N Ow n0 ops (o::l) Q s J true :=
 Qu hO (fun M σ a h1 h2=>by simp [Region.wanted,hgn]) xs ho hcf hf hxs hv hod hdN hT1 hJg Jt Jf hY tf htf hh ht hff
theorem VE {W0 w:World} {M0 M:Nat->Option Obj} {σ:Nat->Loc} {T:Nat->Option Tv} {H:Nat->Option Blk} {a:Act} (h:Sim N W0 noX M0 M σ T H a w) (hd:a.defers=[]):Sim N W0 noX M M σ T H a w :=
 ⟨h.os,h.tape,h.output,h.size,h.old,fun _ _ h=>h,fun b o h h'=>(by rw [h] at h';cases h'),h.pin,⟨by rw [hd];trivial,fun _=>hd⟩,h.room,h.tmps,h.imm,h.blk,h.loc,h.inj⟩
theorem aA {c:Code} {S:AS} (hO:OwS Ow n0) (h:∀ W0 M1,Cv N W0 noX M1 s S) (k:IWp P N Ow n0 c Q S J al):IWp P N Ow n0 c Q s J al:=by
 intro W0 M σ a w hJ hs
 obtain ⟨M',σ',h2⟩:=h W0 M M σ a w hs
 exact k W0 M' σ' a w ⟨hJ.1,hJ.2.1,Hj hJ.2.2 hO h2⟩ (VE h2 hJ.2.1)
end
end
theorem nI {M:Nat->Option Obj} {c:Cl} {V:Value} (h:RC M c V):V.oneCell'=true:=by
 cases h with
 | val v h=>exact h
 | any V h=>exact h
 | _=>rfl
abbrev mS (t:Bool) (sz len:Nat) (f:Nat->Nat->Cl):Cl:=.eptr 1 1 (fun _ j=>([.list t sz len f]:List Cl).getD j default) 0 0
theorem oU {M:Nat->Option Obj} {t:Bool} {sz len:Nat} {f:Nat->Nat->Cl} {v:Value} (h:RC M (.list t sz len f) v):∃ g:Nat->Nat->Value,RC M (.list t sz len (fun i j=>.val (g i j))) v/\∀ i j,i<len->j<sz->RC M (f i j) (g i j):=by
 cases h with
 | nil _ _ _ h0=>exact ⟨fun _ _=>undef,.nil _ _ _ h0,fun i j hi=>by omega⟩
 | mt _ _ _ a cap h5=>exact ⟨fun _ _=>undef,.mt _ _ _ a cap h5,fun i j hi=>by omega⟩
 | list _ _ _ _ b off cap g h1 h2 h4 h5=>exact ⟨g,.list _ _ _ _ b off cap g h1 (fun i j hi hj=>.val _ (nI (h2 i j hi hj))) h4 h5,h2⟩
theorem Xw {M:Nat->Option Obj} {t:Bool} {sz len:Nat} {f:Nat->Nat->Cl} {V:Value} (h:RC M (mS t sz len f) V):∃ g:Nat->Nat->Value,RC M (mS t sz len (fun i j=>.val (g i j))) V/\∀ i j,i<len->j<sz->RC M (f i j) (g i j):=by
 cases h with
 | eptr _ _ _ _ _ b base g0 h1 h2 =>
  obtain ⟨g,hg1,hg2⟩:=oU (h2 0 (by decide))
  exact ⟨g,.eptr _ _ _ _ _ _ _ g0 h1 (fun j hj=>by
   have:j=0:=by omega
   subst this;exact hg1),hg2⟩
section
open Go.RowKit
section
variable {P:Program}
def WrR (P:Program) (f:FuncId) (K:Nat) (xs:List Av) (sz len:Nat) (F0:Nat->Nat->Cl) (ty:TypeId) (r:Tv) (F1:Nat->Nat->Cl):Prop:=∀ (M:Nat->Option Obj) (σ:Nat->Loc) (w:World) (args:List Value),(∀ b o,M b=some o->w.heap[b]? = some o)->BX M σ w (σ K) (.row sz len F0 ty)->((σ K).nil=true\/M (σ K).b=none)->L2 (RA M σ) xs args ->
 Calls P f args.toArray w fun en w'=>∃ U,en=.returned U/\∃ M',Gg w w' M M' (only (σ K))/\(∀ σ',RT M' σ' r U)/\∀ σ',BX M' σ' w' (σ K) (.row sz len F1 ty)
theorem Fh {f:FuncId} {fn:Func} {c:Code} (hf:P.funcs[f]? = some fn) (hb:fn.body=some c) {K:Nat} {xs:List Av} {sz len:Nat} {F0 F1:Nat->Nat->Cl} {ty:TypeId} {r:Tv} (hN:Nat.ble xs.length fn.ntmps=true) (hK:Nat.ble fn.ntmps K=true) (hd:r.dv=true)
  (h:∀ (W0:World) (M0:Nat->Option Obj) (X:Nat->Option Loc),(∀ k x,X k=some x->Au [K] k=true)->AWp P none fn.ntmps W0 X M0 c (Rg P fn.ntmps W0 X M0 fn fun r' s'=>TvE r' r/\∃ b,get s'.h K=some b/\ID b (.row sz len F1 ty)) ⟨Dw 0 xs,[(K,.row sz len F0 ty)]⟩):WrR P f K xs sz len F0 ty r F1:=by
 intro M σ w args himm hblk hM hargs
 have one:∀ n b,get [(K,Blk.row sz len F0 ty)] n=some b->n=K/\b=.row sz len F0 ty:=fun n b hn=>by
  simp only [get,CS] at hn
  by_cases hk:K=n
  ·simp [hk] at hn;exact ⟨hk.symm,hn.symm⟩
  simp [hk] at hn
 by_cases hnil:(σ K).nil=true
 ·have hlen:len=0:=by
   rcases hblk with h0 | ⟨h0,_⟩
   ·exact h0.2
   rw [hnil] at h0;cases h0
  refine EW (X:=noX) (σ:=σ) (h0:=[(K,.row sz len F0 ty)]) hf hb (Nat.le_of_ble_eq_true hN) himm hargs (fun n b hn => ?_) (fun n b hn => ?_) (fun n x hx=>by cases hx) (fun n m b c hn hm hne => ?_) (DH (h w M noX (fun k x hk=>by cases hk))) ?_
  ·obtain ⟨rfl,rfl⟩:=one n b hn;exact hblk
  ·obtain ⟨rfl,rfl⟩:=one n b hn;exact .inl hnil
  ·exact absurd ((one n b hn).1.trans (one m c hm).1.symm) hne
  rintro r' s' M' σ' a' w' U ⟨he,b,hb1,hbe⟩ hs hR
  exact ⟨U,rfl,M',⟨hs.os,hs.tape,hs.output,hs.size,fun b hb hne=>hs.old b hb (Ec b),hs.sub,hs.new,hs.imm⟩,fun σ''=>HU hd (MR he hR),fun σ''=>.inl ⟨hnil,hlen⟩⟩
 have hnil:(σ K).nil=false:=by simpa using hnil
 have hMK:M (σ K).b=none:=by
  rcases hM with h1 | h1
  ·rw [hnil] at h1;cases h1
  exact h1
 let X:Nat->Option Loc:=upd noX K (some (σ K))
 have hX:X K=some (σ K):=BH _ _ _
 have pins:∀ n x,X n=some x->n=K/\x=σ K:=fun n x hx=>by
  by_cases hk:n=K
  ·subst hk;rw [hX] at hx;injection hx with hx;exact ⟨rfl,hx.symm⟩
  simp only [X] at hx;rw [CK _ _ hk] at hx;cases hx
 have hXK:∀ k x,X k=some x->Au [K] k=true:=fun k x hk=>by rw [(pins k x hk).1];exact Mu _
 refine EW (X:=X) (σ:=σ) (h0:=[(K,.row sz len F0 ty)]) hf hb (Nat.le_of_ble_eq_true hN) himm hargs (fun n b hn => ?_) (fun n b hn => ?_) (fun n x hx => ?_) (fun n m b c hn hm hne => ?_) (DH (h w M X hXK)) ?_
 ·obtain ⟨rfl,rfl⟩:=one n b hn;exact hblk
 ·obtain ⟨rfl,rfl⟩:=one n b hn;exact .inr ⟨hMK,n,σ n,hX,rfl⟩
 ·obtain ⟨rfl,rfl⟩:=pins n x hx;exact ⟨Nat.le_of_ble_eq_true hK,rfl⟩
 ·exact absurd ((one n b hn).1.trans (one m c hm).1.symm) hne
 rintro r' s' M' σ' a' w' U ⟨he,b,hb1,hbe⟩ hs hR
 have hpin:=(hs.pin K _ hX).2
 have hbk:=hs.blk K _ hb1
 rw [hpin] at hbk
 refine ⟨U,rfl,M',⟨hs.os,hs.tape,hs.output,hs.size,fun b hb hne=>hs.old b hb ?_,hs.sub,hs.new,hs.imm⟩,fun σ''=>HU hd (MR he hR),fun σ''=>(Jm hbe hbk:BX M' σ' w' (σ K) (.row sz len F1 ty))⟩
 rintro ⟨n,x,hx,rfl⟩
 obtain ⟨rfl,rfl⟩:=pins n x hx
 exact hne ⟨hnil,rfl⟩
theorem Fv {α:Type} [Inhabited α] {c:α->List Cl} {xs ys:List α} {sz n:Nat} {ty:TypeId} (h:xs=ys) (hl:xs.length=n):ID (.row sz xs.length (AO c xs) ty) (.row sz n (AO c ys) ty):=by
 subst h hl
 exact .refl _
def IP (K n:Nat):Av->Av
 | .one (.own m sz len)=>bif Nat.beq m K then .one (.own n sz len) else .one (.own m sz len)
 | x=>x
def iB (K:Nat):Av->Bool
 | .one (.own m _ _)=>Nat.beq m K
 | x=>x.dv
theorem Fu {f:FuncId} {K n:Nat} {xs:List Av} {sz len:Nat} {F0 F1:Nat->Nat->Cl} {ty:TypeId} {r:Tv} (h1:∀ args w,(callFunc f args).run P w=.ok (.enter f args) w) (hx:xs.all (iB K)=true) (h:WrR P f K xs sz len F0 ty r F1):Eo P f (xs.map (IP K n)) (wrI n (.row sz len F0 ty) r (.row sz len F1 ty)):=by
 refine .inl ⟨h1,fun M σ w hh args cs' g hs hargs hres hc => ?_⟩
 simp only [wrI,res,H8] at hres
 cases hn:hh n with
 | none=>rw [hn] at hres;cases hres
 | some b =>
  rw [hn] at hres
  simp only [Option.some.injEq,Prod.mk.injEq] at hres
  obtain ⟨rfl,rfl⟩:=hres
  have:=hc.head
  subst this
  have hblk:=hs.blk n _ hn
  let σ2:Nat->Loc:=upd σ K (σ n)
  have hK:σ2 K=σ n:=BH _ _ _
  have hargs2:L2 (RA M σ2) xs args:=by
   refine L2.of (by have:=hargs.length;simpa using this) fun i x V hxi hV => ?_
   obtain ⟨V',hV',hR⟩:=hargs.get i (IP K n x) (by rw [List.getElem?_map,hxi];rfl)
   rw [hV] at hV';injection hV' with hV';subst hV'
   have hok:=(List.all_eq_true.1 hx) x (List.mem_of_getElem? hxi)
   unfold iB at hok
   split at hok
   ·rename_i m sz' len'
    simp only [IP,hok,cond_true] at hR
    have:=Nat.eq_of_beq_eq_true hok
    subst this
    have hR':R M σ (.own n sz' len') V:=hR
    show R M σ2 (.own m sz' len') V
    unfold R at hR' ⊢
    rw [hK];exact hR'
   rename_i hne
   have:IP K n x=x:=by
    unfold IP
    split
    ·rename_i m a b;exact (hne m a b rfl).elim
    rfl
   rw [this] at hR
   exact HU (σ':=σ2) (r:=.av x) hok hR
  refine (h M σ2 w args hs.imm (by rw [hK];exact hblk) (by rw [hK];exact hs.loc n _ hn) hargs2).mono ?_
  rintro en w' ⟨U,hU,M',hk,hR,hb⟩
  rw [hK] at hk
  refine ⟨U,hU,fun dst _=>⟨M',σ,hk,rfl,hR σ,?_⟩⟩
  have:=hb σ
  rw [hK] at this
  exact this
end
end
section
section
variable {α:Type} [Inhabited α]
def JN (lt:α->Bool) (out:List α):Nat->Nat
 | 0=>0
 | k+1=>bif lt (out.getD k default) then JN lt out k else k+1
def WA (lt:α->α->Bool) (out:List α) (x:α):List α:=out.take (JN (lt x) out out.length)++x::out.drop (JN (lt x) out out.length)
def Cd (lt:α->α->Bool) (l:List α):List α:=l.foldl (WA lt) []
theorem cZ (lt:α->α->Bool) (out:List α) (x:α):(WA lt out x).Perm (x::out):=by
 unfold WA
 refine List.perm_middle.trans ?_
 rw [List.take_append_drop]
theorem Ox (lt:α->α->Bool) (l:List α) (x:α):Cd lt (l++[x])=WA lt (Cd lt l) x:=by
 unfold Cd
 rw [List.foldl_append];rfl
theorem Oy (lt:α->α->Bool) (l:List α):(Cd lt l).Perm l:=by
 have key:∀ (l out:List α),(l.foldl (WA lt) out).Perm (out++l):=by
  intro l
  induction l with
  | nil=>intro out;simp
  | cons x l ih =>
   intro out
   rw [List.foldl_cons]
   refine (ih _).trans ?_
   refine ((cZ lt out x).append_right l).trans ?_
   exact List.perm_middle.symm
 exact key l []
theorem Di (lt:α->α->Bool) (l:List α):(Cd lt l).length=l.length:=(Oy lt l).length_eq
theorem Qx (lt:α->α->Bool) (l:List α) (x:α):x∈Cd lt l↔x∈l:=(Oy lt l).mem_iff
theorem bJ (A:List α) (x y:α) (R:List α) :
  (A++y::x::R).getD A.length default=y/\(A++y::x::R).getD (A.length+1) default=x/\((A++y::x::R).set (A.length+1) y).set A.length x=A++x::y::R:=by
 refine ⟨?_,?_,?_⟩
 ·rw [List.getD_eq_getElem?_getD,List.getElem?_append_right (by omega)];simp
 ·rw [List.getD_eq_getElem?_getD,List.getElem?_append_right (by omega)];simp
 rw [List.set_append_right _ _ (by omega),List.set_append_right _ _ (by omega)];simp
theorem ET (out:List α) (j:Nat) (h:j<out.length):out.take (j+1)=out.take j++[out.getD j default]/\out.drop j=out.getD j default::out.drop (j+1):=by
 constructor
 ·rw [List.take_add_one,List.getElem?_eq_getElem h,List.getD_eq_getElem?_getD,List.getElem?_eq_getElem h];rfl
 rw [List.drop_eq_getElem_cons h,List.getD_eq_getElem?_getD,List.getElem?_eq_getElem h];rfl
theorem wT {β:Type} (lt:α->α->Bool) (f:Nat->List α->Int->β) (K:List α->β)
  (hf:∀ m d (j:Nat),f (m+1) d j=bif (bif decide ((0:Int)<j) then lt (d.getD j default) (d.getD (j-1) default) else false) then f m ((d.set j (d.getD (j-1) default)).set (j-1) (d.getD j default)) ((j:Int)-1) else K d)
  (out rest:List α) (x:α):∀ (j m:Nat),j<=out.length->j<m->f m (out.take j++x::(out.drop j++rest)) j=K (out.take (JN (lt x) out j)++x::(out.drop (JN (lt x) out j)++rest)):=by
 intro j
 induction j with
 | zero =>
  intro m hj hm
  obtain ⟨m,rfl⟩:∃ k,m=k+1:=⟨m-1,by omega⟩
  rw [hf]
  simp [JN]
 | succ j ih =>
  intro m hj hm
  obtain ⟨m,rfl⟩:∃ k,m=k+1:=⟨m-1,by omega⟩
  obtain ⟨e1,e2⟩:=ET out j (by omega)
  have hl:(out.take j).length=j:=by rw [List.length_take];omega
  obtain ⟨s1,s2,s3⟩:=bJ (out.take j) x (out.getD j default) (out.drop (j+1)++rest)
  rw [hl] at s1 s2 s3
  have hd:out.take (j+1)++x::(out.drop (j+1)++rest)=out.take j++out.getD j default::x::(out.drop (j+1)++rest):=by rw [e1];simp
  rw [hf,hd,Nat.add_sub_cancel,s1,s2,s3]
  have h0:decide ((0:Int)<((j+1:Nat):Int))=true:=decide_eq_true (by omega)
  rw [h0,cond_true]
  conv=>rhs;unfold JN
  cases hlt:lt x (out.getD j default) with
  | true =>
   rw [cond_true,cond_true]
   have:=ih m (by omega) (by omega)
   rw [e2] at this
   rw [show ((j+1:Nat):Int)-1=(j:Int) by omega,<- this]
   rfl
  | false =>
   rw [cond_false,cond_false,hd]
theorem wU {β:Type} (lt:α->α->Bool) (l:List α) (g:Nat->List α->Int->β) (K:List α->β) (hK:∀ m d (i:Nat),l.length<=i->g (m+1) d i=K d)
  (hg:∀ m (i:Nat) (out rest:List α) x,i<l.length->out.length=i->g (m+1) (out++x::rest) i=g m (WA lt out x++rest) ((i:Int)+1)) :
  ∀ (k m i:Nat),l.length-i=k->i<=l.length->k<m->g m (Cd lt (l.take i)++l.drop i) i=K (Cd lt l):=by
 intro k
 induction k with
 | zero =>
  intro m i hk hi hm
  obtain ⟨m,rfl⟩:∃ k,m=k+1:=⟨m-1,by omega⟩
  rw [hK m _ i (by omega),List.drop_eq_nil_of_le (by omega),List.take_of_length_le (by omega),List.append_nil]
 | succ k ih =>
  intro m i hk hi hm
  obtain ⟨m,rfl⟩:∃ k,m=k+1:=⟨m-1,by omega⟩
  obtain ⟨e1,e2⟩:=ET l i (by omega)
  rw [e2,hg m i _ _ _ (by omega) (by rw [Di,List.length_take];omega),<- Ox,<- e1]
  have:=ih m (i+1) (by omega) (by omega) (by omega)
  rw [show ((i+1:Nat):Int)=(i:Int)+1 by omega] at this
  exact this
theorem dI {β:Type} (xs:List α) (g:Nat->List α->Int->β) (K:List α->Int->β) (h:∀ m acc (v:Nat),g (m+1) acc v=bif decide ((v:Int)<(xs.length:Int)) then g m (acc++[xs.getD v default]) ((v:Int)+1) else K acc v) :
  ∀ (k v m:Nat) (acc:List α),xs.length-v=k->v<=xs.length->k<m->g m acc v=K (acc++xs.drop v) (xs.length:Int):=by
 intro k
 induction k with
 | zero =>
  intro v m acc hk hv hm
  obtain ⟨m,rfl⟩:∃ k,m=k+1:=⟨m-1,by omega⟩
  rw [h,decide_eq_false (by omega),cond_false,List.drop_eq_nil_of_le (by omega),List.append_nil,show v=xs.length by omega]
 | succ k ih =>
  intro v m acc hk hv hm
  obtain ⟨m,rfl⟩:∃ k,m=k+1:=⟨m-1,by omega⟩
  obtain ⟨_,e2⟩:=ET xs v (by omega)
  rw [h,decide_eq_true (by omega),cond_true,e2]
  have:=ih (v+1) m (acc++[xs.getD v default]) (by omega) (by omega) (by omega)
  rw [show ((v+1:Nat):Int)=(v:Int)+1 by omega] at this
  rw [this,List.append_assoc];rfl
theorem L9 {β γ:Type} (xs:List α) (step:γ->α->γ) (g:Nat->γ->Int->β) (K:γ->Int->β) (h:∀ m acc (v:Nat),g (m+1) acc v=bif decide ((v:Int)<(xs.length:Int)) then g m (step acc (xs.getD v default)) ((v:Int)+1) else K acc v) :
  ∀ (k v m:Nat) (acc:γ),xs.length-v=k->v<=xs.length->k<m->g m acc v=K ((xs.drop v).foldl step acc) (xs.length:Int):=by
 intro k
 induction k with
 | zero =>
  intro v m acc hk hv hm
  obtain ⟨m,rfl⟩:∃ k,m=k+1:=⟨m-1,by omega⟩
  rw [h,decide_eq_false (by omega),cond_false,List.drop_eq_nil_of_le (by omega),show v=xs.length by omega];rfl
 | succ k ih =>
  intro v m acc hk hv hm
  obtain ⟨m,rfl⟩:∃ k,m=k+1:=⟨m-1,by omega⟩
  obtain ⟨_,e2⟩:=ET xs v (by omega)
  rw [h,decide_eq_true (by omega),cond_true,e2]
  have:=ih (v+1) m (step acc (xs.getD v default)) (by omega) (by omega) (by omega)
  rw [show ((v+1:Nat):Int)=(v:Int)+1 by omega] at this
  rw [this,List.foldl_cons]
theorem lO {β γ:Type} (xs:List α) (step:γ->α->γ) (g:Nat->Nat->γ->β) (K:γ->β) (h0:∀ x acc,g 0 x acc=K acc) (h:∀ m x acc,x<xs.length->g (m+1) x acc=g m (x+1) (step acc (xs.getD x default))) :
  ∀ (m x:Nat) (acc:γ),m+x=xs.length->g m x acc=K ((xs.drop x).foldl step acc):=by
 intro m
 induction m with
 | zero =>
  intro x acc hx
  rw [h0,List.drop_eq_nil_of_le (by omega)];rfl
 | succ m ih =>
  intro x acc hx
  obtain ⟨_,e2⟩:=ET xs x (by omega)
  rw [h m x acc (by omega),ih (x+1) _ (by omega),e2,List.foldl_cons]
omit [Inhabited α] in
theorem Gy {γ:Type} (f:α->γ):∀ (xs:List α) (acc:List γ),xs.foldl (fun acc x=>acc++[f x]) acc=acc++xs.map f
 | [],acc=>by simp
 | x::xs,acc=>by rw [List.foldl_cons,Gy f xs,List.map_cons,List.append_assoc];rfl
def ixI (f:α->Bool) (xs:List α):Int:=match xs.findIdx? f with
 | some i=>(i:Int)
 | none => -1
omit [Inhabited α] in
theorem kT {f:α->Bool} {xs:List α} (h:¬ ixI f xs<0):0<=ixI f xs/\ixI f xs<(xs.length:Int):=by
 unfold ixI at *
 cases hk:xs.findIdx? f with
 | none=>rw [hk] at h;exact absurd (by decide) h
 | some i =>
  rw [hk] at h
  have:=(List.findIdx?_eq_some_iff_getElem.1 hk).1
  simp only
  omega
theorem kR {f:α->Bool} {xs:List α} (h:¬ ixI f xs<0):f (xs.getD (ixI f xs).toNat default)=true/\xs.find? f=some (xs.getD (ixI f xs).toNat default):=by
 unfold ixI at *
 cases hk:xs.findIdx? f with
 | none=>rw [hk] at h;exact absurd (by decide) h
 | some i =>
  obtain ⟨h1,h2,h3⟩:=List.findIdx?_eq_some_iff_getElem.1 hk
  have e:xs.getD ((i:Int)).toNat default=xs[i]:=by rw [Int.toNat_natCast,List.getD_eq_getElem?_getD,List.getElem?_eq_getElem h1];rfl
  simp only [e]
  refine ⟨h2,?_⟩
  rw [List.find?_eq_some_iff_getElem]
  exact ⟨h2,i,h1,rfl,fun j hj=>by have:=h3 j hj;simpa using this⟩
omit [Inhabited α] in
theorem kS {f:α->Bool} {xs:List α} (h:ixI f xs<0):xs.find? f=none:=by
 unfold ixI at h
 cases hk:xs.findIdx? f with
 | some i=>rw [hk] at h;exact absurd h (by simp only;omega)
 | none =>
  rw [List.find?_eq_none]
  rw [List.findIdx?_eq_none_iff] at hk
  intro x hx;rw [hk x hx];decide
theorem kQ (f:α->Bool) (xs:List α) (g:Nat->Int->Int) (hg:∀ m (v:Nat),g (m+1) v=bif decide ((v:Int)<(xs.length:Int)) then (bif f (xs.getD v default) then (v:Int) else g m ((v:Int)+1)) else -1) :
  ∀ (k v m:Nat),xs.length-v=k->v<=xs.length->k<m->g m v=match (xs.drop v).findIdx? f with | some i=>((v+i:Nat):Int) | none => -1:=by
 intro k
 induction k with
 | zero =>
  intro v m hk hv hm
  obtain ⟨m,rfl⟩:∃ k,m=k+1:=⟨m-1,by omega⟩
  rw [hg,decide_eq_false (by omega),cond_false,List.drop_eq_nil_of_le (by omega)]
  rfl
 | succ k ih =>
  intro v m hk hv hm
  obtain ⟨m,rfl⟩:∃ k,m=k+1:=⟨m-1,by omega⟩
  obtain ⟨_,e2⟩:=ET xs v (by omega)
  rw [hg,decide_eq_true (by omega),cond_true,e2,List.findIdx?_cons]
  cases hf:f (xs.getD v default) with
  | true=>simp
  | false =>
   have:=ih (v+1) m (by omega) (by omega) (by omega)
   rw [show ((v+1:Nat):Int)=(v:Int)+1 by omega] at this
   rw [cond_false,this]
   cases (xs.drop (v+1)).findIdx? f with
   | none=>simp
   | some i =>
    simp only [Option.map_some]
    rw [show v+1+i=v+(i+1) by omega]
    rfl
end
end
def SeqV (P:Program) (gf:Nat) (lb:Array Value) (V:Nat->Array Value->World->Prop) (Kp:World->World->Prop) (n:Nat) (w:World):Prop :=
 ∀ (l:Nat) (J:Nat->World->Prop) (W:World),Below w.heap.size w W->(∀ j A B,J j A->A.grownBy B none->J j B) ->
  (∀ j v A,j<n->J j A->V j v A->YieldAt (FW none) 0 P l v A fun e B=>e=.returned (.bool true)/\J (j+1) B/\Kp A B)->J 0 W ->
  CallsIn (FW none) 1 P gf (#[.func (.yield l) #[] #[]]++lb) W fun e B=>(∃ u,e=.returned u)/\J n B
theorem bF {P:Program} {g:Operand} {ps:Array Tmp} {assign body:Code} {Q:Exit->Act->World->Prop} {a:Act} {w:World} {gf:Nat} {lb:Array Value} (hg:a.eval g=.func (.func gf) #[] lb) (eg:∀ args w,(callFunc gf args).run P w=.ok (.enter gf args) w)
  {V:Nat->Array Value->World->Prop} {Kp:World->World->Prop} {n:Nat} (hseq:SeqV P gf lb V Kp n w) (hKt:∀ {A B C:World},Kp A B->Kp B C->Kp A C)
  (hKb:∀ (W:World) (l:Nat) (o o':Obj),w.heap.size<=l->W.heap[l]? = some o->o.isCells=false->Kp W (W.putObj l o')) (hsz:∀ j v W,V j v W->v.size=ps.size)
  (I:Nat->World->Prop) (hI:OwnFrom w.heap.size I) (h0:I 0 w) (Ax:Nat->Act->World->Prop) (hAx:∀ j a',OwnFrom w.heap.size fun (_:Unit) W=>Ax j a' W)
  (hassign:∀ (l j:Nat) (v:Array Value) (W:World) (K:Act->World->Prop),j<n->I j W->V j v W->(∀ a' W',KeepsFrom w.heap.size W W'->Kp W W'->I j W'->Ax j a' W'->K a' W') ->
   assign.wpIn ((FW none).inRound l) 0 P (Exit.then K fun _ _ _=>False) { tmps:=(ps.zip v).foldl (fun t (p,u)=>t.setIfInBounds p u) a.tmps,defers:=[] } W)
  (hbody:∀ (l j:Nat) (a':Act) (W:World),j<n->I j W->Ax j a' W->body.wpIn ((FW none).inRound l) 0 P (fun e _ W'=>e=.normal/\KeepsFrom w.heap.size W W'/\Kp W W'/\I (j+1) W') a' W)
  (hdone:∀ (D:Nat) (W:World),w.heap.size<=D->I n W->W.heap[D]? = some (.deferred (some []))->Q .normal { a with defers:={ target:=.collected D,args := #[] }::a.defers } W):(Code.rangeFunc g ps assign body).wpIn (FW none) 2 P Q a w:=by
 refine wpIn_rangeFunc fun fn hfn => ?_
 -- the two blocks of the statement: the mark's and the record's
 generalize hD:w.heap.size=D at *
 let rc:LoopState->Obj:=fun st=>.loop { state:=st,pending:=none,fn:=fn,tmps:=a.tmps,params:=ps,assign:=assign,body:=body,defers:=D }
 have hcell:∀ st,(rc st).isCells=false:=fun _=>rfl
 let U:=w.alloc (.deferred (some []))
 let Z:=U.alloc (rc .ready)
 have sU:U.heap.size=D+1:=by show (w.alloc _).heap.size=_;rw [World.size_alloc,hD]
 have zL:Z.heap[D+1]? = some (rc .ready):=by rw [<- sU];exact World.alloc_heap_new U _
 have zD:Z.heap[D]? = some (.deferred (some [])):=(Below.heap_alloc U _ _ (by omega)).trans (by rw [<- hD];exact World.alloc_heap_new w _)
 have hIa:∀ {j:Nat} {W:World} (o:Obj),I j W->I j (W.alloc o):=fun o h=>hI.alloc o h
 let J:Nat->World->Prop:=fun j W=>I j W/\W.heap[D+1]? = some (rc .ready)/\W.heap[D]? = some (.deferred (some []))
 refine ⟨D+1,[{ target:=.collected D,args := #[] }],Z,{ target:=.fn (.func gf) lb,args := #[.func (.yield (D+1)) #[] #[]] },Z,gf,#[.func (.yield (D+1)) #[] #[]]++lb,Z,?_,?_,?_,?_,fun _=>by decide,?_⟩
 ·have:=run_enterLoop_outer (P:=P) (w:=w) fn a.tmps ps assign body
  rw [hD] at this
  exact this
 ·simp only [resolve,hg]
  simp [go_sem]
 ·intro f' _;trivial
 ·simp [invoke,go_sem,eg]
 refine (hseq (D+1) J Z ?_ ?_ ?_ ⟨hIa _ (hIa _ h0),zL,zD⟩).mono ?_
 ·rw [hD]
  exact (((Below.refl D w).alloc (by omega) _).alloc (by rw [show (w.alloc (.deferred (some []))).heap.size=D+1 from sU];omega) _)
 ·rintro j A B ⟨h1,h2,h3⟩ hgr
  have keep:∀ b (o:Obj),A.heap[b]? = some o->B.heap[b]? = some o:=fun b o h=>(hgr.block b (Array.getElem?_eq_some_iff.1 h).1 (fun e=>by cases e)).trans h
  exact ⟨hI j A B none h1 hgr (fun r e=>by cases e),keep _ _ h2,keep _ _ h3⟩
 ·rintro j v A hj ⟨h1,h2,h3⟩ hv
  refine ⟨fn,_,assign,body,run_yield h2 (hsz j v A hv),roundIn_of_wpIn hfn (hassign (D+1) j v A _ hj h1 hv ?_)⟩
  intro a' B kf kp i1 ax
  have l1:B.heap[D+1]? = some (rc .ready):=kf.same _ _ (by omega) h2 rfl
  have d1:B.heap[D]? = some (.deferred (some [])):=kf.same _ _ (Nat.le_refl _) h3 rfl
  have hlt:D+1<B.heap.size:=(Array.getElem?_eq_some_iff.1 l1).1
  refine ⟨_,run_beginRound l1 rfl,?_⟩
  generalize hC:B.putObj (D+1) (.loop { state:=.busy,pending:=none,fn:=fn,tmps:=a.tmps,params:=ps,assign:=assign,body:=body,defers:=D })=C
  have l2:C.heap[D+1]? = some (rc .busy):=by rw [<- hC];exact World.putObj_heap_same hlt
  have d2:C.heap[D]? = some (.deferred (some [])):=by rw [<- hC];exact (World.putObj_heap_other (by omega)).trans d1
  have kp2:Kp B C:=by rw [<- hC];exact hKb _ _ _ _ (by omega) l1 rfl
  have i2:I j C:=by rw [<- hC];exact hI.putObj _ i1 (by omega) l1 rfl
  have ax2:Ax j a' C:=by rw [<- hC];exact (hAx j a').putObj (s:=()) _ ax (by omega) l1 rfl
  refine wpIn_mono (hbody (D+1) j a' C hj i2 ax2) ?_
  rintro e a3 G ⟨rfl,kf3,kp3,i3⟩
  have l3:G.heap[D+1]? = some (rc .busy):=kf3.same _ _ (by omega) l2 rfl
  have d3:G.heap[D]? = some (.deferred (some [])):=kf3.same _ _ (Nat.le_refl _) d2 rfl
  have kp4:=hKb G (D+1) _ (rc .ready) (by omega) l3 rfl
  exact ⟨_,_,run_endRound none l3,rfl,⟨hI.putObj _ i3 (by omega) l3 rfl,World.putObj_heap_same (Array.getElem?_eq_some_iff.1 l3).1,(World.putObj_heap_other (by omega)).trans d3⟩,hKt kp (hKt (hKt kp2 kp3) kp4)⟩
 rintro e B ⟨⟨u,rfl⟩,h1,h2,h3⟩
 exact ⟨none,_,run_endLoop h2 (fun e=>by cases e),hdone D _ (Nat.le_refl _) (hI.putObj _ h1 (by omega) h2 rfl) ((World.putObj_heap_other (by omega)).trans h3)⟩
section
open Go.RowKit
def sS (M:Nat->Option Obj) (Ow:World->Nat->Prop) (E:List Av) (v:Array Value) (W:World):Prop:=∃ Mj:Nat->Option Obj,E.length=v.size/\(∀ b o,Mj b=some o->W.heap[b]? = some o/\o.isCells=true/\¬ Ow W b) /\
 ∀ MM:Nat->Option Obj,(∀ b o,M b=some o->MM b=some o)->(∀ b o,Mj b=some o->MM b=some o)->L2 (fun e u=>∀ σ,RA MM σ e u) E v.toList
def Js (P:Program) (gf:FuncId) (k:Nat) (caps:Nat->Cl) (n:Nat) (E:Fin n->List Av):Prop :=
 ∀ (M:Nat->Option Obj) (w:World) (cs:Array Value) (Ow:World->Nat->Prop),(∀ b o,M b=some o->w.heap[b]? = some o)->OwS Ow w.heap.size->(∀ b,Ow w b->b<w.heap.size/\M b=none)->cs.size=k->(∀ i,i<k->RC M (caps i) (cs.getD i undef)) ->
  SeqV P gf cs (fun j v W=>∃ hj:j<n,sS M Ow (E ⟨j,hj⟩) v W) (KpS Ow) n w
section
variable {P:Program} {N:Nat} {W0:World} {X:Nat→Option Loc} {M0:Nat→Option Obj}
theorem dT {ι:Type} {Q:Exit->AS->Prop} {g:Operand} {ps:Array Tmp} {assign body:Code} {t0:List (Nat×Tv)} (pids:List Nat) (fid q off r:Nat) {gf:FuncId} {k:Nat} {caps:Nat->Cl} {n:Nat} {E:Fin n->List Av} (H:ι->List (Nat×Blk)) (t1:Fin n->List (Nat×Tv)) (Inv Fm:Nat->ι->Prop) (x0:ι)
  (hX0:∀ m,X m=none) (hg:evT (get t0) g=some (.av (.one (.clo gf k caps)))) (hcd:(Cl.clo gf k caps).dv=true) (eg:∀ args w,(callFunc gf args).run P w=.ok (.enter gf args) w)
  (It:Js P gf k caps n E) (hE:∀ x,(E x).length=ps.size) (hps:∀ p∈ps.toList,p<N)
  (hpv:∀ i v,get t0 i=some v->pvT pids v=true) (hh:∀ x m b,get (H x) m=some b->((Au pids m=true/\b.isP=true)\/(m=r/\b.isR=true))/\b.no fid=true)
  (hpc:∀ x m,Au pids m=true->∃ b,get (H x) m=some b) (hfp:Au pids fid=false) (hrp:Au pids r=false) (hrf:r≠fid) (hfN:N<=fid) (hrN:N<=r) (hpN:∀ m∈pids,N<=m) (hmem:∀ m∈pids,Au pids m=true) (hq:Au pids q=true)
  (hEd:∀ x i v,get (LH t0 ps.toList (E x)) i=some v->v.no fid=true)
  (hheld:∀ x,Qy q off r (H x)=true) (hm:∀ x m b,get (H x) m=some b->BkN b)
  (ht1:∀ x,TsM (t1 x)) (ht1p:∀ x i v,get (t1 x) i=some v->pvT pids v=true)
  (hI0:Inv 0 x0) (hF0:Fm 0 x0)
  (hassign:∀ l W1 M1 X1 k j x,Inv j x->PXr pids r (∃ bb,get (H x) r=some bb) X1->AWp P (some l) N W1 X1 M1 assign (fun e s'=>e=.normal/\s'=⟨t1 k,H x⟩) ⟨LH t0 ps.toList (E k),H x⟩)
  (hbody:∀ l W1 M1 X1 (k:Fin n) j x,(∀ m z,X1 m=some z->Au (fid::pids) m=true)->j<n->Inv j x->AWp P (some l) N W1 X1 M1 body (fun e s'=>e=.normal/\∃ y,Inv (j+1) y/\(k.val=j->Fm j x->Fm (j+1) y)/\∀ m b,get (H y) m=some b->get s'.h m=some b) ⟨t1 k,H x⟩)
  (hdone:∀ x,Inv n x->Fm n x->Q .normal ⟨t0,H x⟩):AWp P none N W0 X M0 (.rangeFunc g ps assign body) Q ⟨t0,H x0⟩:=by
 intro M σ a w hs
 have hnof:∀ v:Tv,pvT pids v=true->v.no fid=true:=fun v h=>by
  cases hn:v.no fid with
  | true=>rfl
  | false=>have:=hmem fid (Lz h hn);rw [hfp] at this;cases this
 have hpne:∀ m,Au pids m=true->m≠fid/\m≠r:=fun m h=>⟨fun e=>(by rw [e,hfp] at h;cases h),fun e=>(by rw [e,hrp] at h;cases h)⟩
 have hPb:∀ x m,Au pids m=true->∃ b,get (H x) m=some b/\b.isP=true:=fun x m h=>by
  obtain ⟨b,hb⟩:=hpc x m h
  rcases (hh x m b hb).1 with h1 | h1
  ·exact ⟨b,hb,h1.2⟩
  exact absurd h1.1 (hpne m h).2
 have hPn:∀ {X':Nat->Option Loc} {W1:World} {Mb M1:Nat->Option Obj} {σ1:Nat->Loc} {T:Nat->Option Tv} {b:Act} {A:World} {x:ι},Sim N W1 X' Mb M1 σ1 T (get (H x)) b A->∀ m,Au pids m=true->(σ1 m).nil=false/\(σ1 m).b<A.heap.size/\M1 (σ1 m).b=none:=fun {X' W1 Mb M1 σ1 T b A x} h1 m hmm=>by
  obtain ⟨bk,hbk,hp⟩:=hPb x m hmm
  have h2:=h1.blk m bk hbk
  have hn:(σ1 m).nil=false:=by
   cases bk with
   | cells l ty=>exact h2.1
   | omap=>exact h2.1
   | row=>cases hp
   | rowx=>cases hp
  refine ⟨hn,h2.lt hn,?_⟩
  rcases h1.loc m bk hbk with h | h
  ·rw [hn] at h;cases h
  exact h.1
 have hplt:∀ m,Au pids m=true->(σ m).b<w.heap.size:=fun m hmm=>(hPn hs m hmm).2.1
 -- the iterator's value
 obtain ⟨cs,hgv1,hgv2,hgv3⟩:=Fq hs.tmps hg
 have hcaps:∀ i,i<k->RC M (caps i) (cs.getD i undef):=fun i hi=>(Jw (List.all_eq_true.1 hcd i (List.mem_range.2 hi))).1 (hgv3 i hi)
 obtain ⟨Ow,hOw⟩:∃ Ow:World->Nat->Prop,Ow=fun W b=>((∃ m,Au pids m=true/\(σ m).b=b)\/Ju (σ q).b off W b)\/(b<w.heap.size/\M b=none):=⟨_,rfl⟩
 have hOi:∀ {W b},Ow W b->((∃ m,Au pids m=true/\(σ m).b=b)\/Ju (σ q).b off W b)\/(b<w.heap.size/\M b=none):=fun h=>by rw [hOw] at h;exact h
 have hOr:∀ {W b},((∃ m,Au pids m=true/\(σ m).b=b)\/Ju (σ q).b off W b)\/(b<w.heap.size/\M b=none)->Ow W b:=fun h=>by rw [hOw];exact h
 have hOo:∀ {W b},(∃ m,Au pids m=true/\(σ m).b=b)\/Ju (σ q).b off W b->Ow W b:=fun h=>by rw [hOw];exact .inl h
 have hHeldSame:∀ {A B:World},B.heap[(σ q).b]? = A.heap[(σ q).b]? -> ∀ b,Ju (σ q).b off B b->Ju (σ q).b off A b:=fun h b ⟨o,len,cap,h1,h2⟩=>⟨o,len,cap,by rw [<- h];exact h1,h2⟩
 have hOg:∀ {A B:World},w.heap.size<=A.heap.size->B.heap[(σ q).b]? = A.heap[(σ q).b]? -> ∀ b,Ow B b->Ow A b:=fun _ hB b hb=>hOr ((hOi hb).imp (Or.imp id (hHeldSame hB b)) id)
 have hseq:=It M w cs Ow hs.imm ⟨fun A B hA hB b hb=>hOg hA (hB _ (Nat.lt_of_lt_of_le (hplt q hq) hA)) b hb⟩ (fun b hb=>by
  rcases hOi hb with (⟨m,hmm,rfl⟩ | hb) | hb
  ·exact ⟨hplt m hmm,(hPn hs m hmm).2.2⟩
  ·obtain ⟨⟨bk,hbk⟩,hn,rfl⟩:=UW hs (hheld x0) hb
   refine ⟨(hs.blk r bk hbk).lt hn,?_⟩
   rcases hs.loc r bk hbk with h | h
   ·rw [hn] at h;cases h
   exact h.1
  exact hb) hgv2 hcaps
 -- names
 have hXPm:∀ m x,Cr pids σ X m=some x->Au pids m=true/\x=σ m:=fun m x hx=>by
  unfold Cr at hx
  cases hmm:Au pids m with
  | true=>rw [hmm] at hx;injection hx with hx;exact ⟨rfl,hx.symm⟩
  | false=>rw [hmm] at hx;have:X m=some x:=hx;rw [hX0] at this;cases this
 have hPp:∀ m,Au pids m=true->Cr pids σ X m=some (σ m):=fun m h=>by unfold Cr;rw [h];rfl
 obtain ⟨XP,hXPd⟩:∃ XP,XP=Cr pids σ X:=⟨_,rfl⟩
 have hXPi:∀ b,inX XP b↔∃ m,Au pids m=true/\(σ m).b=b:=fun b=>by
  rw [hXPd]
  constructor
  ·rintro ⟨m,x,h1,h2⟩
   obtain ⟨h3,rfl⟩:=hXPm m x h1
   exact ⟨m,h3,h2⟩
  rintro ⟨m,h1,h2⟩
  exact ⟨m,_,hPp m h1,h2⟩
 have hnfP:∀ l M4,(∀ b o,M b=some o->M4 b=some o)->l=a.defers->Hu XP M0 M4 l:=fun l M4 h4 e=>⟨by rw [e];exact Gj.mono h4 hs.defers.1,fun ⟨m,x,h1,h2,_⟩=>by
  rw [hXPd] at h1
  obtain ⟨h3,rfl⟩:=hXPm m x h1
  rw [(hPn hs m h3).1] at h2;cases h2⟩
 have hT0:∀ (M4:Nat->Option Obj) (σ4:Nat->Loc),(∀ b o,M b=some o->M4 b=some o)->(∀ m,Au pids m=true->σ4 m=σ m)->∀ i v,get t0 i=some v->RT M4 σ4 v (a.tmps.getD i undef):=fun M4 σ4 h4 hσ i v hv =>
  Da h4 (fun d hd=>hσ d (hmem d (Lz (hpv i v hv) hd))) (hs.tmps i v hv)
 have hs0:Sim N W0 XP M0 M σ (get t0) (get (H x0)) a w:=⟨hs.os,hs.tape,hs.output,hs.size,fun b hb hx=>hs.old b hb fun ⟨m,x,h1,h2⟩=>(by rw [hX0] at h1;cases h1),hs.sub,hs.new,fun m x hx=>by
   rw [hXPd] at hx
   obtain ⟨h3,rfl⟩:=hXPm m x hx
   exact ⟨hpN m (DE h3),rfl⟩,hnfP _ M (fun _ _ h=>h) rfl,hs.room,hs.tmps,hs.imm,hs.blk,fun m b hb=>(hs.loc m b hb).imp id fun h=>⟨h.1,.inl (h.2.elim id fun ⟨m,x,h1,_⟩=>by rw [hX0] at h1;cases h1)⟩,hs.inj⟩
 have hlt:∀ b o,M b=some o->b<w.heap.size:=fun b o h=>(Array.getElem?_eq_some_iff.1 (hs.imm b o h)).1
 have hσP:∀ {X':Nat->Option Loc} {M1:Nat->Option Obj} {σ1:Nat->Loc} {T:Nat->Option Tv} {HH:Nat->Option Blk} {b:Act} {A W1:World} {Mb:Nat->Option Obj},Sim N W1 X' Mb M1 σ1 T HH b A->(∀ m,Au pids m=true->X' m=some (σ m))->∀ m,Au pids m=true->σ1 m=σ m:=fun h1 h2 m hmm=>(h1.pin m _ (h2 m hmm)).2
 have hXPp:∀ m,Au pids m=true->XP m=some (σ m):=fun m h=>by rw [hXPd];exact hPp m h
 let SI:Nat->World->Prop:=fun j W=>∃ x M' σ',Sim N W0 XP M0 M' σ' (get t0) (get (H x)) a W/\Cln M M'/\Inv j x/\Fm j x/\w.heap.size<=W.heap.size
 let Ax:Nat->Act->World->Prop:=fun j a' W=>∃ (hj:j<n) (Mn:Nat->Option Obj),w.heap.size<=W.heap.size/\a'.tmps.size=N/\a'.defers=[]/\(∀ i v,get (t1 ⟨j,hj⟩) i=some v->RT Mn σ v (a'.tmps.getD i undef))/\∀ b o,Mn b=some o->W.heap[b]? = some o/\(o.isCells=true\/M b=some o)/\(M b=none->W0.heap.size<=b)/\¬ ((∃ m,Au pids m=true/\(σ m).b=b)\/Ju (σ q).b off W b)
 -- one piece of a round
 have step:∀ {XA:Nat->Option Loc} {M' M3:Nat->Option Obj} {σ' σ3:Nat->Loc} {W W':World} {x y:ι} {T':Nat->Option Tv} {h':List (Nat×Blk)} {a':Act},Sim N W0 XP M0 M' σ' (get t0) (get (H x)) a W->Cln M M'->Sim N W XA M' M3 σ3 T' (get h') a' W'->(∀ m b,get (H y) m=some b->get h' m=some b) ->
   (∀ b,inX XA b->(∃ m,Au pids m=true/\(σ m).b=b)\/((∃ bb,get (H x) r=some bb)/\(σ' r).nil=false/\(σ' r).b=b))->(∀ m,Au pids m=true->σ3 m=σ m) ->
   KeepsFrom w.heap.size W W'/\KpS Ow W W'/\Sim N W0 XP M0 (JZ M' M3) σ3 (get t0) (get (H y)) a W'/\Cln M (JZ M' M3):=by
  intro XA M' M3 σ' σ3 W W' x y T' h' a' h1 h2 hr hy hX hσ3
  have hσ':=hσP h1 hXPp
  have hC:=RD h2 hr.sub
  have hXO:∀ b,inX XA b->Ow W b:=fun b hb=>by
   rcases hX b hb with h | ⟨⟨bb,hbb⟩,hn,rfl⟩
   ·exact hOo (.inl h)
   have:=WC h1 (hheld x) hbb hn
   rw [hσ' q hq] at this
   exact hOo (.inr this)
  have hsim:Sim N W0 XP M0 (JZ M' M3) σ3 (get t0) (get (H y)) a W':=by
   refine gX h1 hr (fun b hb => ?_) hy (hm y) hs.room (hT0 _ σ3 hC.1 hσ3) (fun m z hz => ?_) (fun b=>Iff.rfl) (hnfP _ _ hC.1 rfl)
   ·rcases hX b hb with h | ⟨⟨bb,hbb⟩,hn,rfl⟩
    ·exact .inl ((hXPi b).2 h)
    rcases h1.loc r bb hbb with h3 | h3
    ·rw [hn] at h3;cases h3
    exact h3.2.symm
   rw [hXPd] at hz
   obtain ⟨h3,rfl⟩:=hXPm m z hz
   exact ⟨hpN m (DE h3),hσ3 m h3⟩
  refine ⟨⟨hr.size,fun b o hb ho hoc => ?_⟩,⟨hr.size,fun b o hb hc ho=>(hr.old b (Array.getElem?_eq_some_iff.1 hb).1 fun h=>ho (hXO b h)).trans hb,fun b hb => ?_⟩,hsim,hC⟩
  ·refine (hr.old b (Array.getElem?_eq_some_iff.1 ho).1 fun hX' => ?_).trans ho
   rcases hX b hX' with ⟨m,hmm,rfl⟩ | ⟨⟨bb,hbb⟩,hn,rfl⟩
   ·have:=hplt m hmm;omega
   have h3:=h1.blk r bb hbb
   have h4:=(hh x r bb hbb).1
   cases bb with
   | row sz len f ty =>
    rcases h3 with ⟨h5,_⟩ | ⟨_,c,hc,_⟩
    ·rw [hn] at h5;cases h5
    rw [ho] at hc;injection hc with hc;subst hc;cases hoc
   | cells=>rcases h4 with h4 | h4 <;> first | (rw [hrp] at h4;cases h4.1) | cases h4.2
   | omap=>rcases h4 with h4 | h4 <;> first | (rw [hrp] at h4;cases h4.1) | cases h4.2
   | rowx=>rcases h4 with h4 | h4 <;> first | cases h4.2 | (rw [hrp] at h4;cases h4.1)
  rcases hOi hb with (h | h) | h
  ·exact .inl (hOo (.inl h))
  rotate_left
  ·exact .inl (hOr (.inr h))
  rw [<- hσ3 q hq] at h
  obtain ⟨⟨bk,hbk⟩,hn,rfl⟩:=UW hsim (hheld y) h
  rcases hr.loc r bk (hy r bk hbk) with h3 | ⟨_,h3 | h3⟩
  ·rw [hn] at h3;cases h3
  ·exact .inr ⟨h3,(hr.blk r bk (hy r bk hbk)).lt hn⟩
  exact .inl (hXO _ h3)
 -- what else is known to lie in the world
 have merge:∀ {M' Mn:Nat->Option Obj} {σ':Nat->Loc} {W:World} {x:ι},Sim N W0 XP M0 M' σ' (get t0) (get (H x)) a W->Cln M M'->(∀ b o,Mn b=some o->W.heap[b]? = some o/\(o.isCells=true\/M b=some o)/\(M b=none->W0.heap.size<=b)/\¬ ((∃ m,Au pids m=true/\(σ m).b=b)\/Ju (σ q).b off W b)) ->
   ∃ MM:Nat->Option Obj,(∀ b o,M' b=some o->MM b=some o)/\(∀ b o,Mn b=some o->MM b=some o)/\Cln M MM/\Sim N W0 XP M0 MM σ' (get t0) (get (H x)) a W:=by
  intro M' Mn σ' W x h1 h2 hA4
  have hσ':=hσP h1 hXPp
  obtain ⟨MM,hMM⟩:∃ MM:Nat->Option Obj,MM=fun b=>match M' b with | some o=>some o | none=>Mn b:=⟨_,rfl⟩
  have hM1:∀ b o,M' b=some o->MM b=some o:=fun b o h=>by rw [hMM];simp only [h]
  have hM3:∀ b o,MM b=some o->M' b=some o\/Mn b=some o:=fun b o h=>by
   rw [hMM] at h
   cases h3:M' b with
   | some o'=>simp only [h3] at h;exact .inl h
   | none=>simp only [h3] at h;exact .inr h
  have hM2:∀ b o,Mn b=some o->MM b=some o:=fun b o h=>by
   cases h3:M' b with
   | some o' =>
    have h4:=h1.imm b o' h3
    rw [(hA4 b o h).1] at h4
    rw [h4];exact hM1 b o' h3
   | none=>rw [hMM];simp only [h3];exact h
  have hCM:Cln M MM:=⟨fun b o h=>hM1 b o (h2.1 b o h),fun b o h ho=>(hM3 b o h).elim (fun h'=>h2.2 b o h' ho) fun h'=>(hA4 b o h').2.1.elim (fun hc=>by rw [ho] at hc;cases hc) id⟩
  have h1M:Sim N W0 XP M0 MM σ' (get t0) (get (H x)) a W:=by
   refine ⟨h1.os,h1.tape,h1.output,h1.size,h1.old,fun b o h=>hM1 b o (h1.sub b o h),fun b o h h0 => ?_,h1.pin,hnfP _ MM hCM.1 rfl,h1.room,fun i v hv=>Da hM1 (fun _ _=>rfl) (h1.tmps i v hv),fun b o h=>(hM3 b o h).elim (h1.imm b o) fun h'=>(hA4 b o h').1,fun m b hb=>(h1.blk m b hb).mono hM1 (fun _ _=>rfl) (fun _=>rfl),fun m b hb => ?_,h1.inj⟩
   ·rcases hM3 b o h with h | h
    ·exact h1.new b o h h0
    cases hMb:M b with
    | none=>exact (hA4 b o h).2.2.1 hMb
    | some o'=>exact hs.new b o' hMb h0
   cases hn:(σ' m).nil with
   | true=>exact .inl rfl
   | false =>
    rcases h1.loc m b hb with h | h
    ·rw [hn] at h;cases h
    refine .inr ⟨?_,h.2⟩
    cases hc:MM (σ' m).b with
    | none=>rfl
    | some o =>
     rcases hM3 _ o hc with h3 | h3
     ·rw [h.1] at h3;cases h3
     refine absurd ?_ (hA4 _ o h3).2.2.2
     rcases (hh x m b hb).1 with h4 | ⟨rfl,h4⟩
     ·exact .inl ⟨m,h4.1,by rw [hσ' m h4.1]⟩
     have:=WC h1 (hheld x) hb hn
     rw [hσ' q hq] at this
     exact .inr this
  exact ⟨MM,hM1,hM2,hCM,h1M⟩
 have hgr:∀ {A B:World} {row:Option Nat},A.grownBy B row->(∀ r,row=some r->w.heap.size<=r/\∃ o:Obj,A.heap[r]? = some o/\o.isCells=false)->w.heap.size<=A.heap.size->∀ b,((∃ m,Au pids m=true/\(σ m).b=b)\/Ju (σ q).b off B b)->((∃ m,Au pids m=true/\(σ m).b=b)\/Ju (σ q).b off A b):=fun {A B row} hg' hr hA b hb=>hb.imp id (hHeldSame (hg'.block _ (Nat.lt_of_lt_of_le (hplt q hq) hA) fun e=>by
  have:=(hr _ e.symm).1
  have:=hplt q hq
  omega) b)
 refine wpIn_wide.2 ((wpIn_wide (n:=2)).1 ?_)
 refine bF hgv1 eg hseq KpS.trans (fun W l o o' hl ho hoc=>⟨by simp,fun b o2 hb hb2 _ => ?_,fun b hb => ?_⟩) (fun j v W hv => ?hsz)
  SI ?hI ⟨x0,M,σ,hs0,⟨fun _ _ h=>h,fun _ _ h _=>h⟩,hI0,hF0,Nat.le_refl _⟩ Ax ?hAx ?assign ?body ?done
 ·rw [World.putObj_heap_other (fun e=>by subst e;rw [ho] at hb;injection hb with hb;subst hb;rw [hoc] at hb2;cases hb2)]
  exact hb
 ·refine .inl (hOr ((hOi hb).imp (Or.imp id (hHeldSame (World.putObj_heap_other (fun e => ?_)) b)) id))
  have:=hplt q hq
  omega
 case hsz =>
  obtain ⟨hj,Mj,hL,_⟩:=hv
  rw [hE] at hL
  exact hL.symm
 case hI =>
  rintro j A B row ⟨x,M',σ',h1,h2,h3,h4,h5⟩ hg' hr
  refine ⟨x,M',σ',Xn h1 (fun m b hb hbm rr e => ?_) hg' (fun rr e => ?_),h2,h3,h4,Nat.le_trans h5 hg'.size⟩
  ·have h6:=(hr rr e).1
   have hmm:Au pids m=true:=by
    rcases (hh x m b hb).1 with h | h
    ·exact h.1
    cases b <;> first | (exfalso;cases hbm;done) | (exfalso;exact absurd h.2 (by simp [Blk.isR])) | exact absurd hbm (by simp [Blk.isM])
   rw [hσP h1 hXPp m hmm]
   have:=hplt m hmm
   omega
  obtain ⟨h6,o,h7,h8⟩:=hr rr e
  refine ⟨Nat.le_trans hs.size h6,⟨o,h7,h8⟩,?_⟩
  cases hM1:M' rr with
  | none=>rfl
  | some o' =>
   have h9:=h1.imm rr o' hM1
   rw [h7] at h9;injection h9 with h9;subst h9
   have:=hlt rr _ (h2.2 rr _ hM1 h8)
   omega
 case hAx =>
  rintro j a' _ A B row ⟨hj,Mn,h1,h2,h3,h4,h5⟩ hg' hr
  refine ⟨hj,Mn,Nat.le_trans h1 hg'.size,h2,h3,h4,fun b o hb => ?_⟩
  obtain ⟨h6,h7,h8,h9⟩:=h5 b o hb
  refine ⟨(hg'.block b (Array.getElem?_eq_some_iff.1 h6).1 fun e => ?_).trans h6,h7,h8,fun h=>h9 (hgr hg' hr h1 b h)⟩
  obtain ⟨h10,o',h11,h12⟩:=hr b e.symm
  rw [h6] at h11;injection h11 with h11;subst h11
  rcases h7 with h7 | h7
  ·rw [h12] at h7;cases h7
  have:=hlt b _ h7;omega
 case assign =>
  rintro l j vals W K hjn ⟨x,M'',σ',h1',h2',hinv,hfm,hws⟩ ⟨hj,Mj,_,hMj,hL⟩ hK
  obtain ⟨M',_,hMjM,h2,h1⟩:=merge h1' h2' (fun b o hb=>⟨(hMj b o hb).1,.inl (hMj b o hb).2.1,fun hMb=>by
   have h3:=(hMj b o hb).2.2
   have:¬ b<w.heap.size:=fun h=>h3 (hOr (.inr ⟨h,hMb⟩))
   have:=hs.size
   omega,fun h=>(hMj b o hb).2.2 (hOo h)⟩)
  obtain ⟨kx,hkx⟩:∃ kx:Fin n,kx=⟨j,hj⟩:=⟨_,rfl⟩
  rw [<- hkx] at hL
  have hσ':=hσP h1 hXPp
  obtain ⟨hfs,hft⟩:=Ua ps.toList (E kx) vals.toList t0 a.tmps (hT0 M' σ' h2.1 hσ') hs.room ((hL M' h2.1 hMjM).mono fun e _ v hv=>hv σ') (by simpa using (hE kx).symm) hps
  have efold:(ps.zip vals).foldl (fun t (p,v)=>t.setIfInBounds p v) a.tmps=(ps.toList.zip vals.toList).foldl (fun t (y:Tmp×Value)=>t.setIfInBounds y.1 y.2) a.tmps:=by
   rw [<- Array.foldl_toList,Array.toList_zip]
  rw [efold]
  obtain ⟨pr,hpr1,hpr2,hpr3⟩:∃ pr:List Nat,(∀ m,Au pr m=true->Au pids m=true\/(m=r/\(∃ bb,get (H x) r=some bb)/\(σ' r).nil=false))/\(∀ m,Au pids m=true->Au pr m=true)/\((∃ bb,get (H x) r=some bb)/\(σ' r).nil=false->Au pr r=true):=by
   by_cases hrow:(∃ bb,get (H x) r=some bb)/\(σ' r).nil=false
   ·refine ⟨r::pids,fun m h => ?_,fun m h => ?_,fun _ => ?_⟩
    ·rcases List.mem_cons.1 (DE h) with e | e
     ·exact .inr ⟨e,hrow⟩
     exact .inl (hmem m e)
    ·exact GG (List.mem_cons_of_mem _ (DE h))
    exact GG (List.mem_cons_self ..)
   exact ⟨pids,fun m h=>.inl h,fun m h=>h,fun h=>absurd h hrow⟩
  obtain ⟨XA,hXA⟩:∃ XA,XA=DR fid ⟨(σ q).b,424242,true⟩ (Cr pr σ' X):=⟨_,rfl⟩
  have hprf:∀ m,Au pr m=true->m≠fid:=fun m h=>(hpr1 m h).elim (fun h=>(hpne m h).1) fun h=>by rw [h.1];exact hrf
  have hXAf:∀ m z,XA m=some z->(m=fid/\z=⟨(σ q).b,424242,true⟩)\/(m≠fid/\Au pr m=true/\z=σ' m):=fun m z hz=>by
   rw [hXA] at hz
   unfold DR at hz
   cases hb:Nat.beq m fid with
   | true=>rw [hb] at hz;injection hz with hz;exact .inl ⟨Nat.eq_of_beq_eq_true hb,hz.symm⟩
   | false =>
    rw [hb] at hz
    have hz:Cr pr σ' X m=some z:=hz
    unfold Cr at hz
    cases hp:Au pr m with
    | true=>rw [hp] at hz;injection hz with hz;exact .inr ⟨hprf m hp,rfl,hz.symm⟩
    | false=>rw [hp] at hz;have hz:X m=some z:=hz;rw [hX0] at hz;cases hz
  have hXAp:∀ m,Au pr m=true->XA m=some (σ' m):=fun m h=>by
   rw [hXA]
   unfold DR
   rw [show Nat.beq m fid=false by rw [CS];simp [hprf m h]]
   show Cr pr σ' X m=_
   unfold Cr
   rw [h];rfl
  have hflat:dW XA:=⟨fid,⟨(σ q).b,424242,true⟩,by rw [hXA];unfold DR;rw [Nat.beq_refl];rfl,rfl,rfl⟩
  have hin:=R0 (fid:=fid) (XB:=XA) (σ2:=upd σ' fid ⟨(σ q).b,424242,true⟩) h1 (a2:={ tmps:=_,defers:=[] }) rfl hfs (fun m z hz=>by
   rcases hXAf m z hz with ⟨rfl,rfl⟩ | ⟨h3,h4,rfl⟩
   ·exact ⟨hfN,BH _ _ _⟩
   ·refine ⟨(hpr1 m h4).elim (fun h=>hpN m (DE h)) fun h=>by rw [h.1];exact hrN,CK _ _ h3⟩) (fun m h=>CK _ _ h) (fun i v hv=>⟨hft i v hv,hEd kx i v hv⟩) (fun m b hb=>by
   obtain ⟨h3,h4⟩:=hh x m b hb
   rcases h3 with h3 | ⟨rfl,h3⟩
   ·exact ⟨(hpne m h3.1).1,h4,.inr ⟨m,_,hXAp m (hpr2 m h3.1),rfl⟩⟩
   refine ⟨hrf,h4,?_⟩
   cases hn:(σ' m).nil with
   | true=>exact .inl rfl
   | false=>exact .inr ⟨m,_,hXAp m (hpr3 ⟨⟨b,hb⟩,hn⟩),rfl⟩)
  refine wpIn_mono (hassign l W M' XA kx j x hinv (fun m z hz=>by
   rcases hXAf m z hz with ⟨rfl,rfl⟩ | ⟨h3,h4,rfl⟩
   ·exact .inl ⟨q,hq,_,hXAp q (hpr2 q hq),by rw [hσ' q hq]⟩
   rcases hpr1 m h4 with h5 | ⟨rfl,h6,h5⟩
   ·exact .inl ⟨m,h5,_,hXAp m h4,rfl⟩
   exact .inr ⟨rfl,h6,h5⟩) M' _ _ W hin) ?_
  rintro e a' W' ⟨s',M3,σ3,⟨rfl,rfl⟩,hr⟩
  have hσ3:∀ m,Au pids m=true->σ3 m=σ m:=fun m hmm=>(hr.pin m _ (hXAp m (hpr2 m hmm))).2.trans (hσ' m hmm)
  obtain ⟨k1,k2,k3,k4⟩:=step h1 h2 hr (y:=x) (fun _ _ h=>h) (fun b hb=>by
   obtain ⟨m,z,hz,hzb⟩:=hb
   rcases hXAf m z hz with ⟨rfl,rfl⟩ | ⟨h3,h4,rfl⟩
   ·exact .inl ⟨q,hq,hzb⟩
   rcases hpr1 m h4 with h5 | ⟨rfl,h5,h6⟩
   ·exact .inl ⟨m,h5,by rw [<- hσ' m h5];exact hzb⟩
   exact .inr ⟨h5,h6,hzb⟩) hσ3
  refine hK a' W' k1 k2 ⟨x,_,σ3,k3,k4,hinv,hfm,Nat.le_trans hws hr.size⟩ ⟨hj,JZ M' M3,Nat.le_trans hws hr.size,hr.room,hr.defers.2 hflat,fun i v hv => ?_,fun b o hb=>⟨hr.imm b o (Ig hr.sub hb),?_,fun hMb => ?_,fun ho => ?_⟩⟩
  ·rw [<- hkx] at hv
   exact Da (fun _ _ h=>h) (fun d hd=>(hσ3 d (hmem d (Lz (ht1p kx i v hv) hd))).symm) (RL (ME hr.sub) (hr.tmps i v hv) (ht1 kx i v hv))
  ·cases hc:o.isCells with
   | true=>exact .inl rfl
   | false=>exact .inr (k4.2 b o hb hc)
  ·cases h3:M' b with
   | some o' =>
    refine h1.new b o' h3 ?_
    cases h0:M0 b with
    | none=>rfl
    | some o2=>rw [hs.sub b o2 h0] at hMb;cases hMb
   | none=>exact Nat.le_trans h1.size (hr.new b o (Ig hr.sub hb) h3)
  have h3:=Ig hr.sub hb
  rcases ho with ⟨m,hmm,rfl⟩ | ho
  ·have:=(hPn hr m hmm).2.2
   rw [hσ3 m hmm,h3] at this;cases this
  rw [<- hσ3 q hq] at ho
  obtain ⟨⟨bk,hbk⟩,hn,rfl⟩:=UW hr (hheld x) ho
  rcases hr.loc r bk hbk with h | h
  ·rw [hn] at h;cases h
  rw [h.1] at h3;cases h3
 case body =>
  rintro l j a' W hjn ⟨x,M',σ',h1,h2,hinv,hfm,hws⟩ ⟨hj,Mn,_,hA1,hA2,hA3,hA4⟩
  obtain ⟨kx,hkx⟩:∃ kx:Fin n,kx=⟨j,hj⟩:=⟨_,rfl⟩
  rw [<- hkx] at hA3
  have hσ':=hσP h1 hXPp
  obtain ⟨MM,hM1,hM2,hCM,h1M⟩:=merge h1 h2 hA4
  obtain ⟨fl,hfl1,hfl2,hfl3,hfl4⟩:∃ fl:Loc,fl.nil=true/\fl.cap=424242/\(fl.b=(σ q).b\/(((∃ bb,get (H x) r=some bb)/\(σ' r).nil=false)/\fl.b=(σ' r).b))/\((∃ bb,get (H x) r=some bb)/\(σ' r).nil=false->fl.b=(σ' r).b):=by
   by_cases hrow:(∃ bb,get (H x) r=some bb)/\(σ' r).nil=false
   ·exact ⟨⟨(σ' r).b,424242,true⟩,rfl,rfl,.inr ⟨hrow,rfl⟩,fun _=>rfl⟩
   exact ⟨⟨(σ q).b,424242,true⟩,rfl,rfl,.inl rfl,fun h=>absurd h hrow⟩
  obtain ⟨XB,hXB⟩:∃ XB,XB=DR fid fl XP:=⟨_,rfl⟩
  have hXBf:∀ m z,XB m=some z->(m=fid/\z=fl)\/(m≠fid/\Au pids m=true/\z=σ m):=fun m z hz=>by
   rw [hXB] at hz
   unfold DR at hz
   cases hb:Nat.beq m fid with
   | true=>rw [hb] at hz;injection hz with hz;exact .inl ⟨Nat.eq_of_beq_eq_true hb,hz.symm⟩
   | false =>
    rw [hb] at hz
    have hz:XP m=some z:=hz
    rw [hXPd] at hz
    obtain ⟨h3,h4⟩:=hXPm m z hz
    exact .inr ⟨(hpne m h3).1,h3,h4⟩
  have hXBp:∀ m,Au pids m=true->XB m=some (σ m):=fun m h=>by
   rw [hXB]
   unfold DR
   rw [show Nat.beq m fid=false by rw [CS];simp [(hpne m h).1]]
   exact hXPp m h
  have hXBfid:XB fid=some fl:=by rw [hXB];unfold DR;rw [Nat.beq_refl];rfl
  have hin:=R0 (fid:=fid) (XB:=XB) (σ2:=upd σ' fid fl) h1M (a2:=a') hA2 hA1 (fun m z hz=>by
   rcases hXBf m z hz with ⟨rfl,rfl⟩ | ⟨h3,h4,rfl⟩
   ·exact ⟨hfN,BH _ _ _⟩
   ·exact ⟨hpN m (DE h4),(CK _ _ h3).trans (hσ' m h4)⟩) (fun m h=>CK _ _ h) (fun i v hv=>⟨Da hM2 (fun d hd=>hσ' d (hmem d (Lz (ht1p kx i v hv) hd))) (hA3 i v hv),hnof v (ht1p kx i v hv)⟩) (fun m b hb=>by
   obtain ⟨h3,h4⟩:=hh x m b hb
   rcases h3 with h3 | ⟨rfl,h3⟩
   ·exact ⟨(hpne m h3.1).1,h4,.inr ⟨m,_,hXBp m h3.1,by rw [hσ' m h3.1]⟩⟩
   refine ⟨hrf,h4,?_⟩
   cases hn:(σ' m).nil with
   | true=>exact .inl rfl
   | false=>exact .inr ⟨fid,fl,hXBfid,hfl4 ⟨⟨b,hb⟩,hn⟩⟩)
  refine wpIn_mono (hbody l W MM XB kx j x (fun m z hz=>GG ((hXBf m z hz).elim (fun h=>by rw [h.1];exact List.mem_cons_self ..) fun h=>List.mem_cons_of_mem _ (DE h.2.1))) hjn hinv MM _ a' W hin) ?_
  rintro e a2 W' ⟨s',M3,σ3,⟨rfl,y,hy1,hy2,hy3⟩,hr⟩
  have hσ3:∀ m,Au pids m=true->σ3 m=σ m:=fun m hmm=>(hr.pin m _ (hXBp m hmm)).2
  obtain ⟨k1,k2,k3,k4⟩:=step h1M hCM hr hy3 (fun b hb=>by
   obtain ⟨m,z,hz,hzb⟩:=hb
   rcases hXBf m z hz with ⟨rfl,rfl⟩ | ⟨h3,h4,rfl⟩
   ·rcases hfl3 with h5 | ⟨h5,h6⟩
    ·exact .inl ⟨q,hq,by rw [<- h5];exact hzb⟩
    exact .inr ⟨h5.1,h5.2,by rw [<- h6];exact hzb⟩
   exact .inl ⟨m,h4,hzb⟩) hσ3
  exact ⟨rfl,k1,k2,y,_,σ3,k3,k4,hy1,hy2 (by rw [hkx]) hfm,Nat.le_trans hws hr.size⟩
 case done =>
  rintro D W hD ⟨x,M',σ',h1,h2,hinv,hfm,hws⟩ hK
  refine ⟨⟨t0,H x⟩,_,σ',hdone x hinv hfm,VF h1 hK ?_ (Nat.le_trans hs.size hD) (fun d' hd' e => ?_) (fun m x hx=>by rw [hX0] at hx;cases hx) (fun b hb => ?_) (fun ⟨m,x,h3,_⟩=>by rw [hX0] at h3;cases h3)⟩
  ·cases h0D:M0 D with
   | none=>rfl
   | some o=>have:=hlt D o (hs.sub D o h0D);omega
  ·obtain ⟨D',h3,h4⟩:=Ug hs.defers.1 hd'
   rw [h3] at e
   injection e with e1 _
   injection e1 with e1
   subst e1
   have:=hlt _ _ h4
   omega
  obtain ⟨m,hmm,rfl⟩:=(hXPi b).1 hb
  obtain ⟨bk,hbk,_⟩:=hPb x0 m hmm
  rcases hs.loc m bk hbk with h | ⟨_,h⟩
  ·rw [(hPn hs m hmm).1] at h;cases h
  exact h
end
end
section
open Go.RowKit
section
variable {P:Program} {N:Nat} {W0:World} {X:Nat→Option Loc} {M0:Nat→Option Obj}
theorem MN {ι:Type} {Q:Exit->AS->Prop} {g:Operand} {ps:Array Tmp} {assign body:Code} {t0:List (Nat×Tv)} (pids:List Nat) (fid q off r:Nat) {gf:FuncId} {k:Nat} {caps:Nat->Cl} {n:Nat} {E:Fin n->List Av} (H:ι->List (Nat×Blk)) (t1:Fin n->List (Nat×Tv)) (Inv Fm:Nat->ι->Prop) (x0:ι)
  (hX0:∀ m,X m=none) (hg:evT (get t0) g=some (.av (.one (.clo gf k caps)))) (hcd:(Cl.clo gf k caps).dv=true) (eg:∀ args w,(callFunc gf args).run P w=.ok (.enter gf args) w)
  (It:Js P gf k caps n E) (hck:ZR N pids fid q r t0 ps=true) (hfam:∀ x,famB pids fid q off r (H x)=true) (hE:∀ x,(E x).length=ps.size) (hEd:∀ x,(E x).all Av.dv=true) (hm:∀ x,HsN (H x))
  (ht1:∀ x,TsM (t1 x)) (ht1p:∀ x,(t1 x).all (fun p=>pvT pids p.2)=true) (hI0:Inv 0 x0) (hF0:Fm 0 x0)
  (hassign:∀ l W1 M1 X1 k j x,Inv j x->PXr pids r (∃ bb,get (H x) r=some bb) X1->AWp P (some l) N W1 X1 M1 assign (fun e s'=>e=.normal/\s'=⟨t1 k,H x⟩) ⟨LH t0 ps.toList (E k),H x⟩)
  (hbody:∀ l W1 M1 X1 (k:Fin n) j x,(∀ m z,X1 m=some z->Au (fid::pids) m=true)->j<n->Inv j x->AWp P (some l) N W1 X1 M1 body (fun e s'=>e=.normal/\∃ y,Inv (j+1) y/\(k.val=j->Fm j x->Fm (j+1) y)/\∀ m b,get (H y) m=some b->get s'.h m=some b) ⟨t1 k,H x⟩)
  (hdone:∀ x,Inv n x->Fm n x->Q .normal ⟨t0,H x⟩):AWp P none N W0 X M0 (.rangeFunc g ps assign body) Q ⟨t0,H x0⟩:=by
 unfold ZR at hck
 simp only [Bool.and_eq_true,Bool.not_eq_true'] at hck
 obtain ⟨c1,c2,c3,c4,c5,c6,c7,c8,c9⟩:=hck
 have hpv:∀ i v,get t0 i=some v->pvT pids v=true:=fun i v hv=>List.all_eq_true.1 c1 (i,v) (C6 hv)
 have hno:∀ v:Tv,pvT pids v=true->v.no fid=true:=fun v h=>by
  cases hn:v.no fid with
  | true=>rfl
  | false=>have:=GG (Lz h hn);rw [c3] at this;cases this
 have hf:∀ x,(∀ m b,get (H x) m=some b->((Au pids m=true/\b.isP=true)\/(m=r/\b.isR=true))/\b.no fid=true)/\(∀ m,Au pids m=true->∃ b,get (H x) m=some b)/\Qy q off r (H x)=true:=fun x=>by
  have h:=hfam x
  unfold famB at h
  simp only [Bool.and_eq_true] at h
  obtain ⟨h1,h2,h3⟩:=h
  refine ⟨fun m b hb => ?_,fun m hmm=>Option.isSome_iff_exists.1 (List.all_eq_true.1 h2 m (DE hmm)),h3⟩
  have:=List.all_eq_true.1 h1 (m,b) (C6 hb)
  simp only [Bool.and_eq_true,Bool.or_eq_true] at this
  exact ⟨this.1.imp id fun h=>⟨Nat.eq_of_beq_eq_true h.1,h.2⟩,this.2⟩
 exact dT pids fid q off r H t1 Inv Fm x0 hX0 hg hcd eg It hE (fun p hp=>Nat.le_of_ble_eq_true (List.all_eq_true.1 c9 p hp)) hpv (fun x=>(hf x).1) (fun x=>(hf x).2.1) c3 c4 (fun e=>by rw [e,Nat.beq_refl] at c5;cases c5) (Nat.le_of_ble_eq_true c6) (Nat.le_of_ble_eq_true c7) (fun m hmm=>Nat.le_of_ble_eq_true (List.all_eq_true.1 c2 m hmm)) (fun m hmm=>GG hmm) c8 (fun x i v hv=>QS _ _ _ (fun j u hu=>hno u (hpv j u hu)) (hEd x) i v hv) (fun x=>(hf x).2.2) hm ht1 (fun x i v hv=>List.all_eq_true.1 (ht1p x) (i,v) (C6 hv)) hI0 hF0 hassign hbody hdone
end
section
variable {P:Program} {N:Nat} {Ow:World→Nat→Prop} {n0:Nat} {Q:IQ} {s:AS} {J:World→Prop} {al:Bool} {ops:Array Oper} {l:List Oper} {o:Oper}
theorem bE {M:Nat->Option Obj} {σ:Nat->Loc} {w:World} {a:Act} {o:Oper} {c:Call} {f:Operand} {ly:Nat} {xs:List Av} {T:Nat->Option Tv} (hT:∀ i v,T i=some v->RT M σ v (a.tmps.getD i undef)) (ho:o.op=.call c) (hcf:c.callee=.value f) (hf:evT T f=some (.av (.one (.val (.func (.yield ly) #[] #[]))))) (hxs:EB (evT T) c.args.toList=some xs)
  {R:Ending->World->Prop} (hY:∀ v:Array Value,L2 (RA M σ) xs v.toList->YieldAt (FW none) 0 P ly v w R) {K:Act->World->Prop} {Q:Exit->Act->World->Prop} (hK:∀ e w',R e w'->∃ V,e=.returned V/\K (a.put o.dst V) w'):o.wpIn (FW none) 0 P a w K Q:=by
 have hargs:=Ji (fun x v=>Fq hT) _ _ hxs
 obtain ⟨fn,tmps,assign,body,hy,hR⟩:=hY (c.args.map a.eval) (by simpa using hargs)
 refine ⟨fun _ _=>trivial,?_⟩
 rw [Oper.semAt_eq _ _ _ (fun d h=>by rw [ho] at h;cases h)]
 have hfv:=(Fq hT hf).1
 have hres:(execOp a.eval o).run P w=.ok (.round ly fn tmps assign body) w:=by
  simp only [execOp,ho,Sem.run_bind,resolve,hcf,hfv,Deferred.ofValue]
  simpa [invoke] using hy
 rw [hres,Oper.uponIn_round]
 refine ⟨fun h=>(by cases h),?_⟩
 have h1:RoundIn (FW none) (0-1) P ly fn tmps assign body w R:=hR
 refine h1.mono ?_
 rintro e w' he
 obtain ⟨V,rfl,hk⟩:=hK e w' he
 exact hk
theorem YU (hO:OwS Ow n0) (hgn:o.guard=none) {c:Call} {f:Operand} {ly d:Nat} (xs:List Av) (ho:o.op=.call c) (hcf:c.callee=.value f)
  (hf:evT (get s.t) f=some (.av (.one (.val (.func (.yield ly) #[] #[]))))) (hxs:EB (evT (get s.t)) c.args.toList=some xs) (hv:xs.all Av.dv=true) (hvm:∀ x∈xs,AvM x) (hod:o.dst=some d) (hdN:Nat.blt d N=true) (hT1:∀ i v,get s.t i=some v->v.dv=true/\TvM v)
  (hJg:∀ A B,J A->A.grownBy B none->J B) (Jt:World->Prop)
  (hY:∀ W v,J W->sS (fun _=>none) Ow xs v W->YieldAt (FW none) 0 P ly v W (fun e W'=>e=.returned (.bool true)/\Jt W'/\KpS Ow W W')) (hh:s.h=[])
  (ht:IWL P N Ow n0 ops l Q ⟨(d,tB true)::s.t,[]⟩ Jt true):IWL P N Ow n0 ops (o::l) Q s J true:=by
 intro W0 M σ a w hJ hs
 refine wpListIn_step fun K0 hK' => ?_
 rw [if_pos (by simp [Region.wanted,hgn])]
 have hgrow:W0.grownBy w none:={ os:=hs.os,tape:=hs.tape,output:=hs.output,size:=hs.size,block:=fun b hb _=>hs.old b hb (Ec b) }
 have hiok:=hJ.2.2
 have hdN':d<N:=by have:=Nat.le_of_ble_eq_true hdN;omega
 have hst:∀ b,Ow w b->Ow W0 b:=hO.st W0 w (hiok rfl).1 fun b hb=>hs.old b hb (Ec b)
 have hput:∀ (b:Bool) (T:List (Nat×Tv)) (M':Nat->Option Obj) (σ':Nat->Loc),(∀ i v,get T i=some v->RT M' σ' v (a.tmps.getD i undef))->∀ i v,get ((d,tB b)::T) i=some v->RT M' σ' v ((a.put o.dst (.bool b)).tmps.getD i undef):=fun b T M' σ' hT i v hv=>by
  have hds:d<a.tmps.size:=by rw [hs.room];exact hdN'
  simp only [get,CS] at hv
  rw [hod]
  by_cases hi:d=i
  ·subst hi
   simp at hv;subst hv
   have:(a.put (some d) (.bool b)).tmps.getD d undef=.bool b:=by simp [Act.put,Array.getD_eq_getD_getElem?,hds]
   rw [this]
   exact ⟨rfl,rfl⟩
  simp [hi] at hv
  have:(a.put (some d) (.bool b)).tmps.getD i undef=a.tmps.getD i undef:=by simp [Act.put,Array.getD_eq_getD_getElem?,Array.getElem?_setIfInBounds,hi]
  rw [this];exact hT i v hv
 have hsize:∀ b:Bool,(a.put o.dst (.bool b)).tmps.size=N:=fun b=>by rw [hod];simpa [Act.put] using hs.room
 have hdef:∀ b:Bool,(a.put o.dst (.bool b)).defers=[]:=fun b=>by rw [hod];simpa [Act.put] using hJ.2.1
 refine bE hs.tmps ho hcf hf hxs (fun v hL=>hY w v (hJg W0 w hJ.1 hgrow) ⟨Rm M,by have:=hL.length;simpa using this,fun b o' hb=>⟨hs.imm b o' (DQ hb).1,(DQ hb).2,fun h=>(hiok rfl).2.2 b o' (DQ hb).1 (hst b h)⟩,fun MM _ hMM => ?_⟩) fun e w2 he => ?_
 ·refine hL.mono fun x hx u hu σ' => ?_
  have h1:RA M σ' x u:=HU (r:=.av x) (List.all_eq_true.1 hv x hx) hu
  exact NK hMM (fun _ _=>rfl) (Ux Jc h1 (hvm x hx))
 obtain ⟨rfl,h5,h6⟩:=he
 refine ⟨_,rfl,hK' _ _ (ht w2 (Rm M) σ _ w2 ⟨h5,hdef true,fun _=>⟨Nat.le_trans (hiok rfl).1 (Nat.le_trans hs.size h6.1),fun b h=>(h6.2.2 b h).elim (fun h7=>Nat.lt_of_lt_of_le ((hiok rfl).2.1 b (hst b h7)) (Nat.le_trans hs.size h6.1)) And.right,fun b o' h hw2 => ?_⟩⟩ ?_)⟩
 ·rcases h6.2.2 b hw2 with h7 | h7
  ·exact (hiok rfl).2.2 b o' (DQ h).1 (hst b h7)
  have:=(Array.getElem?_eq_some_iff.1 (hs.imm b o' (DQ h).1)).1;omega
 exact ⟨rfl,rfl,rfl,Nat.le_refl _,fun _ _ _=>rfl,fun _ _ h=>h,fun b o h h'=>(by rw [h] at h';cases h'),fun m x hx=>(by cases hx),⟨by rw [hdef true];trivial,fun _=>hdef true⟩,hsize true,hput true s.t (Rm M) σ (fun i v hv=>RL Jc (hs.tmps i v hv) (hT1 i v hv).2),fun b o' h=>h6.2.1 b o' (hs.imm b o' (DQ h).1) (DQ h).2 fun h7=>(hiok rfl).2.2 b o' (DQ h).1 (hst b h7),fun n b hb=>(by cases hb),fun n b hb=>(by cases hb),fun n m b c hb=>(by cases hb)⟩
end
def IEndV (n:Nat) (JJ:Nat->World->Prop):IQ:=fun e s' J' al'=>(e=.ret\/e=.normal)/\J'=JJ n
theorem V7 {P:Program} {gf:FuncId} {fn:Func} {c:Code} (hf:P.funcs[gf]? = some fn) (hb:fn.body=some c) (hnr:fn.results.toList=[]) {k:Nat} {caps:Nat->Cl} {n:Nat} {E:Fin n->List Av} (hN:Nat.ble (k+1) fn.ntmps=true) (hcd:∀ i,i<k->(caps i).dv=true)
  (h:∀ (Ow:World->Nat->Prop) (n0 ly:Nat) (JJ:Nat->World->Prop),OwS Ow n0->(∀ j A B,JJ j A->A.grownBy B none->JJ j B) ->
   (∀ j (hj:j<n) W v,JJ j W->sS (fun _=>none) Ow (E ⟨j,hj⟩) v W->YieldAt (FW none) 0 P ly v W (fun e W'=>e=.returned (.bool true)/\JJ (j+1) W'/\KpS Ow W W')) ->
   IWp P fn.ntmps Ow n0 c (IEndV n JJ) ⟨Dw 0 (.one (.val (.func (.yield ly) #[] #[]))::B4 k caps),[]⟩ (JJ 0) true):Js P gf k caps n E:=by
 intro M w cs Ow himm hOs hOw hcs hcaps l J W hB hJ hY h0
 have hlt:∀ b o,M b=some o->b<w.heap.size:=fun b o hb=>(Array.getElem?_eq_some_iff.1 (himm b o hb)).1
 have himmW:∀ b o,M b=some o->W.heap[b]? = some o:=fun b o hb=>(hB.block b (hlt b o hb)).trans (himm b o hb)
 have hst:∀ b,Ow W b->Ow w b:=hOs.st w W (Nat.le_refl _) fun b hb=>hB.block b hb
 have hbody:=h Ow w.heap.size l J hOs hJ (fun j hj W1 v h1 ⟨Mj,e1,e2,e3⟩=>hY j v W1 hj h1 ⟨hj,Mj,e1,e2,fun MM _ h3=>e3 MM (fun _ _ h=>by cases h) h3⟩)
 obtain ⟨a0,ha0⟩:∃ a0:Act,a0={ tmps:=(#[Value.func (.yield l) #[] #[]]++cs)++Array.replicate (fn.ntmps-(#[Value.func (.yield l) #[] #[]]++cs).size) undef,defers:=[] }:=⟨_,rfl⟩
 have hs0:Sim fn.ntmps W noX M M (fun _=>⟨0,0,false⟩) (get (Dw 0 (.one (.val (.func (.yield l) #[] #[]))::B4 k caps))) (get []) a0 W := ?hs0
 ·have hbod:=hbody W M (fun _=>⟨0,0,false⟩) a0 W ⟨h0,by rw [ha0],fun _=>⟨hB.size,fun b hb=>Nat.lt_of_lt_of_le (hOw b (hst b hb)).1 hB.size,fun b o hb ho=>by rw [(hOw b (hst b ho)).2] at hb;cases hb⟩⟩ hs0
  rw [ha0] at hbod
  refine callsIn_wide.2 (callsIn_wide.1 (callsIn_of_wp_marks (F:=FW none) (n:=0) hf hb trivial (wpIn_mono hbod ?_)))
  clear hbod hs0
  rintro e a' w' ⟨s',J',al',W0',M',σ',⟨he,rfl⟩,⟨hJ',hd,_⟩,hs'⟩
  have hgrow:W0'.grownBy w' none:={ os:=hs'.os,tape:=hs'.tape,output:=hs'.output,size:=hs'.size,block:=fun b hb _=>hs'.old b hb (Ec b) }
  obtain ⟨U,hU,_⟩:=Tx (P:=P) (fn:=fn) (r:=.tup []) hs' (by rw [hnr];rfl)
  have key:LeavesInM (FW none) 0 P fn a'.tmps (fun e W'=>(∃ v,e=.returned v)/\J n W') a'.defers .returning w':=by
   rw [hd]
   exact ⟨U,hU,⟨U,rfl⟩,hJ n W0' w' hJ' hgrow⟩
  rcases he with rfl | rfl
  ·exact key
  exact key
 case hs0 =>
  subst ha0
  have hsz:(#[Value.func (.yield l) #[] #[]]++cs).size=k+1:=by simp [hcs];omega
  have hNk:=Nat.le_of_ble_eq_true hN
  refine ⟨rfl,rfl,rfl,Nat.le_refl _,fun _ _ _=>rfl,fun _ _ h=>h,fun b o h h'=>(by rw [h] at h';cases h'),fun m x hx=>(by cases hx),Hu.nil,?_,fun i v hv => ?_,himmW,fun m b hb=>(by cases hb),fun m b hb=>(by cases hb),fun m m' b c hb=>(by cases hb)⟩
  ·simp only [Array.size_append,Array.size_replicate] at hsz ⊢
   omega
  obtain ⟨_,x,hx,rfl⟩:=JQ _ _ _ _ hv
  rw [Nat.sub_zero] at hx
  have hargs:L2 (RA M fun _=>⟨0,0,false⟩) (.one (.val (.func (.yield l) #[] #[]))::B4 k caps) (.func (.yield l) #[] #[]::cs.toList):=by
   refine .cons ⟨rfl,rfl⟩ (L2.of (by simp [B4,hcs]) fun i x y hx hy => ?_)
   have hi:i<k:=by have:=(List.getElem?_eq_some_iff.1 hx).1;simpa [B4] using this
   have:=(Jw (σ:=fun _=>⟨0,0,false⟩) (hcd i hi)).2 (hcaps i hi)
   simp only [B4,List.getElem?_map,List.getElem?_range hi,Option.map_some,Option.some.injEq] at hx
   subst hx
   have hy':cs.getD i undef=y:=by
    simp only [Array.getD_eq_getD_getElem?]
    rw [<- Array.getElem?_toList,hy];rfl
   rw [hy'] at this
   exact this
  obtain ⟨u,hu,hRu⟩:=hargs.get i x hx
  have:((#[Value.func (.yield l) #[] #[]]++cs)++Array.replicate (fn.ntmps-(#[Value.func (.yield l) #[] #[]]++cs).size) undef).getD i undef=u:=by
   have hu2:(#[Value.func (.yield l) #[] #[]]++cs)[i]? = some u:=by
    rw [<- Array.getElem?_toList]
    simpa using hu
   have hi:i<(#[Value.func (.yield l) #[] #[]]++cs).size:=(Array.getElem?_eq_some_iff.1 hu2).1
   rw [Array.getD_eq_getD_getElem?,Array.getElem?_append_left hi,hu2];rfl
  show RA M _ x _
  rw [this]
  exact hRu
theorem Qv {P:Program} {N:Nat} {Ow:World->Nat->Prop} {n0:Nat} {Q:IQ} {s:AS} {J:World->Prop} {al:Bool} {c:Code} (ts:List Nat) (S:AS) (hS:LM ts [] s=S) (h:IWp P N Ow n0 c Q S J al):IWp P N Ow n0 c Q s J al:=by
 subst hS
 exact fun W0 M σ a w hJ hs=>h W0 M σ a w hJ (EA hs ts [])
theorem L0 {P:Program} {f:FuncId} {xs:List Av} {sz len:Nat} {F:Nat->Nat->Cl} {ty:TypeId} (h:Fr P f xs (.row sz len F ty) (fun d=>.av (.one (.own d sz len)))):E5 P f xs (.av (.one (.list false sz len F))):=by
 intro M σ w args himm hargs
 refine (h M σ w args himm hargs).mono ?_
 rintro en w' ⟨U,hU,M',x,hk,hx,hb,hR⟩
 refine ⟨U,hU,?_⟩
 have hV:R M' (fun _=>x) (.own 0 sz len) U:=hR (fun _=>x) 0 rfl
 unfold R at hV
 cases hn:x.nil with
 | true =>
  rw [hn] at hV
  obtain ⟨rfl,rfl⟩:len=0/\U=.slice none 0 0:=hV
  exact ⟨M',hk,fun σ'=>RC.nil _ _ _ rfl⟩
 | false =>
  rw [hn] at hV
  have hV:U=.slice (some ⟨x.b,0,none⟩) len x.cap:=hV
  subst hV
  obtain ⟨hx1,hx2⟩:w.heap.size<=x.b/\M' x.b=none:=by
   rcases hx with h0 | h0
   ·rw [hn] at h0;cases h0
   exact h0
  rcases hb (fun _=>x) with ⟨h0,_⟩ | ⟨_,c,hc,h1,h2,h3,g,hg⟩
  ·rw [hn] at h0;cases h0
  have key:∀ b o,M' b=some o->b≠x.b:=fun b o ho e=>by rw [e,hx2] at ho;cases ho
  refine ⟨fun b=>if b=x.b then some (.cells c ty) else M' b,⟨hk.os,hk.tape,hk.output,hk.size,hk.old,fun b o ho => ?_,fun b o ho h0 => ?_,fun b o ho => ?_⟩,fun σ' => ?_⟩
  ·have:=hk.sub b o ho
   simp only [if_neg (key b o this)];exact this
  ·by_cases e:b=x.b
   ·rw [e];exact hx1
   simp only [if_neg e] at ho;exact hk.new b o ho h0
  ·by_cases e:b=x.b
   ·simp only [if_pos e,Option.some.injEq] at ho;rw [e,<- ho];exact hc
   simp only [if_neg e] at ho;exact hk.imm b o ho
  show RC _ (.list false sz len F) _
  refine .list false sz len F x.b 0 x.cap g (fun i j hi hj => ?_) (fun i j hi hj=>EN (fun b o ho => ?_) (hg i j hi hj).2) h2 (fun h=>by cases h)
  ·simp only [Ei,if_pos]
   rw [Nat.zero_add]
   exact (hg i j hi hj).1
  simp only [if_neg (key b o ho)];exact ho
theorem SM {P:Program} {gf:FuncId} {fn:Func} {c:Code} (hf:P.funcs[gf]? = some fn) (hb:fn.body=some c) (hnr:fn.results.toList=[]) {k:Nat} {caps:Nat->Cl} {n:Nat} {E:Fin n->List Av} (hE:∀ x,(E x).all Av.isV=true) (hE1:∀ x,∀ e∈E x,∀ c∈e.cells,c.toV.oneCell'=true) (hN:Nat.ble (k+1) fn.ntmps=true) (hcd:∀ i,i<k->(caps i).dv=true)
  (h:∀ (Ow:World->Nat->Prop) (n0 ly:Nat) (JJ Jx:Nat->World->Prop),OwS Ow n0->(∀ j A B,JJ j A->A.grownBy B none->JJ j B) ->
   (∀ j (hj:j<n) W,JJ j W->YieldAt (FW none) 0 P ly ((E ⟨j,hj⟩).map Av.toV).toArray W (fun e W'=>(e=.returned (.bool true)/\JJ (j+1) W'/\KpS Ow W W')\/(e=.returned (.bool false)/\Jx (j+1) W'))) ->
   IWp P fn.ntmps Ow n0 c (IEnd n JJ Jx) ⟨Dw 0 (.one (.val (.func (.yield ly) #[] #[]))::B4 k caps),[]⟩ (JJ 0) true):Js P gf k caps n E :=
 V7 hf hb hnr hN hcd fun Ow n0 ly JJ hO hJ hY=>by
  have h1:=h Ow n0 ly JJ (fun _ _=>False) hO hJ (fun j hj W hW=>by
   obtain ⟨fn',tm,as',bd,hy,hR⟩:=hY j hj W ((E ⟨j,hj⟩).map Av.toV).toArray hW ⟨fun _=>none,by simp,(fun b o hb=>by cases hb),fun MM _ _=>by
    have e1:=hE ⟨j,hj⟩
    have e2:=hE1 ⟨j,hj⟩
    show L2 _ (E ⟨j,hj⟩) ((E ⟨j,hj⟩).map Av.toV)
    generalize E ⟨j,hj⟩=l at e1 e2 ⊢
    induction l with
    | nil=>exact .nil
    | cons e l ih =>
     simp only [List.all_cons,Bool.and_eq_true] at e1
     exact .cons (fun σ=>gR e1.1 (e2 e (List.mem_cons_self ..))) (ih e1.2 fun e he=>e2 e (List.mem_cons_of_mem _ he))⟩
   exact ⟨fn',tm,as',bd,hy,hR.mono fun e W' he=>.inl he⟩)
  intro W0 M σ a w hJ0 hs
  refine wpIn_mono (h1 W0 M σ a w hJ0 hs) ?_
  rintro e a' w' ⟨s',J',al',W0',M',σ',⟨he,hend⟩,hJ',hs'⟩
  rcases hend with rfl | ⟨j,hj,rfl⟩
  ·exact ⟨s',_,al',W0',M',σ',⟨he,rfl⟩,hJ',hs'⟩
  exact hJ'.1.elim
theorem YX {P:Program} {gf:FuncId} {t:Bool} {sz len:Nat} {f:Nat->Nat->Cl} {k:Nat} {caps:Nat->Cl} {n:Nat} {E:Fin n->List Av} (E':(Nat->Nat->Value)->Fin n->List Av) (h0:caps 0=mS t sz len f) (hk:0<k)
  (hI:∀ g:Nat->Nat->Value,(∀ i j,i<len->j<sz->(g i j).oneCell'=true)->Js P gf k (fun i=>match i with | 0=>mS t sz len (fun i j=>.val (g i j)) | i+1=>caps (i+1)) n (E' g)) (hlen:∀ g x,(E' g x).length=(E x).length)
  (hE:∀ M g x (vs:List Value),(∀ i j,i<len->j<sz->RC M (f i j) (g i j))->L2 (fun e v=>∀ σ,RA M σ e v) (E' g x) vs->L2 (fun e v=>∀ σ,RA M σ e v) (E x) vs):Js P gf k caps n E:=by
 intro M w cs Ow himm hOs hOw hcs hcaps
 have h:=hcaps 0 hk
 rw [h0] at h
 obtain ⟨g,h1,h2⟩:=Xw h
 have h3:=hI g (fun i j hi hj=>nI (h2 i j hi hj)) M w cs Ow himm hOs hOw hcs (fun i hi=>by
  cases i with
  | zero=>exact h1
  | succ i=>exact hcaps _ hi)
 intro l J W hB hJ hY hJ0
 exact h3 l J W hB hJ (fun j v A hj hJA ⟨hj',Mj,e1,e2,e3⟩=>hY j v A hj hJA ⟨hj',Mj,(hlen g _).symm.trans e1,e2,fun MM m1 m2=>hE MM g _ _ (fun i j hi hj=>EN m1 (h2 i j hi hj)) (e3 MM m1 m2)⟩) hJ0
theorem YY {P:Program} {gf:FuncId} {k:Nat} {caps caps':Nat->Cl} {n:Nat} {E:Fin n->List Av} (h:∀ i,i<k->caps' i=caps i) (H:Js P gf k caps n E):Js P gf k caps' n E :=
 fun M w cs Ow a b c d e=>H M w cs Ow a b c d fun i hi=>by rw [<- h i hi];exact e i hi
theorem kW {P:Program} {N:Nat} {Ow:World->Nat->Prop} {n0:Nat} {Q:IQ} {s:AS} {J:World->Prop} {al:Bool} (hO:OwS Ow n0) {x y z:Code} (hdv:∀ i v,get s.t i=some v->v.dv=true) (hh:s.h=[])
  (h:∀ W0 X1 M1,(∀ k u,X1 k=some u->Au [N] k=true)->AWp P none N W0 X1 M1 x (ATh (AWp P none N W0 X1 M1 y (fun e s'=>e=.normal/\∃ S,(∀ W2 M2,Cv N W2 noX M2 s' S)/\IWp P N Ow n0 z Q S J al)) (fun _ _=>False)) s):IWp P N Ow n0 (.seq x (.seq y z)) Q s J al:=by
 intro W0 M σ a w hJ hs
 have hX:∀ k u,LP N W0.heap.size k=some u->Au [N] k=true:=fun k u hk=>by rw [(Q3 hk).1];exact Mu _
 refine wpIn_seq (wpIn_mono (h W0 _ M hX M _ a w (IL hdv hh hJ.2.1 hs)) ?_)
 rintro e a' w' ⟨s',M',σ',h1,h2⟩
 cases e with
 | normal =>
  refine wpIn_seq (wpIn_mono (h1 M' σ' a' w' h2) ?_)
  rintro e a2 w2 ⟨s2,M2,σ2,⟨rfl,S,h3,h4⟩,h5⟩
  have h6:=Hj hJ.2.2 hO h5
  obtain ⟨hd,h7⟩:=Fj h5
  obtain ⟨M3,σ3,h8⟩:=h3 W0 M2 M2 σ2 a2 w2 h7
  exact h4 W0 M3 σ3 a2 w2 ⟨hJ.1,hd,Hj h6 hO h8⟩ (VE h8 hd)
 | _=>exact h1.elim
end
end Go.Proofs.YtheobjkgllmnmaaGreat
