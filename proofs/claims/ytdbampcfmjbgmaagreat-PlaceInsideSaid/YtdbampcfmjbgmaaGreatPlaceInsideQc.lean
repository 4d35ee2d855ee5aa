/-
  No statement is proved in this text. It holds a part of what the proof of PlaceInside needs.
-/
import Derived.Test.YtdbampcfmjbgmaaGreatPlaceInsideQb
namespace Go.Proofs.YtdbampcfmjbgmaaGreat
set_option maxRecDepth 100000
set_option linter.unusedVariables false
set_option linter.unusedSimpArgs false
section
open Go.RowKit Go.MapKept
section
variable {K V:Type} [Inhabited K] [Inhabited V]
def kfG (ck:K->Value) (l:List (K×V)):Nat->Value:=fun i=>ck (l.getD i default).1
def vfG (c:V->List Cl) (l:List (K×V)):Nat->Nat->Cl:=fun i j=>(c (l.getD i default).2).getD j default
def C9 (eq:K->K->Bool) (l:List (K×V)) (k:K):Bool:=l.any fun e=>eq e.1 k
def DJ (eq:K->K->Bool) (l:List (K×V)) (k:K):Nat:=l.findIdx fun e=>eq e.1 k
def Fp (eq:K->K->Bool) (l:List (K×V)) (k:K) (v:V):List (K×V):=bif C9 eq l k then l.set (DJ eq l k) (k,v) else l++[(k,v)]
theorem Sj {eq:K->K->Bool} {l:List (K×V)} {k:K} (h:C9 eq l k=true):DJ eq l k<l.length/\eq (l.getD (DJ eq l k) default).1 k=true/\∀ j,j<DJ eq l k->eq (l.getD j default).1 k=false:=by
 unfold C9 at h
 obtain ⟨x,hx,hxk⟩:=List.any_eq_true.1 h
 have hlt:l.findIdx (fun e=>eq e.1 k)<l.length:=List.findIdx_lt_length.2 ⟨x,hx,hxk⟩
 refine ⟨hlt,?_,fun j hj => ?_⟩
 ·have:=List.findIdx_getElem (w:=hlt)
  unfold DJ
  rw [List.getD_eq_getElem?_getD,List.getElem?_eq_getElem hlt]
  exact this
 ·have:=List.not_of_lt_findIdx hj
  have hj':j<l.length:=Nat.lt_trans hj hlt
  rw [List.getD_eq_getElem?_getD,List.getElem?_eq_getElem hj']
  exact this
theorem dO {eq:K->K->Bool} {l:List (K×V)} {k:K} (h:C9 eq l k=false):∀ j,j<l.length->eq (l.getD j default).1 k=false:=by
 intro j hj
 unfold C9 at h
 have:=(List.any_eq_false.1 h) l[j] (List.getElem_mem hj)
 rw [List.getD_eq_getElem?_getD,List.getElem?_eq_getElem hj]
 simpa using this
theorem Sx {P:Program} {E:TypeId->Option (List Kd)} {kt:TypeId} {ck:K->Value} {eq:K->K->Bool} (heq:∀ a b,eq a b=true↔ck a=ck b) (hfit:∀ k,E3 P E kt (ck k)) (l:List (K×V)) (k:K) :
  Td P E kt l.length (kfG ck l) (ck k) (C9 eq l k) (DJ eq l k):=by
 refine ⟨hfit k,fun j _=>hfit _,fun h => ?_,fun h j hj => ?_⟩
 ·obtain ⟨h1,h2,h3⟩:=Sj h
  refine ⟨h1,(heq _ _).1 h2,fun j hj e => ?_⟩
  have:=(heq _ _).2 e
  rw [h3 j hj] at this
  cases this
 ·intro e
  have:=(heq _ _).2 e
  rw [dO h j hj] at this
  cases this
omit [Inhabited K] [Inhabited V] in
theorem Se (eq:K->K->Bool) (l:List (K×V)) (k:K) (v:V):(bif C9 eq l k then l.length else l.length+1)=(Fp eq l k v).length:=by
 unfold Fp
 cases C9 eq l k <;> simp
theorem Sg {eq:K->K->Bool} {l:List (K×V)} {k:K} {v:V} (j:Nat) (hj:j<(Fp eq l k v).length):(Fp eq l k v).getD j default=bif Nat.beq j (bif C9 eq l k then DJ eq l k else l.length) then (k,v) else l.getD j default:=by
 rw [<- Se] at hj
 unfold Fp
 cases h:C9 eq l k with
 | true =>
  rw [h] at hj
  simp only [cond_true] at *
  have hlt:=(Sj h).1
  rw [List.getD_eq_getElem?_getD,List.getElem?_set,CN]
  by_cases e:DJ eq l k=j
  ·subst e;simp [hlt]
  ·rw [if_neg e,decide_eq_false (Ne.symm e),cond_false,List.getD_eq_getElem?_getD]
 | false =>
  rw [h] at hj
  simp only [cond_false] at *
  rw [List.getD_eq_getElem?_getD,CN]
  by_cases e:j=l.length
  ·subst e
   rw [decide_eq_true rfl,cond_true,List.getElem?_append_right (Nat.le_refl _),Nat.sub_self]
   rfl
  ·rw [decide_eq_false e,cond_false,List.getElem?_append_left (by omega),List.getD_eq_getElem?_getD]
theorem aH {ck:K->Value} {cv:V->List Cl} {eq:K->K->Bool} {agg:Bool} {nv:Nat} (l:List (K×V)) (k:K) (v:V) (cells:List Cl) (hc:cells=cv v) :
  He (.omap agg nv (bif C9 eq l k then l.length else l.length+1) (fun j=>bif Nat.beq j (bif C9 eq l k then DJ eq l k else l.length) then ck k else kfG ck l j) (fun j c=>bif Nat.beq j (bif C9 eq l k then DJ eq l k else l.length) then cells.getD c default else vfG cv l j c))
   (.omap agg nv (Fp eq l k v).length (kfG ck (Fp eq l k v)) (vfG cv (Fp eq l k v))):=by
 subst hc
 refine .omap agg nv (Se eq l k v) (fun j hj => ?_) (fun j c hj _ => ?_)
 ·unfold kfG
  rw [Sg j hj]
  cases Nat.beq j (bif C9 eq l k then DJ eq l k else l.length) <;> rfl
 ·have:(bif Nat.beq j (bif C9 eq l k then DJ eq l k else l.length) then (cv v).getD c default else vfG cv l j c)=vfG cv (Fp eq l k v) j c:=by
   unfold vfG
   rw [Sg j hj]
   cases Nat.beq j (bif C9 eq l k then DJ eq l k else l.length) <;> rfl
  rw [this]
  exact .refl _
theorem aI {ck:K->Value} {cv:V->List Cl} {agg:Bool} {nv:Nat}:He (.omap agg nv 0 (fun _=>undef) (fun _ _=>default)) (.omap agg nv ([]:List (K×V)).length (kfG ck ([]:List (K×V))) (vfG cv ([]:List (K×V)))) :=
 .omap agg nv rfl (fun j hj=>absurd hj (Nat.not_lt_zero _)) (fun j c hj _=>absurd hj (Nat.not_lt_zero _))
end
def eqS (a b:ByteArray):Bool:=a.toList==b.toList
theorem Uw (a b:ByteArray):eqS a b=true↔Value.string a=Value.string b:=by
 unfold eqS
 rw [beq_iff_eq,Value.string.injEq]
 exact ⟨aL,fun h=>by rw [h]⟩
end
section
open Go.RowKit Go.MapKept
section
variable {P:Program}
def Wr2 (P:Program) (f:FuncId) (K L:Nat) (xs:List Av) (b0 d0:Blk) (r:Tv) (b1 d1:Blk):Prop:=∀ (M:Nat->Option Obj) (σ:Nat->Loc) (w:World) (args:List Value),(∀ b o,M b=some o->w.heap[b]? = some o) ->
 (Bg M σ w (σ K) b0/\(σ K).nil=false/\M (σ K).b=none)->(Bg M σ w (σ L) d0/\(σ L).nil=false/\M (σ L).b=none)->(σ K).b≠(σ L).b->L2 (RA M σ) xs args ->
 Calls P f args.toArray w fun en w'=>∃ U,en=.returned U/\∃ M',Gi w w' M M' (fun b=>only (σ K) b\/only (σ L) b)/\(∀ σ',RT M' σ' r U)/\(∀ σ',Bg M' σ' w' (σ K) b1)/\∀ σ',Bg M' σ' w' (σ L) d1
theorem Nv {f:FuncId} {fn:Func} {c:Code} (hf:P.funcs[f]? = some fn) (hb:fn.body=some c) {K L:Nat} {xs:List Av} {b0 d0 b1 d1:Blk} {r:Tv} (hN:Nat.ble xs.length fn.ntmps=true) (hK:Nat.ble fn.ntmps K=true) (hL:Nat.ble fn.ntmps L=true) (hKL:Nat.beq K L=false) (hd:r.dv=true) (hd1:Jw b1=true) (hd2:Jw d1=true)
  (h:∀ (W0:World) (M0:Nat->Option Obj) (X:Nat->Option Loc),(∀ k x,X k=some x->Au [K,L] k=true)->AWp P none fn.ntmps W0 X M0 c (aZ P fn.ntmps W0 X M0 fn fun r' s'=>TvE r' r/\(∃ b,get s'.h K=some b/\He b b1)/\∃ b,get s'.h L=some b/\He b d1) ⟨EB 0 xs,[(K,b0),(L,d0)]⟩):Wr2 P f K L xs b0 d0 r b1 d1:=by
 intro M σ w args himm ⟨hblk,hnil,hM⟩ ⟨hblk2,hnil2,hM2⟩ hbne hargs
 have hne:K≠L:=fun e=>by rw [e,Nat.beq_refl] at hKL;cases hKL
 let X:Nat->Option Loc:=upd (upd noX K (some (σ K))) L (some (σ L))
 have hXL:X L=some (σ L):=BG _ _ _
 have hXK:X K=some (σ K):=by
  show upd _ L _ K=_
  rw [CQ _ _ hne];exact BG _ _ _
 have one:∀ n b,get [(K,b0),(L,d0)] n=some b->(n=K/\b=b0)\/(n=L/\b=d0):=fun n b hn=>by
  simp only [get,CN] at hn
  by_cases hk:K=n
  ·simp [hk] at hn;exact .inl ⟨hk.symm,hn.symm⟩
  ·by_cases hl:L=n
   ·simp [hk,hl] at hn;exact .inr ⟨hl.symm,hn.symm⟩
   ·simp [hk,hl] at hn
 have pins:∀ n x,X n=some x->(n=K/\x=σ K)\/(n=L/\x=σ L):=fun n x hx=>by
  by_cases hl:n=L
  ·subst hl;rw [hXL] at hx;injection hx with hx;exact .inr ⟨rfl,hx.symm⟩
  ·by_cases hk:n=K
   ·subst hk;rw [hXK] at hx;injection hx with hx;exact .inl ⟨rfl,hx.symm⟩
   ·simp only [X] at hx;rw [CQ _ _ hl,CQ _ _ hk] at hx;cases hx
 have hXm:∀ k x,X k=some x->Au [K,L] k=true:=fun k x hk=>by
  rcases pins k x hk with ⟨rfl,_⟩ | ⟨rfl,_⟩
  ·unfold Au;rw [Nat.beq_refl];rfl
  ·unfold Au;rw [hKL];exact Kz _
 refine Et (X:=X) (σ:=σ) (h0:=[(K,b0),(L,d0)]) hf hb (Nat.le_of_ble_eq_true hN) himm hargs (fun n b hn => ?_) (fun n b hn => ?_) (fun n x hx => ?_) (fun n m b c hn hm hnm => ?_) (Dx (h w M X hXm)) ?_
 ·rcases one n b hn with ⟨rfl,rfl⟩ | ⟨rfl,rfl⟩
  ·exact hblk
  ·exact hblk2
 ·rcases one n b hn with ⟨rfl,rfl⟩ | ⟨rfl,rfl⟩
  ·exact .inr ⟨hM,n,σ n,hXK,rfl⟩
  ·exact .inr ⟨hM2,n,σ n,hXL,rfl⟩
 ·rcases pins n x hx with ⟨rfl,rfl⟩ | ⟨rfl,rfl⟩
  ·exact ⟨Nat.le_of_ble_eq_true hK,rfl⟩
  ·exact ⟨Nat.le_of_ble_eq_true hL,rfl⟩
 ·rcases one n b hn with ⟨rfl,rfl⟩ | ⟨rfl,rfl⟩ <;> rcases one m c hm with ⟨rfl,rfl⟩ | ⟨rfl,rfl⟩
  ·exact absurd rfl hnm
  ·exact .inr (.inr hbne)
  ·exact .inr (.inr fun e=>hbne e.symm)
  ·exact absurd rfl hnm
 ·rintro r' s' M' σ' a' w' U ⟨he,⟨b,hb1,hbe⟩,e,he1,hee⟩ hs hR
  have hpin:=(hs.pin K _ hXK).2
  have hbk:=hs.blk K _ hb1
  rw [hpin] at hbk
  have hpin2:=(hs.pin L _ hXL).2
  have hbk2:=hs.blk L _ he1
  rw [hpin2] at hbk2
  refine ⟨U,rfl,M',⟨hs.os,hs.tape,hs.output,hs.size,fun b hb hne=>hs.old b hb ?_,hs.sub,hs.new,hs.imm⟩,fun σ''=>HA hd (Kf he hR),fun σ''=>FN hd1 (Je hbe hbk),fun σ''=>FN hd2 (Je hee hbk2)⟩
  rintro ⟨n,x,hx,rfl⟩
  rcases pins n x hx with ⟨rfl,rfl⟩ | ⟨rfl,rfl⟩
  ·exact hne (.inl ⟨hnil,rfl⟩)
  ·exact hne (.inr ⟨hnil2,rfl⟩)
def E9 (K n L m:Nat):Av->Av
 | .one (.ptr q off)=>.one (.ptr (bif Nat.beq q K then n else bif Nat.beq q L then m else q) off)
 | x=>x
def N8 (K L:Nat):Av->Bool
 | .one (.ptr q _)=>bif Nat.beq q K then true else Nat.beq q L
 | x=>x.dv
def gO (n m:Nat) (b0 d0:Blk) (r:Tv) (b1 d1:Blk):Ef:=.wrs [n,m] [] fun bs _=>some ([bs=[b0,d0]],r,[b1,d1])
theorem Pq {w w':World} {M M':Nat->Option Obj} {p q:Nat->Prop} (h:Gi w w' M M' p) (hp:∀ b,p b->q b):Gi w w' M M' q :=
 ⟨h.os,h.tape,h.output,h.size,fun b hb hn=>h.old b hb fun h1=>hn (hp b h1),h.sub,h.new,h.imm⟩
theorem U3 {f:FuncId} {K L n m:Nat} {xs:List Av} {b0 d0 b1 d1:Blk} {r:Tv} (h1:∀ args w,(callFunc f args).run P w=.ok (.enter f args) w) (hx:xs.all (N8 K L)=true) (hKL:Nat.beq K L=false) (hnm:Nat.beq n m=false) (hd0:Jw b0=true) (hd2:Jw d0=true) (h:Wr2 P f K L xs b0 d0 r b1 d1):Aq P f (xs.map (E9 K n L m)) (gO n m b0 d0 r b1 d1):=by
 have hne:K≠L:=fun e=>by rw [e,Nat.beq_refl] at hKL;cases hKL
 have hnm':n≠m:=fun e=>by rw [e,Nat.beq_refl] at hnm;cases hnm
 refine .inl ⟨h1,fun M σ w hh args cs' g hs hargs hres hc => ?_⟩
 simp only [gO,res,G8] at hres
 cases hn:hh n with
 | none=>rw [hn] at hres;cases hres
 | some b =>
  cases hm:hh m with
  | none=>rw [hn,hm] at hres;cases hres
  | some d =>
   rw [hn,hm] at hres
   simp only [List.length_cons,List.length_nil,Nat.beq_refl,Option.some.injEq,Prod.mk.injEq] at hres
   obtain ⟨rfl,rfl⟩:=hres
   have hbd:=hc.head
   injection hbd with e1 e2
   injection e2 with e2 _
   subst e1;subst e2
   have hblk:=hs.blk n _ hn
   have hblk2:=hs.blk m _ hm
   have nilOf:∀ {q:Nat} {bq:Blk},Jw bq=true->Bg M σ w (σ q) bq->(σ q).nil=false:=fun {q bq} hd hb=>by
    cases bq with
    | row=>cases hd
    | omap=>cases hd
    | rowx=>cases hd
    | cells l ty=>exact hb.1
   have hnil:=nilOf hd0 hblk
   have hnil2:=nilOf hd2 hblk2
   have hM:M (σ n).b=none:=by
    rcases hs.loc n _ hn with h | h
    ·rw [hnil] at h;cases h
    ·exact h
   have hM2:M (σ m).b=none:=by
    rcases hs.loc m _ hm with h | h
    ·rw [hnil2] at h;cases h
    ·exact h
   have hbne:(σ n).b≠(σ m).b:=by
    rcases hs.inj n m _ _ hn hm hnm' with h | h | h
    ·rw [hnil] at h;cases h
    ·rw [hnil2] at h;cases h
    ·exact h
   let σ2:Nat->Loc:=upd (upd σ K (σ n)) L (σ m)
   have hL:σ2 L=σ m:=BG _ _ _
   have hK:σ2 K=σ n:=by
    show upd _ L _ K=_
    rw [CQ _ _ hne];exact BG _ _ _
   have hargs2:L2 (RA M σ2) xs args:=by
    refine L2.of (by have:=hargs.length;simpa using this) fun i x V hxi hV => ?_
    obtain ⟨V',hV',hR⟩:=hargs.get i (E9 K n L m x) (by rw [List.getElem?_map,hxi];rfl)
    rw [hV] at hV';injection hV' with hV';subst hV'
    have hok:=(List.all_eq_true.1 hx) x (List.mem_of_getElem? hxi)
    unfold N8 at hok
    split at hok
    ·rename_i q off
     by_cases hq:q=K
     ·subst hq
      simp only [E9,Nat.beq_refl,cond_true] at hR
      have hR':V=.pointer (some ⟨(σ n).b,off,none⟩):=hR
      show V=.pointer (some ⟨(σ2 q).b,off,none⟩)
      rw [hK];exact hR'
     ·have hqb:Nat.beq q K=false:=by
       cases hb:Nat.beq q K with
       | false=>rfl
       | true=>exact absurd (Nat.eq_of_beq_eq_true hb) hq
      rw [hqb] at hok
      have:=Nat.eq_of_beq_eq_true hok
      subst this
      simp only [E9,hqb,Nat.beq_refl,cond_true,cond_false] at hR
      have hR':V=.pointer (some ⟨(σ m).b,off,none⟩):=hR
      show V=.pointer (some ⟨(σ2 q).b,off,none⟩)
      rw [hL];exact hR'
    ·rename_i hnp
     have:E9 K n L m x=x:=by
      unfold E9
      split
      ·rename_i q off;exact (hnp q off rfl).elim
      ·rfl
     rw [this] at hR
     exact HA (σ':=σ2) (r:=.av x) hok hR
   refine (h M σ2 w args hs.imm (by rw [hK];exact ⟨FN hd0 hblk,hnil,hM⟩) (by rw [hL];exact ⟨FN hd2 hblk2,hnil2,hM2⟩) (by rw [hK,hL];exact hbne) hargs2).mono ?_
   rintro en w' ⟨U,hU,M',hk,hR,hb,hb2⟩
   rw [hK,hL] at hk
   have g1:get ([n,m].zip [b1,d1]) n=some b1:=by simp [get,CN]
   have g2:get ([n,m].zip [b1,d1]) m=some d1:=by simp [get,CN,hnm']
   refine ⟨U,hU,fun dst _=>⟨M',σ,Pq hk fun b hb => ?_,rfl,hR σ,fun q bq hq => ?_⟩⟩
   ·rcases hb with h | h
    ·exact ⟨n,by rw [g1];rfl,h⟩
    ·exact ⟨m,by rw [g2];rfl,h⟩
   ·have h1:=hb σ
    have h2:=hb2 σ
    rw [hK] at h1
    rw [hL] at h2
    by_cases e:q=n
    ·subst e;rw [g1] at hq;injection hq with hq;subst hq;exact h1
    ·by_cases e2:q=m
     ·subst e2;rw [g2] at hq;injection hq with hq;subst hq;exact h2
     ·simp [get,CN,Ne.symm e,Ne.symm e2] at hq
end
end
section
open Go.RowKit Go.MapKept
section
variable {P:Program} {rd:Option Nat} {N:Nat} {W0:World} {X:Nat→Option Loc} {M0:Nat→Option Obj} {Q:Exit→AS→Prop} {s:AS}
theorem TY {c:Code} (b:Bool) (h1:b=true->AWp P rd N W0 X M0 c Q s) (h2:b=false->AWp P rd N W0 X M0 c Q s):AWp P rd N W0 X M0 c Q s:=by
 cases hb:b with
 | true=>exact h1 hb
 | false=>exact h2 hb
def AWL (P:Program) (rd:Option Nat) (N:Nat) (W0:World) (X:Nat->Option Loc) (M0:Nat->Option Obj) (ops:Array Oper) (l:List Oper) (K:AS->Prop) (s:AS):Prop :=
 ∀ M σ a w,Sim N W0 X M0 M σ (get s.t) (get s.h) a w->∀ Q':Exit->Act->World->Prop,(∀ s' M' σ' a' w',K s'->Sim N W0 X M0 M' σ' (get s'.t) (get s'.h) a' w'->Q' .normal a' w')->wpListIn (FW rd) 0 P ops Q' l a w
theorem FH {id:Nat} {l:List Oper} (h:AWL P rd N W0 X M0 l.toArray l (Q .normal) s):AWp P rd N W0 X M0 (.region id l.toArray false) Q s:=by
 intro M σ a w hs
 exact wpIn_region_lit (h M σ a w hs _ fun s' M' σ' a' w' hk hs'=>⟨s',M',σ',hk,hs'⟩)
theorem N6 {V:Env P} (hV:JE P V) {ops:Array Oper} {Q':Exit->Act->World->Prop} (l2:List Oper):∀ (l:List Oper) (s s1:AS) (cs:List Prop),Kq P V N ops l s=some (cs,s1)->Bn cs->∀ M σ a w,Sim N W0 X M0 M σ (get s.t) (get s.h) a w->(∀ M' σ' a' w',Sim N W0 X M0 M' σ' (get s1.t) (get s1.h) a' w'->wpListIn (FW rd) 0 P ops Q' l2 a' w')->wpListIn (FW rd) 0 P ops Q' (l++l2) a w
 | [],s,s1,cs,hr,hc,M,σ,a,w,hs,hK=>by
  simp only [Kq,Option.some.injEq,Prod.mk.injEq] at hr
  obtain ⟨_,rfl⟩:=hr
  exact hK M σ a w hs
 | o::l,s,s1,cs,hr,hc,M,σ,a,w,hs,hK=>by
  simp only [Kq] at hr
  split at hr
  ·rename_i cs1 s2 h1
   split at hr
   ·rename_i ds s3 h2
    simp only [Option.some.injEq,Prod.mk.injEq] at hr
    obtain ⟨rfl,rfl⟩:=hr
    obtain ⟨hc1,hc2⟩:=hc.append
    refine wpListIn_step fun K hK' => ?_
    refine N1 hV h1 hc1 hs (fun _ _=>rfl) (fun _ _=>rfl) (fun hn d hd=>Nz h1 hn hd) fun M' σ' a' w' hs'=>hK' _ _ (N6 hV l2 l s2 s3 ds h2 hc2 M' σ' a' w' ?_ hK)
    rw [(D8 h1).1,(D8 h1).2]
    exact hs'
   ·cases hr
  ·cases hr
def Pg (P:Program) (V:Env P) (N:Nat) (ops:Array Oper) (l:List Oper) (ts hs:List Nat) (s:AS):Option (List Prop×AS):=match Kq P V N ops l s with
 | some (cs,s1)=>some (cs,Jr ts hs s1)
 | none=>none
theorem JT {E:TypeId->Option (List Kd)} (hE:IV P ⟨fun _=>none,E,fun _=>false,fun _=>none⟩) {ops:Array Oper} {l:List Oper} {K:AS->Prop} (k:Nat) (ow:List Nat) (qs:List (Nat×(Bool×Nat))) (tbl:List (Nat×FuncId×List Av×Ef)) (ts ns:List Nat) (cs:List Prop) (S:AS) (htbl:Gw P tbl)
  (hr:Pg P ⟨EY tbl,E,Au ow,get qs⟩ N ops (l.take k) ts ns s=some (cs,S)) (hc:Bn cs) (h:AWL P rd N W0 X M0 ops (l.drop k) K S):AWL P rd N W0 X M0 ops l K s:=by
 have hV:=htbl.env (O:=Au ow) (q:=get qs) hE
 intro M σ a w hs Q' hQ'
 unfold Pg at hr
 split at hr
 ·rename_i cs1 s1 h1
  simp only [Option.some.injEq,Prod.mk.injEq] at hr
  obtain ⟨rfl,rfl⟩:=hr
  have key:=N6 (Q':=Q') (rd:=rd) hV (l.drop k) (l.take k) s s1 cs1 h1 hc M σ a w hs fun M' σ' a' w' hs'=>h M' σ' a' w' (D9 hs' ts ns) Q' hQ'
  rw [List.take_append_drop] at key
  exact key
 ·cases hr
theorem HZ {E:TypeId->Option (List Kd)} (hE:IV P ⟨fun _=>none,E,fun _=>false,fun _=>none⟩) {ops:Array Oper} {l:List Oper} {K:AS->Prop} (ow:List Nat) (qs:List (Nat×(Bool×Nat))) (tbl:List (Nat×FuncId×List Av×Ef)) (ts ns:List Nat) (cs:List Prop) (S:AS) (htbl:Gw P tbl)
  (hr:Pg P ⟨EY tbl,E,Au ow,get qs⟩ N ops l ts ns s=some (cs,S)) (hc:Bn cs) (h:K S):AWL P rd N W0 X M0 ops l K s:=by
 have hV:=htbl.env (O:=Au ow) (q:=get qs) hE
 intro M σ a w hs Q' hQ'
 unfold Pg at hr
 split at hr
 ·rename_i cs1 s1 h1
  simp only [Option.some.injEq,Prod.mk.injEq] at hr
  obtain ⟨rfl,rfl⟩:=hr
  exact My (Q':=Q') (rd:=rd) hV l s s1 cs1 h1 hc M σ a w hs fun M' σ' a' w' hs'=>hQ' _ M' σ' a' w' h (D9 hs' ts ns)
 ·cases hr
theorem Z5 (n:Nat) (b b':Blk) (hn:get s.h n=some b) (hb:∀ M σ w x,Bg M σ w x b->Bg M σ w x b'):Cv N W0 X M0 s ⟨s.t,put s.h n b'⟩:=by
 intro M σ a w hs
 have hk:∀ m c,get (put s.h n b') m=some c->∃ b0,get s.h m=some b0/\(Bg M σ w (σ m) b0->Bg M σ w (σ m) c):=fun m c hm=>by
  rw [LC] at hm
  split at hm
  ·rename_i e
   subst e
   injection hm with hm
   subst hm
   exact ⟨b,hn,hb M σ w _⟩
  ·exact ⟨c,hm,id⟩
 refine ⟨M,σ,hs.os,hs.tape,hs.output,hs.size,hs.old,hs.sub,hs.new,hs.pin,hs.defers,hs.room,hs.tmps,hs.imm,fun m c hm => ?_,fun m c hm => ?_,fun m k c c' hm hk' hne => ?_⟩
 ·obtain ⟨b0,e1,e2⟩:=hk m c hm;exact e2 (hs.blk m b0 e1)
 ·obtain ⟨b0,e1,_⟩:=hk m c hm;exact hs.loc m b0 e1
 ·obtain ⟨b0,e1,_⟩:=hk m c hm;obtain ⟨b0',e1',_⟩:=hk k c' hk';exact hs.inj m k b0 b0' e1 e1' hne
def P9:Nat->List (List Cl)->List (Nat×List Cl)
 | _,[]=>[]
 | k,l::r=>(k,l)::P9 (k+1) r
theorem JI:∀ (ls:List (List Cl)) (k i:Nat),get (P9 k ls) i=if k<=i then ls[i-k]? else none
 | [],k,i=>by simp [P9,get]
 | l::r,k,i=>by
  simp only [P9,get,CN]
  by_cases h:k=i
  ·subst h;simp
  ·simp only [h,decide_false,cond_false]
   rw [JI r (k+1) i]
   by_cases h2:k<=i
   ·rw [if_pos (by omega),if_pos h2,show i-k=(i-(k+1))+1 by omega,List.getElem?_cons_succ]
   ·rw [if_neg (by omega),if_neg h2]
theorem Z2 {s:AS} (S:AS) (n sz len:Nat) (f:Nat->Nat->Cl) (ty:TypeId) (hn:get s.h n=some (.row sz len f ty)) (hl:Nat.blt 0 len=true) (hS:(⟨s.t,put s.h n (.rowx sz len (fun _ _=>default) ty (P9 0 ((List.range len).map fun i=>Fs f i 0 sz)))⟩:AS)=S):Cv N W0 X M0 s S:=by
 subst hS
 have h0:0<len:=by
  have h1:Nat.ble (0+1) len=true:=hl
  exact Nat.le_of_ble_eq_true h1
 refine Z5 n _ _ hn fun M σ w x hb => ?_
 rcases hb with ⟨_,h⟩ | ⟨e0,c,e1,e2,e3,e4,g,e5⟩
 ·omega
 refine ⟨e0,c,e1,e2,e3,e4,g,fun i j hi hj=>⟨(e5 i j hi hj).1,fun hno => ?_⟩,fun i l hl => ?_⟩
 ·rw [JI] at hno
  simp [hi] at hno
 ·rw [JI,if_pos (Nat.zero_le _),Nat.sub_zero,List.getElem?_map] at hl
  by_cases hi:i<len
  ·rw [List.getElem?_range hi] at hl
   simp only [Option.map_some,Option.some.injEq] at hl
   subst hl
   refine ⟨hi,L2.of (by simp [DR]) fun j a b ha hb => ?_⟩
   have hj:j<sz:=by have:=(List.getElem?_eq_some_iff.1 ha).1;rwa [DR] at this
   rw [Hy _ _ _ _ _ hj,Nat.zero_add] at ha
   injection ha with ha
   subst ha
   rw [List.getElem?_map,List.getElem?_range hj] at hb
   simp only [Option.map_some,Option.some.injEq] at hb
   subst hb
   exact O8 (e5 i j hi hj).2
  ·rw [List.getElem?_eq_none (by simp;omega)] at hl
   cases hl
theorem Z4 {s:AS} (S:AS) (n sz len:Nat) (f:Nat->Nat->Cl) (ty:TypeId) (ls:List (List Cl)) (hn:get s.h n=some (.rowx sz len f ty (P9 0 ls))) (hlen:Nat.beq ls.length len=true) (hsz:ls.all (fun l=>Nat.beq l.length sz&&l.all Cl.dv)=true) (hS:(⟨s.t,put s.h n (.row sz len (A8 sz len ls.flatten) ty)⟩:AS)=S):Cv N W0 X M0 s S:=by
 subst hS
 have hlen:=Nat.eq_of_beq_eq_true hlen
 refine Z5 n _ _ hn fun M σ w x hb => ?_
 obtain ⟨e0,c,e1,e2,e3,e4,g,e5,e6⟩:=hb
 refine .inr ⟨e0,c,e1,e2,e3,e4,g,fun i j hi hj=>⟨(e5 i j hi hj).1,?_⟩⟩
 have hil:i<ls.length:=by omega
 have hmem:=List.getElem_mem hil
 have hall:=(List.all_eq_true.1 hsz) _ hmem
 simp only [Bool.and_eq_true] at hall
 have hli:=Nat.eq_of_beq_eq_true hall.1
 obtain ⟨_,hL⟩:=e6 i ls[i] (by rw [JI,if_pos (Nat.zero_le _),Nat.sub_zero,List.getElem?_eq_getElem hil])
 have hflat:∀ (q:List (List Cl)) (i j:Nat) (hi:i<q.length),(∀ l∈q,l.length=sz)->j<sz->q.flatten[i*sz+j]? = q[i][j]? := by
  intro q
  induction q with
  | nil=>intro i j hi;simp at hi
  | cons l r ih =>
   intro i j hi hall hj
   have h1:=hall l (by simp)
   cases i with
   | zero=>simp [List.getElem?_append,h1,hj]
   | succ i =>
    rw [List.flatten_cons,List.getElem?_append_right (by rw [h1,Nat.add_mul];omega),h1,show (i+1)*sz+j-sz=i*sz+j by rw [Nat.add_mul];omega]
    simpa using ih i j (by simpa using hi) (fun l hl=>hall l (by simp [hl])) hj
 have hjl:j<ls[i].length:=by omega
 rw [TO _ _ _ _ _ hi,List.getD_eq_getElem?_getD,hflat ls i j hil (fun l hl=>by
  have h:=(List.all_eq_true.1 hsz) l hl
  simp only [Bool.and_eq_true] at h
  exact Nat.eq_of_beq_eq_true h.1) hj,List.getElem?_eq_getElem hjl,Option.getD_some]
 obtain ⟨v,hv,hR⟩:=hL.get j _ (List.getElem?_eq_getElem hjl)
 rw [List.getElem?_map,List.getElem?_range hj] at hv
 simp only [Option.map_some,Option.some.injEq] at hv
 subst hv
 exact LK ((List.all_eq_true.1 hall.2) _ (List.getElem_mem hjl)) hR
end
end
section
open Go.RowKit Go.MapKept
def PK (is:List Nat):Nat->List Cl->List Cl->List Cl
 | k,x::a,y::b=>(bif Au is k then x else y)::PK is (k+1) a b
 | _,_,_=>[]
def UB (is:List Nat) (vs:Nat->Value):Nat->List Cl->List Cl
 | k,y::b=>(bif Au is k then .val (vs k) else y)::UB is vs (k+1) b
 | _,[]=>[]
section
variable {P:Program} {M M':Nat→Option Obj} {σ σ':Nat→Loc} {w w':World}
theorem VP (is:List Nat) (vs:Nat->Value):∀ (k:Nat) (l l0:List Cl) (c:List Value),l=PK is k l l0->l.length=l0.length->(∀ j,j<c.length->vs (k+j)=c.getD j undef)->(∀ x∈l0,x.dv=true\/True)->L2 (R M σ) l c->L2 (R M σ) (UB is vs k l0) c
 | k,[],[],c,_,_,_,_,h=>by cases h;exact .nil
 | k,[],_::_,c,_,hl,_,_,h=>by simp at hl
 | k,_::_,[],c,_,hl,_,_,h=>by simp at hl
 | k,x::l,y::l0,c,he,hl,hv,hd,h=>by
  cases h with
  | cons h1 h2 =>
   rename_i v c
   simp only [PK,List.cons.injEq] at he
   refine .cons ?_ (VP is vs (k+1) l l0 c he.2 (by simpa using hl) (fun j hj=>by
    have:=hv (j+1) (by simp;omega)
    rw [show k+1+j=k+(j+1) by omega,this];rfl) (fun x hx=>.inr trivial) h2)
   cases hm:Au is k with
   | true =>
    have:=hv 0 (by simp)
    simp only [cond_true]
    exact ⟨by rw [show k=k+0 from rfl,this];rfl,by rw [show k=k+0 from rfl,this];exact O5 h1⟩
   | false =>
    rw [hm] at he
    simp only [cond_false] at he ⊢
    rw [<- he.1];exact h1
theorem SC (is:List Nat) (vs:Nat->Value) (hM:∀ b o,M b=some o->M' b=some o):∀ (k:Nat) (l l1:List Cl) (c c':List Value),l.length=l1.length->(∀ j,j<c.length->vs (k+j)=c.getD j undef)->L2 (R M σ) l c->L2 (R M' σ) (UB is vs k l1) c'->L2 (R M' σ) (PK is k l l1) c'
 | k,[],[],c,c',_,_,_,h=>by cases h;exact .nil
 | k,[],_::_,c,c',hl,_,_,h=>by simp at hl
 | k,_::_,[],c,c',hl,_,_,h=>by simp at hl
 | k,x::l,y::l1,c,c',hl,hv,h0,h=>by
  cases h0 with
  | cons h1 h2 =>
   rename_i v c
   simp only [UB] at h
   cases h with
   | cons h3 h4 =>
    simp only [PK]
    refine .cons ?_ (SC is vs hM (k+1) l l1 c _ (by simpa using hl) (fun j hj=>by
     have:=hv (j+1) (by simp;omega)
     rw [show k+1+j=k+(j+1) by omega,this];rfl) h2 h4)
    cases hm:Au is k with
    | true =>
     rw [hm] at h3
     have h5:=h3.1
     have h6:=hv 0 (by simp)
     rw [h5,show k=k+0 from rfl,h6]
     exact DS hM (fun _ _=>rfl) h1
    | false=>rw [hm] at h3;exact h3
theorem bB {hh:Nat->Option Blk} {f:FuncId} {K L n m:Nat} {xs:List Av} {args:List Value} {b d b0 d0 b1 d1:Blk} {r:Tv} (hx:xs.all (N8 K L)=true) (hKL:Nat.beq K L=false) (hnm':n≠m) (hs:Std M σ w hh) (hn:hh n=some b) (hm:hh m=some d) (hnil:(σ n).nil=false) (hnil2:(σ m).nil=false) (hblk:∀ σ',(∀ q,q≠K->q≠L->σ' q=σ q)->Bg M σ' w (σ n) b0) (hblk2:∀ σ',Bg M σ' w (σ m) d0)
  (hargs:L2 (RA M σ) (xs.map (E9 K n L m)) args) (h:Wr2 P f K L xs b0 d0 r b1 d1):Calls P f args.toArray w (fun en w'=>∃ U,en=.returned U/\∃ M',Gi w w' M M' (fun b=>only (σ n) b\/only (σ m) b)/\(∀ σ',RT M' σ' r U)/\(∀ σ',Bg M' σ' w' (σ n) b1)/\∀ σ',Bg M' σ' w' (σ m) d1):=by
 have hne:K≠L:=fun e=>by rw [e,Nat.beq_refl] at hKL;cases hKL
 have hM:M (σ n).b=none:=by
  rcases hs.loc n _ hn with h | h
  ·rw [hnil] at h;cases h
  ·exact h
 have hM2:M (σ m).b=none:=by
  rcases hs.loc m _ hm with h | h
  ·rw [hnil2] at h;cases h
  ·exact h
 have hbne:(σ n).b≠(σ m).b:=by
  rcases hs.inj n m _ _ hn hm hnm' with h | h | h
  ·rw [hnil] at h;cases h
  ·rw [hnil2] at h;cases h
  ·exact h
 let σ2:Nat->Loc:=upd (upd σ K (σ n)) L (σ m)
 have hL:σ2 L=σ m:=BG _ _ _
 have hK:σ2 K=σ n:=by
  show upd _ L _ K=_
  rw [CQ _ _ hne];exact BG _ _ _
 have hrest:∀ q,q≠K->q≠L->σ2 q=σ q:=fun q h1 h2=>by
  show upd _ L _ q=_
  rw [CQ _ _ h2,CQ _ _ h1]
 have hargs2:L2 (RA M σ2) xs args:=by
  refine L2.of (by have:=hargs.length;simpa using this) fun i x V hxi hV => ?_
  obtain ⟨V',hV',hR⟩:=hargs.get i (E9 K n L m x) (by rw [List.getElem?_map,hxi];rfl)
  rw [hV] at hV';injection hV' with hV';subst hV'
  have hok:=(List.all_eq_true.1 hx) x (List.mem_of_getElem? hxi)
  unfold N8 at hok
  split at hok
  ·rename_i q off
   by_cases hq:q=K
   ·subst hq
    simp only [E9,Nat.beq_refl,cond_true] at hR
    have hR':V=.pointer (some ⟨(σ n).b,off,none⟩):=hR
    show V=.pointer (some ⟨(σ2 q).b,off,none⟩)
    rw [hK];exact hR'
   ·have hqb:Nat.beq q K=false:=by
     cases hb:Nat.beq q K with
     | false=>rfl
     | true=>exact absurd (Nat.eq_of_beq_eq_true hb) hq
    rw [hqb] at hok
    have:=Nat.eq_of_beq_eq_true hok
    subst this
    simp only [E9,hqb,Nat.beq_refl,cond_true,cond_false] at hR
    have hR':V=.pointer (some ⟨(σ m).b,off,none⟩):=hR
    show V=.pointer (some ⟨(σ2 q).b,off,none⟩)
    rw [hL];exact hR'
  ·rename_i hnp
   have:E9 K n L m x=x:=by
    unfold E9
    split
    ·rename_i q off;exact (hnp q off rfl).elim
    ·rfl
   rw [this] at hR
   exact HA (σ':=σ2) (r:=.av x) hok hR
 refine (h M σ2 w args hs.imm (by rw [hK];exact ⟨hblk σ2 hrest,hnil,hM⟩) (by rw [hL];exact ⟨hblk2 σ2,hnil2,hM2⟩) (by rw [hK,hL];exact hbne) hargs2).mono ?_
 rintro en w' ⟨U,hU,M',hk,hR,hb,hb2⟩
 rw [hK,hL] at hk
 refine ⟨U,hU,M',hk,hR,fun σ' => ?_,fun σ' => ?_⟩
 ·have:=hb σ';rw [hK] at this;exact this
 ·have:=hb2 σ';rw [hL] at this;exact this
def wqV (n m:Nat) (is:List Nat) (l0:List Cl) (ty:TypeId) (d0:Blk) (r:Tv) (d1:Blk):Ef:=.wq m n fun y x=>match x with
 | .cells l ty'=>bif Nat.beq l.length l0.length then some ([Blk.cells l ty'=.cells (PK is 0 l l0) ty,y=d0],r,d1) else none
 | _=>none
theorem IA {f:FuncId} {K L n m:Nat} {xs:List Av} {is:List Nat} {l0:List Cl} {ty:TypeId} {d0 d1:Blk} {r:Tv} {B0:(Nat->Value)->List Cl} (h1:∀ args w,(callFunc f args).run P w=.ok (.enter f args) w) (hx:xs.all (N8 K L)=true) (hKL:Nat.beq K L=false) (hnm:Nat.beq n m=false) (hd2:Jw d0=true) (hdl:∀ vs,(UB is vs 0 l0).all Cl.dv=true)
  (e0:∀ vs,UB is vs 0 l0=B0 vs) (h:∀ vs,Wr2 P f K L xs (.cells (B0 vs) ty) d0 r (.cells (B0 vs) ty) d1):Aq P f (xs.map (E9 K n L m)) (wqV n m is l0 ty d0 r d1):=by
 have hnm':n≠m:=fun e=>by rw [e,Nat.beq_refl] at hnm;cases hnm
 refine .inl ⟨h1,fun M σ w hh args cs' g hs hargs hres hc => ?_⟩
 simp only [wqV,res] at hres
 cases hm:hh m with
 | none=>rw [hm] at hres;cases hres
 | some d =>
  cases hn:hh n with
  | none=>rw [hn,hm] at hres;cases hres
  | some b =>
   rw [hn,hm] at hres
   cases b with
   | row=>simp at hres
   | omap=>simp at hres
   | rowx=>simp at hres
   | cells l ty' =>
    simp only at hres
    cases hlen:Nat.beq l.length l0.length with
    | false=>rw [hlen] at hres;simp at hres
    | true =>
     have hmn:Nat.beq m n=false:=by
      cases hb:Nat.beq m n with
      | false=>rfl
      | true=>exact absurd (Nat.eq_of_beq_eq_true hb).symm hnm'
     rw [hlen,hmn] at hres
     simp only [cond_true,Option.some.injEq,Prod.mk.injEq] at hres
     obtain ⟨rfl,rfl⟩:=hres
     have hlen0:=Nat.eq_of_beq_eq_true hlen
     have hbd:=hc.head
     have hdd:=hc.tail.head
     subst hdd
     injection hbd with hl hty
     subst hty
     obtain ⟨hnil,c,hheap,hL⟩:=hs.blk n _ hn
     have hblk2:=hs.blk m _ hm
     have hnil2:(σ m).nil=false:=by
      cases d with
      | row=>cases hd2
      | omap=>cases hd2
      | rowx=>cases hd2
      | cells l ty=>exact hblk2.1
     let vs:Nat->Value:=fun k=>c.getD k undef
     have hvs:∀ j,j<c.length->vs (0+j)=c.getD j undef:=fun j _=>by simp only [vs,Nat.zero_add]
     have hin:L2 (R M σ) (UB is vs 0 l0) c:=VP is vs 0 l l0 c hl hlen0 hvs (fun _ _=>.inr trivial) hL
     have hcall:=bB (b0:=Blk.cells (B0 vs) ty') (b1:=Blk.cells (B0 vs) ty') hx hKL hnm' hs hn hm hnil hnil2 (fun σ' _=>⟨hnil,c,hheap,by rw [<- e0 vs];exact hin.mono fun a ha v hv=>(IR ((List.all_eq_true.1 (hdl vs)) a ha)).2 ((IR ((List.all_eq_true.1 (hdl vs)) a ha)).1 hv)⟩) (fun σ'=>FN hd2 hblk2) hargs (h vs)
     refine hcall.mono ?_
     rintro en w' ⟨U,hU,M',hk,hR,hb,hb2⟩
     refine ⟨U,hU,fun dst _=>⟨M',σ,Pq hk fun b hb=>hb.symm,rfl,hR σ,hb2 σ,?_⟩⟩
     obtain ⟨k1,c',k2,k3⟩:=hb σ
     refine ⟨k1,c',k2,?_⟩
     rw [<- e0 vs] at k3
     have k4:=SC is vs hk.sub 0 l l0 c c' hlen0 hvs hL k3
     rw [<- hl] at k4
     exact k4
end
end
section
open Go.RowKit Go.MapKept
def fJ (P:Program) (V:Env P) (N:Nat) (o:Oper) (G:Prop) (s:AS):Option (List Prop×AS):=match eff P V o.dst o.op (evG (get s.t) (GK o.op)) with
 | some e=>match res (get s.h) e with
  | some (cs,g)=>bif Hu N s o.dst g then some (Jo (get s.t) G (GK o.op)++cs,S9 s o.dst g) else none
  | none=>none
 | none=>none
section
variable {P:Program} {rd:Option Nat} {N:Nat} {W0:World} {X:Nat→Option Loc} {M0:Nat→Option Obj} {s:AS}
theorem O0 {E:TypeId->Option (List Kd)} (hE:IV P ⟨fun _=>none,E,fun _=>false,fun _=>none⟩) {ops:Array Oper} {o:Oper} {l:List Oper} {K:AS->Prop} (j:Nat) (want:Bool) (G:Prop) (qs:List (Nat×(Bool×Nat))) (tbl:List (Nat×FuncId×List Av×Ef)) (cs:List Prop) (S:AS) (hg:o.guard=some (j,want)) (hG:G7 (get s.t) ops j want=some G) (hGp:G) (htbl:Gw P tbl)
  (hst:fJ P ⟨EY tbl,E,Au [],get qs⟩ N o G s=some (cs,S)) (hc:Bn cs) (h:AWL P rd N W0 X M0 ops l K S):AWL P rd N W0 X M0 ops (o::l) K s:=by
 have hV:=htbl.env (O:=Au []) (q:=get qs) hE
 intro M σ a w hs Q' hQ'
 refine wpListIn_step fun K0 hK' => ?_
 rw [if_pos ((Fz hs.tmps hs.room hg hG).2 hGp)]
 unfold fJ at hst
 split at hst
 ·rename_i e he
  split at hst
  ·rename_i cs' g hr
   cases hok:Hu N s o.dst g with
   | false=>rw [hok] at hst;cases hst
   | true =>
    rw [hok] at hst
    simp only [cond_true,Option.some.injEq,Prod.mk.injEq] at hst
    obtain ⟨rfl,rfl⟩:=hst
    obtain ⟨hc1,hc2⟩:=hc.append
    have hgo0:=LA hok (fun n v b hg=>by subst hg;exact UE hr) (fun l v hg=>by subst hg;exact Qw hr) (fun n q v b bq hg=>by subst hg;exact UF hr) (fun n b v hg=>by subst hg;exact Qx hr)
    refine (Ux hV (fun x v hv=>Zv hGp hc1 hs.tmps hv) he hs.std hr hc2 (V8 hgo0)).wp ?_ (fun c hc=>by rw [hc] at he;cases he)
    rintro U w' ⟨M',σ',ho⟩
    have hsim:=N3 hs ho hgo0
    rw [<- (GT s o.dst g).1,<- (GT s o.dst g).2] at hsim
    exact hK' _ _ (h M' σ' _ w' hsim Q' hQ')
  ·cases hst
 ·cases hst
theorem O1 {ops:Array Oper} {o:Oper} {l:List Oper} {K:AS->Prop} (j:Nat) (want:Bool) (G:Prop) (S:AS) (hg:o.guard=some (j,want)) (hG:G7 (get s.t) ops j want=some G) (hGn:¬ G) (hok:Hu N s o.dst (.val (.av (.one (.val (.bool false)))))=true) (hS:Ms s o.dst (.grd G (.one (.val (.bool false))))=S)
  (h:AWL P rd N W0 X M0 ops l K S):AWL P rd N W0 X M0 ops (o::l) K s:=by
 subst hS
 intro M σ a w hs Q' hQ'
 refine wpListIn_step fun K0 hK' => ?_
 rw [if_neg (fun h=>hGn ((Fz hs.tmps hs.room hg hG).1 h))]
 refine ⟨fun _ _=>trivial,?_⟩
 have hgo0:=LA hok (fun n v b hg=>by cases hg) (fun l v hg=>by cases hg) (fun n q v b bq hg=>by cases hg) (fun n b v hg=>by cases hg)
 have hsim:=N3 hs (g:=.val (.grd G (.one (.val (.bool false))))) (V:=undef) (w':=w) (M':=M) (σ':=σ) ⟨Gi.refl hs.imm _,rfl,fun h=>absurd h hGn,fun _=>rfl⟩ ⟨hgo0.1,trivial⟩
 rw [<- (GT s o.dst _).1,<- (GT s o.dst _).2] at hsim
 exact hK' _ _ (h M σ _ w hsim Q' hQ')
end
end
section
open Go.RowKit
def BkN:Blk->Prop
 | .cells l _=>∀ c∈l,NM c
 | .row _ _ f _=>∀ i j,NM (f i j)
 | .omap _ _ _ _ vf=>∀ i j,NM (vf i j)
 | .rowx .. => False
theorem VH {M M':Nat->Option Obj} (h:∀ b c t f,M b=some (.cells c t f)->M' b=some (.cells c t f)) {σ:Nat->Loc} {w:World} {x:Loc} {b:Blk} (hr:Bg M σ w x b) (hn:BkN b):Bg M' σ w x b:=by
 cases b with
 | cells l ty =>
  obtain ⟨h0,c,hc,hl⟩:=hr
  exact ⟨h0,c,hc,hl.mono fun a ha b hb=>Ta h hb (hn a ha)⟩
 | row sz len f ty =>
  rcases hr with hr | ⟨h0,c,hc,h1,h2,h3,g,hg⟩
  ·exact .inl hr
  ·exact .inr ⟨h0,c,hc,h1,h2,h3,g,fun i j hi hj=>⟨(hg i j hi hj).1,O7 h (hg i j hi hj).2 (hn i j)⟩⟩
 | omap agg nv len kf vf =>
  obtain ⟨h0,es,ck,g,hc,h1,h2,h3⟩:=hr
  exact ⟨h0,es,ck,g,hc,h1,h2,fun i j hi hj=>O7 h (h3 i j hi hj) (hn i j)⟩
 | rowx=>exact hn.elim
def Blk.isP:Blk->Bool
 | .cells .. => true
 | .omap .. => true
 | _=>false
def Blk.isR:Blk->Bool
 | .row .. => true
 | _=>false
def slV:Value->Bool
 | .slice (some _) _ _=>true
 | _=>false
def RH (o:Obj) (k:Nat):Option Value:=match o with
 | .cells c _ _=>c[k]?
 | _=>none
def IP (bq off:Nat) (W:World) (b:Nat):Prop:=∃ o len cap,W.heap[bq]? = some o/\RH o off=some (.slice (some ⟨b,0,none⟩) len cap)
def Od (q off r:Nat) (h:List (Nat×Blk)):Bool:=match get h q with
 | some (.cells l _)=>(match get h r with
  | some (.row ..)=>(match l[off]? with
   | some (.own r' _ _)=>Nat.beq r' r
   | _=>false)
  | none=>(match l[off]? with
   | none=>true
   | some (.val v) => !slV v
   | some (.ptr ..)=>true
   | _=>false)
  | _=>false)
 | _=>false
def PXr (pids:List Nat) (r:Nat) (G:Prop) (X:Nat->Option Loc):Prop:=∀ m x,X m=some x->(∃ q,Au pids q=true/\∃ y,X q=some y/\y.b=x.b)\/(m=r/\G/\x.nil=false)
section
variable {N:Nat} {W0 W W':World} {X XA:Nat→Option Loc} {M0 M M' M3:Nat→Option Obj} {σ σ' σ3:Nat→Loc} {T T':Nat→Option Tv} {H H':Nat→Option Blk} {a a':Act} {h:List (Nat×Blk)} {q off r:Nat}
theorem RZ (hs:Sim N W0 X M0 M σ T (get h) a W) (hb:Od q off r h=true) {b:Nat} (hh:IP (σ q).b off W b):(∃ x,get h r=some x)/\(σ r).nil=false/\(σ r).b=b:=by
 unfold Od at hb
 cases hq:get h q with
 | none=>rw [hq] at hb;cases hb
 | some bq =>
  rw [hq] at hb
  cases bq with
  | cells l ty =>
   obtain ⟨hn,c,hc,hl⟩:=hs.blk q _ hq
   obtain ⟨o,len,cap,ho,hcell⟩:=hh
   rw [hc] at ho;injection ho with ho;subst ho
   have hcl:c[off]? = some (.slice (some ⟨b,0,none⟩) len cap):=by simpa [RH] using hcell
   have hoff:off<l.length:=by rw [hl.length];exact (List.getElem?_eq_some_iff.1 hcl).1
   have hcl2:l[off]? = some l[off]:=List.getElem?_eq_getElem hoff
   obtain ⟨v,hv,hR⟩:=hl.get off _ hcl2
   rw [hcl] at hv;injection hv with hv;subst hv
   generalize l[off]=cl at hcl2 hR
   cases hr:get h r with
   | none =>
    simp only [hr,hcl2] at hb
    exfalso
    cases cl with
    | val u =>
     obtain ⟨h1,_⟩:=hR
     subst h1
     simp [slV] at hb
    | ptr n o=>cases hR
    | _=>cases hb
   | some br =>
    simp only [hr,hcl2] at hb
    cases br with
    | row sz len' f ty' =>
     cases cl with
     | own r' sz' len'' =>
      have:=Nat.eq_of_beq_eq_true hb
      subst this
      unfold R at hR
      split at hR
      ·cases hR.2
      ·rename_i hnil
       injection hR with h1
       injection h1 with h1
       injection h1 with h1
       exact ⟨⟨_,rfl⟩,by simpa using hnil,h1.symm⟩
     | _=>cases hb
    | _=>cases hb
  | _=>cases hb
theorem S8 (hs:Sim N W0 X M0 M σ T (get h) a W) (hb:Od q off r h=true) {x:Blk} (hr:get h r=some x) (hn:(σ r).nil=false):IP (σ q).b off W (σ r).b:=by
 unfold Od at hb
 cases hq:get h q with
 | none=>rw [hq] at hb;cases hb
 | some bq =>
  rw [hq] at hb
  cases bq with
  | cells l ty =>
   obtain ⟨_,c,hc,hl⟩:=hs.blk q _ hq
   simp only [hr] at hb
   cases x with
   | row sz len' f ty' =>
    cases hcl:l[off]? with
    | none=>simp only [hcl] at hb;cases hb
    | some cl =>
     simp only [hcl] at hb
     cases cl with
     | own r' sz' len'' =>
      have:=Nat.eq_of_beq_eq_true hb
      subst this
      obtain ⟨v,hv,hR⟩:=hl.get off _ hcl
      unfold R at hR
      rw [hn] at hR
      exact ⟨_,len'',(σ r').cap,hc,by simp only [RH,List.getElem?_toArray];rw [hv];exact congrArg some hR⟩
     | _=>cases hb
   | _=>cases hb
  | _=>cases hb
section
 open Go.Proofs.YtdbampcfmjbgmaaGreat renaming VH→mp0
theorem YP {Xr X2:Nat->Option Loc} (hs:Sim N W0 XA M0 M' σ' T H a W) (hr:Sim N W Xr M' M3 σ3 T' H' a' W') (hin:∀ b,inX Xr b->inX XA b\/W0.heap.size<=b)
  {H2:Nat->Option Blk} (hH2:∀ n b,H2 n=some b->H' n=some b) (hH:∀ n b,H2 n=some b->BkN b) {a2:Act} {T2:Nat->Option Tv} (hsz:a2.tmps.size=N) (hT2:∀ i v,T2 i=some v->RT (H6 M' M3) σ3 v (a2.tmps.getD i undef)) (hX2:∀ n x,X2 n=some x->N<=n/\σ3 n=x) (hX3:∀ b,inX XA b↔inX X2 b) (hd:Gz X2 M0 (H6 M' M3) a2.defers) :
  Sim N W0 X2 M0 (H6 M' M3) σ3 T2 H2 a2 W':=mac0
end
theorem T8 (hs:Sim N W0 X M0 M σ T H a W) {row:Option Nat} (hH:∀ n b,H n=some b->b.isM=true->∀ r,row=some r->(σ n).b<r) (hg:W.grownBy W' row) (hr:∀ r,row=some r->W0.heap.size<=r/\(∃ o:Obj,W.heap[r]? = some o/\o.isCells=false)/\M r=none):Sim N W0 X M0 M σ T H a W':=by
 have hsame:∀ b (o:Obj),W.heap[b]? = some o->(o.isCells=true\/M b=some o\/b<W0.heap.size)->W'.heap[b]? = some o:=fun b o hb hc=>by
  refine (hg.block b (Array.getElem?_eq_some_iff.1 hb).1 fun e => ?_).trans hb
  obtain ⟨h1,⟨o',h2,h3⟩,h4⟩:=hr b e.symm
  rw [hb] at h2;injection h2 with h2;subst h2
  rcases hc with h | h | h
  ·rw [h3] at h;cases h
  ·rw [h4] at h;cases h
  ·omega
 refine ⟨hg.os.trans hs.os,hg.tape.trans hs.tape,hg.output.trans hs.output,Nat.le_trans hs.size hg.size,fun b hb hx => ?_,hs.sub,hs.new,hs.pin,hs.defers,hs.room,hs.tmps,fun b o h=>hsame b o (hs.imm b o h) (.inr (.inl h)),fun n b h => ?_,hs.loc,hs.inj⟩
 ·have h1:=hs.old b hb hx
  have h2:W0.heap[b]? = some W0.heap[b]:=Array.getElem?_eq_getElem hb
  rw [h2] at h1 ⊢
  exact hsame b _ h1 (.inr (.inr hb))
 ·refine (hs.blk n b h).mono (fun _ _ h=>h) (fun _ _=>rfl) fun hn => ?_
  have hb:=hs.blk n b h
  cases b with
  | cells l ty=>obtain ⟨_,c,hc,_⟩:=hb;rw [hc];exact hsame _ _ hc (.inl rfl)
  | row sz len f ty =>
   rcases hb with ⟨h0,_⟩ | ⟨_,c,hc,_⟩
   ·rw [hn] at h0;cases h0
   ·rw [hc];exact hsame _ _ hc (.inl rfl)
  | omap =>
   obtain ⟨_,es,ck,g,hc,_⟩:=hb
   exact hg.block _ (Array.getElem?_eq_some_iff.1 hc).1 fun e=>by have:=hH n _ h rfl _ e.symm;omega
  | rowx sz len f ty hh=>obtain ⟨_,c,hc,_⟩:=hb;rw [hc];exact hsame _ _ hc (.inl rfl)
theorem Pf {fid:Nat} {XB:Nat->Option Loc} {σ2:Nat->Loc} (hs:Sim N W0 XA M0 M' σ' T H a W) {a2:Act} (hd:a2.defers=[]) (hr:a2.tmps.size=N) (hpin:∀ n x,XB n=some x->N<=n/\σ2 n=x) (hσ:∀ n,n≠fid->σ2 n=σ' n)
  (hT:∀ i v,T' i=some v->RT M' σ' v (a2.tmps.getD i undef)/\v.no fid=true) (hHf:∀ n b,H n=some b->n≠fid/\b.no fid=true/\((σ' n).nil=true\/inX XB (σ' n).b)):Sim N W XB M' M' σ2 T' H a2 W:=by
 refine ⟨rfl,rfl,rfl,Nat.le_refl _,fun _ _ _=>rfl,fun _ _ h=>h,fun b o h h'=>by (rw [h] at h';cases h'),hpin,⟨by rw [hd];trivial,fun _=>hd⟩,hr,fun i v hv=>Da (fun _ _ h=>h) (fun d hd=>hσ d fun e => ?_) (hT i v hv).1,hs.imm,fun n b hb => ?_,fun n b hb => ?_,fun n m b c hb hc hne => ?_⟩
 ·subst e;rw [(hT i v hv).2] at hd;cases hd
 ·obtain ⟨h1,h2,h3⟩:=hHf n b hb
  rw [hσ n h1]
  exact (hs.blk n b hb).mono (fun _ _ h=>h) (fun d hd=>hσ d fun e=>by subst e;rw [h2] at hd;cases hd) (fun _=>rfl)
 ·obtain ⟨h1,h2,h3⟩:=hHf n b hb
  rw [hσ n h1]
  rcases hs.loc n b hb with h4 | h4
  ·exact .inl h4
  ·exact h3.imp id fun h=>⟨h4.1,.inr h⟩
 ·rw [hσ n (hHf n b hb).1,hσ m (hHf m c hc).1]
  exact hs.inj n m b c hb hc hne
end
end
section
open Go.RowKit
def VV (N:Nat) (pids:List Nat) (fid q r:Nat) (t0:List (Nat×Tv)) (ps:Array Tmp):Bool :=
 t0.all (fun p=>pvT pids p.2)&&(pids.all (fun m=>Nat.ble N m)&&(!Au pids fid&&(!Au pids r&&(!Nat.beq r fid&&(Nat.ble N fid&&(Nat.ble N r&&(Au pids q&&ps.toList.all (fun p=>Nat.blt p N))))))))
def famB (pids:List Nat) (fid q off r:Nat) (h:List (Nat×Blk)):Bool :=
 h.all (fun p=>(Au pids p.1&&p.2.isP||Nat.beq p.1 r&&p.2.isR)&&p.2.no fid)&&(pids.all (fun m=>(get h m).isSome)&&Od q off r h)
def HsN (h:List (Nat×Blk)):Prop:=∀ n b,get h n=some b->BkN b
theorem TX {l:List Cl} {ty:TypeId} (h:∀ c∈l,NM c):BkN (.cells l ty):=h
theorem bkN_r {α:Type} [Inhabited α] {sz len:Nat} {c:α->List Cl} {xs:List α} {ty:TypeId} (h:∀ x,∀ y∈c x,NM y):BkN (.row sz len (Ak c xs) ty):=fun i j=>by
 unfold Ak
 rw [List.getD_eq_getElem?_getD]
 cases hj:(c (xs.getD i default))[j]? with
 | none=>exact .val _
 | some y=>exact h _ y (List.mem_of_getElem? hj)
theorem gH {κ α:Type} [Inhabited κ] [Inhabited α] {agg:Bool} {nv len:Nat} {kf:Nat->Value} {c:α->List Cl} {xs:List (κ×α)} (h:∀ x,∀ y∈c x,NM y):BkN (.omap agg nv len kf (vfG c xs)):=fun i j=>by
 unfold vfG
 rw [List.getD_eq_getElem?_getD]
 cases hj:(c (xs.getD i default).2)[j]? with
 | none=>exact .val _
 | some y=>exact h _ y (List.mem_of_getElem? hj)
def aP (pids:List Nat) (n r:Nat) (s:AS):Bool := !Nat.beq r n&&pids.all fun q => !Nat.beq q n&&match get s.h q with | some (.cells ..)=>true | some (.omap ..)=>true | _=>false
section
variable {P:Program} {N:Nat} {W0:World} {X:Nat→Option Loc} {M0:Nat→Option Obj} {s:AS}
theorem Oo (S:AS) (n:Nat) (l:List Cl) (ty:TypeId) (pids:List Nat) (r:Nat) {G:Prop} (hX:PXr pids r G X) (hK:aP pids n r s=true) (hG:G->∃ b,get s.h r=some b) (hn:get s.h n=some (.cells l ty)) (hdv:l.all Cl.dv=true) (hS:fxS n l s=S):Cv N W0 X M0 s S:=by
 subst hS
 intro M σ a w hs
 simp only [aP,Bool.and_eq_true,Bool.not_eq_true'] at hK
 obtain ⟨hrn,hK⟩:=hK
 obtain ⟨M',h1⟩:=Qv n l ty (fun hnil=>by
  rintro ⟨m,x,h1,h2⟩
  have key:∀ q y bk,q≠n->X q=some y->y.b=x.b->(σ q).nil=false->get s.h q=some bk->False:=fun q y bk hqn hy hyx h4 hb=>by
   have h5:=(hs.pin q y hy).2
   rcases hs.inj q n _ _ hb hn hqn with h6 | h6 | h6
   ·rw [h4] at h6;cases h6
   ·rw [hnil] at h6;cases h6
   ·exact h6 (by rw [h5,hyx,h2])
  rcases hX m x h1 with ⟨q,hq,y,hy,hyx⟩ | ⟨rfl,hg,hxn⟩
  ·have h3:=List.all_eq_true.1 hK q (RN hq)
   simp only [Bool.and_eq_true,Bool.not_eq_true'] at h3
   have hqn:q≠n:=fun e=>by have:=h3.1;rw [e,Nat.beq_refl] at this;cases this
   cases hb:get s.h q with
   | none=>rw [hb] at h3;cases h3.2
   | some bk =>
    rw [hb] at h3
    refine key q y bk hqn hy hyx ?_ hb
    have h4:=hs.blk q _ hb
    cases bk with
    | row=>cases h3.2
    | rowx=>cases h3.2
    | omap=>exact h4.1
    | cells lq tq=>exact h4.1
  ·obtain ⟨bk,hb⟩:=hG hg
   refine key m x bk (fun e=>by rw [e,Nat.beq_refl] at hrn;cases hrn) h1 rfl ?_ hb
   rw [(hs.pin m x h1).2];exact hxn) hn hdv hs
 exact ⟨M',σ,h1⟩
end
end
section
open Go.RowKit
theorem Vq:Tryz.prog.follows .mixedOrders=true:=by kernel_rfl
structure AB where
 X:Int
 Y:Int
 deriving Inhabited
def AB.c (x:AB):List Cl:=[.i x.X,.i x.Y]
structure Ab where
 At:AB
 Turn:Int
 Mirror:Bool
 deriving Inhabited
def Ab.c (x:Ab):List Cl:=[.i x.At.X,.i x.At.Y,.i x.Turn,.b x.Mirror]
structure AE where
 Kind:Int
 A:AB
 B:AB
 C:AB
 deriving Inhabited
def AE.c (x:AE):List Cl:=[.i x.Kind,.i x.A.X,.i x.A.Y,.i x.B.X,.i x.B.Y,.i x.C.X,.i x.C.Y]
structure An where
 X0:Int
 Y0:Int
 X1:Int
 Y1:Int
 deriving Inhabited
def An.c (x:An):List Cl:=[.i x.X0,.i x.Y0,.i x.X1,.i x.Y1]
structure AD where
 L:(List Int)
 At:Int
 deriving Inhabited
def AD.c (x:AD):List Cl:=[lst 1 (fun x=>[.i x]) x.L,.i x.At]
structure OpL where
 len:Nat
 f:Nat->Nat->Cl
 deriving Inhabited
abbrev opL (x:OpL):Cl:=.list false 8 x.len x.f
structure Ac where
 Ref:ByteArray
 Pad:ByteArray
 deriving Inhabited
def Ac.c (x:Ac):List Cl:=[.s x.Ref,.s x.Pad]
structure BO where
 Name:ByteArray
 Pins:(List Ac)
 deriving Inhabited
def BO.c (x:BO):List Cl:=[.s x.Name,lst 2 Ac.c x.Pins]
structure AG where
 Id:Int
 Ref:ByteArray
 Type':ByteArray
 At:AB
 Turn:Int
 Under:Bool
 deriving Inhabited
def AG.c (x:AG):List Cl:=[.i x.Id,.s x.Ref,.s x.Type',.i x.At.X,.i x.At.Y,.i x.Turn,.b x.Under]
structure AW where
 Kind:Int
 Edges:(List AE)
 R:Int
 deriving Inhabited
def AW.c (x:AW):List Cl:=[.i x.Kind,lst 7 AE.c x.Edges,.i x.R]
structure Ay where
 Name:ByteArray
 Shape:AW
 At:AB
 Drill:Int
 deriving Inhabited
def Ay.c (x:Ay):List Cl:=[.s x.Name,.i x.Shape.Kind,lst 7 AE.c x.Shape.Edges,.i x.Shape.R,.i x.At.X,.i x.At.Y,.i x.Drill]
structure Bd where
 Pad:ByteArray
 Group:Int
 deriving Inhabited
def Bd.c (x:Bd):List Cl:=[.s x.Pad,.i x.Group]
structure A0 where
 Kind:Int
 Legs:(List Bd)
 deriving Inhabited
def A0.c (x:A0):List Cl:=[.i x.Kind,lst 2 Bd.c x.Legs]
structure AL where
 Name:ByteArray
 Pads:(List Ay)
 Gates:(List A0)
 deriving Inhabited
def AL.c (x:AL):List Cl:=[.s x.Name,lst 7 Ay.c x.Pads,lst 2 A0.c x.Gates]
structure Az where
 Id:Int
 Net:ByteArray
 Layer:Int
 Shape:AW
 deriving Inhabited
def Az.c (x:Az):List Cl:=[.i x.Id,.s x.Net,.i x.Layer,.i x.Shape.Kind,lst 7 AE.c x.Shape.Edges,.i x.Shape.R]
structure CG where
 Id:Int
 Net:ByteArray
 At:AB
 R:Int
 Drill:Int
 From:Int
 To:Int
 deriving Inhabited
def CG.c (x:CG):List Cl:=[.i x.Id,.s x.Net,.i x.At.X,.i x.At.Y,.i x.R,.i x.Drill,.i x.From,.i x.To]
structure Bk where
 Id:Int
 Net:ByteArray
 Layer:Int
 Pitch:Int
 Priority:Int
 Relief:Int
 Spoke:Int
 Rects:(List An)
 deriving Inhabited
def Bk.c (x:Bk):List Cl:=[.i x.Id,.s x.Net,.i x.Layer,.i x.Pitch,.i x.Priority,.i x.Relief,.i x.Spoke,lst 4 An.c x.Rects]
structure Cs where
 Id:Int
 Layer:Int
 Shape:AW
 deriving Inhabited
def Cs.c (x:Cs):List Cl:=[.i x.Id,.i x.Layer,.i x.Shape.Kind,lst 7 AE.c x.Shape.Edges,.i x.Shape.R]
structure Dh where
 Id:Int
 Shape:AW
 deriving Inhabited
def Dh.c (x:Dh):List Cl:=[.i x.Id,.i x.Shape.Kind,lst 7 AE.c x.Shape.Edges,.i x.Shape.R]
structure B5 where
 Name:ByteArray
 Nets:(List ByteArray)
 deriving Inhabited
def B5.c (x:B5):List Cl:=[.s x.Name,lst 1 (fun x=>[.s x]) x.Nets]
structure ER where
 Op:Int
 Text:ByteArray
 N:Int
 Box:An
 L:OpL
 deriving Inhabited
def ER.c (x:ER):List Cl:=[.i x.Op,.s x.Text,.i x.N,.i x.Box.X0,.i x.Box.Y0,.i x.Box.X1,.i x.Box.Y1,opL x.L]
structure A5 where
 Name:ByteArray
 Priority:Int
 What:Int
 A:ER
 B:ER
 Value:Int
 deriving Inhabited
def A5.c (x:A5):List Cl:=[.s x.Name,.i x.Priority,.i x.What,.i x.A.Op,.s x.A.Text,.i x.A.N,.i x.A.Box.X0,.i x.A.Box.Y0,.i x.A.Box.X1,.i x.A.Box.Y1,opL x.A.L,.i x.B.Op,.s x.B.Text,.i x.B.N,.i x.B.Box.X0,.i x.B.Box.Y0,.i x.B.Box.X1,.i x.B.Box.Y1,opL x.B.L,.i x.Value]
structure B1 where
 A:Int
 B:Int
 Rule:ByteArray
 deriving Inhabited
def B1.c (x:B1):List Cl:=[.i x.A,.i x.B,.s x.Rule]
structure Di where
 Name:ByteArray
 Nets:(List ByteArray)
 Within:Int
 deriving Inhabited
def Di.c (x:Di):List Cl:=[.s x.Name,lst 1 (fun x=>[.s x]) x.Nets,.i x.Within]
structure AF where
 Layers:Int
 Outline:AW
 Parts:(List AG)
 Nets:(List BO)
 Tracks:(List Az)
 Vias:(List CG)
 Pours:(List Bk)
 Keeps:(List Cs)
 Slots:(List Dh)
 Classes:(List B5)
 Rules:(List A5)
 Waivers:(List B1)
 Matches:(List Di)
 deriving Inhabited
def AF.c (x:AF):List Cl:=[.i x.Layers,.i x.Outline.Kind,lst 7 AE.c x.Outline.Edges,.i x.Outline.R,lst 7 AG.c x.Parts,lst 2 BO.c x.Nets,lst 6 Az.c x.Tracks,lst 8 CG.c x.Vias,lst 8 Bk.c x.Pours,lst 5 Cs.c x.Keeps,lst 4 Dh.c x.Slots,lst 2 B5.c x.Classes,lst 20 A5.c x.Rules,lst 3 B1.c x.Waivers,lst 3 Di.c x.Matches]
structure BV where
 Id:Int
 Pad:ByteArray
 Kind:Int
 Net:ByteArray
 From:Int
 To:Int
 Shape:AW
 deriving Inhabited
def BV.c (x:BV):List Cl:=[.i x.Id,.s x.Pad,.i x.Kind,.s x.Net,.i x.From,.i x.To,.i x.Shape.Kind,lst 7 AE.c x.Shape.Edges,.i x.Shape.R]
structure gI where
 deriving Inhabited
def gI.c (x:gI):List Cl:=[]
structure Dr where
 e0:Int
 e1:Int
 deriving Inhabited
def Dr.c (x:Dr):List Cl:=[.val (.int .u64 x.e0),.val (.int .u64 x.e1)]
def eqE:TypeId->Option (List Kd):=fun T=>get [(47,[.int .i64,.int .i64]),(51,[.int .i64,.int .i64,.int .i64,.bool]),(65,[.str,.str]),(74,[.int .i64,.int .i64,.int .i64,.int .i64]),(136,[.int .i64,.int .i64,.int .i64,.int .i64,.int .i64,.int .i64,.int .i64]),(184,[.int .u64,.int .u64])] T
theorem D3:IV Tryz.prog ⟨fun _=>none,eqE,fun _=>false,fun _=>none⟩:=by
 intro T ks h
 have hm:(T,ks)∈_:=DL h
 simp only [List.mem_cons,Prod.mk.injEq,List.not_mem_nil,or_false] at hm
 rcases hm with ⟨rfl,rfl⟩ | ⟨rfl,rfl⟩ | ⟨rfl,rfl⟩ | ⟨rfl,rfl⟩ | ⟨rfl,rfl⟩ | ⟨rfl,rfl⟩
 all_goals exact ⟨by kernel_rfl,by kernel_rfl,_,rfl,rfl⟩
theorem rg {rd:Option Nat} {N:Nat} {W0:World} {X:Nat→Option Loc} {M0:Nat→Option Obj} {Q:Exit→AS→Prop} {s:AS} {id:Nat} {l:List Oper} (S:AS) (h:Q .normal S) (hr:Hn Tryz.prog ⟨EY [],eqE,Au [],get []⟩ N l (S.t.map Prod.fst) (S.h.map Prod.fst) s=some ([],S):=by kernel_rfl):AWp Tryz.prog rd N W0 X M0 (.region id l.toArray false) Q s:=DF D3 [] [] [] _ _ [] S .nil hr .nil h
theorem rn {rd:Option Nat} {N:Nat} {W0:World} {X:Nat→Option Loc} {M0:Nat→Option Obj} {K:AS→Prop} {Q:Exit→AS→Prop} {s:AS} {id:Nat} {l:List Oper} (S:AS) (h:K S) (hr:Hn Tryz.prog ⟨EY [],eqE,Au [],get []⟩ N l (S.t.map Prod.fst) (S.h.map Prod.fst) s=some ([],S):=by kernel_rfl):AWp Tryz.prog rd N W0 X M0 (.region id l.toArray false) (ATh K Q) s:=rg S (AH h) hr
theorem rc {rd:Option Nat} {N:Nat} {W0:World} {X:Nat→Option Loc} {M0:Nat→Option Obj} {Q:Exit→AS→Prop} {s:AS} {id:Nat} {l:List Oper} (tbl:List (Nat×FuncId×List Av×Ef)) (cs:List Prop) (S:AS) (htbl:Gw Tryz.prog tbl) (hc:Bn cs) (h:Q .normal S) (hr:Hn Tryz.prog ⟨EY tbl,eqE,Au [],get []⟩ N l (S.t.map Prod.fst) (S.h.map Prod.fst) s=some (cs,S):=by kernel_rfl):AWp Tryz.prog rd N W0 X M0 (.region id l.toArray false) Q s:=DF D3 [] [] tbl _ _ cs S htbl hr hc h
abbrev gi (c:Bool):Prop:=c=false→c=false
abbrev gt (c:Bool):Prop:=c=true→c=true
abbrev gj (c:Bool) (p:Prop):Prop:=c=false→p
abbrev gk (c:Bool) (p:Prop):Prop:=c=true→p
theorem ci {p:Prop} {l:List Prop} (h:Bn l):Bn ((p→p)::l):=.cons id h
abbrev tO (c:Cl):Tv:=.av (.one c)
abbrev gD (l:List Cl):Nat→Nat→Cl:=fun _ j_=>l.getD j_ default
theorem rr {a:Cl} {x y:List Cl} (h:L2 ClE x y):L2 ClE (a::x) (a::y):=.cons (.refl _) h
theorem oT {p:Prop} [Decidable p] (h:decide p=true):p:=of_decide_eq_true h
theorem oF {p:Prop} [Decidable p] (h:decide p=false):¬ p:=of_decide_eq_false h
theorem vk {N:Nat} {W0:World} {X:Nat→Option Loc} {M0:Nat→Option Obj} {s:AS} (ts ns:List Nat):Cv N W0 X M0 s (Jr ts ns s):=WE ts ns _ rfl
theorem ck {N:Nat} {W0:World} {X:Nat→Option Loc} {M0:Nat→Option Obj} {s:AS} (S:AS) (h:Jr (S.t.map Prod.fst) (S.h.map Prod.fst) s=S:=by kernel_rfl):Cv N W0 X M0 s S:=WE _ _ S h
theorem wr {N:Nat} {W0:World} {X:Nat→Option Loc} {M0:Nat→Option Obj} {s:AS} {K:List Nat} (S:AS) (q d:Nat) (hX:∀ k x,X k=some x→Au K k=true) (h1:RI K q=true:=by kernel_rfl) (h2:RI K d=true:=by kernel_rfl) (hd:noD d s=true:=by kernel_rfl) (hS:bO q d s=S:=by kernel_rfl):Cv N W0 X M0 s S:=jP S q d hX h1 h2 hd hS
theorem vr {N:Nat} {W0:World} {X:Nat→Option Loc} {M0:Nat→Option Obj} {s:AS} {K:List Nat} (q d:Nat) (hX:∀ k x,X k=some x→Au K k=true) (h1:RI K q=true:=by kernel_rfl) (h2:RI K d=true:=by kernel_rfl) (hd:noD d s=true:=by kernel_rfl):Cv N W0 X M0 s (bO q d s):=wr _ q d hX h1 h2 hd rfl
theorem wf {N:Nat} {W0:World} {X:Nat→Option Loc} {M0:Nat→Option Obj} {s:AS} {K:List Nat} (S:AS) (n sz len:Nat) (f:Nat→Nat→Cl) (ty:TypeId) (hX:∀ k x,X k=some x→Au K k=true) (ho:Bn (UT n sz len s.t (ST n sz len s.h))) (hK:xok K n s=true:=by kernel_rfl) (hn:get s.h n=some (.row sz len f ty):=by kernel_rfl) (hS:fzS n sz len f s=S:=by kernel_rfl):Cv N W0 X M0 s S:=cv_fz S n sz len f ty hX hK hn ho hS
theorem vf {N:Nat} {W0:World} {X:Nat→Option Loc} {M0:Nat→Option Obj} {s:AS} {K:List Nat} (n sz len:Nat) (f:Nat→Nat→Cl) (ty:TypeId) (hX:∀ k x,X k=some x→Au K k=true) (ho:Bn (UT n sz len s.t (ST n sz len s.h))) (hK:xok K n s=true:=by kernel_rfl) (hn:get s.h n=some (.row sz len f ty):=by kernel_rfl):Cv N W0 X M0 s (fzS n sz len f s):=wf _ n sz len f ty hX ho hK hn rfl
theorem wg {N:Nat} {W0:World} {X:Nat→Option Loc} {M0:Nat→Option Obj} {s:AS} {K:List Nat} (S:AS) (d sz:Nat) (f:Nat→Nat→Cl) (ty:TypeId) (it ih:List (Nat×List Nat)) (hX:∀ k x,X k=some x→Au K k=true) (h2:RI K d=true:=by kernel_rfl) (hd:noD d s=true:=by kernel_rfl) (hS:ghS d sz f ty it ih s=S:=by kernel_rfl):Cv N W0 X M0 s S:=Z3 S d sz f ty it ih hX h2 hd hS
theorem vg {N:Nat} {W0:World} {X:Nat→Option Loc} {M0:Nat→Option Obj} {s:AS} {K:List Nat} (d sz:Nat) (f:Nat→Nat→Cl) (ty:TypeId) (it ih:List (Nat×List Nat)) (hX:∀ k x,X k=some x→Au K k=true) (h2:RI K d=true:=by kernel_rfl) (hd:noD d s=true:=by kernel_rfl):Cv N W0 X M0 s (ghS d sz f ty it ih s):=wg _ d sz f ty it ih hX h2 hd rfl
theorem rs {rd:Option Nat} {N:Nat} {W0:World} {X:Nat→Option Loc} {M0:Nat→Option Obj} {Q:Exit→AS→Prop} {s:AS} {id:Nat} {l:List Oper} (d:Nat) (c:FuncId×List Av×Ef) (S:AS) (hx:Aq Tryz.prog c.1 c.2.1 c.2.2) (h:Q .normal S) (hr:Hn Tryz.prog ⟨EY [(d,c)],eqE,Au [],get []⟩ N l (S.t.map Prod.fst) (S.h.map Prod.fst) s=some ([Ap c.2.1],S):=by kernel_rfl):AWp Tryz.prog rd N W0 X M0 (.region id l.toArray false) Q s:=rc _ _ S (.cons hx .nil) (.cons rfl .nil) h hr
theorem rb {rd:Option Nat} {N:Nat} {W0:World} {X:Nat→Option Loc} {M0:Nat→Option Obj} {Q:Exit→AS→Prop} {s:AS} {id:Nat} {l:List Oper} (d:Nat) (c:FuncId×List Av×Ef) (b:Blk) (S:AS) (hx:Aq Tryz.prog c.1 c.2.1 c.2.2) (h:Q .normal S) (hr:Hn Tryz.prog ⟨EY [(d,c)],eqE,Au [],get []⟩ N l (S.t.map Prod.fst) (S.h.map Prod.fst) s=some ([Ap c.2.1,Bo b],S):=by kernel_rfl):AWp Tryz.prog rd N W0 X M0 (.region id l.toArray false) Q s:=rc _ _ S (.cons hx .nil) (.cons rfl (.cons rfl .nil)) h hr
theorem dw {rd:Option Nat} {N:Nat} {W0:World} {X:Nat→Option Loc} {M0:Nat→Option Obj} {Q:Exit→AS→Prop} {s:AS} {id:Nat} {l:List Oper} (ow:List Nat) (tbl:List (Nat×FuncId×List Av×Ef)) (cs:List Prop) (S:AS) (htbl:Gw Tryz.prog tbl) (hc:Bn cs) (h:Q .normal S) (hr:Hn Tryz.prog ⟨EY tbl,eqE,Au ow,get []⟩ N l (S.t.map Prod.fst) (S.h.map Prod.fst) s=some (cs,S):=by kernel_rfl) (hd:QD Tryz.prog ⟨EY tbl,eqE,Au ow,get []⟩ N l s=true:=by kernel_rfl):AWp Tryz.prog rd N W0 X M0 (.region id l.toArray true) Q s:=WM Vq D3 ow [] tbl _ _ cs S htbl hr hd hc h
def Ah (x0:AB):Bool:=bif decide (((max x0.X x0.Y):Int)<=67108864) then decide ((((-67108864)):Int)<=(min x0.X x0.Y)) else false
def BN (x0:AB):FuncId×List Av×Ef:=(99,[.agg (AB.c x0)],.val [] (.av (.one (.b (Ah x0)))))
theorem kr {p:Prop} (h:p:=by kernel_rfl):p:=h
theorem Wc (x0:AB):BH Tryz.prog 99 (BN x0).2.1 (tO (.b (Ah x0))):=by
 refine AO Tryz.func99 rfl kr kr fun W0 M0 => ?_
 refine AC<|rn ⟨[(1,tP 1 0)],[(1,.cells (AB.c x0) 47)]⟩<|AC ?_
 refine rc [] [gt (decide (((max x0.X x0.Y):Int)<=67108864)),gt (decide (((max x0.X x0.Y):Int)<=67108864)),gt (decide (((max x0.X x0.Y):Int)<=67108864)),gt (decide (((max x0.X x0.Y):Int)<=67108864)),gt (decide (((max x0.X x0.Y):Int)<=67108864)),gt (decide (((max x0.X x0.Y):Int)<=67108864))] ⟨[(2,tB (bif decide (((max x0.X x0.Y):Int)<=67108864) then decide ((((-67108864)):Int)<=(min x0.X x0.Y)) else false))],[]⟩ .nil (ci (ci (ci (ci (ci (ci .nil))))))<|AH<|AZ ?_
 exact ⟨_,Cv.refl _,.inl rfl,tO (.b (bif decide (((max x0.X x0.Y):Int)<=67108864) then decide ((((-67108864)):Int)<=(min x0.X x0.Y)) else false)),by kernel_rfl,Ad (by rfl)⟩
theorem Cm (x0:AB):Aq Tryz.prog (BN x0).1 (BN x0).2.1 (BN x0).2.2:=AR (fun _ _=>by kernel_rfl) fun _=>Wc x0
def AK (x0:AB) (x1:AB):AB:=AB.mk (W64 (x0.X-x1.X)) (W64 (x0.Y-x1.Y))
def Bz (x0:AB) (x1:AB):FuncId×List Av×Ef:=(77,[.agg (AB.c x0),.agg (AB.c x1)],.val [] (.av (.agg (AB.c (AK x0 x1)))))
theorem bT (x0:AB) (x1:AB):BH Tryz.prog 77 (Bz x0 x1).2.1 (.av (.agg (AB.c (AK x0 x1)))):=by
 refine AO Tryz.func77 rfl kr kr fun W0 M0 => ?_
 refine AC<|rn ⟨[(2,tP 2 0),(3,tP 3 0),(4,tP 4 0)],[(2,.cells (AB.c x0) 47),(3,.cells (AB.c x1) 47),(4,.cells [.i 0,.i 0] 47)]⟩<|AC ?_
 refine rn ⟨[(4,tP 4 0)],[(4,.cells [.i (W64 (x0.X-x1.X)),.i (W64 (x0.Y-x1.Y))] 47)]⟩<|AZ ?_
 exact ⟨_,Cv.refl _,.inl rfl,.av (.agg [.i (W64 (x0.X-x1.X)),.i (W64 (x0.Y-x1.Y))]),by kernel_rfl,Ad (by rfl)⟩
theorem DI (x0:AB) (x1:AB):Aq Tryz.prog (Bz x0 x1).1 (Bz x0 x1).2.1 (Bz x0 x1).2.2:=AR (fun _ _=>by kernel_rfl) fun _=>bT x0 x1
def F6 (x0:AB) (x1:AB):AB:=AB.mk (W64 (x0.X+x1.X)) (W64 (x0.Y+x1.Y))
def LE (x0:AB) (x1:AB):FuncId×List Av×Ef:=(72,[.agg (AB.c x0),.agg (AB.c x1)],.val [] (.av (.agg (AB.c (F6 x0 x1)))))
theorem bV (x0:AB) (x1:AB):BH Tryz.prog 72 (LE x0 x1).2.1 (.av (.agg (AB.c (F6 x0 x1)))):=by
 refine AO Tryz.func72 rfl kr kr fun W0 M0 => ?_
 refine AC<|rn ⟨[(2,tP 2 0),(3,tP 3 0),(4,tP 4 0)],[(2,.cells (AB.c x0) 47),(3,.cells (AB.c x1) 47),(4,.cells [.i 0,.i 0] 47)]⟩<|AC ?_
 refine rn ⟨[(4,tP 4 0)],[(4,.cells [.i (W64 (x0.X+x1.X)),.i (W64 (x0.Y+x1.Y))] 47)]⟩<|AZ ?_
 exact ⟨_,Cv.refl _,.inl rfl,.av (.agg [.i (W64 (x0.X+x1.X)),.i (W64 (x0.Y+x1.Y))]),by kernel_rfl,Ad (by rfl)⟩
theorem Yw (x0:AB) (x1:AB):Aq Tryz.prog (LE x0 x1).1 (LE x0 x1).2.1 (LE x0 x1).2.2:=AR (fun _ _=>by kernel_rfl) fun _=>bV x0 x1
def Bm (x0:AB) (x1:AB):Int:=W64 ((W64 (x0.X*x1.X))+(W64 (x0.Y*x1.Y)))
def EM (x0:AB) (x1:AB):FuncId×List Av×Ef:=(80,[.agg (AB.c x0),.agg (AB.c x1)],.val [] (.av (.one (.i (Bm x0 x1)))))
theorem bU (x0:AB) (x1:AB):BH Tryz.prog 80 (EM x0 x1).2.1 (tO (.i (Bm x0 x1))):=by
 refine AO Tryz.func80 rfl kr kr fun W0 M0 => ?_
 refine AC<|rn ⟨[(2,tP 2 0),(3,tP 3 0)],[(2,.cells (AB.c x0) 47),(3,.cells (AB.c x1) 47)]⟩<|AC ?_
 refine rn ⟨[(4,tI (W64 ((W64 (x0.X*x1.X))+(W64 (x0.Y*x1.Y)))))],[]⟩<|AZ ?_
 exact ⟨_,Cv.refl _,.inl rfl,tO (.i (W64 ((W64 (x0.X*x1.X))+(W64 (x0.Y*x1.Y))))),by kernel_rfl,Ad (by rfl)⟩
theorem Iq (x0:AB) (x1:AB):Aq Tryz.prog (EM x0 x1).1 (EM x0 x1).2.1 (EM x0 x1).2.2:=AR (fun _ _=>by kernel_rfl) fun _=>bU x0 x1
def BD (x0:AB) (x1:AB):Int:=W64 ((W64 (x0.X*x1.Y))-(W64 (x0.Y*x1.X)))
def DE (x0:AB) (x1:AB):FuncId×List Av×Ef:=(81,[.agg (AB.c x0),.agg (AB.c x1)],.val [] (.av (.one (.i (BD x0 x1)))))
theorem Wd (x0:AB) (x1:AB):BH Tryz.prog 81 (DE x0 x1).2.1 (tO (.i (BD x0 x1))):=by
 refine AO Tryz.func81 rfl kr kr fun W0 M0 => ?_
 refine AC<|rn ⟨[(2,tP 2 0),(3,tP 3 0)],[(2,.cells (AB.c x0) 47),(3,.cells (AB.c x1) 47)]⟩<|AC ?_
 refine rn ⟨[(4,tI (W64 ((W64 (x0.X*x1.Y))-(W64 (x0.Y*x1.X)))))],[]⟩<|AZ ?_
 exact ⟨_,Cv.refl _,.inl rfl,tO (.i (W64 ((W64 (x0.X*x1.Y))-(W64 (x0.Y*x1.X))))),by kernel_rfl,Ad (by rfl)⟩
theorem Hq (x0:AB) (x1:AB):Aq Tryz.prog (DE x0 x1).1 (DE x0 x1).2.1 (DE x0 x1).2.2:=AR (fun _ _=>by kernel_rfl) fun _=>Wd x0 x1
def Ea (x0:AB) (x1:AB) (x2:AB):Int:=bif decide ((0:Int)<(BD (AK x1 x0) (AK x2 x0))) then (1) else (bif decide (((BD (AK x1 x0) (AK x2 x0)):Int)<0) then ((-1)) else (0))
def HT (x0:AB) (x1:AB) (x2:AB):FuncId×List Av×Ef:=(119,[.agg (AB.c x0),.agg (AB.c x1),.agg (AB.c x2)],.val [] (.av (.one (.i (Ea x0 x1 x2)))))
theorem Ye (x0:AB) (x1:AB) (x2:AB):BH Tryz.prog 119 (HT x0 x1 x2).2.1 (tO (.i (Ea x0 x1 x2))):=by
 refine AO Tryz.func119 rfl kr kr fun W0 M0 => ?_
 refine AC<|rn ⟨[(3,tP 3 0),(4,tP 4 0),(5,tP 5 0)],[(3,.cells (AB.c x0) 47),(4,.cells (AB.c x1) 47),(5,.cells (AB.c x2) 47)]⟩ ?_
 refine AC<|AC ?_
 refine dw [] [(10,Bz x1 x0),(13,Bz x2 x0),(14,DE (AK x1 x0) (AK x2 x0))] [Ap (Bz x1 x0).2.1,Ap (Bz x2 x0).2.1,Ap (DE (AK x1 x0) (AK x2 x0)).2.1] ⟨[(7,tI (BD (AK x1 x0) (AK x2 x0)))],[]⟩ (.cons (DI x1 x0) (.cons (DI x2 x0) (.cons (Hq (AK x1 x0) (AK x2 x0)) .nil))) (.cons rfl (.cons rfl (.cons rfl .nil)))<|AH ?_
 refine Af<|AC ?_
 refine rn ⟨[(7,tI (BD (AK x1 x0) (AK x2 x0))),(15,tB (decide ((0:Int)<(BD (AK x1 x0) (AK x2 x0)))))],[]⟩ ?_
 refine AY _ rfl (fun h1 => ?_) (fun h1 => ?_)
 ·have g1:=oT h1
  refine AC<|rn ⟨[(6,tI 1)],[]⟩ ?_
  refine AZ<|B2<|A9 ?_
  exact ⟨_,Cv.refl _,.inl rfl,tO (.i 1),by kernel_rfl,Ad (by first | (simp only [Ea,h1,cond_true,cond_false] <;> rfl))⟩
 ·have g1:=oF h1
  refine AC<|rn ⟨[(18,tB (decide (((BD (AK x1 x0) (AK x2 x0)):Int)<0)))],[]⟩ ?_
  refine AY _ rfl (fun h2 => ?_) (fun h2 => ?_)
  ·have g2:=oT h2
   refine AC<|rn ⟨[(6,tI ((-1)))],[]⟩ ?_
   refine AZ<|B2<|A9 ?_
   exact ⟨_,Cv.refl _,.inl rfl,tO (.i ((-1))),by kernel_rfl,Ad (by first | (simp only [Ea,h1,h2,cond_true,cond_false] <;> rfl))⟩
  ·have g2:=oF h2
   refine Ae<|BZ ?_
   refine AH<|AC ?_
   refine rn ⟨[(6,tI 0)],[]⟩<|AZ ?_
   exact ⟨_,Cv.refl _,.inl rfl,tO (.i 0),by kernel_rfl,Ad (by first | (simp only [Ea,h1,h2,cond_true,cond_false] <;> rfl))⟩
theorem Wv (x0:AB) (x1:AB) (x2:AB):Aq Tryz.prog (HT x0 x1 x2).1 (HT x0 x1 x2).2.1 (HT x0 x1 x2).2.2:=AR (fun _ _=>by kernel_rfl) fun _=>Ye x0 x1 x2
def Bx (m:Ab):Int:=A64 m.Turn 3
def HS (m:Ab):FuncId×List Av×Ef:=(71,[.agg (Ab.c m)],.val [] (.av (.one (.i (Bx m)))))
theorem Wb (m:Ab):BH Tryz.prog 71 (HS m).2.1 (tO (.i (Bx m))):=by
 refine AO Tryz.func71 rfl kr kr fun W0 M0 => ?_
 refine AC<|rn ⟨[(1,tP 1 0)],[(1,.cells (Ab.c m) 51)]⟩<|AC ?_
 refine rn ⟨[(2,tI (A64 m.Turn 3))],[]⟩<|AZ ?_
 exact ⟨_,Cv.refl _,.inl rfl,tO (.i (A64 m.Turn 3)),by kernel_rfl,Ad (by rfl)⟩
theorem UU (m:Ab):Aq Tryz.prog (HS m).1 (HS m).2.1 (HS m).2.2:=AR (fun _ _=>by kernel_rfl) fun _=>Wb m
theorem A64_3 (t:Int):0<=A64 t 3/\A64 t 3<=3:=by
 unfold A64
 rw [IntKind.wrap_i64]
 have h:((BitVec.ofInt 64 t &&& BitVec.ofInt 64 3).toNat)<=3:=by
  rw [BitVec.toNat_and]
  exact Nat.le_trans Nat.and_le_right (by decide)
 generalize (BitVec.ofInt 64 t &&& BitVec.ofInt 64 3).toNat=n at *
 omega
theorem VO (m:Ab):0<=Bx m/\Bx m<=3:=A64_3 m.Turn
def B6 (m:Ab) (p:AB):Nat->AB->Int->AB
 | 0,_,_=>default
 | n0+1,p',v13=>bif decide ((v13:Int)<(Bx m)) then ((B6 m p n0) (AB.mk (W64 (0-p'.Y)) p'.X) (v13+1)) else (F6 p' m.At)
def Aa (m:Ab) (p:AB):AB:=B6 m p ((((Bx m))-0).toNat+1) (AB.mk (bif m.Mirror then (W64 (0-p.X)) else p.X) p.Y) 0
def Bl (m:Ab) (p:AB):FuncId×List Av×Ef:=(38,[.agg (Ab.c m),.agg (AB.c p)],.val [] (.av (.agg (AB.c (Aa m p)))))
theorem at0 {p:Prop} (h:p:=by simp only [List.length_append,List.length_cons,List.length_nil];omega):p:=h
theorem at1 {p:Prop} (h:p:=by simp only [List.length_set,List.length_append,List.length_cons,List.length_nil];omega):p:=h
theorem at2 {p:Prop} (h:p:=by simp only [Ci];omega):p:=h
theorem ax0 {p:Prop} (h:p:=by first | omega | (dsimp only <;> first | trivial | omega | exact at0 | exact at1 | exact at2 | (simp;omega) | simp) | (first | trivial | omega | exact at0 | exact at1 | exact at2 | (simp;omega) | simp)):p:=h
theorem We (m:Ab) (p:AB):BH Tryz.prog 38 (Bl m p).2.1 (.av (.agg (AB.c (Aa m p)))):=by
 refine AO Tryz.func38 rfl kr kr fun W0 M0 => ?_
 refine AC<|rn ⟨[(2,tP 2 0),(3,tP 3 0),(4,tP 4 0)],[(2,.cells (Ab.c m) 51),(3,.cells (AB.c p) 47),(4,.cells [.i 0,.i 0] 47)]⟩ ?_
 refine AC<|AC ?_
 refine rn ⟨[(2,tP 2 0),(3,tP 3 0),(4,tP 4 0),(6,tB m.Mirror)],[(2,.cells (Ab.c m) 51),(3,.cells (AB.c p) 47),(4,.cells [.i 0,.i 0] 47)]⟩ ?_
 refine Bc (⟨[(2,tP 2 0),(3,tP 3 0),(4,tP 4 0)],[(2,.cells (Ab.c m) 51),(3,.cells [.i (bif m.Mirror then (W64 (0-p.X)) else p.X),.i p.Y] 47),(4,.cells [.i 0,.i 0] 47)]⟩) ?_ ?_
 ·refine AY _ rfl (fun h1 => ?_) (fun h1 => ?_)
  ·refine rn ⟨[(2,tP 2 0),(3,tP 3 0),(4,tP 4 0)],[(2,.cells (Ab.c m) 51),(3,.cells [.i (W64 (0-p.X)),.i p.Y] 47),(4,.cells [.i 0,.i 0] 47)]⟩ ?_
   refine A4 ?_
   first | rfl | (simp only [h1,cond_true,cond_false] <;> rfl)
  ·refine Ae<|AH ?_
   refine Cv.trans (ck (⟨[(2,tP 2 0),(3,tP 3 0),(4,tP 4 0)],[(2,.cells (Ab.c m) 51),(3,.cells (AB.c p) 47),(4,.cells [.i 0,.i 0] 47)]⟩)) (A4 ?_)
   first | rfl | (simp only [h1,cond_true,cond_false] <;> rfl)
 refine AC<|AC ?_
 refine rs 12 (HS m) ⟨[(2,tP 2 0),(3,tP 3 0),(4,tP 4 0),(12,tI (Bx m)),(13,tI 0)],[(2,.cells (Ab.c m) 51),(3,.cells [.i (bif m.Mirror then (W64 (0-p.X)) else p.X),.i p.Y] 47),(4,.cells [.i 0,.i 0] 47)]⟩ (UU m)<|AH<|Af ?_
 refine BL (ι:=Nat×AB×Int) (fun x=>⟨[(2,tP 2 0),(3,tP 3 0),(4,tP 4 0),(12,tI (Bx m)),(13,tI x.2.2)],[(2,.cells (Ab.c m) 51),(3,.cells (AB.c x.2.1) 47),(4,.cells [.i 0,.i 0] 47)]⟩) (fun x=>(((Bx m))-x.2.2).toNat<x.1/\(0<=x.2.2/\x.2.2<=Bx m)/\B6 m p x.1 x.2.1 x.2.2=Aa m p) (fun x=>x.1) ?_ ((((Bx m))-0).toNat+1,AB.mk (bif m.Mirror then (W64 (0-p.X)) else p.X) p.Y,0) ⟨Nat.lt_succ_self _,(by show 0<=0/\0<=Bx m;(have:=VO m;omega)),(by simp only [Aa,cond_true,cond_false])⟩
 rintro ⟨n0,p',v13⟩ ⟨hn,hinv,hF⟩
 have hm0:=hn;have hinv0:=hinv;have hF0:=hF;try dsimp only at hm0 hinv0 hF0
 clear hn hinv hF
 cases n0 with
 | zero=>exact absurd hm0 (Nat.not_lt_zero _)
 | succ n0 =>
  have ht:=VO m
  have e1:W64 (v13+1)=v13+1:=Al (by omega) (by omega)
  refine AC<|rn ⟨[(2,tP 2 0),(3,tP 3 0),(4,tP 4 0),(12,tI (Bx m)),(13,tI v13),(14,tB (decide ((v13:Int)<(Bx m))))],[(2,.cells (Ab.c m) 51),(3,.cells (AB.c p') 47),(4,.cells [.i 0,.i 0] 47)]⟩<|AC ?_
  refine AY _ rfl (fun h1 => ?_) (fun h1 => ?_)
  ·have g1:=oT h1
   refine Ae<|AH ?_
   refine AC<|Af ?_
   refine rg ⟨[(2,tP 2 0),(3,tP 3 0),(4,tP 4 0),(12,tI (Bx m)),(13,tI v13)],[(2,.cells (Ab.c m) 51),(3,.cells [.i (W64 (0-p'.Y)),.i p'.X] 47),(4,.cells [.i 0,.i 0] 47)]⟩<|BZ<|AH ?_
   refine rg ⟨[(2,tP 2 0),(3,tP 3 0),(4,tP 4 0),(12,tI (Bx m)),(13,tI (W64 (v13+1)))],[(2,.cells (Ab.c m) 51),(3,.cells [.i (W64 (0-p'.Y)),.i p'.X] 47),(4,.cells [.i 0,.i 0] 47)]⟩ ?_
   (try rw [e1])
   refine AH ?_
   refine ⟨(n0,AB.mk (W64 (0-p'.Y)) p'.X,v13+1),⟨?_,?_,(by rw [<- hF0];simp only [B6,h1,cond_true,cond_false])⟩,Nat.lt_succ_self _,A4 kr⟩
   ·show (((Bx m))-(v13+1)).toNat<n0;omega
   ·exact ax0
  ·have g1:=oF h1
   refine BP<|BE ?_
   refine BE<|BQ ?_
   refine AH<|AC ?_
   refine rs 25 (LE p' m.At) ⟨[(4,tP 4 0)],[(4,.cells (AB.c (F6 p' m.At)) 47)]⟩ (Yw p' m.At)<|AH<|AZ ?_
   exact ⟨_,Cv.refl _,.inl rfl,.av (.agg (AB.c (F6 p' m.At))),by kernel_rfl,Ad (by rw [<- hF0];first | (simp only [B6,h1,cond_true,cond_false] <;> rfl))⟩
theorem DQ (m:Ab) (p:AB):Aq Tryz.prog (Bl m p).1 (Bl m p).2.1 (Bl m p).2.2:=AR (fun _ _=>by kernel_rfl) fun _=>We m p
def AV (x0:AE):An:=An.mk (min x0.A.X x0.B.X) (min x0.A.Y x0.B.Y) (max x0.A.X x0.B.X) (max x0.A.Y x0.B.Y)
def EE (x0:AE):FuncId×List Av×Ef:=(45,[.agg (AE.c x0)],.val [] (.av (.agg (An.c (AV x0)))))
theorem Yi (x0:AE):BH Tryz.prog 45 (EE x0).2.1 (.av (.agg (An.c (AV x0)))):=by
 refine AO Tryz.func45 rfl kr kr fun W0 M0 => ?_
 refine AC<|rn ⟨[(1,tP 1 0),(2,tP 2 0)],[(1,.cells (AE.c x0) 136),(2,.cells [.i 0,.i 0,.i 0,.i 0] 74)]⟩<|AC ?_
 refine rn ⟨[(2,tP 2 0)],[(2,.cells [.i (min x0.A.X x0.B.X),.i (min x0.A.Y x0.B.Y),.i (max x0.A.X x0.B.X),.i (max x0.A.Y x0.B.Y)] 74)]⟩<|AZ ?_
 exact ⟨_,Cv.refl _,.inl rfl,.av (.agg [.i (min x0.A.X x0.B.X),.i (min x0.A.Y x0.B.Y),.i (max x0.A.X x0.B.X),.i (max x0.A.Y x0.B.Y)]),by kernel_rfl,Ad (by rfl)⟩
theorem F8 (x0:AE):Aq Tryz.prog (EE x0).1 (EE x0).2.1 (EE x0).2.2:=AR (fun _ _=>by kernel_rfl) fun _=>Yi x0
def BT (x0:AE):Int:=bif decide ((x0.A.Y:Int)<x0.B.Y) then (1) else (bif decide ((x0.B.Y:Int)<x0.A.Y) then ((-1)) else (0))
def DM (x0:AE):FuncId×List Av×Ef:=(85,[.agg (AE.c x0)],.val [] (.av (.one (.i (BT x0)))))
theorem SN (x0:AE):BH Tryz.prog 85 (DM x0).2.1 (tO (.i (BT x0))):=by
 refine AO Tryz.func85 rfl kr kr fun W0 M0 => ?_
 refine AC<|rn ⟨[(1,tP 1 0)],[(1,.cells (AE.c x0) 136)]⟩ ?_
 refine AC<|Af<|AC ?_
 refine rn ⟨[(1,tP 1 0),(3,tB (decide ((x0.A.Y:Int)<x0.B.Y)))],[(1,.cells (AE.c x0) 136)]⟩ ?_
 refine AY _ rfl (fun h1 => ?_) (fun h1 => ?_)
 ·have g1:=oT h1
  refine AC<|rn ⟨[(2,tI 1)],[]⟩ ?_
  refine AZ<|B2<|A9 ?_
  exact ⟨_,Cv.refl _,.inl rfl,tO (.i 1),by kernel_rfl,Ad (by first | (simp only [BT,h1,cond_true,cond_false] <;> rfl))⟩
 ·have g1:=oF h1
  refine AC<|rn ⟨[(11,tB (decide ((x0.B.Y:Int)<x0.A.Y)))],[]⟩ ?_
  refine AY _ rfl (fun h2 => ?_) (fun h2 => ?_)
  ·have g2:=oT h2
   refine AC<|rn ⟨[(2,tI ((-1)))],[]⟩ ?_
   refine AZ<|B2<|A9 ?_
   exact ⟨_,Cv.refl _,.inl rfl,tO (.i ((-1))),by kernel_rfl,Ad (by first | (simp only [BT,h1,h2,cond_true,cond_false] <;> rfl))⟩
  ·have g2:=oF h2
   refine Ae<|BZ ?_
   refine AH<|AC ?_
   refine rn ⟨[(2,tI 0)],[]⟩<|AZ ?_
   exact ⟨_,Cv.refl _,.inl rfl,tO (.i 0),by kernel_rfl,Ad (by first | (simp only [BT,h1,h2,cond_true,cond_false] <;> rfl))⟩
theorem F2 (x0:AE):Aq Tryz.prog (DM x0).1 (DM x0).2.1 (DM x0).2.2:=AR (fun _ _=>by kernel_rfl) fun _=>SN x0
def DT (x0:AE) (x1:AB):Int:=W64 ((Bm (AK x1 x0.C) (AK x1 x0.C))-(Bm (AK x0.A x0.C) (AK x0.A x0.C)))
def EC (x0:AE) (x1:AB):FuncId×List Av×Ef:=(121,[.agg (AE.c x0),.agg (AB.c x1)],.val [] (.av (.one (.i (DT x0 x1)))))
theorem UP (x0:AE) (x1:AB):BH Tryz.prog 121 (EC x0 x1).2.1 (tO (.i (DT x0 x1))):=by
 refine AO Tryz.func121 rfl kr kr fun W0 M0 => ?_
 refine AC<|rn ⟨[(2,tP 2 0),(3,tP 3 0)],[(2,.cells (AE.c x0) 136),(3,.cells (AB.c x1) 47)]⟩<|AC ?_
 refine dw [] [(10,Bz x1 x0.C),(15,Bz x0.A x0.C)] [Ap (Bz x1 x0.C).2.1,Ap (Bz x0.A x0.C).2.1] ⟨[(5,tP 5 0),(6,tP 6 0)],[(5,.cells (AB.c (AK x1 x0.C)) 47),(6,.cells (AB.c (AK x0.A x0.C)) 47)]⟩ (.cons (DI x1 x0.C) (.cons (DI x0.A x0.C) .nil)) (.cons rfl (.cons rfl .nil))<|AH<|AC ?_
 refine dw [] [(18,EM (AK x1 x0.C) (AK x1 x0.C)),(21,EM (AK x0.A x0.C) (AK x0.A x0.C))] [Ap (EM (AK x1 x0.C) (AK x1 x0.C)).2.1,Ap (EM (AK x0.A x0.C) (AK x0.A x0.C)).2.1] ⟨[(4,tI (W64 ((Bm (AK x1 x0.C) (AK x1 x0.C))-(Bm (AK x0.A x0.C) (AK x0.A x0.C)))))],[]⟩ (.cons (Iq (AK x1 x0.C) (AK x1 x0.C)) (.cons (Iq (AK x0.A x0.C) (AK x0.A x0.C)) .nil)) (.cons rfl (.cons rfl .nil))<|AH<|AZ ?_
 exact ⟨_,Cv.refl _,.inl rfl,tO (.i (W64 ((Bm (AK x1 x0.C) (AK x1 x0.C))-(Bm (AK x0.A x0.C) (AK x0.A x0.C))))),by kernel_rfl,Ad (by rfl)⟩
theorem MS (x0:AE) (x1:AB):Aq Tryz.prog (EC x0 x1).1 (EC x0 x1).2.1 (EC x0 x1).2.2:=AR (fun _ _=>by kernel_rfl) fun _=>UP x0 x1
def Cc (x0:AE) (x1:Int):Bool:=bif !((decide ((((AK x0.A x0.C).X):Int)=0))==(decide ((((AK x0.A x0.C).Y):Int)=0))) then (decide (((AK x0.B x0.C).X)=((Aa (Ab.mk (AB.mk 0 0) x1 false) (AK x0.A x0.C)).X))&&(decide (((AK x0.B x0.C).Y)=((Aa (Ab.mk (AB.mk 0 0) x1 false) (AK x0.A x0.C)).Y))&&true)) else false
def EO (x0:AE) (x1:Int):FuncId×List Av×Ef:=(120,[.agg (AE.c x0),.one (.i x1)],.val [] (.av (.one (.b (Cc x0 x1)))))
theorem Q7 (x0:AE) (x1:Int):BH Tryz.prog 120 (EO x0 x1).2.1 (tO (.b (Cc x0 x1))):=by
 refine AO Tryz.func120 rfl kr kr fun W0 M0 => ?_
 refine AC<|rn ⟨[(1,tI x1),(2,tP 2 0)],[(2,.cells (AE.c x0) 136)]⟩<|AC ?_
 refine rs 10 (Bz x0.A x0.C) ⟨[(1,tI x1),(2,tP 2 0),(5,tP 5 0)],[(2,.cells (AE.c x0) 136),(5,.cells (AB.c (AK x0.A x0.C)) 47)]⟩ (DI x0.A x0.C)<|AH<|AC ?_
 refine dw [] [(23,Bz x0.B x0.C),(27,Bl (Ab.mk (AB.mk 0 0) x1 false) (AK x0.A x0.C))] [gt (!((decide ((((AK x0.A x0.C).X):Int)=0))==(decide ((((AK x0.A x0.C).Y):Int)=0)))),gt (!((decide ((((AK x0.A x0.C).X):Int)=0))==(decide ((((AK x0.A x0.C).Y):Int)=0)))),gt (!((decide ((((AK x0.A x0.C).X):Int)=0))==(decide ((((AK x0.A x0.C).Y):Int)=0)))),gt (!((decide ((((AK x0.A x0.C).X):Int)=0))==(decide ((((AK x0.A x0.C).Y):Int)=0)))),gk (!((decide ((((AK x0.A x0.C).X):Int)=0))==(decide ((((AK x0.A x0.C).Y):Int)=0)))) (Ap (Bz x0.B x0.C).2.1),gt (!((decide ((((AK x0.A x0.C).X):Int)=0))==(decide ((((AK x0.A x0.C).Y):Int)=0)))),gt (!((decide ((((AK x0.A x0.C).X):Int)=0))==(decide ((((AK x0.A x0.C).Y):Int)=0)))),gt (!((decide ((((AK x0.A x0.C).X):Int)=0))==(decide ((((AK x0.A x0.C).Y):Int)=0)))),gk (!((decide ((((AK x0.A x0.C).X):Int)=0))==(decide ((((AK x0.A x0.C).Y):Int)=0)))) (Ap (Bl (Ab.mk (AB.mk 0 0) x1 false) (AK x0.A x0.C)).2.1),gt (!((decide ((((AK x0.A x0.C).X):Int)=0))==(decide ((((AK x0.A x0.C).Y):Int)=0)))),gt (!((decide ((((AK x0.A x0.C).X):Int)=0))==(decide ((((AK x0.A x0.C).Y):Int)=0)))),gt (!((decide ((((AK x0.A x0.C).X):Int)=0))==(decide ((((AK x0.A x0.C).Y):Int)=0))))] ⟨[(4,tB (bif !((decide ((((AK x0.A x0.C).X):Int)=0))==(decide ((((AK x0.A x0.C).Y):Int)=0))) then (decide (((AK x0.B x0.C).X)=((Aa (Ab.mk (AB.mk 0 0) x1 false) (AK x0.A x0.C)).X))&&(decide (((AK x0.B x0.C).Y)=((Aa (Ab.mk (AB.mk 0 0) x1 false) (AK x0.A x0.C)).Y))&&true)) else false))],[]⟩ (.cons (DI x0.B x0.C) (.cons (DQ (Ab.mk (AB.mk 0 0) x1 false) (AK x0.A x0.C)) .nil)) (ci (ci (ci (ci (.cons (fun _=>rfl) (ci (ci (ci (.cons (fun _=>rfl) (ci (ci (ci .nil))))))))))))<|AH<|AZ ?_
 exact ⟨_,Cv.refl _,.inl rfl,tO (.b (bif !((decide ((((AK x0.A x0.C).X):Int)=0))==(decide ((((AK x0.A x0.C).Y):Int)=0))) then (decide (((AK x0.B x0.C).X)=((Aa (Ab.mk (AB.mk 0 0) x1 false) (AK x0.A x0.C)).X))&&(decide (((AK x0.B x0.C).Y)=((Aa (Ab.mk (AB.mk 0 0) x1 false) (AK x0.A x0.C)).Y))&&true)) else false)),by kernel_rfl,Ad (by rfl)⟩
theorem Jn (x0:AE) (x1:Int):Aq Tryz.prog (EO x0 x1).1 (EO x0 x1).2.1 (EO x0 x1).2.2:=AR (fun _ _=>by kernel_rfl) fun _=>Q7 x0 x1
def GA (x0:AE):Bool:=(decide (x0.C.X=0)&&(decide (x0.C.Y=0)&&true))
def HW (x0:AE):FuncId×List Av×Ef:=(109,[.agg (AE.c x0)],.val [] (.av (.one (.b (GA x0)))))
theorem Wk (x0:AE):BH Tryz.prog 109 (HW x0).2.1 (tO (.b (GA x0))):=by
 refine AO Tryz.func109 rfl kr kr fun W0 M0 => ?_
 refine AC<|rn ⟨[(1,tP 1 0)],[(1,.cells (AE.c x0) 136)]⟩<|AC ?_
 refine rn ⟨[(2,tB ((decide (x0.C.X=0)&&(decide (x0.C.Y=0)&&true))))],[]⟩<|AZ ?_
 exact ⟨_,Cv.refl _,.inl rfl,tO (.b ((decide (x0.C.X=0)&&(decide (x0.C.Y=0)&&true)))),by kernel_rfl,Ad (by rfl)⟩
theorem UX (x0:AE):Aq Tryz.prog (HW x0).1 (HW x0).2.1 (HW x0).2.2:=AR (fun _ _=>by kernel_rfl) fun _=>Wk x0
def Dj (x0:AE):Bool:=Cc x0 1
def ED (x0:AE):FuncId×List Av×Ef:=(112,[.agg (AE.c x0)],.val [] (.av (.one (.b (Dj x0)))))
theorem OG (x0:AE):BH Tryz.prog 112 (ED x0).2.1 (tO (.b (Dj x0))):=by
 refine AO Tryz.func112 rfl kr kr fun W0 M0 => ?_
 refine AC<|rn ⟨[(1,tP 1 0)],[(1,.cells (AE.c x0) 136)]⟩<|AC ?_
 refine rs 4 (EO x0 1) ⟨[(2,tB (Cc x0 1))],[]⟩ (Jn x0 1)<|AH<|AZ ?_
 exact ⟨_,Cv.refl _,.inl rfl,tO (.b (Cc x0 1)),by kernel_rfl,Ad (by rfl)⟩
theorem Mv (x0:AE):Aq Tryz.prog (ED x0).1 (ED x0).2.1 (ED x0).2.2:=AR (fun _ _=>by kernel_rfl) fun _=>OG x0
def DG (x0:AE):Bool:=Cc x0 3
def Dw (x0:AE):FuncId×List Av×Ef:=(115,[.agg (AE.c x0)],.val [] (.av (.one (.b (DG x0)))))
theorem Mt (x0:AE):BH Tryz.prog 115 (Dw x0).2.1 (tO (.b (DG x0))):=by
 refine AO Tryz.func115 rfl kr kr fun W0 M0 => ?_
 refine AC<|rn ⟨[(1,tP 1 0)],[(1,.cells (AE.c x0) 136)]⟩<|AC ?_
 refine rs 4 (EO x0 3) ⟨[(2,tB (Cc x0 3))],[]⟩ (Jn x0 3)<|AH<|AZ ?_
 exact ⟨_,Cv.refl _,.inl rfl,tO (.b (Cc x0 3)),by kernel_rfl,Ad (by rfl)⟩
theorem Lv (x0:AE):Aq Tryz.prog (Dw x0).1 (Dw x0).2.1 (Dw x0).2.2:=AR (fun _ _=>by kernel_rfl) fun _=>Mt x0
def FK (x0:AE) (x1:AB):Bool:=decide (((Ea x0.A x0.B x1):Int)=(BT x0))
def FG (x0:AE) (x1:AB):FuncId×List Av×Ef:=(111,[.agg (AE.c x0),.agg (AB.c x1)],.val [] (.av (.one (.b (FK x0 x1)))))
theorem UQ (x0:AE) (x1:AB):BH Tryz.prog 111 (FG x0 x1).2.1 (tO (.b (FK x0 x1))):=by
 refine AO Tryz.func111 rfl kr kr fun W0 M0 => ?_
 refine AC<|rn ⟨[(2,tP 2 0),(3,tP 3 0)],[(2,.cells (AE.c x0) 136),(3,.cells (AB.c x1) 47)]⟩<|AC ?_
 refine dw [] [(10,HT x0.A x0.B x1),(12,DM x0)] [Ap (HT x0.A x0.B x1).2.1,Ap (DM x0).2.1] ⟨[(4,tB (decide (((Ea x0.A x0.B x1):Int)=(BT x0))))],[]⟩ (.cons (Wv x0.A x0.B x1) (.cons (F2 x0) .nil)) (.cons rfl (.cons rfl .nil))<|AH<|AZ ?_
 exact ⟨_,Cv.refl _,.inl rfl,tO (.b (decide (((Ea x0.A x0.B x1):Int)=(BT x0)))),by kernel_rfl,Ad (by rfl)⟩
theorem Sa (x0:AE) (x1:AB):Aq Tryz.prog (FG x0 x1).1 (FG x0 x1).2.1 (FG x0 x1).2.2:=AR (fun _ _=>by kernel_rfl) fun _=>UQ x0 x1
def C0 (x0:AE) (x1:AB):Bool:=bif bif decide ((x0.C.X:Int)<x0.A.X) then true else decide ((x0.C.X:Int)<x0.B.X) then (bif decide ((x1.X:Int)<x0.C.X) then true else decide (((DT x0 x1):Int)<0)) else (bif decide ((x1.X:Int)<x0.C.X) then decide ((0:Int)<(DT x0 x1)) else false)
def Dq (x0:AE) (x1:AB):FuncId×List Av×Ef:=(114,[.agg (AE.c x0),.agg (AB.c x1)],.val [] (.av (.one (.b (C0 x0 x1)))))
theorem SO (x0:AE) (x1:AB):BH Tryz.prog 114 (Dq x0 x1).2.1 (tO (.b (C0 x0 x1))):=by
 refine AO Tryz.func114 rfl kr kr fun W0 M0 => ?_
 refine AC<|rn ⟨[(2,tP 2 0),(3,tP 3 0)],[(2,.cells (AE.c x0) 136),(3,.cells (AB.c x1) 47)]⟩ ?_
 refine AC<|AC ?_
 refine rc [] [gi (decide ((x0.C.X:Int)<x0.A.X)),gi (decide ((x0.C.X:Int)<x0.A.X)),gi (decide ((x0.C.X:Int)<x0.A.X)),gi (decide ((x0.C.X:Int)<x0.A.X)),gi (decide ((x0.C.X:Int)<x0.A.X)),gi (decide ((x0.C.X:Int)<x0.A.X)),gi (decide ((x0.C.X:Int)<x0.A.X))] ⟨[(2,tP 2 0),(3,tP 3 0),(20,tB (bif decide ((x0.C.X:Int)<x0.A.X) then true else decide ((x0.C.X:Int)<x0.B.X)))],[(2,.cells (AE.c x0) 136),(3,.cells (AB.c x1) 47)]⟩ .nil (ci (ci (ci (ci (ci (ci (ci .nil)))))))<|AH ?_
 refine AY _ rfl (fun h1 => ?_) (fun h1 => ?_)
 ·refine AC<|rc [(30,EC x0 x1)] [gi (decide ((x1.X:Int)<x0.C.X)),gi (decide ((x1.X:Int)<x0.C.X)),gj (decide ((x1.X:Int)<x0.C.X)) (Ap (EC x0 x1).2.1),gi (decide ((x1.X:Int)<x0.C.X)),gi (decide ((x1.X:Int)<x0.C.X))] ⟨[(4,tB (bif decide ((x1.X:Int)<x0.C.X) then true else decide (((DT x0 x1):Int)<0)))],[]⟩ (.cons (MS x0 x1) .nil) (ci (ci (.cons (fun _=>rfl) (ci (ci .nil)))))<|AH ?_
  refine AZ<|A9 ?_
  exact ⟨_,Cv.refl _,.inl rfl,tO (.b (bif decide ((x1.X:Int)<x0.C.X) then true else decide (((DT x0 x1):Int)<0))),by kernel_rfl,Ad (by first | (simp only [C0,h1,cond_true,cond_false] <;> rfl))⟩
 ·refine Ae<|AH<|AC ?_
  refine rc [(42,EC x0 x1)] [gt (decide ((x1.X:Int)<x0.C.X)),gt (decide ((x1.X:Int)<x0.C.X)),gk (decide ((x1.X:Int)<x0.C.X)) (Ap (EC x0 x1).2.1),gt (decide ((x1.X:Int)<x0.C.X)),gt (decide ((x1.X:Int)<x0.C.X))] ⟨[(4,tB (bif decide ((x1.X:Int)<x0.C.X) then decide ((0:Int)<(DT x0 x1)) else false))],[]⟩ (.cons (MS x0 x1) .nil) (ci (ci (.cons (fun _=>rfl) (ci (ci .nil)))))<|AH<|AZ ?_
  exact ⟨_,Cv.refl _,.inl rfl,tO (.b (bif decide ((x1.X:Int)<x0.C.X) then decide ((0:Int)<(DT x0 x1)) else false)),by kernel_rfl,Ad (by first | (simp only [C0,h1,cond_true,cond_false] <;> rfl))⟩
theorem Kx (x0:AE) (x1:AB):Aq Tryz.prog (Dq x0 x1).1 (Dq x0 x1).2.1 (Dq x0 x1).2.2:=AR (fun _ _=>by kernel_rfl) fun _=>SO x0 x1
def GZ:FuncId×List Av×Ef:=(102,[.one (.i 1)],.val [] (.tup [.agg [.clo 109 0 (fun _=>default),.clo 110 0 (fun _=>default),.clo 111 0 (fun _=>default),.i 1],.one (.b true)]))
theorem UN  : BH Tryz.prog 102 (GZ ).2.1 (.tup [.agg [.clo 109 0 (fun _=>default),.clo 110 0 (fun _=>default),.clo 111 0 (fun _=>default),.i 1],.one (.b true)]):=by
 refine AO Tryz.func102 rfl kr kr fun W0 M0 => ?_
 refine AC<|rn ⟨[(0,tI 1),(2,tP 2 0)],[(2,.cells [.val .nilFunc,.val .nilFunc,.val .nilFunc,.i 0] 189)]⟩ ?_
 refine AC<|AC ?_
 refine rn ⟨[(0,tI 1),(2,tP 2 0),(4,tI 1)],[(2,.cells [.val .nilFunc,.val .nilFunc,.val .nilFunc,.i 0] 189)]⟩ ?_
 refine Af<|AC ?_
 refine rn ⟨[(0,tI 1),(2,tP 2 0),(4,tI 1),(5,tB true)],[(2,.cells [.val .nilFunc,.val .nilFunc,.val .nilFunc,.i 0] 189)]⟩ ?_
 refine Dz kr<|AC ?_
 refine rn ⟨[(2,tP 2 0),(3,tB true)],[(2,.cells [.clo 109 0 (fun _=>default),.clo 110 0 (fun _=>default),.clo 111 0 (fun _=>default),.i 1] 189)]⟩ ?_
 refine AZ<|B2<|A9 ?_
 exact ⟨_,Cv.refl _,.inl rfl,.tup [.agg [.clo 109 0 (fun _=>default),.clo 110 0 (fun _=>default),.clo 111 0 (fun _=>default),.i 1],.one (.b true)],by kernel_rfl,Ad rfl⟩
theorem SZ  : Aq Tryz.prog (GZ ).1 (GZ ).2.1 (GZ ).2.2:=AR (fun _ _=>by kernel_rfl) fun _=>UN
def GY:FuncId×List Av×Ef:=(102,[.one (.i 2)],.val [] (.tup [.agg [.clo 112 0 (fun _=>default),.clo 113 0 (fun _=>default),.clo 114 0 (fun _=>default),.i 3],.one (.b true)]))
theorem UM  : BH Tryz.prog 102 (GY ).2.1 (.tup [.agg [.clo 112 0 (fun _=>default),.clo 113 0 (fun _=>default),.clo 114 0 (fun _=>default),.i 3],.one (.b true)]):=by
 refine AO Tryz.func102 rfl kr kr fun W0 M0 => ?_
 refine AC<|rn ⟨[(0,tI 2),(2,tP 2 0)],[(2,.cells [.val .nilFunc,.val .nilFunc,.val .nilFunc,.i 0] 189)]⟩ ?_
 refine AC<|AC ?_
 refine rn ⟨[(0,tI 2),(2,tP 2 0),(4,tI 2)],[(2,.cells [.val .nilFunc,.val .nilFunc,.val .nilFunc,.i 0] 189)]⟩ ?_
 refine Af<|AC ?_
 refine rn ⟨[(0,tI 2),(2,tP 2 0),(4,tI 2),(5,tB false)],[(2,.cells [.val .nilFunc,.val .nilFunc,.val .nilFunc,.i 0] 189)]⟩ ?_
 refine FI kr<|AC ?_
 refine rn ⟨[(0,tI 2),(2,tP 2 0),(4,tI 2),(8,tB true)],[(2,.cells [.val .nilFunc,.val .nilFunc,.val .nilFunc,.i 0] 189)]⟩ ?_
 refine Dz kr<|AC ?_
 refine rn ⟨[(2,tP 2 0),(3,tB true)],[(2,.cells [.clo 112 0 (fun _=>default),.clo 113 0 (fun _=>default),.clo 114 0 (fun _=>default),.i 3] 189)]⟩ ?_
 refine AZ<|B2<|A9 ?_
 exact ⟨_,Cv.refl _,.inl rfl,.tup [.agg [.clo 112 0 (fun _=>default),.clo 113 0 (fun _=>default),.clo 114 0 (fun _=>default),.i 3],.one (.b true)],by kernel_rfl,Ad rfl⟩
theorem SY  : Aq Tryz.prog (GY ).1 (GY ).2.1 (GY ).2.2:=AR (fun _ _=>by kernel_rfl) fun _=>UM
def GX:FuncId×List Av×Ef:=(102,[.one (.i 3)],.val [] (.tup [.agg [.clo 115 0 (fun _=>default),.clo 113 0 (fun _=>default),.clo 114 0 (fun _=>default),.i 2],.one (.b true)]))
theorem UL  : BH Tryz.prog 102 (GX ).2.1 (.tup [.agg [.clo 115 0 (fun _=>default),.clo 113 0 (fun _=>default),.clo 114 0 (fun _=>default),.i 2],.one (.b true)]):=by
 refine AO Tryz.func102 rfl kr kr fun W0 M0 => ?_
 refine AC<|rn ⟨[(0,tI 3),(2,tP 2 0)],[(2,.cells [.val .nilFunc,.val .nilFunc,.val .nilFunc,.i 0] 189)]⟩ ?_
 refine AC<|AC ?_
 refine rn ⟨[(0,tI 3),(2,tP 2 0),(4,tI 3)],[(2,.cells [.val .nilFunc,.val .nilFunc,.val .nilFunc,.i 0] 189)]⟩ ?_
 refine Af<|AC ?_
 refine rn ⟨[(0,tI 3),(2,tP 2 0),(4,tI 3),(5,tB false)],[(2,.cells [.val .nilFunc,.val .nilFunc,.val .nilFunc,.i 0] 189)]⟩ ?_
 refine FI kr<|AC ?_
 refine rn ⟨[(0,tI 3),(2,tP 2 0),(4,tI 3),(8,tB false)],[(2,.cells [.val .nilFunc,.val .nilFunc,.val .nilFunc,.i 0] 189)]⟩ ?_
 refine FI kr<|AC ?_
 refine rn ⟨[(0,tI 3),(2,tP 2 0),(11,tB true)],[(2,.cells [.val .nilFunc,.val .nilFunc,.val .nilFunc,.i 0] 189)]⟩ ?_
 refine Dz kr<|AC ?_
 refine rn ⟨[(2,tP 2 0),(3,tB true)],[(2,.cells [.clo 115 0 (fun _=>default),.clo 113 0 (fun _=>default),.clo 114 0 (fun _=>default),.i 2] 189)]⟩ ?_
 refine AZ<|B2<|A9 ?_
 exact ⟨_,Cv.refl _,.inl rfl,.tup [.agg [.clo 115 0 (fun _=>default),.clo 113 0 (fun _=>default),.clo 114 0 (fun _=>default),.i 2],.one (.b true)],by kernel_rfl,Ad rfl⟩
theorem SX  : Aq Tryz.prog (GX ).1 (GX ).2.1 (GX ).2.2:=AR (fun _ _=>by kernel_rfl) fun _=>UL
def GW (k:Int):FuncId×List Av×Ef:=(102,[.one (.i k)],.val [] (.tup [.agg [.val .nilFunc,.val .nilFunc,.val .nilFunc,.i k],.one (.b false)]))
theorem UK (k:Int) (k1:¬ k=1) (k2:¬ k=2) (k3:¬ k=3):BH Tryz.prog 102 (GW k).2.1 (.tup [.agg [.val .nilFunc,.val .nilFunc,.val .nilFunc,.i k],.one (.b false)]):=by
 refine AO Tryz.func102 rfl kr kr fun W0 M0 => ?_
 refine AC<|rn ⟨[(0,tI k),(2,tP 2 0)],[(2,.cells [.val .nilFunc,.val .nilFunc,.val .nilFunc,.i 0] 189)]⟩ ?_
 refine AC<|AC ?_
 refine rn ⟨[(0,tI k),(2,tP 2 0),(4,tI k)],[(2,.cells [.val .nilFunc,.val .nilFunc,.val .nilFunc,.i 0] 189)]⟩ ?_
 refine Af<|AC ?_
 refine rn ⟨[(0,tI k),(2,tP 2 0),(4,tI k),(5,tB (decide ((k:Int)=1)))],[(2,.cells [.val .nilFunc,.val .nilFunc,.val .nilFunc,.i 0] 189)]⟩ ?_
 refine AY _ rfl (fun h=>absurd ((decide_eq_false k1).symm.trans h) (by decide)) (fun _ => ?_)
 refine AC<|rn ⟨[(0,tI k),(2,tP 2 0),(4,tI k),(8,tB (decide ((k:Int)=2)))],[(2,.cells [.val .nilFunc,.val .nilFunc,.val .nilFunc,.i 0] 189)]⟩ ?_
 refine AY _ rfl (fun h=>absurd ((decide_eq_false k2).symm.trans h) (by decide)) (fun _ => ?_)
 refine AC<|rn ⟨[(0,tI k),(2,tP 2 0),(11,tB (decide ((k:Int)=3)))],[(2,.cells [.val .nilFunc,.val .nilFunc,.val .nilFunc,.i 0] 189)]⟩ ?_
 refine AY _ rfl (fun h=>absurd ((decide_eq_false k3).symm.trans h) (by decide)) (fun _ => ?_)
 refine Ae<|BZ ?_
 refine AH<|AC ?_
 refine rn ⟨[(2,tP 2 0),(3,tB false)],[(2,.cells [.val .nilFunc,.val .nilFunc,.val .nilFunc,.i k] 189)]⟩<|AZ ?_
 exact ⟨_,Cv.refl _,.inl rfl,.tup [.agg [.val .nilFunc,.val .nilFunc,.val .nilFunc,.i k],.one (.b false)],by kernel_rfl,Ad rfl⟩
theorem SW (k:Int) (k1:¬ k=1) (k2:¬ k=2) (k3:¬ k=3):Aq Tryz.prog (GW k).1 (GW k).2.1 (GW k).2.2:=AR (fun _ _=>by kernel_rfl) fun _=>UK k k1 k2 k3
def Z00 (a0:AB) (a1:AB):Bool:=bif Ah a0 then Ah a1 else false
def Z01 (a0:AB) (a1:AB) (a2:AB):Bool:=bif Z00 a0 a1 then Ah a2 else false
def Z02 (a0:AB) (a1:AB) (a2:AB):Bool:=bif Z01 a0 a1 a2 then GA (AE.mk 1 a0 a1 a2) else false
def TS (a0:AB) (a1:AB) (a2:AB):FuncId×List Av×Ef:=(84,[.agg [.i 1,.i a0.X,.i a0.Y,.i a1.X,.i a1.Y,.i a2.X,.i a2.Y]],.val [] (.tup [.agg [.clo 109 0 (fun _=>default),.clo 110 0 (fun _=>default),.clo 111 0 (fun _=>default),.i 1],.one (.b (Z02 a0 a1 a2))]))
theorem jD {p:Prop} (h:p:=by
 refine AO Tryz.func84 rfl kr kr fun W0 M0 => ?_
 refine AC<|rn ⟨[(1,tP 1 0),(2,tP 2 0)],[(1,.cells [.i mp0,.i a0.X,.i a0.Y,.i a1.X,.i a1.Y,.i a2.X,.i a2.Y] 136),(2,.cells [.val .nilFunc,.val .nilFunc,.val .nilFunc,.i 0] 189)]⟩<|AC ?_
 refine rs 9 mp1 ⟨[(1,tP 1 0),(2,tP 2 0),(4,tP 4 0),(5,tB true)],[(1,.cells [.i mp0,.i a0.X,.i a0.Y,.i a1.X,.i a1.Y,.i a2.X,.i a2.Y] 136),(2,.cells [.val .nilFunc,.val .nilFunc,.val .nilFunc,.i 0] 189),(4,.cells [.clo mp2 0 (fun _=>default),.clo mp3 0 (fun _=>default),.clo mp4 0 (fun _=>default),.i mp5] 189)]⟩ (mp6)<|AH<|AC ?_
 refine dw [] [(17,BN a0),(22,BN a1),(27,BN a2),(33,mp7 (AE.mk mp0 a0 a1 a2))] [((true)=true)->((true)=true),((true)=true)->((true)=true),((true)=true)->(Ap (BN a0).2.1),(true)=true->((true)=true),gt (Ah a0),gt (Ah a0),gk (Ah a0) (Ap (BN a1).2.1),gt (Ah a0),((mp8 a0 a1)=true)->((mp8 a0 a1)=true),((mp8 a0 a1)=true)->((mp8 a0 a1)=true),((mp8 a0 a1)=true)->(Ap (BN a2).2.1),(mp8 a0 a1)=true->((mp8 a0 a1)=true),gt (mp9 a0 a1 a2),gt (mp9 a0 a1 a2),gt (mp9 a0 a1 a2),gk (mp9 a0 a1 a2) (Ap (mp7 (AE.mk mp0 a0 a1 a2)).2.1),gt (mp9 a0 a1 a2)] ⟨[(2,tP 2 0),(3,tB (mp10 a0 a1 a2))],[(2,.cells [.clo mp2 0 (fun _=>default),.clo mp3 0 (fun _=>default),.clo mp4 0 (fun _=>default),.i mp5] 189)]⟩ (.cons (Cm a0) (.cons (Cm a1) (.cons (Cm a2) (.cons (mp11 (AE.mk mp0 a0 a1 a2)) .nil)))) (ci (ci (.cons (fun _=>rfl) (ci (ci (ci (.cons (fun _=>rfl) (ci (ci (ci (.cons (fun _=>rfl) (ci (ci (ci (ci (.cons (fun _=>rfl) (ci .nil)))))))))))))))))<|AH<|AZ ?_
 exact ⟨_,Cv.refl _,.inl rfl,.tup [.agg [.clo mp2 0 (fun _=>default),.clo mp3 0 (fun _=>default),.clo mp4 0 (fun _=>default),.i mp5],.one (.b (mp10 a0 a1 a2))],by kernel_rfl,Ad rfl⟩):p:=h
section
 open Go.Proofs.YtdbampcfmjbgmaaGreat renaming nn1→mp0,GZ→mp1,nn109→mp2,nn110→mp3,nn111→mp4,nn1→mp5,SZ→mp6,HW→mp7,Z00→mp8,Z01→mp9,Z02→mp10,UX→mp11
theorem pof1 (a0:AB) (a1:AB) (a2:AB):BH Tryz.prog 84 (TS a0 a1 a2).2.1 (.tup [.agg [.clo 109 0 (fun _=>default),.clo 110 0 (fun _=>default),.clo 111 0 (fun _=>default),.i 1],.one (.b (Z02 a0 a1 a2))]):=jD
end
theorem Vf (a0:AB) (a1:AB) (a2:AB):Aq Tryz.prog (TS a0 a1 a2).1 (TS a0 a1 a2).2.1 (TS a0 a1 a2).2.2:=AR (fun _ _=>by kernel_rfl) fun _=>pof1 a0 a1 a2
def Z03 (a0:AB) (a1:AB):Bool:=bif Ah a0 then Ah a1 else false
def Z04 (a0:AB) (a1:AB) (a2:AB):Bool:=bif Z03 a0 a1 then Ah a2 else false
def Z05 (a0:AB) (a1:AB) (a2:AB):Bool:=bif Z04 a0 a1 a2 then Dj (AE.mk 2 a0 a1 a2) else false
def TR (a0:AB) (a1:AB) (a2:AB):FuncId×List Av×Ef:=(84,[.agg [.i 2,.i a0.X,.i a0.Y,.i a1.X,.i a1.Y,.i a2.X,.i a2.Y]],.val [] (.tup [.agg [.clo 112 0 (fun _=>default),.clo 113 0 (fun _=>default),.clo 114 0 (fun _=>default),.i 3],.one (.b (Z05 a0 a1 a2))]))
section
 open Go.Proofs.YtdbampcfmjbgmaaGreat renaming nn2→mp0,GY→mp1,gB→mp2,gA→mp3,fZ→mp4,nn3→mp5,SY→mp6,ED→mp7,Z03→mp8,Z04→mp9,Z05→mp10,Mv→mp11
theorem pof2 (a0:AB) (a1:AB) (a2:AB):BH Tryz.prog 84 (TR a0 a1 a2).2.1 (.tup [.agg [.clo 112 0 (fun _=>default),.clo 113 0 (fun _=>default),.clo 114 0 (fun _=>default),.i 3],.one (.b (Z05 a0 a1 a2))]):=jD
end
theorem Ve (a0:AB) (a1:AB) (a2:AB):Aq Tryz.prog (TR a0 a1 a2).1 (TR a0 a1 a2).2.1 (TR a0 a1 a2).2.2:=AR (fun _ _=>by kernel_rfl) fun _=>pof2 a0 a1 a2
def Z06 (a0:AB) (a1:AB):Bool:=bif Ah a0 then Ah a1 else false
def Z07 (a0:AB) (a1:AB) (a2:AB):Bool:=bif Z06 a0 a1 then Ah a2 else false
def Z08 (a0:AB) (a1:AB) (a2:AB):Bool:=bif Z07 a0 a1 a2 then DG (AE.mk 3 a0 a1 a2) else false
def TQ (a0:AB) (a1:AB) (a2:AB):FuncId×List Av×Ef:=(84,[.agg [.i 3,.i a0.X,.i a0.Y,.i a1.X,.i a1.Y,.i a2.X,.i a2.Y]],.val [] (.tup [.agg [.clo 115 0 (fun _=>default),.clo 113 0 (fun _=>default),.clo 114 0 (fun _=>default),.i 2],.one (.b (Z08 a0 a1 a2))]))
section
 open Go.Proofs.YtdbampcfmjbgmaaGreat renaming nn3→mp0,GX→mp1,fY→mp2,gA→mp3,fZ→mp4,nn2→mp5,SX→mp6,Dw→mp7,Z06→mp8,Z07→mp9,Z08→mp10,Lv→mp11
theorem pof3 (a0:AB) (a1:AB) (a2:AB):BH Tryz.prog 84 (TQ a0 a1 a2).2.1 (.tup [.agg [.clo 115 0 (fun _=>default),.clo 113 0 (fun _=>default),.clo 114 0 (fun _=>default),.i 2],.one (.b (Z08 a0 a1 a2))]):=jD
end
theorem Vd (a0:AB) (a1:AB) (a2:AB):Aq Tryz.prog (TQ a0 a1 a2).1 (TQ a0 a1 a2).2.1 (TQ a0 a1 a2).2.2:=AR (fun _ _=>by kernel_rfl) fun _=>pof3 a0 a1 a2
def TP (e:AE):FuncId×List Av×Ef:=(84,[.agg (AE.c e)],.val [] (.tup [.agg [.val .nilFunc,.val .nilFunc,.val .nilFunc,.i e.Kind],.one (.b false)]))
theorem pofN (e:AE) (k1:¬ e.Kind=1) (k2:¬ e.Kind=2) (k3:¬ e.Kind=3):BH Tryz.prog 84 (TP e).2.1 (.tup [.agg [.val .nilFunc,.val .nilFunc,.val .nilFunc,.i e.Kind],.one (.b false)]):=by
 refine AO Tryz.func84 rfl kr kr fun W0 M0 => ?_
 refine AC<|rn ⟨[(1,tP 1 0),(2,tP 2 0)],[(1,.cells (AE.c e) 136),(2,.cells [.val .nilFunc,.val .nilFunc,.val .nilFunc,.i 0] 189)]⟩<|AC ?_
 refine rs 9 (GW e.Kind) ⟨[(1,tP 1 0),(2,tP 2 0),(4,tP 4 0),(5,tB false)],[(1,.cells (AE.c e) 136),(2,.cells [.val .nilFunc,.val .nilFunc,.val .nilFunc,.i 0] 189),(4,.cells [.val .nilFunc,.val .nilFunc,.val .nilFunc,.i e.Kind] 189)]⟩ (SW e.Kind k1 k2 k3)<|AH<|AC ?_
 refine dw [] [(17,BN e.A),(22,BN e.B),(27,BN e.C)] [((false)=true)->((false)=true),((false)=true)->((false)=true),((false)=true)->(Ap (BN e.A).2.1),(false)=true->((false)=true),((false)=true)->((false)=true),((false)=true)->((false)=true),((false)=true)->(Ap (BN e.B).2.1),(false)=true->((false)=true),((false)=true)->((false)=true),((false)=true)->((false)=true),((false)=true)->(Ap (BN e.C).2.1),(false)=true->((false)=true),((false)=true)->((false)=true),¬ ((false)=true),(false)=true->((false)=true)] ⟨[(2,tP 2 0),(3,tB false)],[(2,.cells [.val .nilFunc,.val .nilFunc,.val .nilFunc,.i e.Kind] 189)]⟩ (.cons (Cm e.A) (.cons (Cm e.B) (.cons (Cm e.C) .nil))) (ci (ci (.cons (fun _=>rfl) (ci (ci (ci (.cons (fun _=>rfl) (ci (ci (ci (.cons (fun _=>rfl) (ci (ci (.cons (by simp) (ci .nil)))))))))))))))<|AH<|AZ ?_
 exact ⟨_,Cv.refl _,.inl rfl,.tup [.agg [.val .nilFunc,.val .nilFunc,.val .nilFunc,.i e.Kind],.one (.b false)],by kernel_rfl,Ad rfl⟩
theorem Vc (e:AE) (k1:¬ e.Kind=1) (k2:¬ e.Kind=2) (k3:¬ e.Kind=3):Aq Tryz.prog (TP e).1 (TP e).2.1 (TP e).2.2:=AR (fun _ _=>by kernel_rfl) fun _=>pofN e k1 k2 k3
def Z09 (a0:AB) (a1:AB) (a2:AB):Bool := !(bif bif Ah a0 then Ah a1 else false then Ah a2 else false)
def Jd (a0:AB) (a1:AB) (a2:AB):Int:=bif Z02 a0 a1 a2 then (0) else (bif Z09 a0 a1 a2 then (10) else (11))
def eQ (a0:AB) (a1:AB) (a2:AB):FuncId×List Av×Ef:=(73,[.agg [.i 1,.i a0.X,.i a0.Y,.i a1.X,.i a1.Y,.i a2.X,.i a2.Y]],.val [] (.av (.one (.i (Jd a0 a1 a2)))))
theorem jC {p:Prop} (h:p:=by
 refine AO Tryz.func73 rfl kr kr fun W0 M0 => ?_
 refine AC<|rn ⟨[(1,tP 1 0)],[(1,.cells [.i mp0,.i a0.X,.i a0.Y,.i a1.X,.i a1.Y,.i a2.X,.i a2.Y] 136)]⟩ ?_
 refine AC<|AC ?_
 refine rs 7 (mp1 a0 a1 a2) ⟨[(1,tP 1 0),(4,tB (mp2 a0 a1 a2))],[(1,.cells [.i mp0,.i a0.X,.i a0.Y,.i a1.X,.i a1.Y,.i a2.X,.i a2.Y] 136)]⟩ (mp3 a0 a1 a2)<|AH ?_
 refine Af<|AC ?_
 refine rn ⟨[(1,tP 1 0),(10,tB (mp2 a0 a1 a2))],[(1,.cells [.i mp0,.i a0.X,.i a0.Y,.i a1.X,.i a1.Y,.i a2.X,.i a2.Y] 136)]⟩ ?_
 refine AY _ rfl (fun h1 => ?_) (fun h1 => ?_)
 ·refine AC<|rn ⟨[(2,tI 0)],[]⟩ ?_
  refine AZ<|B2<|A9 ?_
  exact ⟨_,Cv.refl _,.inl rfl,tO (.i 0),by kernel_rfl,Ad (by first | (simp only [mp4,h1,cond_true,cond_false] <;> rfl))⟩
 ·refine AC<|rc [(24,BN a0),(28,BN a1),(33,BN a2)] [((true)=true)->((true)=true),((true)=true)->((true)=true),(true)=true->((true)=true),((true)=true)->((true)=true),((true)=true)->((true)=true),((true)=true)->(Ap (BN a0).2.1),((true)=true)->((true)=true),(((true)=true)/\(Ah a0)=true)->(((true)=true)/\(Ah a0)=true),(((true)=true)/\(Ah a0)=true)->(((true)=true)/\(Ah a0)=true),(((true)=true)/\(Ah a0)=true)->(Ap (BN a1).2.1),((true)=true)->((true)=true),((true)=true)->((Ah a0)=true->(((true)=true)/\(Ah a0)=true)),((true)=true)->((true)=true),(((true)=true)/\(bif Ah a0 then Ah a1 else false)=true)->(((true)=true)/\(bif Ah a0 then Ah a1 else false)=true),(((true)=true)/\(bif Ah a0 then Ah a1 else false)=true)->(((true)=true)/\(bif Ah a0 then Ah a1 else false)=true),(((true)=true)/\(bif Ah a0 then Ah a1 else false)=true)->(Ap (BN a2).2.1),((true)=true)->((true)=true),((true)=true)->((bif Ah a0 then Ah a1 else false)=true->(((true)=true)/\(bif Ah a0 then Ah a1 else false)=true)),((true)=true)->((true)=true),(true)=true->((true)=true)] ⟨[(12,tB (mp5 a0 a1 a2))],[]⟩ (.cons (Cm a0) (.cons (Cm a1) (.cons (Cm a2) .nil))) (ci (ci (ci (ci (ci (.cons (fun _=>rfl) (ci (ci (ci (.cons (fun _=>rfl) (ci (.cons (by intros;first | assumption | exact ⟨by assumption,by assumption⟩ | simp_all) (ci (ci (ci (.cons (fun _=>rfl) (ci (.cons (by intros;first | assumption | exact ⟨by assumption,by assumption⟩ | simp_all) (ci (ci .nil))))))))))))))))))))<|AH ?_
  refine AY _ rfl (fun h2 => ?_) (fun h2 => ?_)
  ·refine AC<|rn ⟨[(2,tI 10)],[]⟩ ?_
   refine AZ<|B2<|A9 ?_
   exact ⟨_,Cv.refl _,.inl rfl,tO (.i 10),by kernel_rfl,Ad (by first | (simp only [mp4,h1,h2,cond_true,cond_false] <;> rfl))⟩
  ·refine Ae<|BZ ?_
   refine AH<|AC ?_
   refine rn ⟨[(2,tI 11)],[]⟩<|AZ ?_
   exact ⟨_,Cv.refl _,.inl rfl,tO (.i 11),by kernel_rfl,Ad (by first | (simp only [mp4,h1,h2,cond_true,cond_false] <;> rfl))⟩):p:=h
section
 open Go.Proofs.YtdbampcfmjbgmaaGreat renaming nn1→mp0,TS→mp1,Z02→mp2,Vf→mp3,Jd→mp4,Z09→mp5
theorem cO (a0:AB) (a1:AB) (a2:AB):BH Tryz.prog 73 (eQ a0 a1 a2).2.1 (tO (.i (Jd a0 a1 a2))):=jC
end
def Z0a (a0:AB) (a1:AB) (a2:AB):Bool := !(bif bif Ah a0 then Ah a1 else false then Ah a2 else false)
def Jc (a0:AB) (a1:AB) (a2:AB):Int:=bif Z05 a0 a1 a2 then (0) else (bif Z0a a0 a1 a2 then (10) else (11))
def eP (a0:AB) (a1:AB) (a2:AB):FuncId×List Av×Ef:=(73,[.agg [.i 2,.i a0.X,.i a0.Y,.i a1.X,.i a1.Y,.i a2.X,.i a2.Y]],.val [] (.av (.one (.i (Jc a0 a1 a2)))))
section
 open Go.Proofs.YtdbampcfmjbgmaaGreat renaming nn2→mp0,TR→mp1,Z05→mp2,Ve→mp3,Jc→mp4,Z0a→mp5
theorem cN (a0:AB) (a1:AB) (a2:AB):BH Tryz.prog 73 (eP a0 a1 a2).2.1 (tO (.i (Jc a0 a1 a2))):=jC
end
def Z0b (a0:AB) (a1:AB) (a2:AB):Bool := !(bif bif Ah a0 then Ah a1 else false then Ah a2 else false)
def Jb (a0:AB) (a1:AB) (a2:AB):Int:=bif Z08 a0 a1 a2 then (0) else (bif Z0b a0 a1 a2 then (10) else (11))
def eO (a0:AB) (a1:AB) (a2:AB):FuncId×List Av×Ef:=(73,[.agg [.i 3,.i a0.X,.i a0.Y,.i a1.X,.i a1.Y,.i a2.X,.i a2.Y]],.val [] (.av (.one (.i (Jb a0 a1 a2)))))
section
 open Go.Proofs.YtdbampcfmjbgmaaGreat renaming nn3→mp0,TQ→mp1,Z08→mp2,Vd→mp3,Jb→mp4,Z0b→mp5
theorem cM (a0:AB) (a1:AB) (a2:AB):BH Tryz.prog 73 (eO a0 a1 a2).2.1 (tO (.i (Jb a0 a1 a2))):=jC
end
def IE (e:AE):Int:=bif bif bif decide ((1:Int)<=e.Kind) then decide ((e.Kind:Int)<=3) else false then !(bif bif Ah e.A then Ah e.B else false then Ah e.C else false) else false then (10) else (11)
def eN (e:AE):FuncId×List Av×Ef:=(73,[.agg (AE.c e)],.val [] (.av (.one (.i (IE e)))))
theorem cL (e:AE) (k1:¬ e.Kind=1) (k2:¬ e.Kind=2) (k3:¬ e.Kind=3):BH Tryz.prog 73 (eN e).2.1 (tO (.i (IE e))):=by
 refine AO Tryz.func73 rfl kr kr fun W0 M0 => ?_
 refine AC<|rn ⟨[(1,tP 1 0)],[(1,.cells (AE.c e) 136)]⟩ ?_
 refine AC<|AC ?_
 refine rs 7 (TP e) ⟨[(1,tP 1 0),(4,tB false)],[(1,.cells (AE.c e) 136)]⟩ (Vc e k1 k2 k3)<|AH ?_
 refine Af<|AC ?_
 refine rn ⟨[(1,tP 1 0),(10,tB false)],[(1,.cells (AE.c e) 136)]⟩ ?_
 refine FI kr<|AC ?_
 refine rc [(24,BN e.A),(28,BN e.B),(33,BN e.C)] [gt (decide ((1:Int)<=e.Kind)),gt (decide ((1:Int)<=e.Kind)),gt (decide ((1:Int)<=e.Kind)),gt (bif decide ((1:Int)<=e.Kind) then decide ((e.Kind:Int)<=3) else false),gt (bif decide ((1:Int)<=e.Kind) then decide ((e.Kind:Int)<=3) else false),gk (bif decide ((1:Int)<=e.Kind) then decide ((e.Kind:Int)<=3) else false) (Ap (BN e.A).2.1),gt (bif decide ((1:Int)<=e.Kind) then decide ((e.Kind:Int)<=3) else false),(((bif decide ((1:Int)<=e.Kind) then decide ((e.Kind:Int)<=3) else false)=true)/\(Ah e.A)=true)->(((bif decide ((1:Int)<=e.Kind) then decide ((e.Kind:Int)<=3) else false)=true)/\(Ah e.A)=true),(((bif decide ((1:Int)<=e.Kind) then decide ((e.Kind:Int)<=3) else false)=true)/\(Ah e.A)=true)->(((bif decide ((1:Int)<=e.Kind) then decide ((e.Kind:Int)<=3) else false)=true)/\(Ah e.A)=true),(((bif decide ((1:Int)<=e.Kind) then decide ((e.Kind:Int)<=3) else false)=true)/\(Ah e.A)=true)->(Ap (BN e.B).2.1),gt (bif decide ((1:Int)<=e.Kind) then decide ((e.Kind:Int)<=3) else false),((bif decide ((1:Int)<=e.Kind) then decide ((e.Kind:Int)<=3) else false)=true)->((Ah e.A)=true->(((bif decide ((1:Int)<=e.Kind) then decide ((e.Kind:Int)<=3) else false)=true)/\(Ah e.A)=true)),gt (bif decide ((1:Int)<=e.Kind) then decide ((e.Kind:Int)<=3) else false),(((bif decide ((1:Int)<=e.Kind) then decide ((e.Kind:Int)<=3) else false)=true)/\(bif Ah e.A then Ah e.B else false)=true)->(((bif decide ((1:Int)<=e.Kind) then decide ((e.Kind:Int)<=3) else false)=true)/\(bif Ah e.A then Ah e.B else false)=true),(((bif decide ((1:Int)<=e.Kind) then decide ((e.Kind:Int)<=3) else false)=true)/\(bif Ah e.A then Ah e.B else false)=true)->(((bif decide ((1:Int)<=e.Kind) then decide ((e.Kind:Int)<=3) else false)=true)/\(bif Ah e.A then Ah e.B else false)=true),(((bif decide ((1:Int)<=e.Kind) then decide ((e.Kind:Int)<=3) else false)=true)/\(bif Ah e.A then Ah e.B else false)=true)->(Ap (BN e.C).2.1),gt (bif decide ((1:Int)<=e.Kind) then decide ((e.Kind:Int)<=3) else false),((bif decide ((1:Int)<=e.Kind) then decide ((e.Kind:Int)<=3) else false)=true)->((bif Ah e.A then Ah e.B else false)=true->(((bif decide ((1:Int)<=e.Kind) then decide ((e.Kind:Int)<=3) else false)=true)/\(bif Ah e.A then Ah e.B else false)=true)),gt (bif decide ((1:Int)<=e.Kind) then decide ((e.Kind:Int)<=3) else false),gt (bif decide ((1:Int)<=e.Kind) then decide ((e.Kind:Int)<=3) else false)] ⟨[(12,tB (bif bif decide ((1:Int)<=e.Kind) then decide ((e.Kind:Int)<=3) else false then !(bif bif Ah e.A then Ah e.B else false then Ah e.C else false) else false))],[]⟩ (.cons (Cm e.A) (.cons (Cm e.B) (.cons (Cm e.C) .nil))) (ci (ci (ci (ci (ci (.cons (fun _=>rfl) (ci (ci (ci (.cons (fun _=>rfl) (ci (.cons (by intros;first | assumption | exact ⟨by assumption,by assumption⟩ | simp_all) (ci (ci (ci (.cons (fun _=>rfl) (ci (.cons (by intros;first | assumption | exact ⟨by assumption,by assumption⟩ | simp_all) (ci (ci .nil))))))))))))))))))))<|AH ?_
 refine AY _ rfl (fun h4 => ?_) (fun h4 => ?_)
 ·refine AC<|rn ⟨[(2,tI 10)],[]⟩ ?_
  refine AZ<|B2<|A9 ?_
  exact ⟨_,Cv.refl _,.inl rfl,tO (.i 10),by kernel_rfl,Ad (by first | (simp only [IE,h4,cond_true,cond_false] <;> rfl))⟩
 ·refine Ae<|BZ ?_
  refine AH<|AC ?_
  refine rn ⟨[(2,tI 11)],[]⟩<|AZ ?_
  exact ⟨_,Cv.refl _,.inl rfl,tO (.i 11),by kernel_rfl,Ad (by first | (simp only [IE,h4,cond_true,cond_false] <;> rfl))⟩
def Dv (e:AE)  : Int:=if e.Kind=1 then Jd e.A e.B e.C  else if e.Kind=2 then Jc e.A e.B e.C  else if e.Kind=3 then Jb e.A e.B e.C  else IE e
def Oz (e:AE)  : FuncId×List Av×Ef:=(73,[.agg (AE.c e)],.val [] (.av (.one (.i (Dv e )))))
theorem iG (e:AE)  : BH Tryz.prog 73 (Oz e ).2.1 (.av (.one (.i (Dv e )))):=by
 by_cases k1:e.Kind=1
 ·have hF:Dv e  = Jd e.A e.B e.C  := by unfold Dv;rw [if_pos k1]
  rw [hF];obtain ⟨k,a0,a1,a2⟩:=e;simp only at k1;subst k1;exact cO a0 a1 a2 
 by_cases k2:e.Kind=2
 ·have hF:Dv e  = Jc e.A e.B e.C  := by unfold Dv;rw [if_neg k1];rw [if_pos k2]
  rw [hF];obtain ⟨k,a0,a1,a2⟩:=e;simp only at k2;subst k2;exact cN a0 a1 a2 
 by_cases k3:e.Kind=3
 ·have hF:Dv e  = Jb e.A e.B e.C  := by unfold Dv;rw [if_neg k1];rw [if_neg k2];rw [if_pos k3]
  rw [hF];obtain ⟨k,a0,a1,a2⟩:=e;simp only at k3;subst k3;exact cM a0 a1 a2 
 have hF:Dv e  = IE e  := by unfold Dv;rw [if_neg k1,if_neg k2,if_neg k3]
 rw [hF];exact cL e  k1 k2 k3
theorem cY (e:AE)  : Aq Tryz.prog (Oz e ).1 (Oz e ).2.1 (Oz e ).2.2:=AR (fun _ _=>by kernel_rfl) fun _=>iG e
def Z0c (a0:AB) (a1:AB) (a2:AB):Bool:=bif !(Z02 a0 a1 a2) then true else true
def JD (a0:AB) (a1:AB) (a2:AB):Int:=bif Z0c a0 a1 a2 then (0) else (max (max (max ((AK a0 a2).X) (W64 (0-((AK a0 a2).X)))) ((AK a0 a2).Y)) (W64 (0-((AK a0 a2).Y))))
def aE (a0:AB) (a1:AB) (a2:AB):FuncId×List Av×Ef:=(78,[.agg [.i 1,.i a0.X,.i a0.Y,.i a1.X,.i a1.Y,.i a2.X,.i a2.Y]],.val [] (.av (.one (.i (JD a0 a1 a2)))))
theorem jB {p:Prop} (h:p:=by
 refine AO Tryz.func78 rfl kr kr fun W0 M0 => ?_
 refine AC<|rn ⟨[(1,tP 1 0)],[(1,.cells [.i mp0,.i a0.X,.i a0.Y,.i a1.X,.i a1.Y,.i a2.X,.i a2.Y] 136)]⟩ ?_
 refine AC<|AC ?_
 refine rs 8 (mp1 a0 a1 a2) ⟨[(1,tP 1 0),(4,tB (mp2 a0 a1 a2))],[(1,.cells [.i mp0,.i a0.X,.i a0.Y,.i a1.X,.i a1.Y,.i a2.X,.i a2.Y] 136)]⟩ (mp3 a0 a1 a2)<|AH<|AC ?_
 refine rc [] [gi (!(mp2 a0 a1 a2)),gi (!(mp2 a0 a1 a2)),gi (!(mp2 a0 a1 a2))] ⟨[(1,tP 1 0),(17,tB (mp4 a0 a1 a2))],[(1,.cells [.i mp0,.i a0.X,.i a0.Y,.i a1.X,.i a1.Y,.i a2.X,.i a2.Y] 136)]⟩ .nil (ci (ci (ci .nil)))<|AH ?_
 refine AY _ rfl (fun h1 => ?_) (fun h1 => ?_)
 ·refine AC<|rn ⟨[(2,tI 0)],[]⟩ ?_
  refine AZ<|A9 ?_
  exact ⟨_,Cv.refl _,.inl rfl,tO (.i 0),by kernel_rfl,Ad (by first | (simp only [mp5,h1,cond_true,cond_false] <;> rfl))⟩
 ·refine Ae<|AH<|AC ?_
  refine rs 22 (Bz a0 a2) ⟨[(5,tP 5 0)],[(5,.cells (AB.c (AK a0 a2)) 47)]⟩ (DI a0 a2)<|AH<|AC ?_
  refine rn ⟨[(2,tI (max (max (max ((AK a0 a2).X) (W64 (0-((AK a0 a2).X)))) ((AK a0 a2).Y)) (W64 (0-((AK a0 a2).Y)))))],[]⟩<|AZ ?_
  exact ⟨_,Cv.refl _,.inl rfl,tO (.i (max (max (max ((AK a0 a2).X) (W64 (0-((AK a0 a2).X)))) ((AK a0 a2).Y)) (W64 (0-((AK a0 a2).Y))))),by kernel_rfl,Ad (by first | (simp only [mp5,h1,cond_true,cond_false] <;> rfl))⟩):p:=h
section
 open Go.Proofs.YtdbampcfmjbgmaaGreat renaming nn1→mp0,TS→mp1,Z02→mp2,Vf→mp3,Z0c→mp4,JD→mp5
theorem Yq (a0:AB) (a1:AB) (a2:AB):BH Tryz.prog 78 (aE a0 a1 a2).2.1 (tO (.i (JD a0 a1 a2))):=jB
end
def Z0d (a0:AB) (a1:AB) (a2:AB):Bool:=bif !(Z05 a0 a1 a2) then true else false
def JC (a0:AB) (a1:AB) (a2:AB):Int:=bif Z0d a0 a1 a2 then (0) else (max (max (max ((AK a0 a2).X) (W64 (0-((AK a0 a2).X)))) ((AK a0 a2).Y)) (W64 (0-((AK a0 a2).Y))))
def aD (a0:AB) (a1:AB) (a2:AB):FuncId×List Av×Ef:=(78,[.agg [.i 2,.i a0.X,.i a0.Y,.i a1.X,.i a1.Y,.i a2.X,.i a2.Y]],.val [] (.av (.one (.i (JC a0 a1 a2)))))
section
 open Go.Proofs.YtdbampcfmjbgmaaGreat renaming nn2→mp0,TR→mp1,Z05→mp2,Ve→mp3,Z0d→mp4,JC→mp5
theorem Yp (a0:AB) (a1:AB) (a2:AB):BH Tryz.prog 78 (aD a0 a1 a2).2.1 (tO (.i (JC a0 a1 a2))):=jB
end
def Z0e (a0:AB) (a1:AB) (a2:AB):Bool:=bif !(Z08 a0 a1 a2) then true else false
def JB (a0:AB) (a1:AB) (a2:AB):Int:=bif Z0e a0 a1 a2 then (0) else (max (max (max ((AK a0 a2).X) (W64 (0-((AK a0 a2).X)))) ((AK a0 a2).Y)) (W64 (0-((AK a0 a2).Y))))
def aC (a0:AB) (a1:AB) (a2:AB):FuncId×List Av×Ef:=(78,[.agg [.i 3,.i a0.X,.i a0.Y,.i a1.X,.i a1.Y,.i a2.X,.i a2.Y]],.val [] (.av (.one (.i (JB a0 a1 a2)))))
section
 open Go.Proofs.YtdbampcfmjbgmaaGreat renaming nn3→mp0,TQ→mp1,Z08→mp2,Vd→mp3,Z0e→mp4,JB→mp5
theorem Yo (a0:AB) (a1:AB) (a2:AB):BH Tryz.prog 78 (aC a0 a1 a2).2.1 (tO (.i (JB a0 a1 a2))):=jB
end
def LQ (e:AE):Int:=0
def aB (e:AE):FuncId×List Av×Ef:=(78,[.agg (AE.c e)],.val [] (.av (.one (.i (LQ e)))))
theorem Yn (e:AE) (k1:¬ e.Kind=1) (k2:¬ e.Kind=2) (k3:¬ e.Kind=3):BH Tryz.prog 78 (aB e).2.1 (tO (.i (LQ e))):=by
 refine AO Tryz.func78 rfl kr kr fun W0 M0 => ?_
 refine AC<|rn ⟨[(1,tP 1 0)],[(1,.cells (AE.c e) 136)]⟩ ?_
 refine AC<|AC ?_
 refine rs 8 (TP e) ⟨[(1,tP 1 0),(4,tB false)],[(1,.cells (AE.c e) 136)]⟩ (Vc e k1 k2 k3)<|AH<|AC ?_
 refine rc [] [((true)=false)->((true)=false),((true)=false)->((true)=false),(true)=false->((true)=false)] ⟨[(1,tP 1 0),(17,tB true)],[(1,.cells (AE.c e) 136)]⟩ .nil (ci (ci (ci .nil)))<|AH ?_
 refine Dz kr<|AC ?_
 refine rn ⟨[(2,tI 0)],[]⟩ ?_
 refine AZ<|A9 ?_
 exact ⟨_,Cv.refl _,.inl rfl,tO (.i 0),by kernel_rfl,Ad (by rfl)⟩
def B8 (e:AE)  : Int:=if e.Kind=1 then JD e.A e.B e.C  else if e.Kind=2 then JC e.A e.B e.C  else if e.Kind=3 then JB e.A e.B e.C  else LQ e
def JQ (e:AE)  : FuncId×List Av×Ef:=(78,[.agg (AE.c e)],.val [] (.av (.one (.i (B8 e )))))
theorem cG (e:AE)  : BH Tryz.prog 78 (JQ e ).2.1 (.av (.one (.i (B8 e )))):=by
 by_cases k1:e.Kind=1
 ·have hF:B8 e  = JD e.A e.B e.C  := by unfold B8;rw [if_pos k1]
  rw [hF];obtain ⟨k,a0,a1,a2⟩:=e;simp only at k1;subst k1;exact Yq a0 a1 a2 
 by_cases k2:e.Kind=2
 ·have hF:B8 e  = JC e.A e.B e.C  := by unfold B8;rw [if_neg k1];rw [if_pos k2]
  rw [hF];obtain ⟨k,a0,a1,a2⟩:=e;simp only at k2;subst k2;exact Yp a0 a1 a2 
 by_cases k3:e.Kind=3
 ·have hF:B8 e  = JB e.A e.B e.C  := by unfold B8;rw [if_neg k1];rw [if_neg k2];rw [if_pos k3]
  rw [hF];obtain ⟨k,a0,a1,a2⟩:=e;simp only at k3;subst k3;exact Yo a0 a1 a2 
 have hF:B8 e  = LQ e  := by unfold B8;rw [if_neg k1,if_neg k2,if_neg k3]
 rw [hF];exact Yn e  k1 k2 k3
theorem Y4 (e:AE)  : Aq Tryz.prog (JQ e ).1 (JQ e ).2.1 (JQ e ).2.2:=AR (fun _ _=>by kernel_rfl) fun _=>cG e
def Mo (a0:AB) (a1:AB) (a2:AB) (p:AB):Int:=bif bif bif bif !(Z02 a0 a1 a2) then true else decide ((p.Y:Int)<((AV (AE.mk 1 a0 a1 a2)).Y0)) then true else decide ((((AV (AE.mk 1 a0 a1 a2)).Y1):Int)<=p.Y) then true else decide ((((AV (AE.mk 1 a0 a1 a2)).X1):Int)<=p.X) then (0) else (bif bif decide ((p.X:Int)<((AV (AE.mk 1 a0 a1 a2)).X0)) then true else FK (AE.mk 1 a0 a1 a2) p then (BT (AE.mk 1 a0 a1 a2)) else (0))
def cRay1 (a0:AB) (a1:AB) (a2:AB) (p:AB):FuncId×List Av×Ef:=(43,[.agg [.i 1,.i a0.X,.i a0.Y,.i a1.X,.i a1.Y,.i a2.X,.i a2.Y],.agg (AB.c p)],.val [] (.av (.one (.i (Mo a0 a1 a2 p)))))
theorem pRay1 (a0:AB) (a1:AB) (a2:AB) (p:AB):BH Tryz.prog 43 (cRay1 a0 a1 a2 p).2.1 (tO (.i (Mo a0 a1 a2 p))):=by
 refine AO Tryz.func43 rfl kr kr fun W0 M0 => ?_
 refine AC<|rn ⟨[(2,tP 2 0),(3,tP 3 0)],[(2,.cells [.i 1,.i a0.X,.i a0.Y,.i a1.X,.i a1.Y,.i a2.X,.i a2.Y] 136),(3,.cells (AB.c p) 47)]⟩<|AC ?_
 refine rs 10 (TS a0 a1 a2) ⟨[(2,tP 2 0),(3,tP 3 0),(5,tP 5 0),(6,tB (Z02 a0 a1 a2))],[(2,.cells [.i 1,.i a0.X,.i a0.Y,.i a1.X,.i a1.Y,.i a2.X,.i a2.Y] 136),(3,.cells (AB.c p) 47),(5,.cells [.clo 109 0 (fun _=>default),.clo 110 0 (fun _=>default),.clo 111 0 (fun _=>default),.i 1] 189)]⟩ (Vf a0 a1 a2)<|AH<|AC ?_
 refine rs 14 (EE (AE.mk 1 a0 a1 a2)) ⟨[(2,tP 2 0),(3,tP 3 0),(5,tP 5 0),(6,tB (Z02 a0 a1 a2)),(7,tP 7 0)],[(2,.cells [.i 1,.i a0.X,.i a0.Y,.i a1.X,.i a1.Y,.i a2.X,.i a2.Y] 136),(3,.cells (AB.c p) 47),(5,.cells [.clo 109 0 (fun _=>default),.clo 110 0 (fun _=>default),.clo 111 0 (fun _=>default),.i 1] 189),(7,.cells (An.c (AV (AE.mk 1 a0 a1 a2))) 74)]⟩ (F8 (AE.mk 1 a0 a1 a2))<|AH ?_
 refine AC<|AC ?_
 refine rc [] [gi (!(Z02 a0 a1 a2)),gi (!(Z02 a0 a1 a2)),gi (!(Z02 a0 a1 a2)),gi (!(Z02 a0 a1 a2)),gi (!(Z02 a0 a1 a2)),gi (bif !(Z02 a0 a1 a2) then true else decide ((p.Y:Int)<((AV (AE.mk 1 a0 a1 a2)).Y0))),gi (bif !(Z02 a0 a1 a2) then true else decide ((p.Y:Int)<((AV (AE.mk 1 a0 a1 a2)).Y0))),gi (bif !(Z02 a0 a1 a2) then true else decide ((p.Y:Int)<((AV (AE.mk 1 a0 a1 a2)).Y0))),gi (bif !(Z02 a0 a1 a2) then true else decide ((p.Y:Int)<((AV (AE.mk 1 a0 a1 a2)).Y0))),gi (bif !(Z02 a0 a1 a2) then true else decide ((p.Y:Int)<((AV (AE.mk 1 a0 a1 a2)).Y0))),gi (bif bif !(Z02 a0 a1 a2) then true else decide ((p.Y:Int)<((AV (AE.mk 1 a0 a1 a2)).Y0)) then true else decide ((((AV (AE.mk 1 a0 a1 a2)).Y1):Int)<=p.Y)),gi (bif bif !(Z02 a0 a1 a2) then true else decide ((p.Y:Int)<((AV (AE.mk 1 a0 a1 a2)).Y0)) then true else decide ((((AV (AE.mk 1 a0 a1 a2)).Y1):Int)<=p.Y)),gi (bif bif !(Z02 a0 a1 a2) then true else decide ((p.Y:Int)<((AV (AE.mk 1 a0 a1 a2)).Y0)) then true else decide ((((AV (AE.mk 1 a0 a1 a2)).Y1):Int)<=p.Y)),gi (bif bif !(Z02 a0 a1 a2) then true else decide ((p.Y:Int)<((AV (AE.mk 1 a0 a1 a2)).Y0)) then true else decide ((((AV (AE.mk 1 a0 a1 a2)).Y1):Int)<=p.Y)),gi (bif bif !(Z02 a0 a1 a2) then true else decide ((p.Y:Int)<((AV (AE.mk 1 a0 a1 a2)).Y0)) then true else decide ((((AV (AE.mk 1 a0 a1 a2)).Y1):Int)<=p.Y))] ⟨[(2,tP 2 0),(3,tP 3 0),(5,tP 5 0),(7,tP 7 0),(37,tB (bif bif bif !(Z02 a0 a1 a2) then true else decide ((p.Y:Int)<((AV (AE.mk 1 a0 a1 a2)).Y0)) then true else decide ((((AV (AE.mk 1 a0 a1 a2)).Y1):Int)<=p.Y) then true else decide ((((AV (AE.mk 1 a0 a1 a2)).X1):Int)<=p.X)))],[(2,.cells [.i 1,.i a0.X,.i a0.Y,.i a1.X,.i a1.Y,.i a2.X,.i a2.Y] 136),(3,.cells (AB.c p) 47),(5,.cells [.clo 109 0 (fun _=>default),.clo 110 0 (fun _=>default),.clo 111 0 (fun _=>default),.i 1] 189),(7,.cells (An.c (AV (AE.mk 1 a0 a1 a2))) 74)]⟩ .nil (ci (ci (ci (ci (ci (ci (ci (ci (ci (ci (ci (ci (ci (ci (ci .nil)))))))))))))))<|AH ?_
 refine AY _ rfl (fun h1 => ?_) (fun h1 => ?_)
 ·refine AC<|rn ⟨[(4,tI 0)],[]⟩ ?_
  refine AZ<|A9 ?_
  exact ⟨_,Cv.refl _,.inl rfl,tO (.i 0),by kernel_rfl,Ad (by first | (simp only [Mo,h1,cond_true,cond_false] <;> rfl))⟩
 ·refine Ae<|AH ?_
  refine AC<|AC ?_
  refine rc [(48,FG (AE.mk 1 a0 a1 a2) p)] [gi (decide ((p.X:Int)<((AV (AE.mk 1 a0 a1 a2)).X0))),gi (decide ((p.X:Int)<((AV (AE.mk 1 a0 a1 a2)).X0))),gi (decide ((p.X:Int)<((AV (AE.mk 1 a0 a1 a2)).X0))),gi (decide ((p.X:Int)<((AV (AE.mk 1 a0 a1 a2)).X0))),gj (decide ((p.X:Int)<((AV (AE.mk 1 a0 a1 a2)).X0))) (Ap (FG (AE.mk 1 a0 a1 a2) p).2.1),gi (decide ((p.X:Int)<((AV (AE.mk 1 a0 a1 a2)).X0)))] ⟨[(2,tP 2 0),(49,tB (bif decide ((p.X:Int)<((AV (AE.mk 1 a0 a1 a2)).X0)) then true else FK (AE.mk 1 a0 a1 a2) p))],[(2,.cells [.i 1,.i a0.X,.i a0.Y,.i a1.X,.i a1.Y,.i a2.X,.i a2.Y] 136)]⟩ (.cons (Sa (AE.mk 1 a0 a1 a2) p) .nil) (ci (ci (ci (ci (.cons (fun _=>rfl) (ci .nil))))))<|AH ?_
  refine AY _ rfl (fun h2 => ?_) (fun h2 => ?_)
  ·refine AC<|rs 51 (DM (AE.mk 1 a0 a1 a2)) ⟨[(4,tI (BT (AE.mk 1 a0 a1 a2)))],[]⟩ (F2 (AE.mk 1 a0 a1 a2))<|AH ?_
   refine AZ<|A9 ?_
   exact ⟨_,Cv.refl _,.inl rfl,tO (.i (BT (AE.mk 1 a0 a1 a2))),by kernel_rfl,Ad (by first | (simp only [Mo,h1,h2,cond_true,cond_false] <;> rfl))⟩
  ·refine Ae<|AH<|AC ?_
   refine rn ⟨[(4,tI 0)],[]⟩<|AZ ?_
   exact ⟨_,Cv.refl _,.inl rfl,tO (.i 0),by kernel_rfl,Ad (by first | (simp only [Mo,h1,h2,cond_true,cond_false] <;> rfl))⟩
def Mm (a0:AB) (a1:AB) (a2:AB) (p:AB):Int:=bif bif bif bif !(Z05 a0 a1 a2) then true else decide ((p.Y:Int)<((AV (AE.mk 2 a0 a1 a2)).Y0)) then true else decide ((((AV (AE.mk 2 a0 a1 a2)).Y1):Int)<=p.Y) then true else decide ((((AV (AE.mk 2 a0 a1 a2)).X1):Int)<=p.X) then (0) else (bif bif decide ((p.X:Int)<((AV (AE.mk 2 a0 a1 a2)).X0)) then true else C0 (AE.mk 2 a0 a1 a2) p then (BT (AE.mk 2 a0 a1 a2)) else (0))
def cRay2 (a0:AB) (a1:AB) (a2:AB) (p:AB):FuncId×List Av×Ef:=(43,[.agg [.i 2,.i a0.X,.i a0.Y,.i a1.X,.i a1.Y,.i a2.X,.i a2.Y],.agg (AB.c p)],.val [] (.av (.one (.i (Mm a0 a1 a2 p)))))
theorem pRay2 (a0:AB) (a1:AB) (a2:AB) (p:AB):BH Tryz.prog 43 (cRay2 a0 a1 a2 p).2.1 (tO (.i (Mm a0 a1 a2 p))):=by
 refine AO Tryz.func43 rfl kr kr fun W0 M0 => ?_
 refine AC<|rn ⟨[(2,tP 2 0),(3,tP 3 0)],[(2,.cells [.i 2,.i a0.X,.i a0.Y,.i a1.X,.i a1.Y,.i a2.X,.i a2.Y] 136),(3,.cells (AB.c p) 47)]⟩<|AC ?_
 refine rs 10 (TR a0 a1 a2) ⟨[(2,tP 2 0),(3,tP 3 0),(5,tP 5 0),(6,tB (Z05 a0 a1 a2))],[(2,.cells [.i 2,.i a0.X,.i a0.Y,.i a1.X,.i a1.Y,.i a2.X,.i a2.Y] 136),(3,.cells (AB.c p) 47),(5,.cells [.clo 112 0 (fun _=>default),.clo 113 0 (fun _=>default),.clo 114 0 (fun _=>default),.i 3] 189)]⟩ (Ve a0 a1 a2)<|AH<|AC ?_
 refine rs 14 (EE (AE.mk 2 a0 a1 a2)) ⟨[(2,tP 2 0),(3,tP 3 0),(5,tP 5 0),(6,tB (Z05 a0 a1 a2)),(7,tP 7 0)],[(2,.cells [.i 2,.i a0.X,.i a0.Y,.i a1.X,.i a1.Y,.i a2.X,.i a2.Y] 136),(3,.cells (AB.c p) 47),(5,.cells [.clo 112 0 (fun _=>default),.clo 113 0 (fun _=>default),.clo 114 0 (fun _=>default),.i 3] 189),(7,.cells (An.c (AV (AE.mk 2 a0 a1 a2))) 74)]⟩ (F8 (AE.mk 2 a0 a1 a2))<|AH ?_
 refine AC<|AC ?_
 refine rc [] [gi (!(Z05 a0 a1 a2)),gi (!(Z05 a0 a1 a2)),gi (!(Z05 a0 a1 a2)),gi (!(Z05 a0 a1 a2)),gi (!(Z05 a0 a1 a2)),gi (bif !(Z05 a0 a1 a2) then true else decide ((p.Y:Int)<((AV (AE.mk 2 a0 a1 a2)).Y0))),gi (bif !(Z05 a0 a1 a2) then true else decide ((p.Y:Int)<((AV (AE.mk 2 a0 a1 a2)).Y0))),gi (bif !(Z05 a0 a1 a2) then true else decide ((p.Y:Int)<((AV (AE.mk 2 a0 a1 a2)).Y0))),gi (bif !(Z05 a0 a1 a2) then true else decide ((p.Y:Int)<((AV (AE.mk 2 a0 a1 a2)).Y0))),gi (bif !(Z05 a0 a1 a2) then true else decide ((p.Y:Int)<((AV (AE.mk 2 a0 a1 a2)).Y0))),gi (bif bif !(Z05 a0 a1 a2) then true else decide ((p.Y:Int)<((AV (AE.mk 2 a0 a1 a2)).Y0)) then true else decide ((((AV (AE.mk 2 a0 a1 a2)).Y1):Int)<=p.Y)),gi (bif bif !(Z05 a0 a1 a2) then true else decide ((p.Y:Int)<((AV (AE.mk 2 a0 a1 a2)).Y0)) then true else decide ((((AV (AE.mk 2 a0 a1 a2)).Y1):Int)<=p.Y)),gi (bif bif !(Z05 a0 a1 a2) then true else decide ((p.Y:Int)<((AV (AE.mk 2 a0 a1 a2)).Y0)) then true else decide ((((AV (AE.mk 2 a0 a1 a2)).Y1):Int)<=p.Y)),gi (bif bif !(Z05 a0 a1 a2) then true else decide ((p.Y:Int)<((AV (AE.mk 2 a0 a1 a2)).Y0)) then true else decide ((((AV (AE.mk 2 a0 a1 a2)).Y1):Int)<=p.Y)),gi (bif bif !(Z05 a0 a1 a2) then true else decide ((p.Y:Int)<((AV (AE.mk 2 a0 a1 a2)).Y0)) then true else decide ((((AV (AE.mk 2 a0 a1 a2)).Y1):Int)<=p.Y))] ⟨[(2,tP 2 0),(3,tP 3 0),(5,tP 5 0),(7,tP 7 0),(37,tB (bif bif bif !(Z05 a0 a1 a2) then true else decide ((p.Y:Int)<((AV (AE.mk 2 a0 a1 a2)).Y0)) then true else decide ((((AV (AE.mk 2 a0 a1 a2)).Y1):Int)<=p.Y) then true else decide ((((AV (AE.mk 2 a0 a1 a2)).X1):Int)<=p.X)))],[(2,.cells [.i 2,.i a0.X,.i a0.Y,.i a1.X,.i a1.Y,.i a2.X,.i a2.Y] 136),(3,.cells (AB.c p) 47),(5,.cells [.clo 112 0 (fun _=>default),.clo 113 0 (fun _=>default),.clo 114 0 (fun _=>default),.i 3] 189),(7,.cells (An.c (AV (AE.mk 2 a0 a1 a2))) 74)]⟩ .nil (ci (ci (ci (ci (ci (ci (ci (ci (ci (ci (ci (ci (ci (ci (ci .nil)))))))))))))))<|AH ?_
 refine AY _ rfl (fun h1 => ?_) (fun h1 => ?_)
 ·refine AC<|rn ⟨[(4,tI 0)],[]⟩ ?_
  refine AZ<|A9 ?_
  exact ⟨_,Cv.refl _,.inl rfl,tO (.i 0),by kernel_rfl,Ad (by first | (simp only [Mm,h1,cond_true,cond_false] <;> rfl))⟩
 ·refine Ae<|AH ?_
  refine AC<|AC ?_
  refine rc [(48,Dq (AE.mk 2 a0 a1 a2) p)] [gi (decide ((p.X:Int)<((AV (AE.mk 2 a0 a1 a2)).X0))),gi (decide ((p.X:Int)<((AV (AE.mk 2 a0 a1 a2)).X0))),gi (decide ((p.X:Int)<((AV (AE.mk 2 a0 a1 a2)).X0))),gi (decide ((p.X:Int)<((AV (AE.mk 2 a0 a1 a2)).X0))),gj (decide ((p.X:Int)<((AV (AE.mk 2 a0 a1 a2)).X0))) (Ap (Dq (AE.mk 2 a0 a1 a2) p).2.1),gi (decide ((p.X:Int)<((AV (AE.mk 2 a0 a1 a2)).X0)))] ⟨[(2,tP 2 0),(49,tB (bif decide ((p.X:Int)<((AV (AE.mk 2 a0 a1 a2)).X0)) then true else C0 (AE.mk 2 a0 a1 a2) p))],[(2,.cells [.i 2,.i a0.X,.i a0.Y,.i a1.X,.i a1.Y,.i a2.X,.i a2.Y] 136)]⟩ (.cons (Kx (AE.mk 2 a0 a1 a2) p) .nil) (ci (ci (ci (ci (.cons (fun _=>rfl) (ci .nil))))))<|AH ?_
  refine AY _ rfl (fun h2 => ?_) (fun h2 => ?_)
  ·refine AC<|rs 51 (DM (AE.mk 2 a0 a1 a2)) ⟨[(4,tI (BT (AE.mk 2 a0 a1 a2)))],[]⟩ (F2 (AE.mk 2 a0 a1 a2))<|AH ?_
   refine AZ<|A9 ?_
   exact ⟨_,Cv.refl _,.inl rfl,tO (.i (BT (AE.mk 2 a0 a1 a2))),by kernel_rfl,Ad (by first | (simp only [Mm,h1,h2,cond_true,cond_false] <;> rfl))⟩
  ·refine Ae<|AH<|AC ?_
   refine rn ⟨[(4,tI 0)],[]⟩<|AZ ?_
   exact ⟨_,Cv.refl _,.inl rfl,tO (.i 0),by kernel_rfl,Ad (by first | (simp only [Mm,h1,h2,cond_true,cond_false] <;> rfl))⟩
def Ml (a0:AB) (a1:AB) (a2:AB) (p:AB):Int:=bif bif bif bif !(Z08 a0 a1 a2) then true else decide ((p.Y:Int)<((AV (AE.mk 3 a0 a1 a2)).Y0)) then true else decide ((((AV (AE.mk 3 a0 a1 a2)).Y1):Int)<=p.Y) then true else decide ((((AV (AE.mk 3 a0 a1 a2)).X1):Int)<=p.X) then (0) else (bif bif decide ((p.X:Int)<((AV (AE.mk 3 a0 a1 a2)).X0)) then true else C0 (AE.mk 3 a0 a1 a2) p then (BT (AE.mk 3 a0 a1 a2)) else (0))
def cRay3 (a0:AB) (a1:AB) (a2:AB) (p:AB):FuncId×List Av×Ef:=(43,[.agg [.i 3,.i a0.X,.i a0.Y,.i a1.X,.i a1.Y,.i a2.X,.i a2.Y],.agg (AB.c p)],.val [] (.av (.one (.i (Ml a0 a1 a2 p)))))
theorem pRay3 (a0:AB) (a1:AB) (a2:AB) (p:AB):BH Tryz.prog 43 (cRay3 a0 a1 a2 p).2.1 (tO (.i (Ml a0 a1 a2 p))):=by
 refine AO Tryz.func43 rfl kr kr fun W0 M0 => ?_
 refine AC<|rn ⟨[(2,tP 2 0),(3,tP 3 0)],[(2,.cells [.i 3,.i a0.X,.i a0.Y,.i a1.X,.i a1.Y,.i a2.X,.i a2.Y] 136),(3,.cells (AB.c p) 47)]⟩<|AC ?_
 refine rs 10 (TQ a0 a1 a2) ⟨[(2,tP 2 0),(3,tP 3 0),(5,tP 5 0),(6,tB (Z08 a0 a1 a2))],[(2,.cells [.i 3,.i a0.X,.i a0.Y,.i a1.X,.i a1.Y,.i a2.X,.i a2.Y] 136),(3,.cells (AB.c p) 47),(5,.cells [.clo 115 0 (fun _=>default),.clo 113 0 (fun _=>default),.clo 114 0 (fun _=>default),.i 2] 189)]⟩ (Vd a0 a1 a2)<|AH<|AC ?_
 refine rs 14 (EE (AE.mk 3 a0 a1 a2)) ⟨[(2,tP 2 0),(3,tP 3 0),(5,tP 5 0),(6,tB (Z08 a0 a1 a2)),(7,tP 7 0)],[(2,.cells [.i 3,.i a0.X,.i a0.Y,.i a1.X,.i a1.Y,.i a2.X,.i a2.Y] 136),(3,.cells (AB.c p) 47),(5,.cells [.clo 115 0 (fun _=>default),.clo 113 0 (fun _=>default),.clo 114 0 (fun _=>default),.i 2] 189),(7,.cells (An.c (AV (AE.mk 3 a0 a1 a2))) 74)]⟩ (F8 (AE.mk 3 a0 a1 a2))<|AH ?_
 refine AC<|AC ?_
 refine rc [] [gi (!(Z08 a0 a1 a2)),gi (!(Z08 a0 a1 a2)),gi (!(Z08 a0 a1 a2)),gi (!(Z08 a0 a1 a2)),gi (!(Z08 a0 a1 a2)),gi (bif !(Z08 a0 a1 a2) then true else decide ((p.Y:Int)<((AV (AE.mk 3 a0 a1 a2)).Y0))),gi (bif !(Z08 a0 a1 a2) then true else decide ((p.Y:Int)<((AV (AE.mk 3 a0 a1 a2)).Y0))),gi (bif !(Z08 a0 a1 a2) then true else decide ((p.Y:Int)<((AV (AE.mk 3 a0 a1 a2)).Y0))),gi (bif !(Z08 a0 a1 a2) then true else decide ((p.Y:Int)<((AV (AE.mk 3 a0 a1 a2)).Y0))),gi (bif !(Z08 a0 a1 a2) then true else decide ((p.Y:Int)<((AV (AE.mk 3 a0 a1 a2)).Y0))),gi (bif bif !(Z08 a0 a1 a2) then true else decide ((p.Y:Int)<((AV (AE.mk 3 a0 a1 a2)).Y0)) then true else decide ((((AV (AE.mk 3 a0 a1 a2)).Y1):Int)<=p.Y)),gi (bif bif !(Z08 a0 a1 a2) then true else decide ((p.Y:Int)<((AV (AE.mk 3 a0 a1 a2)).Y0)) then true else decide ((((AV (AE.mk 3 a0 a1 a2)).Y1):Int)<=p.Y)),gi (bif bif !(Z08 a0 a1 a2) then true else decide ((p.Y:Int)<((AV (AE.mk 3 a0 a1 a2)).Y0)) then true else decide ((((AV (AE.mk 3 a0 a1 a2)).Y1):Int)<=p.Y)),gi (bif bif !(Z08 a0 a1 a2) then true else decide ((p.Y:Int)<((AV (AE.mk 3 a0 a1 a2)).Y0)) then true else decide ((((AV (AE.mk 3 a0 a1 a2)).Y1):Int)<=p.Y)),gi (bif bif !(Z08 a0 a1 a2) then true else decide ((p.Y:Int)<((AV (AE.mk 3 a0 a1 a2)).Y0)) then true else decide ((((AV (AE.mk 3 a0 a1 a2)).Y1):Int)<=p.Y))] ⟨[(2,tP 2 0),(3,tP 3 0),(5,tP 5 0),(7,tP 7 0),(37,tB (bif bif bif !(Z08 a0 a1 a2) then true else decide ((p.Y:Int)<((AV (AE.mk 3 a0 a1 a2)).Y0)) then true else decide ((((AV (AE.mk 3 a0 a1 a2)).Y1):Int)<=p.Y) then true else decide ((((AV (AE.mk 3 a0 a1 a2)).X1):Int)<=p.X)))],[(2,.cells [.i 3,.i a0.X,.i a0.Y,.i a1.X,.i a1.Y,.i a2.X,.i a2.Y] 136),(3,.cells (AB.c p) 47),(5,.cells [.clo 115 0 (fun _=>default),.clo 113 0 (fun _=>default),.clo 114 0 (fun _=>default),.i 2] 189),(7,.cells (An.c (AV (AE.mk 3 a0 a1 a2))) 74)]⟩ .nil (ci (ci (ci (ci (ci (ci (ci (ci (ci (ci (ci (ci (ci (ci (ci .nil)))))))))))))))<|AH ?_
 refine AY _ rfl (fun h1 => ?_) (fun h1 => ?_)
 ·refine AC<|rn ⟨[(4,tI 0)],[]⟩ ?_
  refine AZ<|A9 ?_
  exact ⟨_,Cv.refl _,.inl rfl,tO (.i 0),by kernel_rfl,Ad (by first | (simp only [Ml,h1,cond_true,cond_false] <;> rfl))⟩
 ·refine Ae<|AH ?_
  refine AC<|AC ?_
  refine rc [(48,Dq (AE.mk 3 a0 a1 a2) p)] [gi (decide ((p.X:Int)<((AV (AE.mk 3 a0 a1 a2)).X0))),gi (decide ((p.X:Int)<((AV (AE.mk 3 a0 a1 a2)).X0))),gi (decide ((p.X:Int)<((AV (AE.mk 3 a0 a1 a2)).X0))),gi (decide ((p.X:Int)<((AV (AE.mk 3 a0 a1 a2)).X0))),gj (decide ((p.X:Int)<((AV (AE.mk 3 a0 a1 a2)).X0))) (Ap (Dq (AE.mk 3 a0 a1 a2) p).2.1),gi (decide ((p.X:Int)<((AV (AE.mk 3 a0 a1 a2)).X0)))] ⟨[(2,tP 2 0),(49,tB (bif decide ((p.X:Int)<((AV (AE.mk 3 a0 a1 a2)).X0)) then true else C0 (AE.mk 3 a0 a1 a2) p))],[(2,.cells [.i 3,.i a0.X,.i a0.Y,.i a1.X,.i a1.Y,.i a2.X,.i a2.Y] 136)]⟩ (.cons (Kx (AE.mk 3 a0 a1 a2) p) .nil) (ci (ci (ci (ci (.cons (fun _=>rfl) (ci .nil))))))<|AH ?_
  refine AY _ rfl (fun h2 => ?_) (fun h2 => ?_)
  ·refine AC<|rs 51 (DM (AE.mk 3 a0 a1 a2)) ⟨[(4,tI (BT (AE.mk 3 a0 a1 a2)))],[]⟩ (F2 (AE.mk 3 a0 a1 a2))<|AH ?_
   refine AZ<|A9 ?_
   exact ⟨_,Cv.refl _,.inl rfl,tO (.i (BT (AE.mk 3 a0 a1 a2))),by kernel_rfl,Ad (by first | (simp only [Ml,h1,h2,cond_true,cond_false] <;> rfl))⟩
  ·refine Ae<|AH<|AC ?_
   refine rn ⟨[(4,tI 0)],[]⟩<|AZ ?_
   exact ⟨_,Cv.refl _,.inl rfl,tO (.i 0),by kernel_rfl,Ad (by first | (simp only [Ml,h1,h2,cond_true,cond_false] <;> rfl))⟩
def Tg (e:AE) (p:AB):Int:=0
def cRayN (e:AE) (p:AB):FuncId×List Av×Ef:=(43,[.agg (AE.c e),.agg (AB.c p)],.val [] (.av (.one (.i (Tg e p)))))
theorem pRayN (e:AE) (p:AB) (k1:¬ e.Kind=1) (k2:¬ e.Kind=2) (k3:¬ e.Kind=3):BH Tryz.prog 43 (cRayN e p).2.1 (tO (.i (Tg e p))):=by
 refine AO Tryz.func43 rfl kr kr fun W0 M0 => ?_
 refine AC<|rn ⟨[(2,tP 2 0),(3,tP 3 0)],[(2,.cells (AE.c e) 136),(3,.cells (AB.c p) 47)]⟩<|AC ?_
 refine rs 10 (TP e) ⟨[(2,tP 2 0),(3,tP 3 0),(5,tP 5 0),(6,tB false)],[(2,.cells (AE.c e) 136),(3,.cells (AB.c p) 47),(5,.cells [.val .nilFunc,.val .nilFunc,.val .nilFunc,.i e.Kind] 189)]⟩ (Vc e k1 k2 k3)<|AH<|AC ?_
 refine rs 14 (EE e) ⟨[(2,tP 2 0),(3,tP 3 0),(5,tP 5 0),(6,tB false),(7,tP 7 0)],[(2,.cells (AE.c e) 136),(3,.cells (AB.c p) 47),(5,.cells [.val .nilFunc,.val .nilFunc,.val .nilFunc,.i e.Kind] 189),(7,.cells (An.c (AV e)) 74)]⟩ (F8 e)<|AH ?_
 refine AC<|AC ?_
 refine rc [] [((true)=false)->((true)=false),((true)=false)->((true)=false),((true)=false)->((true)=false),((true)=false)->((true)=false),(true)=false->((true)=false),((true)=false)->((true)=false),((true)=false)->((true)=false),((true)=false)->((true)=false),((true)=false)->((true)=false),(true)=false->((true)=false),((true)=false)->((true)=false),((true)=false)->((true)=false),((true)=false)->((true)=false),((true)=false)->((true)=false),(true)=false->((true)=false)] ⟨[(2,tP 2 0),(3,tP 3 0),(5,tP 5 0),(7,tP 7 0),(37,tB true)],[(2,.cells (AE.c e) 136),(3,.cells (AB.c p) 47),(5,.cells [.val .nilFunc,.val .nilFunc,.val .nilFunc,.i e.Kind] 189),(7,.cells (An.c (AV e)) 74)]⟩ .nil (ci (ci (ci (ci (ci (ci (ci (ci (ci (ci (ci (ci (ci (ci (ci .nil)))))))))))))))<|AH ?_
 refine Dz kr<|AC ?_
 refine rn ⟨[(4,tI 0)],[]⟩ ?_
 refine AZ<|A9 ?_
 exact ⟨_,Cv.refl _,.inl rfl,tO (.i 0),by kernel_rfl,Ad (by rfl)⟩
def Hd (e:AE) (p:AB):Int:=if e.Kind=1 then Mo e.A e.B e.C p else if e.Kind=2 then Mm e.A e.B e.C p else if e.Kind=3 then Ml e.A e.B e.C p else Tg e p
def aA (e:AE) (p:AB):FuncId×List Av×Ef:=(43,[.agg (AE.c e),.agg (AB.c p)],.val [] (.av (.one (.i (Hd e p)))))
theorem pRay (e:AE) (p:AB):BH Tryz.prog 43 (aA e p).2.1 (.av (.one (.i (Hd e p)))):=by
 by_cases k1:e.Kind=1
 ·have hF:Hd e p=Mo e.A e.B e.C p:=by unfold Hd;rw [if_pos k1]
  rw [hF];obtain ⟨k,a0,a1,a2⟩:=e;simp only at k1;subst k1;exact pRay1 a0 a1 a2 p
 by_cases k2:e.Kind=2
 ·have hF:Hd e p=Mm e.A e.B e.C p:=by unfold Hd;rw [if_neg k1];rw [if_pos k2]
  rw [hF];obtain ⟨k,a0,a1,a2⟩:=e;simp only at k2;subst k2;exact pRay2 a0 a1 a2 p
 by_cases k3:e.Kind=3
 ·have hF:Hd e p=Ml e.A e.B e.C p:=by unfold Hd;rw [if_neg k1];rw [if_neg k2];rw [if_pos k3]
  rw [hF];obtain ⟨k,a0,a1,a2⟩:=e;simp only at k3;subst k3;exact pRay3 a0 a1 a2 p
 have hF:Hd e p=Tg e p:=by unfold Hd;rw [if_neg k1,if_neg k2,if_neg k3]
 rw [hF];exact pRayN e p k1 k2 k3
theorem okRay (e:AE) (p:AB):Aq Tryz.prog (aA e p).1 (aA e p).2.1 (aA e p).2.2:=AR (fun _ _=>by kernel_rfl) fun _=>pRay e p
def PJ (a0:AB) (a1:AB) (a2:AB) (m:Ab):AE:=AE.mk 1 (Aa m a0) (Aa m a1) a2
def jV (a0:AB) (a1:AB) (a2:AB) (m:Ab):FuncId×List Av×Ef:=(62,[.agg [.i 1,.i a0.X,.i a0.Y,.i a1.X,.i a1.Y,.i a2.X,.i a2.Y],.agg (Ab.c m)],.val [] (.av (.agg (AE.c (PJ a0 a1 a2 m)))))
theorem iC (a0:AB) (a1:AB) (a2:AB) (m:Ab):BH Tryz.prog 62 (jV a0 a1 a2 m).2.1 (.av (.agg (AE.c (PJ a0 a1 a2 m)))):=by
 refine AO Tryz.func62 rfl kr kr fun W0 M0 => ?_
 refine AC<|rn ⟨[(2,tP 2 0),(3,tP 3 0),(4,tP 4 0)],[(2,.cells [.i 1,.i a0.X,.i a0.Y,.i a1.X,.i a1.Y,.i a2.X,.i a2.Y] 136),(3,.cells (Ab.c m) 51),(4,.cells [.i 0,.i 0,.i 0,.i 0,.i 0,.i 0,.i 0] 136)]⟩ ?_
 refine AC<|AC ?_
 refine rs 9 (TS a0 a1 a2) ⟨[(2,tP 2 0),(3,tP 3 0),(4,tP 4 0),(5,tP 5 0)],[(2,.cells [.i 1,.i a0.X,.i a0.Y,.i a1.X,.i a1.Y,.i a2.X,.i a2.Y] 136),(3,.cells (Ab.c m) 51),(4,.cells [.i 0,.i 0,.i 0,.i 0,.i 0,.i 0,.i 0] 136),(5,.cells [.clo 109 0 (fun _=>default),.clo 110 0 (fun _=>default),.clo 111 0 (fun _=>default),.i 1] 189)]⟩ (Vf a0 a1 a2)<|AH<|AC ?_
 refine rn ⟨[(2,tP 2 0),(3,tP 3 0),(4,tP 4 0),(5,tP 5 0),(13,tB m.Mirror)],[(2,.cells [.i 1,.i a0.X,.i a0.Y,.i a1.X,.i a1.Y,.i a2.X,.i a2.Y] 136),(3,.cells (Ab.c m) 51),(4,.cells [.i 0,.i 0,.i 0,.i 0,.i 0,.i 0,.i 0] 136),(5,.cells [.clo 109 0 (fun _=>default),.clo 110 0 (fun _=>default),.clo 111 0 (fun _=>default),.i 1] 189)]⟩ ?_
 refine Bc (⟨[(2,tP 2 0),(3,tP 3 0),(4,tP 4 0)],[(2,.cells [.i 1,.i a0.X,.i a0.Y,.i a1.X,.i a1.Y,.i a2.X,.i a2.Y] 136),(3,.cells (Ab.c m) 51),(4,.cells [.i 0,.i 0,.i 0,.i 0,.i 0,.i 0,.i 0] 136)]⟩) ?_ ?_
 ·refine AY _ rfl (fun h1 => ?_) (fun h1 => ?_)
  ·refine rn ⟨[(2,tP 2 0),(3,tP 3 0),(4,tP 4 0)],[(2,.cells [.i 1,.i a0.X,.i a0.Y,.i a1.X,.i a1.Y,.i a2.X,.i a2.Y] 136),(3,.cells (Ab.c m) 51),(4,.cells [.i 0,.i 0,.i 0,.i 0,.i 0,.i 0,.i 0] 136)]⟩ ?_
   refine A4 ?_
   first | rfl | (simp only [h1,cond_true,cond_false] <;> rfl)
  ·refine Ae<|AH ?_
   refine Cv.trans (ck (⟨[(2,tP 2 0),(3,tP 3 0),(4,tP 4 0)],[(2,.cells [.i 1,.i a0.X,.i a0.Y,.i a1.X,.i a1.Y,.i a2.X,.i a2.Y] 136),(3,.cells (Ab.c m) 51),(4,.cells [.i 0,.i 0,.i 0,.i 0,.i 0,.i 0,.i 0] 136)]⟩)) (A4 ?_)
   first | rfl | (simp only [h1,cond_true,cond_false] <;> rfl)
 refine AC<|AC ?_
 refine rn ⟨[(2,tP 2 0),(3,tP 3 0),(4,tP 4 0),(19,tB false)],[(2,.cells [.i 1,.i a0.X,.i a0.Y,.i a1.X,.i a1.Y,.i a2.X,.i a2.Y] 136),(3,.cells (Ab.c m) 51),(4,.cells [.i 0,.i 0,.i 0,.i 0,.i 0,.i 0,.i 0] 136)]⟩ ?_
 refine FI kr<|Ae ?_
 refine AH<|AC ?_
 refine dw [] [(28,Bl m a0),(32,Bl m a1)] [Ap (Bl m a0).2.1,Ap (Bl m a1).2.1] ⟨[(2,tP 2 0),(4,tP 4 0)],[(2,.cells [.i 1,.i ((Aa m a0).X),.i ((Aa m a0).Y),.i ((Aa m a1).X),.i ((Aa m a1).Y),.i a2.X,.i a2.Y] 136),(4,.cells [.i 0,.i 0,.i 0,.i 0,.i 0,.i 0,.i 0] 136)]⟩ (.cons (DQ m a0) (.cons (DQ m a1) .nil)) (.cons rfl (.cons rfl .nil))<|AH<|AC ?_
 refine rn ⟨[(4,tP 4 0)],[(4,.cells [.i 1,.i ((Aa m a0).X),.i ((Aa m a0).Y),.i ((Aa m a1).X),.i ((Aa m a1).Y),.i a2.X,.i a2.Y] 136)]⟩<|AZ ?_
 exact ⟨_,Cv.refl _,.inl rfl,.av (.agg [.i 1,.i ((Aa m a0).X),.i ((Aa m a0).Y),.i ((Aa m a1).X),.i ((Aa m a1).Y),.i a2.X,.i a2.Y]),by kernel_rfl,Ad (by rfl)⟩
def PI (a0:AB) (a1:AB) (a2:AB) (m:Ab):AE:=AE.mk (bif m.Mirror then 3 else 2) (Aa m a0) (Aa m a1) (AB.mk (bif !decide (((bif m.Mirror then 3 else 2):Int)=1) then ((Aa m a2).X) else a2.X) (bif !decide (((bif m.Mirror then 3 else 2):Int)=1) then ((Aa m a2).Y) else a2.Y))
def jU (a0:AB) (a1:AB) (a2:AB) (m:Ab):FuncId×List Av×Ef:=(62,[.agg [.i 2,.i a0.X,.i a0.Y,.i a1.X,.i a1.Y,.i a2.X,.i a2.Y],.agg (Ab.c m)],.val [] (.av (.agg (AE.c (PI a0 a1 a2 m)))))
theorem mac4 {p:Prop} (h:p:=by
 refine AO Tryz.func62 rfl kr kr fun W0 M0 => ?_
 refine AC<|rn ⟨[(2,tP 2 0),(3,tP 3 0),(4,tP 4 0)],[(2,.cells [.i mp0,.i a0.X,.i a0.Y,.i a1.X,.i a1.Y,.i a2.X,.i a2.Y] 136),(3,.cells (Ab.c m) 51),(4,.cells [.i 0,.i 0,.i 0,.i 0,.i 0,.i 0,.i 0] 136)]⟩ ?_
 refine AC<|AC ?_
 refine rs 9 (mp1 a0 a1 a2) ⟨[(2,tP 2 0),(3,tP 3 0),(4,tP 4 0),(5,tP 5 0)],[(2,.cells [.i mp0,.i a0.X,.i a0.Y,.i a1.X,.i a1.Y,.i a2.X,.i a2.Y] 136),(3,.cells (Ab.c m) 51),(4,.cells [.i 0,.i 0,.i 0,.i 0,.i 0,.i 0,.i 0] 136),(5,.cells [.clo mp2 0 (fun _=>default),.clo 113 0 (fun _=>default),.clo 114 0 (fun _=>default),.i mp3] 189)]⟩ (mp4 a0 a1 a2)<|AH<|AC ?_
 refine rn ⟨[(2,tP 2 0),(3,tP 3 0),(4,tP 4 0),(5,tP 5 0),(13,tB m.Mirror)],[(2,.cells [.i mp0,.i a0.X,.i a0.Y,.i a1.X,.i a1.Y,.i a2.X,.i a2.Y] 136),(3,.cells (Ab.c m) 51),(4,.cells [.i 0,.i 0,.i 0,.i 0,.i 0,.i 0,.i 0] 136),(5,.cells [.clo mp2 0 (fun _=>default),.clo 113 0 (fun _=>default),.clo 114 0 (fun _=>default),.i mp3] 189)]⟩ ?_
 refine Bc (⟨[(2,tP 2 0),(3,tP 3 0),(4,tP 4 0)],[(2,.cells [.i (bif m.Mirror then mp3 else mp0),.i a0.X,.i a0.Y,.i a1.X,.i a1.Y,.i a2.X,.i a2.Y] 136),(3,.cells (Ab.c m) 51),(4,.cells [.i 0,.i 0,.i 0,.i 0,.i 0,.i 0,.i 0] 136)]⟩) ?_ ?_
 ·refine AY _ rfl (fun h1 => ?_) (fun h1 => ?_)
  ·refine rn ⟨[(2,tP 2 0),(3,tP 3 0),(4,tP 4 0)],[(2,.cells [.i mp3,.i a0.X,.i a0.Y,.i a1.X,.i a1.Y,.i a2.X,.i a2.Y] 136),(3,.cells (Ab.c m) 51),(4,.cells [.i 0,.i 0,.i 0,.i 0,.i 0,.i 0,.i 0] 136)]⟩ ?_
   refine A4 ?_
   first | rfl | (simp only [h1,cond_true,cond_false] <;> rfl)
  ·refine Ae<|AH ?_
   refine Cv.trans (ck (⟨[(2,tP 2 0),(3,tP 3 0),(4,tP 4 0)],[(2,.cells [.i mp0,.i a0.X,.i a0.Y,.i a1.X,.i a1.Y,.i a2.X,.i a2.Y] 136),(3,.cells (Ab.c m) 51),(4,.cells [.i 0,.i 0,.i 0,.i 0,.i 0,.i 0,.i 0] 136)]⟩)) (A4 ?_)
   first | rfl | (simp only [h1,cond_true,cond_false] <;> rfl)
 refine AC<|AC ?_
 refine rn ⟨[(2,tP 2 0),(3,tP 3 0),(4,tP 4 0),(19,tB (!decide (((bif m.Mirror then mp3 else mp0):Int)=1)))],[(2,.cells [.i (bif m.Mirror then mp3 else mp0),.i a0.X,.i a0.Y,.i a1.X,.i a1.Y,.i a2.X,.i a2.Y] 136),(3,.cells (Ab.c m) 51),(4,.cells [.i 0,.i 0,.i 0,.i 0,.i 0,.i 0,.i 0] 136)]⟩ ?_
 refine Bc (⟨[(2,tP 2 0),(3,tP 3 0),(4,tP 4 0)],[(2,.cells [.i (bif m.Mirror then mp3 else mp0),.i a0.X,.i a0.Y,.i a1.X,.i a1.Y,.i (bif !decide (((bif m.Mirror then mp3 else mp0):Int)=1) then ((Aa m a2).X) else a2.X),.i (bif !decide (((bif m.Mirror then mp3 else mp0):Int)=1) then ((Aa m a2).Y) else a2.Y)] 136),(3,.cells (Ab.c m) 51),(4,.cells [.i 0,.i 0,.i 0,.i 0,.i 0,.i 0,.i 0] 136)]⟩) ?_ ?_
 ·refine AY _ rfl (fun h1 => ?_) (fun h1 => ?_)
  ·have g1:=C4 h1
   refine rs 23 (Bl m a2) ⟨[(2,tP 2 0),(3,tP 3 0),(4,tP 4 0)],[(2,.cells [.i (bif m.Mirror then mp3 else mp0),.i a0.X,.i a0.Y,.i a1.X,.i a1.Y,.i ((Aa m a2).X),.i ((Aa m a2).Y)] 136),(3,.cells (Ab.c m) 51),(4,.cells [.i 0,.i 0,.i 0,.i 0,.i 0,.i 0,.i 0] 136)]⟩ (DQ m a2)<|AH ?_
   refine A4 ?_
   first | rfl | (simp only [h1,cond_true,cond_false] <;> rfl)
  ·have g1:=Cq h1
   refine Ae<|AH ?_
   refine Cv.trans (ck (⟨[(2,tP 2 0),(3,tP 3 0),(4,tP 4 0)],[(2,.cells [.i (bif m.Mirror then mp3 else mp0),.i a0.X,.i a0.Y,.i a1.X,.i a1.Y,.i a2.X,.i a2.Y] 136),(3,.cells (Ab.c m) 51),(4,.cells [.i 0,.i 0,.i 0,.i 0,.i 0,.i 0,.i 0] 136)]⟩)) (A4 ?_)
   first | rfl | (simp only [h1,cond_true,cond_false] <;> rfl)
 refine AC<|dw [] [(28,Bl m a0),(32,Bl m a1)] [Ap (Bl m a0).2.1,Ap (Bl m a1).2.1] ⟨[(2,tP 2 0),(4,tP 4 0)],[(2,.cells [.i (bif m.Mirror then mp3 else mp0),.i ((Aa m a0).X),.i ((Aa m a0).Y),.i ((Aa m a1).X),.i ((Aa m a1).Y),.i (bif !decide (((bif m.Mirror then mp3 else mp0):Int)=1) then ((Aa m a2).X) else a2.X),.i (bif !decide (((bif m.Mirror then mp3 else mp0):Int)=1) then ((Aa m a2).Y) else a2.Y)] 136),(4,.cells [.i 0,.i 0,.i 0,.i 0,.i 0,.i 0,.i 0] 136)]⟩ (.cons (DQ m a0) (.cons (DQ m a1) .nil)) (.cons rfl (.cons rfl .nil))<|AH<|AC ?_
 refine rn ⟨[(4,tP 4 0)],[(4,.cells [.i (bif m.Mirror then mp3 else mp0),.i ((Aa m a0).X),.i ((Aa m a0).Y),.i ((Aa m a1).X),.i ((Aa m a1).Y),.i (bif !decide (((bif m.Mirror then mp3 else mp0):Int)=1) then ((Aa m a2).X) else a2.X),.i (bif !decide (((bif m.Mirror then mp3 else mp0):Int)=1) then ((Aa m a2).Y) else a2.Y)] 136)]⟩<|AZ ?_
 exact ⟨_,Cv.refl _,.inl rfl,.av (.agg [.i (bif m.Mirror then mp3 else mp0),.i ((Aa m a0).X),.i ((Aa m a0).Y),.i ((Aa m a1).X),.i ((Aa m a1).Y),.i (bif !decide (((bif m.Mirror then mp3 else mp0):Int)=1) then ((Aa m a2).X) else a2.X),.i (bif !decide (((bif m.Mirror then mp3 else mp0):Int)=1) then ((Aa m a2).Y) else a2.Y)]),by kernel_rfl,Ad (by rfl)⟩):p:=h
section
 open Go.Proofs.YtdbampcfmjbgmaaGreat renaming nn2→mp0,TR→mp1,gB→mp2,nn3→mp3,Ve→mp4
theorem iB (a0:AB) (a1:AB) (a2:AB) (m:Ab):BH Tryz.prog 62 (jU a0 a1 a2 m).2.1 (.av (.agg (AE.c (PI a0 a1 a2 m)))):=mac4
end
def PH (a0:AB) (a1:AB) (a2:AB) (m:Ab):AE:=AE.mk (bif m.Mirror then 2 else 3) (Aa m a0) (Aa m a1) (AB.mk (bif !decide (((bif m.Mirror then 2 else 3):Int)=1) then ((Aa m a2).X) else a2.X) (bif !decide (((bif m.Mirror then 2 else 3):Int)=1) then ((Aa m a2).Y) else a2.Y))
def jT (a0:AB) (a1:AB) (a2:AB) (m:Ab):FuncId×List Av×Ef:=(62,[.agg [.i 3,.i a0.X,.i a0.Y,.i a1.X,.i a1.Y,.i a2.X,.i a2.Y],.agg (Ab.c m)],.val [] (.av (.agg (AE.c (PH a0 a1 a2 m)))))
section
 open Go.Proofs.YtdbampcfmjbgmaaGreat renaming nn3→mp0,TQ→mp1,fY→mp2,nn2→mp3,Vd→mp4
theorem iA (a0:AB) (a1:AB) (a2:AB) (m:Ab):BH Tryz.prog 62 (jT a0 a1 a2 m).2.1 (.av (.agg (AE.c (PH a0 a1 a2 m)))):=mac4
end
def Rw (e:AE) (m:Ab):AE:=AE.mk e.Kind (Aa m e.A) (Aa m e.B) (AB.mk (bif !decide ((e.Kind:Int)=1) then ((Aa m e.C).X) else e.C.X) (bif !decide ((e.Kind:Int)=1) then ((Aa m e.C).Y) else e.C.Y))
def jS (e:AE) (m:Ab):FuncId×List Av×Ef:=(62,[.agg (AE.c e),.agg (Ab.c m)],.val [] (.av (.agg (AE.c (Rw e m)))))
theorem hZ (e:AE) (m:Ab) (k1:¬ e.Kind=1) (k2:¬ e.Kind=2) (k3:¬ e.Kind=3):BH Tryz.prog 62 (jS e m).2.1 (.av (.agg (AE.c (Rw e m)))):=by
 refine AO Tryz.func62 rfl kr kr fun W0 M0 => ?_
 refine AC<|rn ⟨[(2,tP 2 0),(3,tP 3 0),(4,tP 4 0)],[(2,.cells (AE.c e) 136),(3,.cells (Ab.c m) 51),(4,.cells [.i 0,.i 0,.i 0,.i 0,.i 0,.i 0,.i 0] 136)]⟩ ?_
 refine AC<|AC ?_
 refine rs 9 (TP e) ⟨[(2,tP 2 0),(3,tP 3 0),(4,tP 4 0),(5,tP 5 0)],[(2,.cells (AE.c e) 136),(3,.cells (Ab.c m) 51),(4,.cells [.i 0,.i 0,.i 0,.i 0,.i 0,.i 0,.i 0] 136),(5,.cells [.val .nilFunc,.val .nilFunc,.val .nilFunc,.i e.Kind] 189)]⟩ (Vc e k1 k2 k3)<|AH<|AC ?_
 refine rn ⟨[(2,tP 2 0),(3,tP 3 0),(4,tP 4 0),(5,tP 5 0),(13,tB m.Mirror)],[(2,.cells (AE.c e) 136),(3,.cells (Ab.c m) 51),(4,.cells [.i 0,.i 0,.i 0,.i 0,.i 0,.i 0,.i 0] 136),(5,.cells [.val .nilFunc,.val .nilFunc,.val .nilFunc,.i e.Kind] 189)]⟩ ?_
 refine Bc (⟨[(2,tP 2 0),(3,tP 3 0),(4,tP 4 0)],[(2,.cells (AE.c e) 136),(3,.cells (Ab.c m) 51),(4,.cells [.i 0,.i 0,.i 0,.i 0,.i 0,.i 0,.i 0] 136)]⟩) ?_ ?_
 ·refine AY _ rfl (fun h4 => ?_) (fun h4 => ?_)
  ·refine rn ⟨[(2,tP 2 0),(3,tP 3 0),(4,tP 4 0)],[(2,.cells (AE.c e) 136),(3,.cells (Ab.c m) 51),(4,.cells [.i 0,.i 0,.i 0,.i 0,.i 0,.i 0,.i 0] 136)]⟩ ?_
   refine A4 ?_
   first | rfl | (simp only [h4,cond_true,cond_false] <;> rfl)
  ·refine Ae<|AH ?_
   refine Cv.trans (ck (⟨[(2,tP 2 0),(3,tP 3 0),(4,tP 4 0)],[(2,.cells (AE.c e) 136),(3,.cells (Ab.c m) 51),(4,.cells [.i 0,.i 0,.i 0,.i 0,.i 0,.i 0,.i 0] 136)]⟩)) (A4 ?_)
   first | rfl | (simp only [h4,cond_true,cond_false] <;> rfl)
 refine AC<|AC ?_
 refine rn ⟨[(2,tP 2 0),(3,tP 3 0),(4,tP 4 0),(19,tB (!decide ((e.Kind:Int)=1)))],[(2,.cells (AE.c e) 136),(3,.cells (Ab.c m) 51),(4,.cells [.i 0,.i 0,.i 0,.i 0,.i 0,.i 0,.i 0] 136)]⟩ ?_
 refine Bc (⟨[(2,tP 2 0),(3,tP 3 0),(4,tP 4 0)],[(2,.cells [.i e.Kind,.i e.A.X,.i e.A.Y,.i e.B.X,.i e.B.Y,.i (bif !decide ((e.Kind:Int)=1) then ((Aa m e.C).X) else e.C.X),.i (bif !decide ((e.Kind:Int)=1) then ((Aa m e.C).Y) else e.C.Y)] 136),(3,.cells (Ab.c m) 51),(4,.cells [.i 0,.i 0,.i 0,.i 0,.i 0,.i 0,.i 0] 136)]⟩) ?_ ?_
 ·refine AY _ rfl (fun h4 => ?_) (fun h4 => ?_)
  ·have g4:=C4 h4
   refine rs 23 (Bl m e.C) ⟨[(2,tP 2 0),(3,tP 3 0),(4,tP 4 0)],[(2,.cells [.i e.Kind,.i e.A.X,.i e.A.Y,.i e.B.X,.i e.B.Y,.i ((Aa m e.C).X),.i ((Aa m e.C).Y)] 136),(3,.cells (Ab.c m) 51),(4,.cells [.i 0,.i 0,.i 0,.i 0,.i 0,.i 0,.i 0] 136)]⟩ (DQ m e.C)<|AH ?_
   refine A4 ?_
   first | rfl | (simp only [h4,cond_true,cond_false] <;> rfl)
  ·have g4:=Cq h4
   refine Ae<|AH ?_
   refine Cv.trans (ck (⟨[(2,tP 2 0),(3,tP 3 0),(4,tP 4 0)],[(2,.cells (AE.c e) 136),(3,.cells (Ab.c m) 51),(4,.cells [.i 0,.i 0,.i 0,.i 0,.i 0,.i 0,.i 0] 136)]⟩)) (A4 ?_)
   first | rfl | (simp only [h4,cond_true,cond_false] <;> rfl)
 refine AC<|dw [] [(28,Bl m e.A),(32,Bl m e.B)] [Ap (Bl m e.A).2.1,Ap (Bl m e.B).2.1] ⟨[(2,tP 2 0),(4,tP 4 0)],[(2,.cells [.i e.Kind,.i ((Aa m e.A).X),.i ((Aa m e.A).Y),.i ((Aa m e.B).X),.i ((Aa m e.B).Y),.i (bif !decide ((e.Kind:Int)=1) then ((Aa m e.C).X) else e.C.X),.i (bif !decide ((e.Kind:Int)=1) then ((Aa m e.C).Y) else e.C.Y)] 136),(4,.cells [.i 0,.i 0,.i 0,.i 0,.i 0,.i 0,.i 0] 136)]⟩ (.cons (DQ m e.A) (.cons (DQ m e.B) .nil)) (.cons rfl (.cons rfl .nil))<|AH<|AC ?_
 refine rn ⟨[(4,tP 4 0)],[(4,.cells [.i e.Kind,.i ((Aa m e.A).X),.i ((Aa m e.A).Y),.i ((Aa m e.B).X),.i ((Aa m e.B).Y),.i (bif !decide ((e.Kind:Int)=1) then ((Aa m e.C).X) else e.C.X),.i (bif !decide ((e.Kind:Int)=1) then ((Aa m e.C).Y) else e.C.Y)] 136)]⟩<|AZ ?_
 exact ⟨_,Cv.refl _,.inl rfl,.av (.agg [.i e.Kind,.i ((Aa m e.A).X),.i ((Aa m e.A).Y),.i ((Aa m e.B).X),.i ((Aa m e.B).Y),.i (bif !decide ((e.Kind:Int)=1) then ((Aa m e.C).X) else e.C.X),.i (bif !decide ((e.Kind:Int)=1) then ((Aa m e.C).Y) else e.C.Y)]),by kernel_rfl,Ad (by rfl)⟩
def EG (e:AE) (m:Ab):AE:=if e.Kind=1 then PJ e.A e.B e.C m else if e.Kind=2 then PI e.A e.B e.C m else if e.Kind=3 then PH e.A e.B e.C m else Rw e m
def QK (e:AE) (m:Ab):FuncId×List Av×Ef:=(62,[.agg (AE.c e),.agg (Ab.c m)],.val [] (.av (.agg (AE.c (EG e m)))))
theorem pMove (e:AE) (m:Ab):BH Tryz.prog 62 (QK e m).2.1 (.av (.agg (AE.c (EG e m)))):=by
 by_cases k1:e.Kind=1
 ·have hF:EG e m=PJ e.A e.B e.C m:=by unfold EG;rw [if_pos k1]
  rw [hF];obtain ⟨k,a0,a1,a2⟩:=e;simp only at k1;subst k1;exact iC a0 a1 a2 m
 by_cases k2:e.Kind=2
 ·have hF:EG e m=PI e.A e.B e.C m:=by unfold EG;rw [if_neg k1];rw [if_pos k2]
  rw [hF];obtain ⟨k,a0,a1,a2⟩:=e;simp only at k2;subst k2;exact iB a0 a1 a2 m
 by_cases k3:e.Kind=3
 ·have hF:EG e m=PH e.A e.B e.C m:=by unfold EG;rw [if_neg k1];rw [if_neg k2];rw [if_pos k3]
  rw [hF];obtain ⟨k,a0,a1,a2⟩:=e;simp only at k3;subst k3;exact iA a0 a1 a2 m
 have hF:EG e m=Rw e m:=by unfold EG;rw [if_neg k1,if_neg k2,if_neg k3]
 rw [hF];exact hZ e m k1 k2 k3
theorem iP (e:AE) (m:Ab):Aq Tryz.prog (QK e m).1 (QK e m).2.1 (QK e m).2.2:=AR (fun _ _=>by kernel_rfl) fun _=>pMove e m
end
section
open Go.ChangeShapes Go.WideShapes Go.ChangeAt Go.RowKit
theorem own:ownKnob Tryz.prog.godebug=none:=by kernel_rfl
theorem eB:laidOutB Tryz.prog=true:=by kernel_rfl
theorem opT81:QO Tryz.prog 81 (fun xs:List Int=>[lst 1 (fun x=>[.i x]) xs]) (fun xs=>xs.length<=maxLen/\∀ x∈xs,WF .i64 x):=MQ 1 Tryz.underlying81 kr (by decide) (Wt Tryz.underlying3)
theorem opT22:QO Tryz.prog 22 (fun xs:List (List Int)=>[lst 1 (fun x=>[lst 1 (fun x=>[.i x]) x]) xs]) (fun xs=>xs.length<=maxLen/\∀ x∈xs,(x.length<=maxLen/\∀ y∈x,WF .i64 y)):=MQ 1 Tryz.underlying22 kr (by decide) opT81
end
section
open Go.RowKit
def IWL (P:Program) (N:Nat) (Ow:World->Nat->Prop) (n0:Nat) (ops:Array Oper) (l:List Oper) (Q:IQ) (s:AS) (J:World->Prop) (al:Bool):Prop :=
 ∀ W0 M σ a w,(J W0/\a.defers=[]/\IOk Ow n0 al M W0)->Sim N W0 noX M M σ (get s.t) (get s.h) a w->wpListIn (FW none) 0 P ops (fun e a' w'=>∃ s' J' al' W0' M' σ',Q e s' J' al'/\(J' W0'/\a'.defers=[]/\IOk Ow n0 al' M' W0')/\Sim N W0' noX M' M' σ' (get s'.t) (get s'.h) a' w') l a w
section
variable {P:Program} {N:Nat} {Ow:World→Nat→Prop} {n0:Nat} {Q:IQ} {s:AS} {J:World→Prop} {al:Bool} {ops:Array Oper} {l:List Oper} {o:Oper}
theorem Oa {id:Nat} (h:IWL P N Ow n0 l.toArray l Q s J al):IWp P N Ow n0 (.region id l.toArray false) Q s J al:=fun W0 M σ a w hJ hs=>wpIn_region_lit (h W0 M σ a w hJ hs)
theorem K7 (hO:OwS Ow n0) {E:TypeId->Option (List Kd)} (hE:IV P ⟨fun _=>none,E,fun _=>false,fun _=>none⟩) (k:Nat) (ts:List Nat) (cs:List Prop) (T:List (Nat×Tv)) (hr:Pg P ⟨EY [],E,Au [],get []⟩ N ops (l.take k) ts [] s=some (cs,⟨T,[]⟩)) (hc:Bn cs)
  (hdv:∀ i v,get s.t i=some v->v.dv=true) (hh:s.h=[]) (h:IWL P N Ow n0 ops (l.drop k) Q ⟨T,[]⟩ J al):IWL P N Ow n0 ops l Q s J al:=by
 have hV:JE P ⟨EY [],E,Au [],get []⟩:=(Gw.nil (P:=P)).env (O:=Au []) (q:=get []) hE
 intro W0 M σ a w hJ hs
 unfold Pg at hr
 split at hr
 ·rename_i cs1 s1 h1
  simp only [Option.some.injEq,Prod.mk.injEq] at hr
  obtain ⟨rfl,hS⟩:=hr
  have key:=N6 (rd:=none) (ops:=ops) (Q':=fun e a' w'=>∃ s' J' al' W0' M' σ',Q e s' J' al'/\(J' W0'/\a'.defers=[]/\IOk Ow n0 al' M' W0')/\Sim N W0' noX M' M' σ' (get s'.t) (get s'.h) a' w') hV (l.drop k) (l.take k) s s1 cs1 h1 hc M _ a w (Ip hdv hh hJ.2.1 hs) fun M' σ' a' w' hs'=>by
   have hs2:=D9 hs' ts []
   rw [hS] at hs2
   obtain ⟨hd,hs3⟩:=GN hs2
   exact h W0 M' σ' a' w' ⟨hJ.1,hd,Hs hJ.2.2 hO hs2⟩ hs3
  rw [List.take_append_drop] at key
  exact key
 ·cases hr
theorem RX (h:Q .normal s J al):IWL P N Ow n0 ops [] Q s J al:=fun W0 M σ a w hJ hs=>⟨s,J,al,W0,M,σ,h,hJ,hs⟩
theorem OZ (ts:List Nat) (S:AS) (hS:Jr ts [] s=S) (h:IWL P N Ow n0 ops l Q S J al):IWL P N Ow n0 ops l Q s J al:=by
 subst hS
 exact fun W0 M σ a w hJ hs=>h W0 M σ a w hJ (D9 hs ts [])
theorem Uj (hO:OwS Ow n0) (hwant:∀ (M:Nat->Option Obj) (σ:Nat->Loc) (a:Act),(∀ i v,get s.t i=some v->RT M σ v (a.tmps.getD i undef))->a.tmps.size=N->Region.wanted o (yielded ops a.tmps)=true) {c:Call} {f:Operand} {ly d:Nat} (xs:List Av) (ho:o.op=.call c) (hcf:c.callee=.value f)
  (hf:evT (get s.t) f=some (.av (.one (.val (.func (.yield ly) #[] #[]))))) (hxs:EF (evT (get s.t)) c.args.toList=some xs) (hv:xs.all Av.isV=true) (hod:o.dst=some d) (hdN:Nat.blt d N=true) (hT1:∀ i v,get s.t i=some v->v.dv=true/\TvM v)
  (hJg:∀ A B,J A->A.grownBy B none->J B) (Jt Jf:World->Prop)
  (hY:∀ W,J W->YieldAt (FW none) 0 P ly (xs.map Av.toV).toArray W (fun e W'=>(e=.returned (.bool true)/\Jt W'/\KpS Ow W W')\/(e=.returned (.bool false)/\Jf W')))
  (tf:List Nat) (htf:∀ i v,get (Iy s.t tf) i=some v->∃ u,v=.av (.one (.val u))) (hh:s.h=[])
  (ht:IWL P N Ow n0 ops l Q ⟨(d,tB true)::s.t,[]⟩ Jt true) (hff:IWL P N Ow n0 ops l Q ⟨(d,tB false)::Iy s.t tf,[]⟩ Jf false):IWL P N Ow n0 ops (o::l) Q s J true:=by
 intro W0 M σ a w hJ hs
 refine wpListIn_step fun K0 hK' => ?_
 rw [if_pos (hwant M σ a hs.tmps hs.room)]
 have hgrow:W0.grownBy w none:={ os:=hs.os,tape:=hs.tape,output:=hs.output,size:=hs.size,block:=fun b hb _=>hs.old b hb (EL b) }
 have hiok:=hJ.2.2
 have hdN':d<N:=by have:=Nat.le_of_ble_eq_true hdN;omega
 have hput:∀ (b:Bool) (T:List (Nat×Tv)) (M':Nat->Option Obj) (σ':Nat->Loc),(∀ i v,get T i=some v->RT M' σ' v (a.tmps.getD i undef))->∀ i v,get ((d,tB b)::T) i=some v->RT M' σ' v ((a.put o.dst (.bool b)).tmps.getD i undef):=fun b T M' σ' hT i v hv=>by
  have hds:d<a.tmps.size:=by rw [hs.room];exact hdN'
  simp only [get,CN] at hv
  rw [hod]
  by_cases hi:d=i
  ·subst hi
   simp at hv;subst hv
   have:(a.put (some d) (.bool b)).tmps.getD d undef=.bool b:=by simp [Act.put,Array.getD_eq_getD_getElem?,hds]
   rw [this]
   exact ⟨rfl,rfl⟩
  ·simp [hi] at hv
   have:(a.put (some d) (.bool b)).tmps.getD i undef=a.tmps.getD i undef:=by simp [Act.put,Array.getD_eq_getD_getElem?,Array.getElem?_setIfInBounds,hi]
   rw [this];exact hT i v hv
 have hsize:∀ b:Bool,(a.put o.dst (.bool b)).tmps.size=N:=fun b=>by rw [hod];simpa [Act.put] using hs.room
 have hdef:∀ b:Bool,(a.put o.dst (.bool b)).defers=[]:=fun b=>by rw [hod];simpa [Act.put] using hJ.2.1
 have hnew:∀ (b:Bool) (w2:World) (T:List (Nat×Tv)) (Mn:Nat->Option Obj),(∀ i v,get T i=some v->RT Mn σ v (a.tmps.getD i undef))->(∀ b o,Mn b=some o->w2.heap[b]? = some o)->Sim N w2 noX Mn Mn σ (get ((d,tB b)::T)) (get []) (a.put o.dst (.bool b)) w2:=fun b w2 T Mn hT himm =>
  ⟨rfl,rfl,rfl,Nat.le_refl _,fun _ _ _=>rfl,fun _ _ h=>h,fun b o h h'=>(by rw [h] at h';cases h'),fun m x hx=>(by cases hx),⟨by rw [hdef b];trivial,fun _=>hdef b⟩,hsize b,hput b T Mn σ hT,himm,fun n b hb=>(by cases hb),fun n b hb=>(by cases hb),fun n m b c hb=>(by cases hb)⟩
 refine R7 hs.tmps ho hcf hf hxs hv (hY w (hJg W0 w hJ.1 hgrow)) fun e w2 he => ?_
 rcases he with ⟨rfl,h5,h6⟩ | ⟨rfl,h5⟩
 ·have hst:∀ b,Ow w b->Ow W0 b:=hO.st W0 w (hiok rfl).1 fun b hb=>hs.old b hb (EL b)
  refine ⟨_,rfl,hK' _ _ (ht w2 (PR M) σ _ w2 ⟨h5,hdef true,fun _=>⟨Nat.le_trans (hiok rfl).1 (Nat.le_trans hs.size h6.1),fun b h=>(h6.2.2 b h).elim (fun h7=>Nat.lt_of_lt_of_le ((hiok rfl).2.1 b (hst b h7)) (Nat.le_trans hs.size h6.1)) And.right,fun b o' h hw2 => ?_⟩⟩ (hnew true w2 s.t (PR M) (fun i v hv=>O6 H9 (hs.tmps i v hv) (hT1 i v hv).2) fun b o' h => ?_))⟩
  ·rcases h6.2.2 b hw2 with h7 | h7
   ·exact (hiok rfl).2.2 b o' (C8 h).1 (hst b h7)
   ·have:=(Array.getElem?_eq_some_iff.1 (hs.imm b o' (C8 h).1)).1;omega
  ·exact h6.2.1 b o' (hs.imm b o' (C8 h).1) (C8 h).2 fun h7=>(hiok rfl).2.2 b o' (C8 h).1 (hst b h7)
 ·refine ⟨_,rfl,hK' _ _ (hff w2 noM σ _ w2 ⟨h5,hdef false,fun h=>by cases h⟩ (hnew false w2 (Iy s.t tf) noM (fun i v hv => ?_) fun b o' h=>by cases h))⟩
  obtain ⟨u,rfl⟩:=htf i v hv
  exact hs.tmps i _ (HP _ _ _ _ hv)
theorem Ul (hO:OwS Ow n0) (hgn:o.guard=none) {c:Call} {f:Operand} {ly d:Nat} (xs:List Av) (ho:o.op=.call c) (hcf:c.callee=.value f)
  (hf:evT (get s.t) f=some (.av (.one (.val (.func (.yield ly) #[] #[]))))) (hxs:EF (evT (get s.t)) c.args.toList=some xs) (hv:xs.all Av.isV=true) (hod:o.dst=some d) (hdN:Nat.blt d N=true) (hT1:∀ i v,get s.t i=some v->v.dv=true/\TvM v)
  (hJg:∀ A B,J A->A.grownBy B none->J B) (Jt Jf:World->Prop)
  (hY:∀ W,J W->YieldAt (FW none) 0 P ly (xs.map Av.toV).toArray W (fun e W'=>(e=.returned (.bool true)/\Jt W'/\KpS Ow W W')\/(e=.returned (.bool false)/\Jf W')))
  (tf:List Nat) (htf:∀ i v,get (Iy s.t tf) i=some v->∃ u,v=.av (.one (.val u))) (hh:s.h=[])
  (ht:IWL P N Ow n0 ops l Q ⟨(d,tB true)::s.t,[]⟩ Jt true) (hff:IWL P N Ow n0 ops l Q ⟨(d,tB false)::Iy s.t tf,[]⟩ Jf false):IWL P N Ow n0 ops (o::l) Q s J true :=
 Uj hO (fun M σ a h1 h2=>by simp [Region.wanted,hgn]) xs ho hcf hf hxs hv hod hdN hT1 hJg Jt Jf hY tf htf hh ht hff
theorem SA {W0 w:World} {M0 M:Nat->Option Obj} {σ:Nat->Loc} {T:Nat->Option Tv} {H:Nat->Option Blk} {a:Act} (h:Sim N W0 noX M0 M σ T H a w) (hd:a.defers=[]):Sim N W0 noX M M σ T H a w :=
 ⟨h.os,h.tape,h.output,h.size,h.old,fun _ _ h=>h,fun b o h h'=>(by rw [h] at h';cases h'),h.pin,⟨by rw [hd];trivial,fun _=>hd⟩,h.room,h.tmps,h.imm,h.blk,h.loc,h.inj⟩
theorem ZY {c:Code} {S:AS} (hO:OwS Ow n0) (h:∀ W0 M1,Cv N W0 noX M1 s S) (k:IWp P N Ow n0 c Q S J al):IWp P N Ow n0 c Q s J al:=by
 intro W0 M σ a w hJ hs
 obtain ⟨M',σ',h2⟩:=h W0 M M σ a w hs
 exact k W0 M' σ' a w ⟨hJ.1,hJ.2.1,Hs hJ.2.2 hO h2⟩ (SA h2 hJ.2.1)
end
end
section
open Go.RowKit
theorem aV {M:Nat->Option Obj} {c:Cl} {V:Value} (h:RC M c V):V.oneCell'=true:=by
 cases h with
 | val v h=>exact h
 | any V h=>exact h
 | _=>rfl
abbrev aG (t:Bool) (sz len:Nat) (f:Nat->Nat->Cl):Cl:=.eptr 1 1 (fun _ j=>([.list t sz len f]:List Cl).getD j default) 0 0
theorem bS {M:Nat->Option Obj} {t:Bool} {sz len:Nat} {f:Nat->Nat->Cl} {v:Value} (h:RC M (.list t sz len f) v):∃ g:Nat->Nat->Value,RC M (.list t sz len (fun i j=>.val (g i j))) v/\∀ i j,i<len->j<sz->RC M (f i j) (g i j):=by
 cases h with
 | nil _ _ _ h0=>exact ⟨fun _ _=>undef,.nil _ _ _ h0,fun i j hi=>by omega⟩
 | mt _ _ _ a cap h5=>exact ⟨fun _ _=>undef,.mt _ _ _ a cap h5,fun i j hi=>by omega⟩
 | list _ _ _ _ b off cap g h1 h2 h4 h5=>exact ⟨g,.list _ _ _ _ b off cap g h1 (fun i j hi hj=>.val _ (aV (h2 i j hi hj))) h4 h5,h2⟩
theorem UG {M:Nat->Option Obj} {t:Bool} {sz len:Nat} {f:Nat->Nat->Cl} {V:Value} (h:RC M (aG t sz len f) V):∃ g:Nat->Nat->Value,RC M (aG t sz len (fun i j=>.val (g i j))) V/\∀ i j,i<len->j<sz->RC M (f i j) (g i j):=by
 cases h with
 | eptr _ _ _ _ _ b base g0 h1 h2 =>
  obtain ⟨g,hg1,hg2⟩:=bS (h2 0 (by decide))
  exact ⟨g,.eptr _ _ _ _ _ _ _ g0 h1 (fun j hj=>by
   have:j=0:=by omega
   subst this;exact hg1),hg2⟩
end
section
open Go.RowKit
section
variable {P:Program}
def WrR (P:Program) (f:FuncId) (K:Nat) (xs:List Av) (sz len:Nat) (F0:Nat->Nat->Cl) (ty:TypeId) (r:Tv) (F1:Nat->Nat->Cl):Prop:=∀ (M:Nat->Option Obj) (σ:Nat->Loc) (w:World) (args:List Value),(∀ b o,M b=some o->w.heap[b]? = some o)->Bg M σ w (σ K) (.row sz len F0 ty)->((σ K).nil=true\/M (σ K).b=none)->L2 (RA M σ) xs args ->
 Calls P f args.toArray w fun en w'=>∃ U,en=.returned U/\∃ M',Gi w w' M M' (only (σ K))/\(∀ σ',RT M' σ' r U)/\∀ σ',Bg M' σ' w' (σ K) (.row sz len F1 ty)
theorem KK {f:FuncId} {fn:Func} {c:Code} (hf:P.funcs[f]? = some fn) (hb:fn.body=some c) {K:Nat} {xs:List Av} {sz len:Nat} {F0 F1:Nat->Nat->Cl} {ty:TypeId} {r:Tv} (hN:Nat.ble xs.length fn.ntmps=true) (hK:Nat.ble fn.ntmps K=true) (hd:r.dv=true)
  (h:∀ (W0:World) (M0:Nat->Option Obj) (X:Nat->Option Loc),(∀ k x,X k=some x->Au [K] k=true)->AWp P none fn.ntmps W0 X M0 c (aZ P fn.ntmps W0 X M0 fn fun r' s'=>TvE r' r/\∃ b,get s'.h K=some b/\He b (.row sz len F1 ty)) ⟨EB 0 xs,[(K,.row sz len F0 ty)]⟩):WrR P f K xs sz len F0 ty r F1:=by
 intro M σ w args himm hblk hM hargs
 have one:∀ n b,get [(K,Blk.row sz len F0 ty)] n=some b->n=K/\b=.row sz len F0 ty:=fun n b hn=>by
  simp only [get,CN] at hn
  by_cases hk:K=n
  ·simp [hk] at hn;exact ⟨hk.symm,hn.symm⟩
  ·simp [hk] at hn
 by_cases hnil:(σ K).nil=true
 ·have hlen:len=0:=by
   rcases hblk with h0 | ⟨h0,_⟩
   ·exact h0.2
   ·rw [hnil] at h0;cases h0
  refine Et (X:=noX) (σ:=σ) (h0:=[(K,.row sz len F0 ty)]) hf hb (Nat.le_of_ble_eq_true hN) himm hargs (fun n b hn => ?_) (fun n b hn => ?_) (fun n x hx=>by cases hx) (fun n m b c hn hm hne => ?_) (Dx (h w M noX (fun k x hk=>by cases hk))) ?_
  ·obtain ⟨rfl,rfl⟩:=one n b hn;exact hblk
  ·obtain ⟨rfl,rfl⟩:=one n b hn;exact .inl hnil
  ·exact absurd ((one n b hn).1.trans (one m c hm).1.symm) hne
  ·rintro r' s' M' σ' a' w' U ⟨he,b,hb1,hbe⟩ hs hR
   exact ⟨U,rfl,M',⟨hs.os,hs.tape,hs.output,hs.size,fun b hb hne=>hs.old b hb (EL b),hs.sub,hs.new,hs.imm⟩,fun σ''=>HA hd (Kf he hR),fun σ''=>.inl ⟨hnil,hlen⟩⟩
 ·have hnil:(σ K).nil=false:=by simpa using hnil
  have hMK:M (σ K).b=none:=by
   rcases hM with h1 | h1
   ·rw [hnil] at h1;cases h1
   ·exact h1
  let X:Nat->Option Loc:=upd noX K (some (σ K))
  have hX:X K=some (σ K):=BG _ _ _
  have pins:∀ n x,X n=some x->n=K/\x=σ K:=fun n x hx=>by
   by_cases hk:n=K
   ·subst hk;rw [hX] at hx;injection hx with hx;exact ⟨rfl,hx.symm⟩
   ·simp only [X] at hx;rw [CQ _ _ hk] at hx;cases hx
  have hXK:∀ k x,X k=some x->Au [K] k=true:=fun k x hk=>by rw [(pins k x hk).1];exact Kz _
  refine Et (X:=X) (σ:=σ) (h0:=[(K,.row sz len F0 ty)]) hf hb (Nat.le_of_ble_eq_true hN) himm hargs (fun n b hn => ?_) (fun n b hn => ?_) (fun n x hx => ?_) (fun n m b c hn hm hne => ?_) (Dx (h w M X hXK)) ?_
  ·obtain ⟨rfl,rfl⟩:=one n b hn;exact hblk
  ·obtain ⟨rfl,rfl⟩:=one n b hn;exact .inr ⟨hMK,n,σ n,hX,rfl⟩
  ·obtain ⟨rfl,rfl⟩:=pins n x hx;exact ⟨Nat.le_of_ble_eq_true hK,rfl⟩
  ·exact absurd ((one n b hn).1.trans (one m c hm).1.symm) hne
  ·rintro r' s' M' σ' a' w' U ⟨he,b,hb1,hbe⟩ hs hR
   have hpin:=(hs.pin K _ hX).2
   have hbk:=hs.blk K _ hb1
   rw [hpin] at hbk
   refine ⟨U,rfl,M',⟨hs.os,hs.tape,hs.output,hs.size,fun b hb hne=>hs.old b hb ?_,hs.sub,hs.new,hs.imm⟩,fun σ''=>HA hd (Kf he hR),fun σ''=>(Je hbe hbk:Bg M' σ' w' (σ K) (.row sz len F1 ty))⟩
   rintro ⟨n,x,hx,rfl⟩
   obtain ⟨rfl,rfl⟩:=pins n x hx
   exact hne ⟨hnil,rfl⟩
theorem Kb {α:Type} [Inhabited α] {c:α->List Cl} {xs ys:List α} {sz n:Nat} {ty:TypeId} (h:xs=ys) (hl:xs.length=n):He (.row sz xs.length (Ak c xs) ty) (.row sz n (Ak c ys) ty):=by
 subst h hl
 exact .refl _
def SF (K n:Nat):Av->Av
 | .one (.own m sz len)=>bif Nat.beq m K then .one (.own n sz len) else .one (.own m sz len)
 | x=>x
def YU (K:Nat):Av->Bool
 | .one (.own m _ _)=>Nat.beq m K
 | x=>x.dv
theorem KZ {f:FuncId} {K n:Nat} {xs:List Av} {sz len:Nat} {F0 F1:Nat->Nat->Cl} {ty:TypeId} {r:Tv} (h1:∀ args w,(callFunc f args).run P w=.ok (.enter f args) w) (hx:xs.all (YU K)=true) (h:WrR P f K xs sz len F0 ty r F1):Aq P f (xs.map (SF K n)) (wrI n (.row sz len F0 ty) r (.row sz len F1 ty)):=by
 refine .inl ⟨h1,fun M σ w hh args cs' g hs hargs hres hc => ?_⟩
 simp only [wrI,res,G8] at hres
 cases hn:hh n with
 | none=>rw [hn] at hres;cases hres
 | some b =>
  rw [hn] at hres
  simp only [Option.some.injEq,Prod.mk.injEq] at hres
  obtain ⟨rfl,rfl⟩:=hres
  have:=hc.head
  subst this
  have hblk:=hs.blk n _ hn
  let σ2:Nat->Loc:=upd σ K (σ n)
  have hK:σ2 K=σ n:=BG _ _ _
  have hargs2:L2 (RA M σ2) xs args:=by
   refine L2.of (by have:=hargs.length;simpa using this) fun i x V hxi hV => ?_
   obtain ⟨V',hV',hR⟩:=hargs.get i (SF K n x) (by rw [List.getElem?_map,hxi];rfl)
   rw [hV] at hV';injection hV' with hV';subst hV'
   have hok:=(List.all_eq_true.1 hx) x (List.mem_of_getElem? hxi)
   unfold YU at hok
   split at hok
   ·rename_i m sz' len'
    simp only [SF,hok,cond_true] at hR
    have:=Nat.eq_of_beq_eq_true hok
    subst this
    have hR':R M σ (.own n sz' len') V:=hR
    show R M σ2 (.own m sz' len') V
    unfold R at hR' ⊢
    rw [hK];exact hR'
   ·rename_i hne
    have:SF K n x=x:=by
     unfold SF
     split
     ·rename_i m a b;exact (hne m a b rfl).elim
     ·rfl
    rw [this] at hR
    exact HA (σ':=σ2) (r:=.av x) hok hR
  refine (h M σ2 w args hs.imm (by rw [hK];exact hblk) (by rw [hK];exact hs.loc n _ hn) hargs2).mono ?_
  rintro en w' ⟨U,hU,M',hk,hR,hb⟩
  rw [hK] at hk
  refine ⟨U,hU,fun dst _=>⟨M',σ,hk,rfl,hR σ,?_⟩⟩
  have:=hb σ
  rw [hK] at this
  exact this
end
end
section
section
variable {α:Type} [Inhabited α]
def Ht (lt:α->Bool) (out:List α):Nat->Nat
 | 0=>0
 | k+1=>bif lt (out.getD k default) then Ht lt out k else k+1
def S6 (lt:α->α->Bool) (out:List α) (x:α):List α:=out.take (Ht (lt x) out out.length)++x::out.drop (Ht (lt x) out out.length)
def GR (lt:α->α->Bool) (l:List α):List α:=l.foldl (S6 lt) []
theorem XL (lt:α->α->Bool) (out:List α) (x:α):(S6 lt out x).Perm (x::out):=by
 unfold S6
 refine List.perm_middle.trans ?_
 rw [List.take_append_drop]
theorem Md (lt:α->α->Bool) (l:List α) (x:α):GR lt (l++[x])=S6 lt (GR lt l) x:=by
 unfold GR
 rw [List.foldl_append];rfl
theorem S3 (lt:α->α->Bool) (l:List α):(GR lt l).Perm l:=by
 have key:∀ (l out:List α),(l.foldl (S6 lt) out).Perm (out++l):=by
  intro l
  induction l with
  | nil=>intro out;simp
  | cons x l ih =>
   intro out
   rw [List.foldl_cons]
   refine (ih _).trans ?_
   refine ((XL lt out x).append_right l).trans ?_
   exact List.perm_middle.symm
 exact key l []
theorem Oc (lt:α->α->Bool) (l:List α):(GR lt l).length=l.length:=(S3 lt l).length_eq
theorem WW (A:List α) (x y:α) (R:List α) :
  (A++y::x::R).getD A.length default=y/\(A++y::x::R).getD (A.length+1) default=x/\((A++y::x::R).set (A.length+1) y).set A.length x=A++x::y::R:=by
 refine ⟨?_,?_,?_⟩
 ·rw [List.getD_eq_getElem?_getD,List.getElem?_append_right (by omega)];simp
 ·rw [List.getD_eq_getElem?_getD,List.getElem?_append_right (by omega)];simp
 ·rw [List.set_append_right _ _ (by omega),List.set_append_right _ _ (by omega)];simp
theorem D7 (out:List α) (j:Nat) (h:j<out.length):out.take (j+1)=out.take j++[out.getD j default]/\out.drop j=out.getD j default::out.drop (j+1):=by
 constructor
 ·rw [List.take_add_one,List.getElem?_eq_getElem h,List.getD_eq_getElem?_getD,List.getElem?_eq_getElem h];rfl
 ·rw [List.drop_eq_getElem_cons h,List.getD_eq_getElem?_getD,List.getElem?_eq_getElem h];rfl
theorem jI {β:Type} (lt:α->α->Bool) (f:Nat->List α->Int->β) (K:List α->β)
  (hf:∀ m d (j:Nat),f (m+1) d j=bif (bif decide ((0:Int)<j) then lt (d.getD j default) (d.getD (j-1) default) else false) then f m ((d.set j (d.getD (j-1) default)).set (j-1) (d.getD j default)) ((j:Int)-1) else K d)
  (out rest:List α) (x:α):∀ (j m:Nat),j<=out.length->j<m->f m (out.take j++x::(out.drop j++rest)) j=K (out.take (Ht (lt x) out j)++x::(out.drop (Ht (lt x) out j)++rest)):=by
 intro j
 induction j with
 | zero =>
  intro m hj hm
  obtain ⟨m,rfl⟩:∃ k,m=k+1:=⟨m-1,by omega⟩
  rw [hf]
  simp [Ht]
 | succ j ih =>
  intro m hj hm
  obtain ⟨m,rfl⟩:∃ k,m=k+1:=⟨m-1,by omega⟩
  obtain ⟨e1,e2⟩:=D7 out j (by omega)
  have hl:(out.take j).length=j:=by rw [List.length_take];omega
  obtain ⟨s1,s2,s3⟩:=WW (out.take j) x (out.getD j default) (out.drop (j+1)++rest)
  rw [hl] at s1 s2 s3
  have hd:out.take (j+1)++x::(out.drop (j+1)++rest)=out.take j++out.getD j default::x::(out.drop (j+1)++rest):=by rw [e1];simp
  rw [hf,hd,Nat.add_sub_cancel,s1,s2,s3]
  have h0:decide ((0:Int)<((j+1:Nat):Int))=true:=decide_eq_true (by omega)
  rw [h0,cond_true]
  conv=>rhs;unfold Ht
  cases hlt:lt x (out.getD j default) with
  | true =>
   rw [cond_true,cond_true]
   have:=ih m (by omega) (by omega)
   rw [e2] at this
   rw [show ((j+1:Nat):Int)-1=(j:Int) by omega,<- this]
   rfl
  | false =>
   rw [cond_false,cond_false,hd]
theorem jJ {β:Type} (lt:α->α->Bool) (l:List α) (g:Nat->List α->Int->β) (K:List α->β) (hK:∀ m d (i:Nat),l.length<=i->g (m+1) d i=K d)
  (hg:∀ m (i:Nat) (out rest:List α) x,i<l.length->out.length=i->g (m+1) (out++x::rest) i=g m (S6 lt out x++rest) ((i:Int)+1)) :
  ∀ (k m i:Nat),l.length-i=k->i<=l.length->k<m->g m (GR lt (l.take i)++l.drop i) i=K (GR lt l):=by
 intro k
 induction k with
 | zero =>
  intro m i hk hi hm
  obtain ⟨m,rfl⟩:∃ k,m=k+1:=⟨m-1,by omega⟩
  rw [hK m _ i (by omega),List.drop_eq_nil_of_le (by omega),List.take_of_length_le (by omega),List.append_nil]
 | succ k ih =>
  intro m i hk hi hm
  obtain ⟨m,rfl⟩:∃ k,m=k+1:=⟨m-1,by omega⟩
  obtain ⟨e1,e2⟩:=D7 l i (by omega)
  rw [e2,hg m i _ _ _ (by omega) (by rw [Oc,List.length_take];omega),<- Md,<- e1]
  have:=ih m (i+1) (by omega) (by omega) (by omega)
  rw [show ((i+1:Nat):Int)=(i:Int)+1 by omega] at this
  exact this
theorem cp_l {β:Type} (xs:List α) (g:Nat->List α->Int->β) (K:List α->Int->β) (h:∀ m acc (v:Nat),g (m+1) acc v=bif decide ((v:Int)<(xs.length:Int)) then g m (acc++[xs.getD v default]) ((v:Int)+1) else K acc v) :
  ∀ (k v m:Nat) (acc:List α),xs.length-v=k->v<=xs.length->k<m->g m acc v=K (acc++xs.drop v) (xs.length:Int):=by
 intro k
 induction k with
 | zero =>
  intro v m acc hk hv hm
  obtain ⟨m,rfl⟩:∃ k,m=k+1:=⟨m-1,by omega⟩
  rw [h,decide_eq_false (by omega),cond_false,List.drop_eq_nil_of_le (by omega),List.append_nil,show v=xs.length by omega]
 | succ k ih =>
  intro v m acc hk hv hm
  obtain ⟨m,rfl⟩:∃ k,m=k+1:=⟨m-1,by omega⟩
  obtain ⟨_,e2⟩:=D7 xs v (by omega)
  rw [h,decide_eq_true (by omega),cond_true,e2]
  have:=ih (v+1) m (acc++[xs.getD v default]) (by omega) (by omega) (by omega)
  rw [show ((v+1:Nat):Int)=(v:Int)+1 by omega] at this
  rw [this,List.append_assoc];rfl
theorem jM {β γ:Type} (xs:List α) (step:γ->α->γ) (g:Nat->γ->Int->β) (K:γ->Int->β) (h:∀ m acc (v:Nat),g (m+1) acc v=bif decide ((v:Int)<(xs.length:Int)) then g m (step acc (xs.getD v default)) ((v:Int)+1) else K acc v) :
  ∀ (k v m:Nat) (acc:γ),xs.length-v=k->v<=xs.length->k<m->g m acc v=K ((xs.drop v).foldl step acc) (xs.length:Int):=by
 intro k
 induction k with
 | zero =>
  intro v m acc hk hv hm
  obtain ⟨m,rfl⟩:∃ k,m=k+1:=⟨m-1,by omega⟩
  rw [h,decide_eq_false (by omega),cond_false,List.drop_eq_nil_of_le (by omega),show v=xs.length by omega];rfl
 | succ k ih =>
  intro v m acc hk hv hm
  obtain ⟨m,rfl⟩:∃ k,m=k+1:=⟨m-1,by omega⟩
  obtain ⟨_,e2⟩:=D7 xs v (by omega)
  rw [h,decide_eq_true (by omega),cond_true,e2]
  have:=ih (v+1) m (step acc (xs.getD v default)) (by omega) (by omega) (by omega)
  rw [show ((v+1:Nat):Int)=(v:Int)+1 by omega] at this
  rw [this,List.foldl_cons]
theorem Zp {β γ:Type} (xs:List α) (step:γ->α->γ) (g:Nat->Nat->γ->β) (K:γ->β) (h0:∀ x acc,g 0 x acc=K acc) (h:∀ m x acc,x<xs.length->g (m+1) x acc=g m (x+1) (step acc (xs.getD x default))) :
  ∀ (m x:Nat) (acc:γ),m+x=xs.length->g m x acc=K ((xs.drop x).foldl step acc):=by
 intro m
 induction m with
 | zero =>
  intro x acc hx
  rw [h0,List.drop_eq_nil_of_le (by omega)];rfl
 | succ m ih =>
  intro x acc hx
  obtain ⟨_,e2⟩:=D7 xs x (by omega)
  rw [h m x acc (by omega),ih (x+1) _ (by omega),e2,List.foldl_cons]
omit [Inhabited α] in
theorem P3 {γ:Type} (f:α->γ):∀ (xs:List α) (acc:List γ),xs.foldl (fun acc x=>acc++[f x]) acc=acc++xs.map f
 | [],acc=>by simp
 | x::xs,acc=>by rw [List.foldl_cons,P3 f xs,List.map_cons,List.append_assoc];rfl
def ixI (f:α->Bool) (xs:List α):Int:=match xs.findIdx? f with
 | some i=>(i:Int)
 | none => -1
omit [Inhabited α] in
theorem ZT {f:α->Bool} {xs:List α} (h:¬ ixI f xs<0):0<=ixI f xs/\ixI f xs<(xs.length:Int):=by
 unfold ixI at *
 cases hk:xs.findIdx? f with
 | none=>rw [hk] at h;exact absurd (by decide) h
 | some i =>
  rw [hk] at h
  have:=(List.findIdx?_eq_some_iff_getElem.1 hk).1
  simp only
  omega
theorem ZR {f:α->Bool} {xs:List α} (h:¬ ixI f xs<0):f (xs.getD (ixI f xs).toNat default)=true/\xs.find? f=some (xs.getD (ixI f xs).toNat default):=by
 unfold ixI at *
 cases hk:xs.findIdx? f with
 | none=>rw [hk] at h;exact absurd (by decide) h
 | some i =>
  obtain ⟨h1,h2,h3⟩:=List.findIdx?_eq_some_iff_getElem.1 hk
  have e:xs.getD ((i:Int)).toNat default=xs[i]:=by rw [Int.toNat_natCast,List.getD_eq_getElem?_getD,List.getElem?_eq_getElem h1];rfl
  simp only [e]
  refine ⟨h2,?_⟩
  rw [List.find?_eq_some_iff_getElem]
  exact ⟨h2,i,h1,rfl,fun j hj=>by have:=h3 j hj;simpa using this⟩
omit [Inhabited α] in
theorem ZS {f:α->Bool} {xs:List α} (h:ixI f xs<0):xs.find? f=none:=by
 unfold ixI at h
 cases hk:xs.findIdx? f with
 | some i=>rw [hk] at h;exact absurd h (by simp only;omega)
 | none =>
  rw [List.find?_eq_none]
  rw [List.findIdx?_eq_none_iff] at hk
  intro x hx;rw [hk x hx];decide
theorem ZQ (f:α->Bool) (xs:List α) (g:Nat->Int->Int) (hg:∀ m (v:Nat),g (m+1) v=bif decide ((v:Int)<(xs.length:Int)) then (bif f (xs.getD v default) then (v:Int) else g m ((v:Int)+1)) else -1) :
  ∀ (k v m:Nat),xs.length-v=k->v<=xs.length->k<m->g m v=match (xs.drop v).findIdx? f with | some i=>((v+i:Nat):Int) | none => -1:=by
 intro k
 induction k with
 | zero =>
  intro v m hk hv hm
  obtain ⟨m,rfl⟩:∃ k,m=k+1:=⟨m-1,by omega⟩
  rw [hg,decide_eq_false (by omega),cond_false,List.drop_eq_nil_of_le (by omega)]
  rfl
 | succ k ih =>
  intro v m hk hv hm
  obtain ⟨m,rfl⟩:∃ k,m=k+1:=⟨m-1,by omega⟩
  obtain ⟨_,e2⟩:=D7 xs v (by omega)
  rw [hg,decide_eq_true (by omega),cond_true,e2,List.findIdx?_cons]
  cases hf:f (xs.getD v default) with
  | true=>simp
  | false =>
   have:=ih (v+1) m (by omega) (by omega) (by omega)
   rw [show ((v+1:Nat):Int)=(v:Int)+1 by omega] at this
   rw [cond_false,this]
   cases (xs.drop (v+1)).findIdx? f with
   | none=>simp
   | some i =>
    simp only [Option.map_some]
    rw [show v+1+i=v+(i+1) by omega]
    rfl
end
end
section
open Go.RowKit
def SeqV (P:Program) (gf:Nat) (lb:Array Value) (V:Nat->Array Value->World->Prop) (Kp:World->World->Prop) (n:Nat) (w:World):Prop :=
 ∀ (l:Nat) (J:Nat->World->Prop) (W:World),Below w.heap.size w W->(∀ j A B,J j A->A.grownBy B none->J j B) ->
  (∀ j v A,j<n->J j A->V j v A->YieldAt (FW none) 0 P l v A fun e B=>e=.returned (.bool true)/\J (j+1) B/\Kp A B)->J 0 W ->
  CallsIn (FW none) 1 P gf (#[.func (.yield l) #[] #[]]++lb) W fun e B=>(∃ u,e=.returned u)/\J n B
theorem WS {P:Program} {g:Operand} {ps:Array Tmp} {assign body:Code} {Q:Exit->Act->World->Prop} {a:Act} {w:World} {gf:Nat} {lb:Array Value} (hg:a.eval g=.func (.func gf) #[] lb) (eg:∀ args w,(callFunc gf args).run P w=.ok (.enter gf args) w)
  {V:Nat->Array Value->World->Prop} {Kp:World->World->Prop} {n:Nat} (hseq:SeqV P gf lb V Kp n w) (hKt:∀ {A B C:World},Kp A B->Kp B C->Kp A C)
  (hKb:∀ (W:World) (l:Nat) (o o':Obj),w.heap.size<=l->W.heap[l]? = some o->o.isCells=false->Kp W (W.putObj l o')) (hsz:∀ j v W,V j v W->v.size=ps.size)
  (I:Nat->World->Prop) (hI:OwnFrom w.heap.size I) (h0:I 0 w) (Ax:Nat->Act->World->Prop) (hAx:∀ j a',OwnFrom w.heap.size fun (_:Unit) W=>Ax j a' W)
  (hassign:∀ (l j:Nat) (v:Array Value) (W:World) (K:Act->World->Prop),j<n->I j W->V j v W->(∀ a' W',KeepsFrom w.heap.size W W'->Kp W W'->I j W'->Ax j a' W'->K a' W') ->
   assign.wpIn ((FW none).inRound l) 0 P (Exit.then K fun _ _ _=>False) { tmps:=(ps.zip v).foldl (fun t (p,u)=>t.setIfInBounds p u) a.tmps,defers:=[] } W)
  (hbody:∀ (l j:Nat) (a':Act) (W:World),j<n->I j W->Ax j a' W->body.wpIn ((FW none).inRound l) 0 P (fun e _ W'=>e=.normal/\KeepsFrom w.heap.size W W'/\Kp W W'/\I (j+1) W') a' W)
  (hdone:∀ (D:Nat) (W:World),w.heap.size<=D->I n W->W.heap[D]? = some (.deferred (some []))->Q .normal { a with defers:={ target:=.collected D,args := #[] }::a.defers } W):(Code.rangeFunc g ps assign body).wpIn (FW none) 2 P Q a w:=by
 refine wpIn_rangeFunc fun fn hfn => ?_
 -- the two blocks of the statement: the mark's and the record's
 generalize hD:w.heap.size=D at *
 let rc:LoopState->Obj:=fun st=>.loop { state:=st,pending:=none,fn:=fn,tmps:=a.tmps,params:=ps,assign:=assign,body:=body,defers:=D }
 have hcell:∀ st,(rc st).isCells=false:=fun _=>rfl
 let U:=w.alloc (.deferred (some []))
 let Z:=U.alloc (rc .ready)
 have sU:U.heap.size=D+1:=by show (w.alloc _).heap.size=_;rw [World.size_alloc,hD]
 have zL:Z.heap[D+1]? = some (rc .ready):=by rw [<- sU];exact World.alloc_heap_new U _
 have zD:Z.heap[D]? = some (.deferred (some [])):=(Below.heap_alloc U _ _ (by omega)).trans (by rw [<- hD];exact World.alloc_heap_new w _)
 have hIa:∀ {j:Nat} {W:World} (o:Obj),I j W->I j (W.alloc o):=fun o h=>hI.alloc o h
 let J:Nat->World->Prop:=fun j W=>I j W/\W.heap[D+1]? = some (rc .ready)/\W.heap[D]? = some (.deferred (some []))
 refine ⟨D+1,[{ target:=.collected D,args := #[] }],Z,{ target:=.fn (.func gf) lb,args := #[.func (.yield (D+1)) #[] #[]] },Z,gf,#[.func (.yield (D+1)) #[] #[]]++lb,Z,?_,?_,?_,?_,fun _=>by decide,?_⟩
 ·have:=run_enterLoop_outer (P:=P) (w:=w) fn a.tmps ps assign body
  rw [hD] at this
  exact this
 ·simp only [resolve,hg]
  simp [go_sem]
 ·intro f' _;trivial
 ·simp [invoke,go_sem,eg]
 ·refine (hseq (D+1) J Z ?_ ?_ ?_ ⟨hIa _ (hIa _ h0),zL,zD⟩).mono ?_
  ·rw [hD]
   exact (((Below.refl D w).alloc (by omega) _).alloc (by rw [show (w.alloc (.deferred (some []))).heap.size=D+1 from sU];omega) _)
  ·rintro j A B ⟨h1,h2,h3⟩ hgr
   have keep:∀ b (o:Obj),A.heap[b]? = some o->B.heap[b]? = some o:=fun b o h=>(hgr.block b (Array.getElem?_eq_some_iff.1 h).1 (fun e=>by cases e)).trans h
   exact ⟨hI j A B none h1 hgr (fun r e=>by cases e),keep _ _ h2,keep _ _ h3⟩
  ·rintro j v A hj ⟨h1,h2,h3⟩ hv
   refine ⟨fn,_,assign,body,run_yield h2 (hsz j v A hv),roundIn_of_wpIn hfn (hassign (D+1) j v A _ hj h1 hv ?_)⟩
   intro a' B kf kp i1 ax
   have l1:B.heap[D+1]? = some (rc .ready):=kf.same _ _ (by omega) h2 rfl
   have d1:B.heap[D]? = some (.deferred (some [])):=kf.same _ _ (Nat.le_refl _) h3 rfl
   have hlt:D+1<B.heap.size:=(Array.getElem?_eq_some_iff.1 l1).1
   refine ⟨_,run_beginRound l1 rfl,?_⟩
   generalize hC:B.putObj (D+1) (.loop { state:=.busy,pending:=none,fn:=fn,tmps:=a.tmps,params:=ps,assign:=assign,body:=body,defers:=D })=C
   have l2:C.heap[D+1]? = some (rc .busy):=by rw [<- hC];exact World.putObj_heap_same hlt
   have d2:C.heap[D]? = some (.deferred (some [])):=by rw [<- hC];exact (World.putObj_heap_other (by omega)).trans d1
   have kp2:Kp B C:=by rw [<- hC];exact hKb _ _ _ _ (by omega) l1 rfl
   have i2:I j C:=by rw [<- hC];exact hI.putObj _ i1 (by omega) l1 rfl
   have ax2:Ax j a' C:=by rw [<- hC];exact (hAx j a').putObj (s:=()) _ ax (by omega) l1 rfl
   refine wpIn_mono (hbody (D+1) j a' C hj i2 ax2) ?_
   rintro e a3 G ⟨rfl,kf3,kp3,i3⟩
   have l3:G.heap[D+1]? = some (rc .busy):=kf3.same _ _ (by omega) l2 rfl
   have d3:G.heap[D]? = some (.deferred (some [])):=kf3.same _ _ (Nat.le_refl _) d2 rfl
   have kp4:=hKb G (D+1) _ (rc .ready) (by omega) l3 rfl
   exact ⟨_,_,run_endRound none l3,rfl,⟨hI.putObj _ i3 (by omega) l3 rfl,World.putObj_heap_same (Array.getElem?_eq_some_iff.1 l3).1,(World.putObj_heap_other (by omega)).trans d3⟩,hKt kp (hKt (hKt kp2 kp3) kp4)⟩
  ·rintro e B ⟨⟨u,rfl⟩,h1,h2,h3⟩
   exact ⟨none,_,run_endLoop h2 (fun e=>by cases e),hdone D _ (Nat.le_refl _) (hI.putObj _ h1 (by omega) h2 rfl) ((World.putObj_heap_other (by omega)).trans h3)⟩
end
section
open Go.RowKit
def fB (M:Nat->Option Obj) (Ow:World->Nat->Prop) (E:List Av) (v:Array Value) (W:World):Prop:=∃ Mj:Nat->Option Obj,E.length=v.size/\(∀ b o,Mj b=some o->W.heap[b]? = some o/\o.isCells=true/\¬ Ow W b) /\
 ∀ MM:Nat->Option Obj,(∀ b o,M b=some o->MM b=some o)->(∀ b o,Mj b=some o->MM b=some o)->L2 (fun e u=>∀ σ,RA MM σ e u) E v.toList
def JA (P:Program) (gf:FuncId) (k:Nat) (caps:Nat->Cl) (n:Nat) (E:Fin n->List Av):Prop :=
 ∀ (M:Nat->Option Obj) (w:World) (cs:Array Value) (Ow:World->Nat->Prop),(∀ b o,M b=some o->w.heap[b]? = some o)->OwS Ow w.heap.size->(∀ b,Ow w b->b<w.heap.size/\M b=none)->cs.size=k->(∀ i,i<k->RC M (caps i) (cs.getD i undef)) ->
  SeqV P gf cs (fun j v W=>∃ hj:j<n,fB M Ow (E ⟨j,hj⟩) v W) (KpS Ow) n w
section
variable {P:Program} {N:Nat} {W0:World} {X:Nat→Option Loc} {M0:Nat→Option Obj}
theorem XZ {ι:Type} {Q:Exit->AS->Prop} {g:Operand} {ps:Array Tmp} {assign body:Code} {t0:List (Nat×Tv)} (pids:List Nat) (fid q off r:Nat) {gf:FuncId} {k:Nat} {caps:Nat->Cl} {n:Nat} {E:Fin n->List Av} (H:ι->List (Nat×Blk)) (t1:Fin n->List (Nat×Tv)) (Inv Fm:Nat->ι->Prop) (x0:ι)
  (hX0:∀ m,X m=none) (hg:evT (get t0) g=some (.av (.one (.clo gf k caps)))) (hcd:(Cl.clo gf k caps).dv=true) (eg:∀ args w,(callFunc gf args).run P w=.ok (.enter gf args) w)
  (It:JA P gf k caps n E) (hE:∀ x,(E x).length=ps.size) (hps:∀ p∈ps.toList,p<N)
  (hpv:∀ i v,get t0 i=some v->pvT pids v=true) (hh:∀ x m b,get (H x) m=some b->((Au pids m=true/\b.isP=true)\/(m=r/\b.isR=true))/\b.no fid=true)
  (hpc:∀ x m,Au pids m=true->∃ b,get (H x) m=some b) (hfp:Au pids fid=false) (hrp:Au pids r=false) (hrf:r≠fid) (hfN:N<=fid) (hrN:N<=r) (hpN:∀ m∈pids,N<=m) (hmem:∀ m∈pids,Au pids m=true) (hq:Au pids q=true)
  (hEd:∀ x i v,get (Jm t0 ps.toList (E x)) i=some v->v.no fid=true)
  (hheld:∀ x,Od q off r (H x)=true) (hm:∀ x m b,get (H x) m=some b->BkN b)
  (ht1:∀ x,TsM (t1 x)) (ht1p:∀ x i v,get (t1 x) i=some v->pvT pids v=true)
  (hI0:Inv 0 x0) (hF0:Fm 0 x0)
  (hassign:∀ l W1 M1 X1 k j x,Inv j x->PXr pids r (∃ bb,get (H x) r=some bb) X1->AWp P (some l) N W1 X1 M1 assign (fun e s'=>e=.normal/\s'=⟨t1 k,H x⟩) ⟨Jm t0 ps.toList (E k),H x⟩)
  (hbody:∀ l W1 M1 X1 (k:Fin n) j x,(∀ m z,X1 m=some z->Au (fid::pids) m=true)->j<n->Inv j x->AWp P (some l) N W1 X1 M1 body (fun e s'=>e=.normal/\∃ y,Inv (j+1) y/\(k.val=j->Fm j x->Fm (j+1) y)/\∀ m b,get (H y) m=some b->get s'.h m=some b) ⟨t1 k,H x⟩)
  (hdone:∀ x,Inv n x->Fm n x->Q .normal ⟨t0,H x⟩):AWp P none N W0 X M0 (.rangeFunc g ps assign body) Q ⟨t0,H x0⟩:=by
 intro M σ a w hs
 have hnof:∀ v:Tv,pvT pids v=true->v.no fid=true:=fun v h=>by
  cases hn:v.no fid with
  | true=>rfl
  | false=>have:=hmem fid (KO h hn);rw [hfp] at this;cases this
 have hpne:∀ m,Au pids m=true->m≠fid/\m≠r:=fun m h=>⟨fun e=>(by rw [e,hfp] at h;cases h),fun e=>(by rw [e,hrp] at h;cases h)⟩
 have hPb:∀ x m,Au pids m=true->∃ b,get (H x) m=some b/\b.isP=true:=fun x m h=>by
  obtain ⟨b,hb⟩:=hpc x m h
  rcases (hh x m b hb).1 with h1 | h1
  ·exact ⟨b,hb,h1.2⟩
  ·exact absurd h1.1 (hpne m h).2
 have hPn:∀ {X':Nat->Option Loc} {W1:World} {Mb M1:Nat->Option Obj} {σ1:Nat->Loc} {T:Nat->Option Tv} {b:Act} {A:World} {x:ι},Sim N W1 X' Mb M1 σ1 T (get (H x)) b A->∀ m,Au pids m=true->(σ1 m).nil=false/\(σ1 m).b<A.heap.size/\M1 (σ1 m).b=none:=fun {X' W1 Mb M1 σ1 T b A x} h1 m hmm=>by
  obtain ⟨bk,hbk,hp⟩:=hPb x m hmm
  have h2:=h1.blk m bk hbk
  have hn:(σ1 m).nil=false:=by
   cases bk with
   | cells l ty=>exact h2.1
   | omap=>exact h2.1
   | row=>cases hp
   | rowx=>cases hp
  refine ⟨hn,h2.lt hn,?_⟩
  rcases h1.loc m bk hbk with h | h
  ·rw [hn] at h;cases h
  ·exact h.1
 have hplt:∀ m,Au pids m=true->(σ m).b<w.heap.size:=fun m hmm=>(hPn hs m hmm).2.1
 -- the iterator's value
 obtain ⟨cs,hgv1,hgv2,hgv3⟩:=Fq hs.tmps hg
 have hcaps:∀ i,i<k->RC M (caps i) (cs.getD i undef):=fun i hi=>(IR (List.all_eq_true.1 hcd i (List.mem_range.2 hi))).1 (hgv3 i hi)
 obtain ⟨Ow,hOw⟩:∃ Ow:World->Nat->Prop,Ow=fun W b=>((∃ m,Au pids m=true/\(σ m).b=b)\/IP (σ q).b off W b)\/(b<w.heap.size/\M b=none):=⟨_,rfl⟩
 have hOi:∀ {W b},Ow W b->((∃ m,Au pids m=true/\(σ m).b=b)\/IP (σ q).b off W b)\/(b<w.heap.size/\M b=none):=fun h=>by rw [hOw] at h;exact h
 have hOr:∀ {W b},((∃ m,Au pids m=true/\(σ m).b=b)\/IP (σ q).b off W b)\/(b<w.heap.size/\M b=none)->Ow W b:=fun h=>by rw [hOw];exact h
 have hOo:∀ {W b},(∃ m,Au pids m=true/\(σ m).b=b)\/IP (σ q).b off W b->Ow W b:=fun h=>by rw [hOw];exact .inl h
 have hHeldSame:∀ {A B:World},B.heap[(σ q).b]? = A.heap[(σ q).b]? -> ∀ b,IP (σ q).b off B b->IP (σ q).b off A b:=fun h b ⟨o,len,cap,h1,h2⟩=>⟨o,len,cap,by rw [<- h];exact h1,h2⟩
 have hOg:∀ {A B:World},w.heap.size<=A.heap.size->B.heap[(σ q).b]? = A.heap[(σ q).b]? -> ∀ b,Ow B b->Ow A b:=fun _ hB b hb=>hOr ((hOi hb).imp (Or.imp id (hHeldSame hB b)) id)
 have hseq:=It M w cs Ow hs.imm ⟨fun A B hA hB b hb=>hOg hA (hB _ (Nat.lt_of_lt_of_le (hplt q hq) hA)) b hb⟩ (fun b hb=>by
  rcases hOi hb with (⟨m,hmm,rfl⟩ | hb) | hb
  ·exact ⟨hplt m hmm,(hPn hs m hmm).2.2⟩
  ·obtain ⟨⟨bk,hbk⟩,hn,rfl⟩:=RZ hs (hheld x0) hb
   refine ⟨(hs.blk r bk hbk).lt hn,?_⟩
   rcases hs.loc r bk hbk with h | h
   ·rw [hn] at h;cases h
   ·exact h.1
  ·exact hb) hgv2 hcaps
 -- names
 have hXPm:∀ m x,Cf pids σ X m=some x->Au pids m=true/\x=σ m:=fun m x hx=>by
  unfold Cf at hx
  cases hmm:Au pids m with
  | true=>rw [hmm] at hx;injection hx with hx;exact ⟨rfl,hx.symm⟩
  | false=>rw [hmm] at hx;have:X m=some x:=hx;rw [hX0] at this;cases this
 have hPp:∀ m,Au pids m=true->Cf pids σ X m=some (σ m):=fun m h=>by unfold Cf;rw [h];rfl
 obtain ⟨XP,hXPd⟩:∃ XP,XP=Cf pids σ X:=⟨_,rfl⟩
 have hXPi:∀ b,inX XP b↔∃ m,Au pids m=true/\(σ m).b=b:=fun b=>by
  rw [hXPd]
  constructor
  ·rintro ⟨m,x,h1,h2⟩
   obtain ⟨h3,rfl⟩:=hXPm m x h1
   exact ⟨m,h3,h2⟩
  ·rintro ⟨m,h1,h2⟩
   exact ⟨m,_,hPp m h1,h2⟩
 have hnfP:∀ l M4,(∀ b o,M b=some o->M4 b=some o)->l=a.defers->Gz XP M0 M4 l:=fun l M4 h4 e=>⟨by rw [e];exact Fv.mono h4 hs.defers.1,fun ⟨m,x,h1,h2,_⟩=>by
  rw [hXPd] at h1
  obtain ⟨h3,rfl⟩:=hXPm m x h1
  rw [(hPn hs m h3).1] at h2;cases h2⟩
 have hT0:∀ (M4:Nat->Option Obj) (σ4:Nat->Loc),(∀ b o,M b=some o->M4 b=some o)->(∀ m,Au pids m=true->σ4 m=σ m)->∀ i v,get t0 i=some v->RT M4 σ4 v (a.tmps.getD i undef):=fun M4 σ4 h4 hσ i v hv =>
  Da h4 (fun d hd=>hσ d (hmem d (KO (hpv i v hv) hd))) (hs.tmps i v hv)
 have hs0:Sim N W0 XP M0 M σ (get t0) (get (H x0)) a w:=⟨hs.os,hs.tape,hs.output,hs.size,fun b hb hx=>hs.old b hb fun ⟨m,x,h1,h2⟩=>(by rw [hX0] at h1;cases h1),hs.sub,hs.new,fun m x hx=>by
   rw [hXPd] at hx
   obtain ⟨h3,rfl⟩:=hXPm m x hx
   exact ⟨hpN m (DK h3),rfl⟩,hnfP _ M (fun _ _ h=>h) rfl,hs.room,hs.tmps,hs.imm,hs.blk,fun m b hb=>(hs.loc m b hb).imp id fun h=>⟨h.1,.inl (h.2.elim id fun ⟨m,x,h1,_⟩=>by rw [hX0] at h1;cases h1)⟩,hs.inj⟩
 have hlt:∀ b o,M b=some o->b<w.heap.size:=fun b o h=>(Array.getElem?_eq_some_iff.1 (hs.imm b o h)).1
 have hσP:∀ {X':Nat->Option Loc} {M1:Nat->Option Obj} {σ1:Nat->Loc} {T:Nat->Option Tv} {HH:Nat->Option Blk} {b:Act} {A W1:World} {Mb:Nat->Option Obj},Sim N W1 X' Mb M1 σ1 T HH b A->(∀ m,Au pids m=true->X' m=some (σ m))->∀ m,Au pids m=true->σ1 m=σ m:=fun h1 h2 m hmm=>(h1.pin m _ (h2 m hmm)).2
 have hXPp:∀ m,Au pids m=true->XP m=some (σ m):=fun m h=>by rw [hXPd];exact hPp m h
 let SI:Nat->World->Prop:=fun j W=>∃ x M' σ',Sim N W0 XP M0 M' σ' (get t0) (get (H x)) a W/\Cln M M'/\Inv j x/\Fm j x/\w.heap.size<=W.heap.size
 let Ax:Nat->Act->World->Prop:=fun j a' W=>∃ (hj:j<n) (Mn:Nat->Option Obj),w.heap.size<=W.heap.size/\a'.tmps.size=N/\a'.defers=[]/\(∀ i v,get (t1 ⟨j,hj⟩) i=some v->RT Mn σ v (a'.tmps.getD i undef))/\∀ b o,Mn b=some o->W.heap[b]? = some o/\(o.isCells=true\/M b=some o)/\(M b=none->W0.heap.size<=b)/\¬ ((∃ m,Au pids m=true/\(σ m).b=b)\/IP (σ q).b off W b)
 -- one piece of a round
 have step:∀ {XA:Nat->Option Loc} {M' M3:Nat->Option Obj} {σ' σ3:Nat->Loc} {W W':World} {x y:ι} {T':Nat->Option Tv} {h':List (Nat×Blk)} {a':Act},Sim N W0 XP M0 M' σ' (get t0) (get (H x)) a W->Cln M M'->Sim N W XA M' M3 σ3 T' (get h') a' W'->(∀ m b,get (H y) m=some b->get h' m=some b) ->
   (∀ b,inX XA b->(∃ m,Au pids m=true/\(σ m).b=b)\/((∃ bb,get (H x) r=some bb)/\(σ' r).nil=false/\(σ' r).b=b))->(∀ m,Au pids m=true->σ3 m=σ m) ->
   KeepsFrom w.heap.size W W'/\KpS Ow W W'/\Sim N W0 XP M0 (H6 M' M3) σ3 (get t0) (get (H y)) a W'/\Cln M (H6 M' M3):=by
  intro XA M' M3 σ' σ3 W W' x y T' h' a' h1 h2 hr hy hX hσ3
  have hσ':=hσP h1 hXPp
  have hC:=Oq h2 hr.sub
  have hXO:∀ b,inX XA b->Ow W b:=fun b hb=>by
   rcases hX b hb with h | ⟨⟨bb,hbb⟩,hn,rfl⟩
   ·exact hOo (.inl h)
   ·have:=S8 h1 (hheld x) hbb hn
    rw [hσ' q hq] at this
    exact hOo (.inr this)
  have hsim:Sim N W0 XP M0 (H6 M' M3) σ3 (get t0) (get (H y)) a W':=by
   refine YP h1 hr (fun b hb => ?_) hy (hm y) hs.room (hT0 _ σ3 hC.1 hσ3) (fun m z hz => ?_) (fun b=>Iff.rfl) (hnfP _ _ hC.1 rfl)
   ·rcases hX b hb with h | ⟨⟨bb,hbb⟩,hn,rfl⟩
    ·exact .inl ((hXPi b).2 h)
    ·rcases h1.loc r bb hbb with h3 | h3
     ·rw [hn] at h3;cases h3
     ·exact h3.2.symm
   ·rw [hXPd] at hz
    obtain ⟨h3,rfl⟩:=hXPm m z hz
    exact ⟨hpN m (DK h3),hσ3 m h3⟩
  refine ⟨⟨hr.size,fun b o hb ho hoc => ?_⟩,⟨hr.size,fun b o hb hc ho=>(hr.old b (Array.getElem?_eq_some_iff.1 hb).1 fun h=>ho (hXO b h)).trans hb,fun b hb => ?_⟩,hsim,hC⟩
  ·refine (hr.old b (Array.getElem?_eq_some_iff.1 ho).1 fun hX' => ?_).trans ho
   rcases hX b hX' with ⟨m,hmm,rfl⟩ | ⟨⟨bb,hbb⟩,hn,rfl⟩
   ·have:=hplt m hmm;omega
   ·have h3:=h1.blk r bb hbb
    have h4:=(hh x r bb hbb).1
    cases bb with
    | row sz len f ty =>
     rcases h3 with ⟨h5,_⟩ | ⟨_,c,hc,_⟩
     ·rw [hn] at h5;cases h5
     ·rw [ho] at hc;injection hc with hc;subst hc;cases hoc
    | cells=>rcases h4 with h4 | h4 <;> first | (rw [hrp] at h4;cases h4.1) | cases h4.2
    | omap=>rcases h4 with h4 | h4 <;> first | (rw [hrp] at h4;cases h4.1) | cases h4.2
    | rowx=>rcases h4 with h4 | h4 <;> first | cases h4.2 | (rw [hrp] at h4;cases h4.1)
  ·rcases hOi hb with (h | h) | h
   ·exact .inl (hOo (.inl h))
   rotate_left
   ·exact .inl (hOr (.inr h))
   ·rw [<- hσ3 q hq] at h
    obtain ⟨⟨bk,hbk⟩,hn,rfl⟩:=RZ hsim (hheld y) h
    rcases hr.loc r bk (hy r bk hbk) with h3 | ⟨_,h3 | h3⟩
    ·rw [hn] at h3;cases h3
    ·exact .inr ⟨h3,(hr.blk r bk (hy r bk hbk)).lt hn⟩
    ·exact .inl (hXO _ h3)
 -- what else is known to lie in the world
 have merge:∀ {M' Mn:Nat->Option Obj} {σ':Nat->Loc} {W:World} {x:ι},Sim N W0 XP M0 M' σ' (get t0) (get (H x)) a W->Cln M M'->(∀ b o,Mn b=some o->W.heap[b]? = some o/\(o.isCells=true\/M b=some o)/\(M b=none->W0.heap.size<=b)/\¬ ((∃ m,Au pids m=true/\(σ m).b=b)\/IP (σ q).b off W b)) ->
   ∃ MM:Nat->Option Obj,(∀ b o,M' b=some o->MM b=some o)/\(∀ b o,Mn b=some o->MM b=some o)/\Cln M MM/\Sim N W0 XP M0 MM σ' (get t0) (get (H x)) a W:=by
  intro M' Mn σ' W x h1 h2 hA4
  have hσ':=hσP h1 hXPp
  obtain ⟨MM,hMM⟩:∃ MM:Nat->Option Obj,MM=fun b=>match M' b with | some o=>some o | none=>Mn b:=⟨_,rfl⟩
  have hM1:∀ b o,M' b=some o->MM b=some o:=fun b o h=>by rw [hMM];simp only [h]
  have hM3:∀ b o,MM b=some o->M' b=some o\/Mn b=some o:=fun b o h=>by
   rw [hMM] at h
   cases h3:M' b with
   | some o'=>simp only [h3] at h;exact .inl h
   | none=>simp only [h3] at h;exact .inr h
  have hM2:∀ b o,Mn b=some o->MM b=some o:=fun b o h=>by
   cases h3:M' b with
   | some o' =>
    have h4:=h1.imm b o' h3
    rw [(hA4 b o h).1] at h4
    rw [h4];exact hM1 b o' h3
   | none=>rw [hMM];simp only [h3];exact h
  have hCM:Cln M MM:=⟨fun b o h=>hM1 b o (h2.1 b o h),fun b o h ho=>(hM3 b o h).elim (fun h'=>h2.2 b o h' ho) fun h'=>(hA4 b o h').2.1.elim (fun hc=>by rw [ho] at hc;cases hc) id⟩
  have h1M:Sim N W0 XP M0 MM σ' (get t0) (get (H x)) a W:=by
   refine ⟨h1.os,h1.tape,h1.output,h1.size,h1.old,fun b o h=>hM1 b o (h1.sub b o h),fun b o h h0 => ?_,h1.pin,hnfP _ MM hCM.1 rfl,h1.room,fun i v hv=>Da hM1 (fun _ _=>rfl) (h1.tmps i v hv),fun b o h=>(hM3 b o h).elim (h1.imm b o) fun h'=>(hA4 b o h').1,fun m b hb=>(h1.blk m b hb).mono hM1 (fun _ _=>rfl) (fun _=>rfl),fun m b hb => ?_,h1.inj⟩
   ·rcases hM3 b o h with h | h
    ·exact h1.new b o h h0
    ·cases hMb:M b with
     | none=>exact (hA4 b o h).2.2.1 hMb
     | some o'=>exact hs.new b o' hMb h0
   ·cases hn:(σ' m).nil with
    | true=>exact .inl rfl
    | false =>
     rcases h1.loc m b hb with h | h
     ·rw [hn] at h;cases h
     ·refine .inr ⟨?_,h.2⟩
      cases hc:MM (σ' m).b with
      | none=>rfl
      | some o =>
       rcases hM3 _ o hc with h3 | h3
       ·rw [h.1] at h3;cases h3
       ·refine absurd ?_ (hA4 _ o h3).2.2.2
        rcases (hh x m b hb).1 with h4 | ⟨rfl,h4⟩
        ·exact .inl ⟨m,h4.1,by rw [hσ' m h4.1]⟩
        ·have:=S8 h1 (hheld x) hb hn
         rw [hσ' q hq] at this
         exact .inr this
  exact ⟨MM,hM1,hM2,hCM,h1M⟩
 have hgr:∀ {A B:World} {row:Option Nat},A.grownBy B row->(∀ r,row=some r->w.heap.size<=r/\∃ o:Obj,A.heap[r]? = some o/\o.isCells=false)->w.heap.size<=A.heap.size->∀ b,((∃ m,Au pids m=true/\(σ m).b=b)\/IP (σ q).b off B b)->((∃ m,Au pids m=true/\(σ m).b=b)\/IP (σ q).b off A b):=fun {A B row} hg' hr hA b hb=>hb.imp id (hHeldSame (hg'.block _ (Nat.lt_of_lt_of_le (hplt q hq) hA) fun e=>by
  have:=(hr _ e.symm).1
  have:=hplt q hq
  omega) b)
 refine wpIn_wide.2 ((wpIn_wide (n:=2)).1 ?_)
 refine WS hgv1 eg hseq KpS.trans (fun W l o o' hl ho hoc=>⟨by simp,fun b o2 hb hb2 _ => ?_,fun b hb => ?_⟩) (fun j v W hv => ?hsz)
  SI ?hI ⟨x0,M,σ,hs0,⟨fun _ _ h=>h,fun _ _ h _=>h⟩,hI0,hF0,Nat.le_refl _⟩ Ax ?hAx ?assign ?body ?done
 ·rw [World.putObj_heap_other (fun e=>by subst e;rw [ho] at hb;injection hb with hb;subst hb;rw [hoc] at hb2;cases hb2)]
  exact hb
 ·refine .inl (hOr ((hOi hb).imp (Or.imp id (hHeldSame (World.putObj_heap_other (fun e => ?_)) b)) id))
  have:=hplt q hq
  omega
 case hsz =>
  obtain ⟨hj,Mj,hL,_⟩:=hv
  rw [hE] at hL
  exact hL.symm
 case hI =>
  rintro j A B row ⟨x,M',σ',h1,h2,h3,h4,h5⟩ hg' hr
  refine ⟨x,M',σ',T8 h1 (fun m b hb hbm rr e => ?_) hg' (fun rr e => ?_),h2,h3,h4,Nat.le_trans h5 hg'.size⟩
  ·have h6:=(hr rr e).1
   have hmm:Au pids m=true:=by
    rcases (hh x m b hb).1 with h | h
    ·exact h.1
    ·cases b <;> first | (exfalso;cases hbm;done) | (exfalso;exact absurd h.2 (by simp [Blk.isR])) | exact absurd hbm (by simp [Blk.isM])
   rw [hσP h1 hXPp m hmm]
   have:=hplt m hmm
   omega
  ·obtain ⟨h6,o,h7,h8⟩:=hr rr e
   refine ⟨Nat.le_trans hs.size h6,⟨o,h7,h8⟩,?_⟩
   cases hM1:M' rr with
   | none=>rfl
   | some o' =>
    have h9:=h1.imm rr o' hM1
    rw [h7] at h9;injection h9 with h9;subst h9
    have:=hlt rr _ (h2.2 rr _ hM1 h8)
    omega
 case hAx =>
  rintro j a' _ A B row ⟨hj,Mn,h1,h2,h3,h4,h5⟩ hg' hr
  refine ⟨hj,Mn,Nat.le_trans h1 hg'.size,h2,h3,h4,fun b o hb => ?_⟩
  obtain ⟨h6,h7,h8,h9⟩:=h5 b o hb
  refine ⟨(hg'.block b (Array.getElem?_eq_some_iff.1 h6).1 fun e => ?_).trans h6,h7,h8,fun h=>h9 (hgr hg' hr h1 b h)⟩
  obtain ⟨h10,o',h11,h12⟩:=hr b e.symm
  rw [h6] at h11;injection h11 with h11;subst h11
  rcases h7 with h7 | h7
  ·rw [h12] at h7;cases h7
  ·have:=hlt b _ h7;omega
 case assign =>
  rintro l j vals W K hjn ⟨x,M'',σ',h1',h2',hinv,hfm,hws⟩ ⟨hj,Mj,_,hMj,hL⟩ hK
  obtain ⟨M',_,hMjM,h2,h1⟩:=merge h1' h2' (fun b o hb=>⟨(hMj b o hb).1,.inl (hMj b o hb).2.1,fun hMb=>by
   have h3:=(hMj b o hb).2.2
   have:¬ b<w.heap.size:=fun h=>h3 (hOr (.inr ⟨h,hMb⟩))
   have:=hs.size
   omega,fun h=>(hMj b o hb).2.2 (hOo h)⟩)
  obtain ⟨kx,hkx⟩:∃ kx:Fin n,kx=⟨j,hj⟩:=⟨_,rfl⟩
  rw [<- hkx] at hL
  have hσ':=hσP h1 hXPp
  obtain ⟨hfs,hft⟩:=Rd ps.toList (E kx) vals.toList t0 a.tmps (hT0 M' σ' h2.1 hσ') hs.room ((hL M' h2.1 hMjM).mono fun e _ v hv=>hv σ') (by simpa using (hE kx).symm) hps
  have efold:(ps.zip vals).foldl (fun t (p,v)=>t.setIfInBounds p v) a.tmps=(ps.toList.zip vals.toList).foldl (fun t (y:Tmp×Value)=>t.setIfInBounds y.1 y.2) a.tmps:=by
   rw [<- Array.foldl_toList,Array.toList_zip]
  rw [efold]
  obtain ⟨pr,hpr1,hpr2,hpr3⟩:∃ pr:List Nat,(∀ m,Au pr m=true->Au pids m=true\/(m=r/\(∃ bb,get (H x) r=some bb)/\(σ' r).nil=false))/\(∀ m,Au pids m=true->Au pr m=true)/\((∃ bb,get (H x) r=some bb)/\(σ' r).nil=false->Au pr r=true):=by
   by_cases hrow:(∃ bb,get (H x) r=some bb)/\(σ' r).nil=false
   ·refine ⟨r::pids,fun m h => ?_,fun m h => ?_,fun _ => ?_⟩
    ·rcases List.mem_cons.1 (DK h) with e | e
     ·exact .inr ⟨e,hrow⟩
     ·exact .inl (hmem m e)
    ·exact FZ (List.mem_cons_of_mem _ (DK h))
    ·exact FZ (List.mem_cons_self ..)
   ·exact ⟨pids,fun m h=>.inl h,fun m h=>h,fun h=>absurd h hrow⟩
  obtain ⟨XA,hXA⟩:∃ XA,XA=DB fid ⟨(σ q).b,424242,true⟩ (Cf pr σ' X):=⟨_,rfl⟩
  have hprf:∀ m,Au pr m=true->m≠fid:=fun m h=>(hpr1 m h).elim (fun h=>(hpne m h).1) fun h=>by rw [h.1];exact hrf
  have hXAf:∀ m z,XA m=some z->(m=fid/\z=⟨(σ q).b,424242,true⟩)\/(m≠fid/\Au pr m=true/\z=σ' m):=fun m z hz=>by
   rw [hXA] at hz
   unfold DB at hz
   cases hb:Nat.beq m fid with
   | true=>rw [hb] at hz;injection hz with hz;exact .inl ⟨Nat.eq_of_beq_eq_true hb,hz.symm⟩
   | false =>
    rw [hb] at hz
    have hz:Cf pr σ' X m=some z:=hz
    unfold Cf at hz
    cases hp:Au pr m with
    | true=>rw [hp] at hz;injection hz with hz;exact .inr ⟨hprf m hp,rfl,hz.symm⟩
    | false=>rw [hp] at hz;have hz:X m=some z:=hz;rw [hX0] at hz;cases hz
  have hXAp:∀ m,Au pr m=true->XA m=some (σ' m):=fun m h=>by
   rw [hXA]
   unfold DB
   rw [show Nat.beq m fid=false by rw [CN];simp [hprf m h]]
   show Cf pr σ' X m=_
   unfold Cf
   rw [h];rfl
  have hflat:Xd XA:=⟨fid,⟨(σ q).b,424242,true⟩,by rw [hXA];unfold DB;rw [Nat.beq_refl];rfl,rfl,rfl⟩
  have hin:=Pf (fid:=fid) (XB:=XA) (σ2:=upd σ' fid ⟨(σ q).b,424242,true⟩) h1 (a2:={ tmps:=_,defers:=[] }) rfl hfs (fun m z hz=>by
   rcases hXAf m z hz with ⟨rfl,rfl⟩ | ⟨h3,h4,rfl⟩
   ·exact ⟨hfN,BG _ _ _⟩
   ·refine ⟨(hpr1 m h4).elim (fun h=>hpN m (DK h)) fun h=>by rw [h.1];exact hrN,CQ _ _ h3⟩) (fun m h=>CQ _ _ h) (fun i v hv=>⟨hft i v hv,hEd kx i v hv⟩) (fun m b hb=>by
   obtain ⟨h3,h4⟩:=hh x m b hb
   rcases h3 with h3 | ⟨rfl,h3⟩
   ·exact ⟨(hpne m h3.1).1,h4,.inr ⟨m,_,hXAp m (hpr2 m h3.1),rfl⟩⟩
   ·refine ⟨hrf,h4,?_⟩
    cases hn:(σ' m).nil with
    | true=>exact .inl rfl
    | false=>exact .inr ⟨m,_,hXAp m (hpr3 ⟨⟨b,hb⟩,hn⟩),rfl⟩)
  refine wpIn_mono (hassign l W M' XA kx j x hinv (fun m z hz=>by
   rcases hXAf m z hz with ⟨rfl,rfl⟩ | ⟨h3,h4,rfl⟩
   ·exact .inl ⟨q,hq,_,hXAp q (hpr2 q hq),by rw [hσ' q hq]⟩
   ·rcases hpr1 m h4 with h5 | ⟨rfl,h6,h5⟩
    ·exact .inl ⟨m,h5,_,hXAp m h4,rfl⟩
    ·exact .inr ⟨rfl,h6,h5⟩) M' _ _ W hin) ?_
  rintro e a' W' ⟨s',M3,σ3,⟨rfl,rfl⟩,hr⟩
  have hσ3:∀ m,Au pids m=true->σ3 m=σ m:=fun m hmm=>(hr.pin m _ (hXAp m (hpr2 m hmm))).2.trans (hσ' m hmm)
  obtain ⟨k1,k2,k3,k4⟩:=step h1 h2 hr (y:=x) (fun _ _ h=>h) (fun b hb=>by
   obtain ⟨m,z,hz,hzb⟩:=hb
   rcases hXAf m z hz with ⟨rfl,rfl⟩ | ⟨h3,h4,rfl⟩
   ·exact .inl ⟨q,hq,hzb⟩
   ·rcases hpr1 m h4 with h5 | ⟨rfl,h5,h6⟩
    ·exact .inl ⟨m,h5,by rw [<- hσ' m h5];exact hzb⟩
    ·exact .inr ⟨h5,h6,hzb⟩) hσ3
  refine hK a' W' k1 k2 ⟨x,_,σ3,k3,k4,hinv,hfm,Nat.le_trans hws hr.size⟩ ⟨hj,H6 M' M3,Nat.le_trans hws hr.size,hr.room,hr.defers.2 hflat,fun i v hv => ?_,fun b o hb=>⟨hr.imm b o (HU hr.sub hb),?_,fun hMb => ?_,fun ho => ?_⟩⟩
  ·rw [<- hkx] at hv
   exact Da (fun _ _ h=>h) (fun d hd=>(hσ3 d (hmem d (KO (ht1p kx i v hv) hd))).symm) (O6 (KY hr.sub) (hr.tmps i v hv) (ht1 kx i v hv))
  ·cases hc:o.isCells with
   | true=>exact .inl rfl
   | false=>exact .inr (k4.2 b o hb hc)
  ·cases h3:M' b with
   | some o' =>
    refine h1.new b o' h3 ?_
    cases h0:M0 b with
    | none=>rfl
    | some o2=>rw [hs.sub b o2 h0] at hMb;cases hMb
   | none=>exact Nat.le_trans h1.size (hr.new b o (HU hr.sub hb) h3)
  ·have h3:=HU hr.sub hb
   rcases ho with ⟨m,hmm,rfl⟩ | ho
   ·have:=(hPn hr m hmm).2.2
    rw [hσ3 m hmm,h3] at this;cases this
   ·rw [<- hσ3 q hq] at ho
    obtain ⟨⟨bk,hbk⟩,hn,rfl⟩:=RZ hr (hheld x) ho
    rcases hr.loc r bk hbk with h | h
    ·rw [hn] at h;cases h
    ·rw [h.1] at h3;cases h3
 case body =>
  rintro l j a' W hjn ⟨x,M',σ',h1,h2,hinv,hfm,hws⟩ ⟨hj,Mn,_,hA1,hA2,hA3,hA4⟩
  obtain ⟨kx,hkx⟩:∃ kx:Fin n,kx=⟨j,hj⟩:=⟨_,rfl⟩
  rw [<- hkx] at hA3
  have hσ':=hσP h1 hXPp
  obtain ⟨MM,hM1,hM2,hCM,h1M⟩:=merge h1 h2 hA4
  obtain ⟨fl,hfl1,hfl2,hfl3,hfl4⟩:∃ fl:Loc,fl.nil=true/\fl.cap=424242/\(fl.b=(σ q).b\/(((∃ bb,get (H x) r=some bb)/\(σ' r).nil=false)/\fl.b=(σ' r).b))/\((∃ bb,get (H x) r=some bb)/\(σ' r).nil=false->fl.b=(σ' r).b):=by
   by_cases hrow:(∃ bb,get (H x) r=some bb)/\(σ' r).nil=false
   ·exact ⟨⟨(σ' r).b,424242,true⟩,rfl,rfl,.inr ⟨hrow,rfl⟩,fun _=>rfl⟩
   ·exact ⟨⟨(σ q).b,424242,true⟩,rfl,rfl,.inl rfl,fun h=>absurd h hrow⟩
  obtain ⟨XB,hXB⟩:∃ XB,XB=DB fid fl XP:=⟨_,rfl⟩
  have hXBf:∀ m z,XB m=some z->(m=fid/\z=fl)\/(m≠fid/\Au pids m=true/\z=σ m):=fun m z hz=>by
   rw [hXB] at hz
   unfold DB at hz
   cases hb:Nat.beq m fid with
   | true=>rw [hb] at hz;injection hz with hz;exact .inl ⟨Nat.eq_of_beq_eq_true hb,hz.symm⟩
   | false =>
    rw [hb] at hz
    have hz:XP m=some z:=hz
    rw [hXPd] at hz
    obtain ⟨h3,h4⟩:=hXPm m z hz
    exact .inr ⟨(hpne m h3).1,h3,h4⟩
  have hXBp:∀ m,Au pids m=true->XB m=some (σ m):=fun m h=>by
   rw [hXB]
   unfold DB
   rw [show Nat.beq m fid=false by rw [CN];simp [(hpne m h).1]]
   exact hXPp m h
  have hXBfid:XB fid=some fl:=by rw [hXB];unfold DB;rw [Nat.beq_refl];rfl
  have hin:=Pf (fid:=fid) (XB:=XB) (σ2:=upd σ' fid fl) h1M (a2:=a') hA2 hA1 (fun m z hz=>by
   rcases hXBf m z hz with ⟨rfl,rfl⟩ | ⟨h3,h4,rfl⟩
   ·exact ⟨hfN,BG _ _ _⟩
   ·exact ⟨hpN m (DK h4),(CQ _ _ h3).trans (hσ' m h4)⟩) (fun m h=>CQ _ _ h) (fun i v hv=>⟨Da hM2 (fun d hd=>hσ' d (hmem d (KO (ht1p kx i v hv) hd))) (hA3 i v hv),hnof v (ht1p kx i v hv)⟩) (fun m b hb=>by
   obtain ⟨h3,h4⟩:=hh x m b hb
   rcases h3 with h3 | ⟨rfl,h3⟩
   ·exact ⟨(hpne m h3.1).1,h4,.inr ⟨m,_,hXBp m h3.1,by rw [hσ' m h3.1]⟩⟩
   ·refine ⟨hrf,h4,?_⟩
    cases hn:(σ' m).nil with
    | true=>exact .inl rfl
    | false=>exact .inr ⟨fid,fl,hXBfid,hfl4 ⟨⟨b,hb⟩,hn⟩⟩)
  refine wpIn_mono (hbody l W MM XB kx j x (fun m z hz=>FZ ((hXBf m z hz).elim (fun h=>by rw [h.1];exact List.mem_cons_self ..) fun h=>List.mem_cons_of_mem _ (DK h.2.1))) hjn hinv MM _ a' W hin) ?_
  rintro e a2 W' ⟨s',M3,σ3,⟨rfl,y,hy1,hy2,hy3⟩,hr⟩
  have hσ3:∀ m,Au pids m=true->σ3 m=σ m:=fun m hmm=>(hr.pin m _ (hXBp m hmm)).2
  obtain ⟨k1,k2,k3,k4⟩:=step h1M hCM hr hy3 (fun b hb=>by
   obtain ⟨m,z,hz,hzb⟩:=hb
   rcases hXBf m z hz with ⟨rfl,rfl⟩ | ⟨h3,h4,rfl⟩
   ·rcases hfl3 with h5 | ⟨h5,h6⟩
    ·exact .inl ⟨q,hq,by rw [<- h5];exact hzb⟩
    ·exact .inr ⟨h5.1,h5.2,by rw [<- h6];exact hzb⟩
   ·exact .inl ⟨m,h4,hzb⟩) hσ3
  exact ⟨rfl,k1,k2,y,_,σ3,k3,k4,hy1,hy2 (by rw [hkx]) hfm,Nat.le_trans hws hr.size⟩
 case done =>
  rintro D W hD ⟨x,M',σ',h1,h2,hinv,hfm,hws⟩ hK
  refine ⟨⟨t0,H x⟩,_,σ',hdone x hinv hfm,SB h1 hK ?_ (Nat.le_trans hs.size hD) (fun d' hd' e => ?_) (fun m x hx=>by rw [hX0] at hx;cases hx) (fun b hb => ?_) (fun ⟨m,x,h3,_⟩=>by rw [hX0] at h3;cases h3)⟩
  ·cases h0D:M0 D with
   | none=>rfl
   | some o=>have:=hlt D o (hs.sub D o h0D);omega
  ·obtain ⟨D',h3,h4⟩:=Rj hs.defers.1 hd'
   rw [h3] at e
   injection e with e1 _
   injection e1 with e1
   subst e1
   have:=hlt _ _ h4
   omega
  ·obtain ⟨m,hmm,rfl⟩:=(hXPi b).1 hb
   obtain ⟨bk,hbk,_⟩:=hPb x0 m hmm
   rcases hs.loc m bk hbk with h | ⟨_,h⟩
   ·rw [(hPn hs m hmm).1] at h;cases h
   ·exact h
end
end
section
open Go.RowKit
section
variable {P:Program} {N:Nat} {W0:World} {X:Nat→Option Loc} {M0:Nat→Option Obj}
theorem O2 {ι:Type} {Q:Exit->AS->Prop} {g:Operand} {ps:Array Tmp} {assign body:Code} {t0:List (Nat×Tv)} (pids:List Nat) (fid q off r:Nat) {gf:FuncId} {k:Nat} {caps:Nat->Cl} {n:Nat} {E:Fin n->List Av} (H:ι->List (Nat×Blk)) (t1:Fin n->List (Nat×Tv)) (Inv Fm:Nat->ι->Prop) (x0:ι)
  (hX0:∀ m,X m=none) (hg:evT (get t0) g=some (.av (.one (.clo gf k caps)))) (hcd:(Cl.clo gf k caps).dv=true) (eg:∀ args w,(callFunc gf args).run P w=.ok (.enter gf args) w)
  (It:JA P gf k caps n E) (hck:VV N pids fid q r t0 ps=true) (hfam:∀ x,famB pids fid q off r (H x)=true) (hE:∀ x,(E x).length=ps.size) (hEd:∀ x,(E x).all Av.dv=true) (hm:∀ x,HsN (H x))
  (ht1:∀ x,TsM (t1 x)) (ht1p:∀ x,(t1 x).all (fun p=>pvT pids p.2)=true) (hI0:Inv 0 x0) (hF0:Fm 0 x0)
  (hassign:∀ l W1 M1 X1 k j x,Inv j x->PXr pids r (∃ bb,get (H x) r=some bb) X1->AWp P (some l) N W1 X1 M1 assign (fun e s'=>e=.normal/\s'=⟨t1 k,H x⟩) ⟨Jm t0 ps.toList (E k),H x⟩)
  (hbody:∀ l W1 M1 X1 (k:Fin n) j x,(∀ m z,X1 m=some z->Au (fid::pids) m=true)->j<n->Inv j x->AWp P (some l) N W1 X1 M1 body (fun e s'=>e=.normal/\∃ y,Inv (j+1) y/\(k.val=j->Fm j x->Fm (j+1) y)/\∀ m b,get (H y) m=some b->get s'.h m=some b) ⟨t1 k,H x⟩)
  (hdone:∀ x,Inv n x->Fm n x->Q .normal ⟨t0,H x⟩):AWp P none N W0 X M0 (.rangeFunc g ps assign body) Q ⟨t0,H x0⟩:=by
 unfold VV at hck
 simp only [Bool.and_eq_true,Bool.not_eq_true'] at hck
 obtain ⟨c1,c2,c3,c4,c5,c6,c7,c8,c9⟩:=hck
 have hpv:∀ i v,get t0 i=some v->pvT pids v=true:=fun i v hv=>List.all_eq_true.1 c1 (i,v) (DL hv)
 have hno:∀ v:Tv,pvT pids v=true->v.no fid=true:=fun v h=>by
  cases hn:v.no fid with
  | true=>rfl
  | false=>have:=FZ (KO h hn);rw [c3] at this;cases this
 have hf:∀ x,(∀ m b,get (H x) m=some b->((Au pids m=true/\b.isP=true)\/(m=r/\b.isR=true))/\b.no fid=true)/\(∀ m,Au pids m=true->∃ b,get (H x) m=some b)/\Od q off r (H x)=true:=fun x=>by
  have h:=hfam x
  unfold famB at h
  simp only [Bool.and_eq_true] at h
  obtain ⟨h1,h2,h3⟩:=h
  refine ⟨fun m b hb => ?_,fun m hmm=>Option.isSome_iff_exists.1 (List.all_eq_true.1 h2 m (DK hmm)),h3⟩
  have:=List.all_eq_true.1 h1 (m,b) (DL hb)
  simp only [Bool.and_eq_true,Bool.or_eq_true] at this
  exact ⟨this.1.imp id fun h=>⟨Nat.eq_of_beq_eq_true h.1,h.2⟩,this.2⟩
 exact XZ pids fid q off r H t1 Inv Fm x0 hX0 hg hcd eg It hE (fun p hp=>Nat.le_of_ble_eq_true (List.all_eq_true.1 c9 p hp)) hpv (fun x=>(hf x).1) (fun x=>(hf x).2.1) c3 c4 (fun e=>by rw [e,Nat.beq_refl] at c5;cases c5) (Nat.le_of_ble_eq_true c6) (Nat.le_of_ble_eq_true c7) (fun m hmm=>Nat.le_of_ble_eq_true (List.all_eq_true.1 c2 m hmm)) (fun m hmm=>FZ hmm) c8 (fun x i v hv=>N4 _ _ _ (fun j u hu=>hno u (hpv j u hu)) (hEd x) i v hv) (fun x=>(hf x).2.2) hm ht1 (fun x i v hv=>List.all_eq_true.1 (ht1p x) (i,v) (DL hv)) hI0 hF0 hassign hbody hdone
end
section
variable {P:Program} {N:Nat} {Ow:World→Nat→Prop} {n0:Nat} {Q:IQ} {s:AS} {J:World→Prop} {al:Bool} {ops:Array Oper} {l:List Oper} {o:Oper}
theorem WR {M:Nat->Option Obj} {σ:Nat->Loc} {w:World} {a:Act} {o:Oper} {c:Call} {f:Operand} {ly:Nat} {xs:List Av} {T:Nat->Option Tv} (hT:∀ i v,T i=some v->RT M σ v (a.tmps.getD i undef)) (ho:o.op=.call c) (hcf:c.callee=.value f) (hf:evT T f=some (.av (.one (.val (.func (.yield ly) #[] #[]))))) (hxs:EF (evT T) c.args.toList=some xs)
  {R:Ending->World->Prop} (hY:∀ v:Array Value,L2 (RA M σ) xs v.toList->YieldAt (FW none) 0 P ly v w R) {K:Act->World->Prop} {Q:Exit->Act->World->Prop} (hK:∀ e w',R e w'->∃ V,e=.returned V/\K (a.put o.dst V) w'):o.wpIn (FW none) 0 P a w K Q:=by
 have hargs:=JU (fun x v=>Fq hT) _ _ hxs
 obtain ⟨fn,tmps,assign,body,hy,hR⟩:=hY (c.args.map a.eval) (by simpa using hargs)
 refine ⟨fun _ _=>trivial,?_⟩
 rw [Oper.semAt_eq _ _ _ (fun d h=>by rw [ho] at h;cases h)]
 have hfv:=(Fq hT hf).1
 have hres:(execOp a.eval o).run P w=.ok (.round ly fn tmps assign body) w:=by
  simp only [execOp,ho,Sem.run_bind,resolve,hcf,hfv,Deferred.ofValue]
  simpa [invoke] using hy
 rw [hres,Oper.uponIn_round]
 refine ⟨fun h=>(by cases h),?_⟩
 have h1:RoundIn (FW none) (0-1) P ly fn tmps assign body w R:=hR
 refine h1.mono ?_
 rintro e w' he
 obtain ⟨V,rfl,hk⟩:=hK e w' he
 exact hk
theorem Uk (hO:OwS Ow n0) (hgn:o.guard=none) {c:Call} {f:Operand} {ly d:Nat} (xs:List Av) (ho:o.op=.call c) (hcf:c.callee=.value f)
  (hf:evT (get s.t) f=some (.av (.one (.val (.func (.yield ly) #[] #[]))))) (hxs:EF (evT (get s.t)) c.args.toList=some xs) (hv:xs.all Av.dv=true) (hvm:∀ x∈xs,AvM x) (hod:o.dst=some d) (hdN:Nat.blt d N=true) (hT1:∀ i v,get s.t i=some v->v.dv=true/\TvM v)
  (hJg:∀ A B,J A->A.grownBy B none->J B) (Jt:World->Prop)
  (hY:∀ W v,J W->fB (fun _=>none) Ow xs v W->YieldAt (FW none) 0 P ly v W (fun e W'=>e=.returned (.bool true)/\Jt W'/\KpS Ow W W')) (hh:s.h=[])
  (ht:IWL P N Ow n0 ops l Q ⟨(d,tB true)::s.t,[]⟩ Jt true):IWL P N Ow n0 ops (o::l) Q s J true:=by
 intro W0 M σ a w hJ hs
 refine wpListIn_step fun K0 hK' => ?_
 rw [if_pos (by simp [Region.wanted,hgn])]
 have hgrow:W0.grownBy w none:={ os:=hs.os,tape:=hs.tape,output:=hs.output,size:=hs.size,block:=fun b hb _=>hs.old b hb (EL b) }
 have hiok:=hJ.2.2
 have hdN':d<N:=by have:=Nat.le_of_ble_eq_true hdN;omega
 have hst:∀ b,Ow w b->Ow W0 b:=hO.st W0 w (hiok rfl).1 fun b hb=>hs.old b hb (EL b)
 have hput:∀ (b:Bool) (T:List (Nat×Tv)) (M':Nat->Option Obj) (σ':Nat->Loc),(∀ i v,get T i=some v->RT M' σ' v (a.tmps.getD i undef))->∀ i v,get ((d,tB b)::T) i=some v->RT M' σ' v ((a.put o.dst (.bool b)).tmps.getD i undef):=fun b T M' σ' hT i v hv=>by
  have hds:d<a.tmps.size:=by rw [hs.room];exact hdN'
  simp only [get,CN] at hv
  rw [hod]
  by_cases hi:d=i
  ·subst hi
   simp at hv;subst hv
   have:(a.put (some d) (.bool b)).tmps.getD d undef=.bool b:=by simp [Act.put,Array.getD_eq_getD_getElem?,hds]
   rw [this]
   exact ⟨rfl,rfl⟩
  ·simp [hi] at hv
   have:(a.put (some d) (.bool b)).tmps.getD i undef=a.tmps.getD i undef:=by simp [Act.put,Array.getD_eq_getD_getElem?,Array.getElem?_setIfInBounds,hi]
   rw [this];exact hT i v hv
 have hsize:∀ b:Bool,(a.put o.dst (.bool b)).tmps.size=N:=fun b=>by rw [hod];simpa [Act.put] using hs.room
 have hdef:∀ b:Bool,(a.put o.dst (.bool b)).defers=[]:=fun b=>by rw [hod];simpa [Act.put] using hJ.2.1
 refine WR hs.tmps ho hcf hf hxs (fun v hL=>hY w v (hJg W0 w hJ.1 hgrow) ⟨PR M,by have:=hL.length;simpa using this,fun b o' hb=>⟨hs.imm b o' (C8 hb).1,(C8 hb).2,fun h=>(hiok rfl).2.2 b o' (C8 hb).1 (hst b h)⟩,fun MM _ hMM => ?_⟩) fun e w2 he => ?_
 ·refine hL.mono fun x hx u hu σ' => ?_
  have h1:RA M σ' x u:=HA (r:=.av x) (List.all_eq_true.1 hv x hx) hu
  exact LL hMM (fun _ _=>rfl) (Rs H9 h1 (hvm x hx))
 ·obtain ⟨rfl,h5,h6⟩:=he
  refine ⟨_,rfl,hK' _ _ (ht w2 (PR M) σ _ w2 ⟨h5,hdef true,fun _=>⟨Nat.le_trans (hiok rfl).1 (Nat.le_trans hs.size h6.1),fun b h=>(h6.2.2 b h).elim (fun h7=>Nat.lt_of_lt_of_le ((hiok rfl).2.1 b (hst b h7)) (Nat.le_trans hs.size h6.1)) And.right,fun b o' h hw2 => ?_⟩⟩ ?_)⟩
  ·rcases h6.2.2 b hw2 with h7 | h7
   ·exact (hiok rfl).2.2 b o' (C8 h).1 (hst b h7)
   ·have:=(Array.getElem?_eq_some_iff.1 (hs.imm b o' (C8 h).1)).1;omega
  ·exact ⟨rfl,rfl,rfl,Nat.le_refl _,fun _ _ _=>rfl,fun _ _ h=>h,fun b o h h'=>(by rw [h] at h';cases h'),fun m x hx=>(by cases hx),⟨by rw [hdef true];trivial,fun _=>hdef true⟩,hsize true,hput true s.t (PR M) σ (fun i v hv=>O6 H9 (hs.tmps i v hv) (hT1 i v hv).2),fun b o' h=>h6.2.1 b o' (hs.imm b o' (C8 h).1) (C8 h).2 fun h7=>(hiok rfl).2.2 b o' (C8 h).1 (hst b h7),fun n b hb=>(by cases hb),fun n b hb=>(by cases hb),fun n m b c hb=>(by cases hb)⟩
end
def IEndV (n:Nat) (JJ:Nat->World->Prop):IQ:=fun e s' J' al'=>(e=.ret\/e=.normal)/\J'=JJ n
theorem S0 {P:Program} {gf:FuncId} {fn:Func} {c:Code} (hf:P.funcs[gf]? = some fn) (hb:fn.body=some c) (hnr:fn.results.toList=[]) {k:Nat} {caps:Nat->Cl} {n:Nat} {E:Fin n->List Av} (hN:Nat.ble (k+1) fn.ntmps=true) (hcd:∀ i,i<k->(caps i).dv=true)
  (h:∀ (Ow:World->Nat->Prop) (n0 ly:Nat) (JJ:Nat->World->Prop),OwS Ow n0->(∀ j A B,JJ j A->A.grownBy B none->JJ j B) ->
   (∀ j (hj:j<n) W v,JJ j W->fB (fun _=>none) Ow (E ⟨j,hj⟩) v W->YieldAt (FW none) 0 P ly v W (fun e W'=>e=.returned (.bool true)/\JJ (j+1) W'/\KpS Ow W W')) ->
   IWp P fn.ntmps Ow n0 c (IEndV n JJ) ⟨EB 0 (.one (.val (.func (.yield ly) #[] #[]))::CW k caps),[]⟩ (JJ 0) true):JA P gf k caps n E:=by
 intro M w cs Ow himm hOs hOw hcs hcaps l J W hB hJ hY h0
 have hlt:∀ b o,M b=some o->b<w.heap.size:=fun b o hb=>(Array.getElem?_eq_some_iff.1 (himm b o hb)).1
 have himmW:∀ b o,M b=some o->W.heap[b]? = some o:=fun b o hb=>(hB.block b (hlt b o hb)).trans (himm b o hb)
 have hst:∀ b,Ow W b->Ow w b:=hOs.st w W (Nat.le_refl _) fun b hb=>hB.block b hb
 have hbody:=h Ow w.heap.size l J hOs hJ (fun j hj W1 v h1 ⟨Mj,e1,e2,e3⟩=>hY j v W1 hj h1 ⟨hj,Mj,e1,e2,fun MM _ h3=>e3 MM (fun _ _ h=>by cases h) h3⟩)
 obtain ⟨a0,ha0⟩:∃ a0:Act,a0={ tmps:=(#[Value.func (.yield l) #[] #[]]++cs)++Array.replicate (fn.ntmps-(#[Value.func (.yield l) #[] #[]]++cs).size) undef,defers:=[] }:=⟨_,rfl⟩
 have hs0:Sim fn.ntmps W noX M M (fun _=>⟨0,0,false⟩) (get (EB 0 (.one (.val (.func (.yield l) #[] #[]))::CW k caps))) (get []) a0 W := ?hs0
 ·have hbod:=hbody W M (fun _=>⟨0,0,false⟩) a0 W ⟨h0,by rw [ha0],fun _=>⟨hB.size,fun b hb=>Nat.lt_of_lt_of_le (hOw b (hst b hb)).1 hB.size,fun b o hb ho=>by rw [(hOw b (hst b ho)).2] at hb;cases hb⟩⟩ hs0
  rw [ha0] at hbod
  refine callsIn_wide.2 (callsIn_wide.1 (callsIn_of_wp_marks (F:=FW none) (n:=0) hf hb trivial (wpIn_mono hbod ?_)))
  clear hbod hs0
  rintro e a' w' ⟨s',J',al',W0',M',σ',⟨he,rfl⟩,⟨hJ',hd,_⟩,hs'⟩
  have hgrow:W0'.grownBy w' none:={ os:=hs'.os,tape:=hs'.tape,output:=hs'.output,size:=hs'.size,block:=fun b hb _=>hs'.old b hb (EL b) }
  obtain ⟨U,hU,_⟩:=Qy (P:=P) (fn:=fn) (r:=.tup []) hs' (by rw [hnr];rfl)
  have key:LeavesInM (FW none) 0 P fn a'.tmps (fun e W'=>(∃ v,e=.returned v)/\J n W') a'.defers .returning w':=by
   rw [hd]
   exact ⟨U,hU,⟨U,rfl⟩,hJ n W0' w' hJ' hgrow⟩
  rcases he with rfl | rfl
  ·exact key
  ·exact key
 case hs0 =>
  subst ha0
  have hsz:(#[Value.func (.yield l) #[] #[]]++cs).size=k+1:=by simp [hcs];omega
  have hNk:=Nat.le_of_ble_eq_true hN
  refine ⟨rfl,rfl,rfl,Nat.le_refl _,fun _ _ _=>rfl,fun _ _ h=>h,fun b o h h'=>(by rw [h] at h';cases h'),fun m x hx=>(by cases hx),Gz.nil,?_,fun i v hv => ?_,himmW,fun m b hb=>(by cases hb),fun m b hb=>(by cases hb),fun m m' b c hb=>(by cases hb)⟩
  ·simp only [Array.size_append,Array.size_replicate] at hsz ⊢
   omega
  ·obtain ⟨_,x,hx,rfl⟩:=Hw _ _ _ _ hv
   rw [Nat.sub_zero] at hx
   have hargs:L2 (RA M fun _=>⟨0,0,false⟩) (.one (.val (.func (.yield l) #[] #[]))::CW k caps) (.func (.yield l) #[] #[]::cs.toList):=by
    refine .cons ⟨rfl,rfl⟩ (L2.of (by simp [CW,hcs]) fun i x y hx hy => ?_)
    have hi:i<k:=by have:=(List.getElem?_eq_some_iff.1 hx).1;simpa [CW] using this
    have:=(IR (σ:=fun _=>⟨0,0,false⟩) (hcd i hi)).2 (hcaps i hi)
    simp only [CW,List.getElem?_map,List.getElem?_range hi,Option.map_some,Option.some.injEq] at hx
    subst hx
    have hy':cs.getD i undef=y:=by
     simp only [Array.getD_eq_getD_getElem?]
     rw [<- Array.getElem?_toList,hy];rfl
    rw [hy'] at this
    exact this
   obtain ⟨u,hu,hRu⟩:=hargs.get i x hx
   have:((#[Value.func (.yield l) #[] #[]]++cs)++Array.replicate (fn.ntmps-(#[Value.func (.yield l) #[] #[]]++cs).size) undef).getD i undef=u:=by
    have hu2:(#[Value.func (.yield l) #[] #[]]++cs)[i]? = some u:=by
     rw [<- Array.getElem?_toList]
     simpa using hu
    have hi:i<(#[Value.func (.yield l) #[] #[]]++cs).size:=(Array.getElem?_eq_some_iff.1 hu2).1
    rw [Array.getD_eq_getD_getElem?,Array.getElem?_append_left hi,hu2];rfl
   show RA M _ x _
   rw [this]
   exact hRu
theorem Ob {P:Program} {N:Nat} {Ow:World->Nat->Prop} {n0:Nat} {Q:IQ} {s:AS} {J:World->Prop} {al:Bool} {c:Code} (ts:List Nat) (S:AS) (hS:Jr ts [] s=S) (h:IWp P N Ow n0 c Q S J al):IWp P N Ow n0 c Q s J al:=by
 subst hS
 exact fun W0 M σ a w hJ hs=>h W0 M σ a w hJ (D9 hs ts [])
theorem OA {P:Program} {f:FuncId} {xs:List Av} {sz len:Nat} {F:Nat->Nat->Cl} {ty:TypeId} (h:Fr P f xs (.row sz len F ty) (fun d=>.av (.one (.own d sz len)))):BH P f xs (.av (.one (.list false sz len F))):=by
 intro M σ w args himm hargs
 refine (h M σ w args himm hargs).mono ?_
 rintro en w' ⟨U,hU,M',x,hk,hx,hb,hR⟩
 refine ⟨U,hU,?_⟩
 have hV:R M' (fun _=>x) (.own 0 sz len) U:=hR (fun _=>x) 0 rfl
 unfold R at hV
 cases hn:x.nil with
 | true =>
  rw [hn] at hV
  obtain ⟨rfl,rfl⟩:len=0/\U=.slice none 0 0:=hV
  exact ⟨M',hk,fun σ'=>RC.nil _ _ _ rfl⟩
 | false =>
  rw [hn] at hV
  have hV:U=.slice (some ⟨x.b,0,none⟩) len x.cap:=hV
  subst hV
  obtain ⟨hx1,hx2⟩:w.heap.size<=x.b/\M' x.b=none:=by
   rcases hx with h0 | h0
   ·rw [hn] at h0;cases h0
   ·exact h0
  rcases hb (fun _=>x) with ⟨h0,_⟩ | ⟨_,c,hc,h1,h2,h3,g,hg⟩
  ·rw [hn] at h0;cases h0
  ·have key:∀ b o,M' b=some o->b≠x.b:=fun b o ho e=>by rw [e,hx2] at ho;cases ho
   refine ⟨fun b=>if b=x.b then some (.cells c ty) else M' b,⟨hk.os,hk.tape,hk.output,hk.size,hk.old,fun b o ho => ?_,fun b o ho h0 => ?_,fun b o ho => ?_⟩,fun σ' => ?_⟩
   ·have:=hk.sub b o ho
    simp only [if_neg (key b o this)];exact this
   ·by_cases e:b=x.b
    ·rw [e];exact hx1
    ·simp only [if_neg e] at ho;exact hk.new b o ho h0
   ·by_cases e:b=x.b
    ·simp only [if_pos e,Option.some.injEq] at ho;rw [e,<- ho];exact hc
    ·simp only [if_neg e] at ho;exact hk.imm b o ho
   ·show RC _ (.list false sz len F) _
    refine .list false sz len F x.b 0 x.cap g (fun i j hi hj => ?_) (fun i j hi hj=>D2 (fun b o ho => ?_) (hg i j hi hj).2) h2 (fun h=>by cases h)
    ·simp only [EQ,if_pos]
     rw [Nat.zero_add]
     exact (hg i j hi hj).1
    ·simp only [if_neg (key b o ho)];exact ho
theorem XI {P:Program} {gf:FuncId} {fn:Func} {c:Code} (hf:P.funcs[gf]? = some fn) (hb:fn.body=some c) (hnr:fn.results.toList=[]) {k:Nat} {caps:Nat->Cl} {n:Nat} {E:Fin n->List Av} (hE:∀ x,(E x).all Av.isV=true) (hE1:∀ x,∀ e∈E x,∀ c∈e.cells,c.toV.oneCell'=true) (hN:Nat.ble (k+1) fn.ntmps=true) (hcd:∀ i,i<k->(caps i).dv=true)
  (h:∀ (Ow:World->Nat->Prop) (n0 ly:Nat) (JJ Jx:Nat->World->Prop),OwS Ow n0->(∀ j A B,JJ j A->A.grownBy B none->JJ j B) ->
   (∀ j (hj:j<n) W,JJ j W->YieldAt (FW none) 0 P ly ((E ⟨j,hj⟩).map Av.toV).toArray W (fun e W'=>(e=.returned (.bool true)/\JJ (j+1) W'/\KpS Ow W W')\/(e=.returned (.bool false)/\Jx (j+1) W'))) ->
   IWp P fn.ntmps Ow n0 c (IEnd n JJ Jx) ⟨EB 0 (.one (.val (.func (.yield ly) #[] #[]))::CW k caps),[]⟩ (JJ 0) true):JA P gf k caps n E :=
 S0 hf hb hnr hN hcd fun Ow n0 ly JJ hO hJ hY=>by
  have h1:=h Ow n0 ly JJ (fun _ _=>False) hO hJ (fun j hj W hW=>by
   obtain ⟨fn',tm,as',bd,hy,hR⟩:=hY j hj W ((E ⟨j,hj⟩).map Av.toV).toArray hW ⟨fun _=>none,by simp,(fun b o hb=>by cases hb),fun MM _ _=>by
    have e1:=hE ⟨j,hj⟩
    have e2:=hE1 ⟨j,hj⟩
    show L2 _ (E ⟨j,hj⟩) ((E ⟨j,hj⟩).map Av.toV)
    generalize E ⟨j,hj⟩=l at e1 e2 ⊢
    induction l with
    | nil=>exact .nil
    | cons e l ih =>
     simp only [List.all_cons,Bool.and_eq_true] at e1
     exact .cons (fun σ=>YI e1.1 (e2 e (List.mem_cons_self ..))) (ih e1.2 fun e he=>e2 e (List.mem_cons_of_mem _ he))⟩
   exact ⟨fn',tm,as',bd,hy,hR.mono fun e W' he=>.inl he⟩)
  intro W0 M σ a w hJ0 hs
  refine wpIn_mono (h1 W0 M σ a w hJ0 hs) ?_
  rintro e a' w' ⟨s',J',al',W0',M',σ',⟨he,hend⟩,hJ',hs'⟩
  rcases hend with rfl | ⟨j,hj,rfl⟩
  ·exact ⟨s',_,al',W0',M',σ',⟨he,rfl⟩,hJ',hs'⟩
  ·exact hJ'.1.elim
theorem Um {P:Program} {gf:FuncId} {t:Bool} {sz len:Nat} {f:Nat->Nat->Cl} {k:Nat} {caps:Nat->Cl} {n:Nat} {E:Fin n->List Av} (E':(Nat->Nat->Value)->Fin n->List Av) (h0:caps 0=aG t sz len f) (hk:0<k)
  (hI:∀ g:Nat->Nat->Value,(∀ i j,i<len->j<sz->(g i j).oneCell'=true)->JA P gf k (fun i=>match i with | 0=>aG t sz len (fun i j=>.val (g i j)) | i+1=>caps (i+1)) n (E' g)) (hlen:∀ g x,(E' g x).length=(E x).length)
  (hE:∀ M g x (vs:List Value),(∀ i j,i<len->j<sz->RC M (f i j) (g i j))->L2 (fun e v=>∀ σ,RA M σ e v) (E' g x) vs->L2 (fun e v=>∀ σ,RA M σ e v) (E x) vs):JA P gf k caps n E:=by
 intro M w cs Ow himm hOs hOw hcs hcaps
 have h:=hcaps 0 hk
 rw [h0] at h
 obtain ⟨g,h1,h2⟩:=UG h
 have h3:=hI g (fun i j hi hj=>aV (h2 i j hi hj)) M w cs Ow himm hOs hOw hcs (fun i hi=>by
  cases i with
  | zero=>exact h1
  | succ i=>exact hcaps _ hi)
 intro l J W hB hJ hY hJ0
 exact h3 l J W hB hJ (fun j v A hj hJA ⟨hj',Mj,e1,e2,e3⟩=>hY j v A hj hJA ⟨hj',Mj,(hlen g _).symm.trans e1,e2,fun MM m1 m2=>hE MM g _ _ (fun i j hi hj=>D2 m1 (h2 i j hi hj)) (e3 MM m1 m2)⟩) hJ0
theorem Un {P:Program} {gf:FuncId} {k:Nat} {caps caps':Nat->Cl} {n:Nat} {E:Fin n->List Av} (h:∀ i,i<k->caps' i=caps i) (H:JA P gf k caps n E):JA P gf k caps' n E :=
 fun M w cs Ow a b c d e=>H M w cs Ow a b c d fun i hi=>by rw [<- h i hi];exact e i hi
theorem ZX {P:Program} {N:Nat} {Ow:World->Nat->Prop} {n0:Nat} {Q:IQ} {s:AS} {J:World->Prop} {al:Bool} (hO:OwS Ow n0) {x y z:Code} (hdv:∀ i v,get s.t i=some v->v.dv=true) (hh:s.h=[])
  (h:∀ W0 X1 M1,(∀ k u,X1 k=some u->Au [N] k=true)->AWp P none N W0 X1 M1 x (ATh (AWp P none N W0 X1 M1 y (fun e s'=>e=.normal/\∃ S,(∀ W2 M2,Cv N W2 noX M2 s' S)/\IWp P N Ow n0 z Q S J al)) (fun _ _=>False)) s):IWp P N Ow n0 (.seq x (.seq y z)) Q s J al:=by
 intro W0 M σ a w hJ hs
 have hX:∀ k u,Ju N W0.heap.size k=some u->Au [N] k=true:=fun k u hk=>by rw [(Oh hk).1];exact Kz _
 refine wpIn_seq (wpIn_mono (h W0 _ M hX M _ a w (Ip hdv hh hJ.2.1 hs)) ?_)
 rintro e a' w' ⟨s',M',σ',h1,h2⟩
 cases e with
 | normal =>
  refine wpIn_seq (wpIn_mono (h1 M' σ' a' w' h2) ?_)
  rintro e a2 w2 ⟨s2,M2,σ2,⟨rfl,S,h3,h4⟩,h5⟩
  have h6:=Hs hJ.2.2 hO h5
  obtain ⟨hd,h7⟩:=GN h5
  obtain ⟨M3,σ3,h8⟩:=h3 W0 M2 M2 σ2 a2 w2 h7
  exact h4 W0 M3 σ3 a2 w2 ⟨hJ.1,hd,Hs h6 hO h8⟩ (SA h8 hd)
 | _=>exact h1.elim
end
section
open Go.RowKit
def CZ (x0:AB) (x1:AB):AB:=AB.mk (W64 (x0.X+x1.X)) (W64 (x0.Y+x1.Y))
def Dy (x0:AB) (x1:AB):FuncId×List Av×Ef:=(104,[.agg (AB.c x0),.agg (AB.c x1)],.val [] (.av (.agg (AB.c (CZ x0 x1)))))
theorem Wi (x0:AB) (x1:AB):BH Tryz.prog 104 (Dy x0 x1).2.1 (.av (.agg (AB.c (CZ x0 x1)))):=by
 refine AO Tryz.func104 rfl kr kr fun W0 M0 => ?_
 refine AC<|rn ⟨[(2,tP 2 0),(3,tP 3 0),(4,tP 4 0)],[(2,.cells (AB.c x0) 47),(3,.cells (AB.c x1) 47),(4,.cells [.i 0,.i 0] 47)]⟩<|AC ?_
 refine rn ⟨[(4,tP 4 0)],[(4,.cells [.i (W64 (x0.X+x1.X)),.i (W64 (x0.Y+x1.Y))] 47)]⟩<|AZ ?_
 exact ⟨_,Cv.refl _,.inl rfl,.av (.agg [.i (W64 (x0.X+x1.X)),.i (W64 (x0.Y+x1.Y))]),by kernel_rfl,Ad (by rfl)⟩
theorem KQ (x0:AB) (x1:AB):Aq Tryz.prog (Dy x0 x1).1 (Dy x0 x1).2.1 (Dy x0 x1).2.2:=AR (fun _ _=>by kernel_rfl) fun _=>Wi x0 x1
def CE (x0:Int):Int:=Int.tmod (W64 ((Int.tmod x0 4)+4)) 4
def Fd (x0:Int):FuncId×List Av×Ef:=(122,[.one (.i x0)],.val [] (.av (.one (.i (CE x0)))))
theorem au14 {p:Prop} (h:p:=by first | assumption | decide | omega):p:=h
theorem SK (x0:Int):BH Tryz.prog 122 (Fd x0).2.1 (tO (.i (CE x0))):=by
 refine AO Tryz.func122 rfl kr kr fun W0 M0 => ?_
 refine AC<|rn ⟨[(0,tI x0)],[]⟩<|AC ?_
 refine rc [] [(4:Int)≠0,(4:Int)≠0] ⟨[(2,tI (Int.tmod (W64 ((Int.tmod x0 4)+4)) 4))],[]⟩ .nil (.cons au14 (.cons au14 .nil))<|AH<|AZ ?_
 exact ⟨_,Cv.refl _,.inl rfl,tO (.i (Int.tmod (W64 ((Int.tmod x0 4)+4)) 4)),by kernel_rfl,Ad (by rfl)⟩
theorem RD (x0:Int):Aq Tryz.prog (Fd x0).1 (Fd x0).2.1 (Fd x0).2.2:=AR (fun _ _=>by kernel_rfl) fun _=>SK x0
def CK (x0:AB) (x1:Int):AB:=bif decide (((CE x1):Int)=1) then (AB.mk (W64 (0-x0.Y)) x0.X) else (bif decide (((CE x1):Int)=2) then (AB.mk (W64 (0-x0.X)) (W64 (0-x0.Y))) else (bif decide (((CE x1):Int)=3) then (AB.mk x0.Y (W64 (0-x0.X))) else (x0)))
def EN (x0:AB) (x1:Int):FuncId×List Av×Ef:=(116,[.agg (AB.c x0),.one (.i x1)],.val [] (.av (.agg (AB.c (CK x0 x1)))))
theorem Q1 (x0:AB) (x1:Int):BH Tryz.prog 116 (EN x0 x1).2.1 (.av (.agg (AB.c (CK x0 x1)))):=by
 refine AO Tryz.func116 rfl kr kr fun W0 M0 => ?_
 refine AC<|rn ⟨[(1,tI x1),(2,tP 2 0),(4,tP 4 0)],[(2,.cells (AB.c x0) 47),(4,.cells [.i 0,.i 0] 47)]⟩ ?_
 refine AC<|AC ?_
 refine rs 6 (Fd x1) ⟨[(2,tP 2 0),(4,tP 4 0),(6,tI (CE x1))],[(2,.cells (AB.c x0) 47),(4,.cells [.i 0,.i 0] 47)]⟩ (RD x1)<|AH ?_
 refine Af<|AC ?_
 refine rn ⟨[(2,tP 2 0),(4,tP 4 0),(6,tI (CE x1)),(7,tB (decide (((CE x1):Int)=1)))],[(2,.cells (AB.c x0) 47),(4,.cells [.i 0,.i 0] 47)]⟩ ?_
 refine AY _ rfl (fun h1 => ?_) (fun h1 => ?_)
 ·have g1:=oT h1
  refine AC<|rn ⟨[(4,tP 4 0)],[(4,.cells [.i (W64 (0-x0.Y)),.i x0.X] 47)]⟩ ?_
  refine AZ<|B2<|A9 ?_
  exact ⟨_,Cv.refl _,.inl rfl,.av (.agg [.i (W64 (0-x0.Y)),.i x0.X]),by kernel_rfl,Ad (by first | (simp only [CK,h1,cond_true,cond_false] <;> rfl))⟩
 ·have g1:=oF h1
  refine AC<|rn ⟨[(2,tP 2 0),(4,tP 4 0),(6,tI (CE x1)),(15,tB (decide (((CE x1):Int)=2)))],[(2,.cells (AB.c x0) 47),(4,.cells [.i 0,.i 0] 47)]⟩ ?_
  refine AY _ rfl (fun h2 => ?_) (fun h2 => ?_)
  ·have g2:=oT h2
   refine AC<|rn ⟨[(4,tP 4 0)],[(4,.cells [.i (W64 (0-x0.X)),.i (W64 (0-x0.Y))] 47)]⟩ ?_
   refine AZ<|B2<|A9 ?_
   exact ⟨_,Cv.refl _,.inl rfl,.av (.agg [.i (W64 (0-x0.X)),.i (W64 (0-x0.Y))]),by kernel_rfl,Ad (by first | (simp only [CK,h1,h2,cond_true,cond_false] <;> rfl))⟩
  ·have g2:=oF h2
   refine AC<|rn ⟨[(2,tP 2 0),(4,tP 4 0),(24,tB (decide (((CE x1):Int)=3)))],[(2,.cells (AB.c x0) 47),(4,.cells [.i 0,.i 0] 47)]⟩ ?_
   refine AY _ rfl (fun h3 => ?_) (fun h3 => ?_)
   ·have g3:=oT h3
    refine AC<|rn ⟨[(4,tP 4 0)],[(4,.cells [.i x0.Y,.i (W64 (0-x0.X))] 47)]⟩ ?_
    refine AZ<|B2<|A9 ?_
    exact ⟨_,Cv.refl _,.inl rfl,.av (.agg [.i x0.Y,.i (W64 (0-x0.X))]),by kernel_rfl,Ad (by first | (simp only [CK,h1,h2,h3,cond_true,cond_false] <;> rfl))⟩
   ·have g3:=oF h3
    refine Ae<|BZ ?_
    refine AH<|AC ?_
    refine rn ⟨[(4,tP 4 0)],[(4,.cells (AB.c x0) 47)]⟩<|AZ ?_
    exact ⟨_,Cv.refl _,.inl rfl,.av (.agg (AB.c x0)),by kernel_rfl,Ad (by first | (simp only [CK,h1,h2,h3,cond_true,cond_false] <;> rfl))⟩
theorem PM (x0:AB) (x1:Int):Aq Tryz.prog (EN x0 x1).1 (EN x0 x1).2.1 (EN x0 x1).2.2:=AR (fun _ _=>by kernel_rfl) fun _=>Q1 x0 x1
def B3 (x0:AB) (x1:Bool):AB:=AB.mk (bif x1 then (W64 (0-x0.X)) else x0.X) x0.Y
def Df (x0:AB) (x1:Bool):FuncId×List Av×Ef:=(117,[.agg (AB.c x0),.one (.b x1)],.val [] (.av (.agg (AB.c (B3 x0 x1)))))
theorem OB (x0:AB) (x1:Bool):BH Tryz.prog 117 (Df x0 x1).2.1 (.av (.agg (AB.c (B3 x0 x1)))):=by
 refine AO Tryz.func117 rfl kr kr fun W0 M0 => ?_
 refine AC<|rn ⟨[(1,tB x1),(2,tP 2 0),(4,tP 4 0)],[(2,.cells (AB.c x0) 47),(4,.cells [.i 0,.i 0] 47)]⟩ ?_
 refine AC<|AC ?_
 refine rn ⟨[(2,tP 2 0),(4,tP 4 0),(5,tB x1)],[(2,.cells (AB.c x0) 47),(4,.cells [.i 0,.i 0] 47)]⟩ ?_
 refine Bc (⟨[(2,tP 2 0),(4,tP 4 0)],[(2,.cells [.i (bif x1 then (W64 (0-x0.X)) else x0.X),.i x0.Y] 47),(4,.cells [.i 0,.i 0] 47)]⟩) ?_ ?_
 ·refine AY _ rfl (fun h1 => ?_) (fun h1 => ?_)
  ·refine rn ⟨[(2,tP 2 0),(4,tP 4 0)],[(2,.cells [.i (W64 (0-x0.X)),.i x0.Y] 47),(4,.cells [.i 0,.i 0] 47)]⟩ ?_
   refine A4 ?_
   first | rfl | (simp only [h1,cond_true,cond_false] <;> rfl)
  ·refine Ae<|AH ?_
   refine Cv.trans (ck (⟨[(2,tP 2 0),(4,tP 4 0)],[(2,.cells (AB.c x0) 47),(4,.cells [.i 0,.i 0] 47)]⟩)) (A4 ?_)
   first | rfl | (simp only [h1,cond_true,cond_false] <;> rfl)
 refine AC<|rn ⟨[(4,tP 4 0)],[(4,.cells [.i (bif x1 then (W64 (0-x0.X)) else x0.X),.i x0.Y] 47)]⟩<|AZ ?_
 exact ⟨_,Cv.refl _,.inl rfl,.av (.agg [.i (bif x1 then (W64 (0-x0.X)) else x0.X),.i x0.Y]),by kernel_rfl,Ad (by rfl)⟩
theorem Mu (x0:AB) (x1:Bool):Aq Tryz.prog (Df x0 x1).1 (Df x0 x1).2.1 (Df x0 x1).2.2:=AR (fun _ _=>by kernel_rfl) fun _=>OB x0 x1
def Z0f (x1:AB) (x0:Ab):AB:=CK (B3 x1 x0.Mirror) x0.Turn
def Ew (x0:Ab) (x1:AB):AB:=CZ (Z0f x1 x0) x0.At
def Dp (x0:Ab) (x1:AB):FuncId×List Av×Ef:=(103,[.agg (Ab.c x0),.agg (AB.c x1)],.val [] (.av (.agg (AB.c (Ew x0 x1)))))
theorem SL (x0:Ab) (x1:AB):BH Tryz.prog 103 (Dp x0 x1).2.1 (.av (.agg (AB.c (Ew x0 x1)))):=by
 refine AO Tryz.func103 rfl kr kr fun W0 M0 => ?_
 refine AC<|rn ⟨[(2,tP 2 0),(3,tP 3 0),(4,tP 4 0)],[(2,.cells (Ab.c x0) 51),(3,.cells (AB.c x1) 47),(4,.cells [.i 0,.i 0] 47)]⟩<|AC ?_
 refine dw [] [(8,Df x1 x0.Mirror),(11,EN (B3 x1 x0.Mirror) x0.Turn),(14,Dy (Z0f x1 x0) x0.At)] [Ap (Df x1 x0.Mirror).2.1,Ap (EN (B3 x1 x0.Mirror) x0.Turn).2.1,Ap (Dy (Z0f x1 x0) x0.At).2.1] ⟨[(4,tP 4 0)],[(4,.cells (AB.c (CZ (Z0f x1 x0) x0.At)) 47)]⟩ (.cons (Mu x1 x0.Mirror) (.cons (PM (B3 x1 x0.Mirror) x0.Turn) (.cons (KQ (Z0f x1 x0) x0.At) .nil))) (.cons rfl (.cons rfl (.cons rfl .nil)))<|AH<|AZ ?_
 exact ⟨_,Cv.refl _,.inl rfl,.av (.agg (AB.c (CZ (Z0f x1 x0) x0.At))),by kernel_rfl,Ad (by rfl)⟩
theorem Hr (x0:Ab) (x1:AB):Aq Tryz.prog (Dp x0 x1).1 (Dp x0 x1).2.1 (Dp x0 x1).2.2:=AR (fun _ _=>by kernel_rfl) fun _=>SL x0 x1
def Z0g (x2:Int) (x1:Int):AB:=Ew (Ab.mk (AB.mk 0 0) x2 false) (AB.mk x1 0)
def Z0h (x3:Int) (x2:Int) (x1:Int):AB:=Ew (Ab.mk (AB.mk 0 0) (bif decide ((x3:Int)=3) then (W64 (x2+3)) else (W64 (x2+1))) false) (AB.mk x1 0)
def Ev (x0:AB) (x1:Int) (x2:Int) (x3:Int):AE:=AE.mk x3 (CZ x0 (Z0g x2 x1)) (CZ x0 (Z0h x3 x2 x1)) x0
def Bu (x0:AB) (x1:Int) (x2:Int) (x3:Int):FuncId×List Av×Ef:=(88,[.agg (AB.c x0),.one (.i x1),.one (.i x2),.one (.i x3)],.val [] (.av (.agg (AE.c (Ev x0 x1 x2 x3)))))
theorem Wh (x0:AB) (x1:Int) (x2:Int) (x3:Int):BH Tryz.prog 88 (Bu x0 x1 x2 x3).2.1 (.av (.agg (AE.c (Ev x0 x1 x2 x3)))):=by
 refine AO Tryz.func88 rfl kr kr fun W0 M0 => ?_
 refine AC<|rn ⟨[(1,tI x1),(2,tI x2),(3,tI x3),(4,tP 4 0),(8,tP 8 0)],[(4,.cells (AB.c x0) 47),(8,.cells [.i 0,.i 0,.i 0,.i 0,.i 0,.i 0,.i 0] 136)]⟩<|AC ?_
 refine rs 16 (Dp (Ab.mk (AB.mk 0 0) x2 false) (AB.mk x1 0)) ⟨[(1,tI x1),(2,tI x2),(3,tI x3),(4,tP 4 0),(8,tP 8 0),(9,tP 9 0)],[(4,.cells (AB.c x0) 47),(8,.cells [.i 0,.i 0,.i 0,.i 0,.i 0,.i 0,.i 0] 136),(9,.cells (AB.c (Z0g x2 x1)) 47)]⟩ (Hr (Ab.mk (AB.mk 0 0) x2 false) (AB.mk x1 0))<|AH<|AC ?_
 refine rn ⟨[(1,tI x1),(2,tI x2),(3,tI x3),(4,tP 4 0),(8,tP 8 0),(9,tP 9 0),(10,tI (W64 (x2+1)))],[(4,.cells (AB.c x0) 47),(8,.cells [.i 0,.i 0,.i 0,.i 0,.i 0,.i 0,.i 0] 136),(9,.cells (AB.c (Z0g x2 x1)) 47)]⟩ ?_
 refine AC<|AC ?_
 refine rn ⟨[(1,tI x1),(2,tI x2),(3,tI x3),(4,tP 4 0),(8,tP 8 0),(9,tP 9 0),(10,tI (W64 (x2+1))),(20,tB (decide ((x3:Int)=3)))],[(4,.cells (AB.c x0) 47),(8,.cells [.i 0,.i 0,.i 0,.i 0,.i 0,.i 0,.i 0] 136),(9,.cells (AB.c (Z0g x2 x1)) 47)]⟩ ?_
 refine Bc (⟨[(1,tI x1),(3,tI x3),(4,tP 4 0),(8,tP 8 0),(9,tP 9 0),(10,tI (bif decide ((x3:Int)=3) then (W64 (x2+3)) else (W64 (x2+1))))],[(4,.cells (AB.c x0) 47),(8,.cells [.i 0,.i 0,.i 0,.i 0,.i 0,.i 0,.i 0] 136),(9,.cells (AB.c (Z0g x2 x1)) 47)]⟩) ?_ ?_
 ·refine AY _ rfl (fun h1 => ?_) (fun h1 => ?_)
  ·have g1:=oT h1
   refine rn ⟨[(1,tI x1),(3,tI x3),(4,tP 4 0),(8,tP 8 0),(9,tP 9 0),(10,tI (W64 (x2+3)))],[(4,.cells (AB.c x0) 47),(8,.cells [.i 0,.i 0,.i 0,.i 0,.i 0,.i 0,.i 0] 136),(9,.cells (AB.c (Z0g x2 x1)) 47)]⟩ ?_
   refine A4 ?_
   first | rfl | (simp only [h1,cond_true,cond_false] <;> rfl)
  ·have g1:=oF h1
   refine Ae<|AH ?_
   refine Cv.trans (ck (⟨[(1,tI x1),(3,tI x3),(4,tP 4 0),(8,tP 8 0),(9,tP 9 0),(10,tI (W64 (x2+1)))],[(4,.cells (AB.c x0) 47),(8,.cells [.i 0,.i 0,.i 0,.i 0,.i 0,.i 0,.i 0] 136),(9,.cells (AB.c (Z0g x2 x1)) 47)]⟩)) (A4 ?_)
   first | rfl | (simp only [h1,cond_true,cond_false] <;> rfl)
 refine AC<|rs 27 (Dp (Ab.mk (AB.mk 0 0) (bif decide ((x3:Int)=3) then (W64 (x2+3)) else (W64 (x2+1))) false) (AB.mk x1 0)) ⟨[(3,tI x3),(4,tP 4 0),(8,tP 8 0),(9,tP 9 0),(11,tP 11 0)],[(4,.cells (AB.c x0) 47),(8,.cells [.i 0,.i 0,.i 0,.i 0,.i 0,.i 0,.i 0] 136),(9,.cells (AB.c (Z0g x2 x1)) 47),(11,.cells (AB.c (Z0h x3 x2 x1)) 47)]⟩ (Hr (Ab.mk (AB.mk 0 0) (bif decide ((x3:Int)=3) then (W64 (x2+3)) else (W64 (x2+1))) false) (AB.mk x1 0))<|AH<|AC ?_
 refine dw [] [(31,Dy x0 (Z0g x2 x1)),(34,Dy x0 (Z0h x3 x2 x1))] [Ap (Dy x0 (Z0g x2 x1)).2.1,Ap (Dy x0 (Z0h x3 x2 x1)).2.1] ⟨[(8,tP 8 0)],[(8,.cells [.i x3,.i ((CZ x0 (Z0g x2 x1)).X),.i ((CZ x0 (Z0g x2 x1)).Y),.i ((CZ x0 (Z0h x3 x2 x1)).X),.i ((CZ x0 (Z0h x3 x2 x1)).Y),.i x0.X,.i x0.Y] 136)]⟩ (.cons (KQ x0 (Z0g x2 x1)) (.cons (KQ x0 (Z0h x3 x2 x1)) .nil)) (.cons rfl (.cons rfl .nil))<|AH<|AZ ?_
 exact ⟨_,Cv.refl _,.inl rfl,.av (.agg [.i x3,.i ((CZ x0 (Z0g x2 x1)).X),.i ((CZ x0 (Z0g x2 x1)).Y),.i ((CZ x0 (Z0h x3 x2 x1)).X),.i ((CZ x0 (Z0h x3 x2 x1)).Y),.i x0.X,.i x0.Y]),by kernel_rfl,Ad (by rfl)⟩
theorem Dt (x0:AB) (x1:Int) (x2:Int) (x3:Int):Aq Tryz.prog (Bu x0 x1 x2 x3).1 (Bu x0 x1 x2 x3).2.1 (Bu x0 x1 x2 x3).2.2:=AR (fun _ _=>by kernel_rfl) fun _=>Wh x0 x1 x2 x3
def Rx (n:Int) (m:Int):Int:=Int.tmod (W64 ((Int.tmod n m)+m)) m
def XX (n:Int) (m:Int):FuncId×List Av×Ef:=(22,[.one (.i n),.one (.i m)],.val [] (.av (.one (.i (Rx n m)))))
theorem pMod (n:Int) (m:Int) (hm:m≠0):BH Tryz.prog 22 (XX n m).2.1 (tO (.i (Rx n m))):=by
 refine AO Tryz.func22 rfl kr kr fun W0 M0 => ?_
 refine AC<|rn ⟨[(0,tI n),(1,tI m)],[]⟩<|AC ?_
 refine rc [] [(m:Int)≠0,(m:Int)≠0] ⟨[(4,tI (Int.tmod (W64 ((Int.tmod n m)+m)) m))],[]⟩ .nil (.cons au14 (.cons au14 .nil))<|AH<|AZ ?_
 exact ⟨_,Cv.refl _,.inl rfl,tO (.i (Int.tmod (W64 ((Int.tmod n m)+m)) m)),by kernel_rfl,Ad (by rfl)⟩
theorem okMod (n:Int) (m:Int) (hm:m≠0):Aq Tryz.prog (XX n m).1 (XX n m).2.1 (XX n m).2.2:=AR (fun _ _=>by kernel_rfl) fun _=>pMod n m hm
def Ba (d:AD):Prop:=0<=d.At/\d.At<=d.L.length/\(d.L.length:Int)<=9223372036854775807
def AA (d:AD) (n:Int):(Int×AD):=bif decide ((((d.L.length:Int)):Int)<=d.At) then ((0,d)) else ((Rx (d.L.getD ((W64 ((W64 (d.At+1))-1)).toNat) default) n,AD.mk d.L (W64 (d.At+1))))
theorem au6 {p:Prop} (h:p:=by first | with_reducible assumption | omega | decide | (simp only [List.length_cons,List.length_nil,List.length_append];omega) | assumption):p:=h
theorem au0 {p:Prop} (h:p:=by first | decide | omega | exact K8 (by first | omega | (simp only [Ci];omega)) (by omega) | (simp only [Ci];omega) | (constructor <;> omega) | (simp only [List.length_append,List.length_cons,List.length_nil];omega) | (simp only [List.length_append,List.length_cons,List.length_nil,List.length_drop,List.length_take] at *;omega)):p:=h
theorem BJ  (d:AD) (n:Int) (hd:Ba d) (hn:n≠0):Wr Tryz.prog 48 1000 [.one (.ptr 1000 0),.one (.i n)] (.cells (AD.c d) 146) (tO (.i ((AA d n).1))) (.cells (AD.c ((AA d n).2)) 146):=by
 refine HI Tryz.func48 rfl kr kr kr kr fun W0 M0 X hX => ?_
 obtain ⟨a1,a2,a3⟩:=hd
 refine AC<|rn ⟨[(0,tP 1000 0),(1,tI n)],[(1000,.cells (AD.c d) 146)]⟩ ?_
 refine AC<|AC ?_
 refine dw [] [] [] ⟨[(0,tP 1000 0),(1,tI n),(14,tB (decide ((((d.L.length:Int)):Int)<=d.At)))],[(1000,.cells (AD.c d) 146)]⟩ .nil .nil<|AH ?_
 refine AY _ rfl (fun h1 => ?_) (fun h1 => ?_)
 ·have g1:=oT h1
  refine AC<|rn ⟨[(4,tI 0)],[(1000,.cells (AD.c d) 146)]⟩ ?_
  refine AZ<|A9 ?_
  exact ⟨_,Cv.refl _,.inl rfl,tO (.i 0),by kernel_rfl,⟨Ad (by first | (simp only [AA,h1,cond_true,cond_false] <;> rfl)),.cells (AD.c d) 146,by kernel_rfl,Dg (by first | (simp only [AA,h1,cond_true,cond_false];done) | (simp only [AA,h1,cond_true,cond_false];kernel_rfl))⟩⟩
 ·have g1:=oF h1
  refine Ae<|AH<|AC ?_
  refine rn ⟨[(0,tP 1000 0),(1,tI n)],[(1000,.cells [lst 1 (fun x=>[.i x]) d.L,.i (W64 (d.At+1))] 146)]⟩<|AC ?_
  refine dw [] [(34,XX (d.L.getD ((W64 ((W64 (d.At+1))-1)).toNat) default) n)] [0<=(W64 ((W64 (d.At+1))-1):Int)/\(W64 ((W64 (d.At+1))-1):Int)<((d.L.length:Nat):Int),Ap (XX (d.L.getD ((W64 ((W64 (d.At+1))-1)).toNat) default) n).2.1] ⟨[(4,tI (Rx (d.L.getD ((W64 ((W64 (d.At+1))-1)).toNat) default) n))],[(1000,.cells [lst 1 (fun x=>[.i x]) d.L,.i (W64 (d.At+1))] 146)]⟩ (.cons (okMod (d.L.getD ((W64 ((W64 (d.At+1))-1)).toNat) default) n au6) .nil) (.cons au0 (.cons rfl .nil))<|AH<|AZ ?_
  exact ⟨_,Cv.refl _,.inl rfl,tO (.i (Rx (d.L.getD ((W64 ((W64 (d.At+1))-1)).toNat) default) n)),by kernel_rfl,⟨Ad (by first | (simp only [AA,h1,cond_true,cond_false] <;> rfl)),.cells [lst 1 (fun x=>[.i x]) d.L,.i (W64 (d.At+1))] 146,by kernel_rfl,Dg (by first | (simp only [AA,h1,cond_true,cond_false];done) | (simp only [AA,h1,cond_true,cond_false];kernel_rfl))⟩⟩
theorem CX {l:List Int} (h:(l.length:Int)<=9223372036854775807):Ba (AD.mk l 0):=⟨Int.le_refl _,by show (0:Int)<=(l.length:Int);omega,h⟩
theorem BI {d:AD} {n:Int} (h:Ba d):Ba (AA d n).2:=by
 obtain ⟨h1,h2,h3⟩:=h
 unfold AA
 by_cases hc:(d.L.length:Int)<=d.At
 ·simp only [hc,decide_true,cond_true];exact ⟨h1,h2,h3⟩
 ·simp only [hc,decide_false,cond_false]
  rw [Al (by omega) (by omega)]
  exact ⟨by show 0<=d.At+1;omega,by show d.At+1<=(d.L.length:Int);omega,h3⟩
theorem mod_b (n m:Int) (h0:0<m) (h1:m<=4611686018427387904):0<=Rx n m/\Rx n m<m:=by
 have e:Rx n m=n % m:=by
  unfold Rx W64
  rcases Int.lt_or_le n 0 with h | h
  ·have b1:=Int.emod_nonneg (-n) (show m≠0 by omega)
   have b2:=Int.emod_lt_of_pos (-n) h0
   rw [show n.tmod m = -((-n) % m) by rw [<- Int.tmod_eq_emod_of_nonneg (by omega),Int.neg_tmod,Int.neg_neg]]
   rw [IntKind.wrap_i64]
   rw [show (-((-n) % m)+m+9223372036854775808) % 18446744073709551616-9223372036854775808 = -((-n) % m)+m by omega]
   rw [Int.tmod_eq_emod_of_nonneg (by omega)]
   have e1:=Int.emod_add_mul_ediv (-n) m
   have e2 : -((-n) % m)+m=n+m*((-n)/m+1):=by grind
   rw [e2,Int.add_mul_emod_self_left]
  ·have b1:=Int.emod_nonneg n (show m≠0 by omega)
   have b2:=Int.emod_lt_of_pos n h0
   rw [Int.tmod_eq_emod_of_nonneg h,IntKind.wrap_i64]
   rw [show (n % m+m+9223372036854775808) % 18446744073709551616-9223372036854775808=n % m+m by omega]
   rw [Int.tmod_eq_emod_of_nonneg (by omega),Int.add_emod_right,Int.emod_emod_of_dvd _ (Int.dvd_refl m)]
 rw [e]
 exact ⟨Int.emod_nonneg n (by omega),Int.emod_lt_of_pos n h0⟩
theorem Cx (d:AD) (n:Int) (h0:0<n) (h1:n<=4611686018427387904):0<=(AA d n).1/\(AA d n).1<n:=by
 unfold AA
 by_cases hc:(d.L.length:Int)<=d.At
 ·simp only [hc,decide_true,cond_true];omega
 ·simp only [hc,decide_false,cond_false]
  exact mod_b _ n h0 h1
theorem RS {v a:Int} {d:AD} {n:Int} (h:v<W64 (a+(AA d n).1)) (h0:0<n) (h1:n<=1000000) (ha:0<=a) (hb:a<=1000000):v<a+n:=by
 have:=Cx d n h0 (by omega)
 rw [Al (by omega) (by omega)] at h
 omega
theorem Rc {v a:Int} {d:AD} {n:Int} (h:¬ v<W64 (a+(AA d n).1)) (h0:0<n) (h1:n<=1000000) (ha:0<=a) (hb:a<=1000000):W64 (a+(AA d n).1)<a+n:=by
 have:=Cx d n h0 (by omega)
 rw [Al (by omega) (by omega)]
 omega
theorem Rq {p q:Prop} [Decidable p] [Decidable q] (h:(bif decide p then decide q else false)=true):p/\q:=by
 by_cases hp:p
 ·rw [decide_eq_true hp] at h;exact ⟨hp,of_decide_eq_true h⟩
 ·rw [decide_eq_false hp] at h;cases h
theorem Ce {c:Bool} {a b:AD} (ha:Ba a) (hb:Ba b):Ba (bif c then a else b):=by cases c <;> assumption
theorem JG (d:AD) (n k:Int) (h0:0<n) (h1:n<=4611686018427387904) (h2:n<=k):0<=(AA d n).1/\(AA d n).1<k:=⟨(Cx d n h0 h1).1,by have:=(Cx d n h0 h1).2;omega⟩
end
end Go.Proofs.YtdbampcfmjbgmaaGreat
