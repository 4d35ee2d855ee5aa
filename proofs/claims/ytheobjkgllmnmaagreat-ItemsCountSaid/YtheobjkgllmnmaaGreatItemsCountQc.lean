/-
  No statement is proved in this text. It holds a part of what the proof of ItemsCount needs.
-/
import Derived.Test.YtheobjkgllmnmaaGreatItemsCountQb
namespace Go.Proofs.YtheobjkgllmnmaaGreat
set_option maxRecDepth 100000
set_option linter.unusedVariables false
set_option linter.unusedSimpArgs false
section
open Go.RowKit
section
variable {P:Program}
def Fr (P:Program) (f:FuncId) (xs:List Av) (b:Blk) (v:Nat->Tv):Prop:=∀ (M:Nat->Option Obj) (σ:Nat->Loc) (w:World) (args:List Value),(∀ b o,M b=some o->w.heap[b]? = some o)->L2 (RA M σ) xs args ->
 Calls P f args.toArray w fun en w'=>∃ U,en=.returned U/\∃ M' x,GL w w' M M' O5/\(x.nil=true\/(w.heap.size<=x.b/\M' x.b=none))/\(∀ σ',Bj M' σ' w' x b)/\∀ (σ':Nat->Loc) d,σ' d=x->RT M' σ' (v d) U
theorem Dv {f:FuncId} {xs:List Av} {b:Blk} {v:Nat->Tv} (h1:∀ args w,(callFunc f args).run P w=.ok (.enter f args) w) (h:Fr P f xs b v):Az P f xs (.new [] b v):=by
 refine .inl ⟨h1,fun M σ w h' args cs' g hs hargs hr hc => ?_⟩
 simp only [res,Option.some.injEq,Prod.mk.injEq] at hr
 obtain ⟨rfl,rfl⟩:=hr
 refine (h M σ w args hs.imm hargs).mono ?_
 rintro en w' ⟨U,hU,M',x,hk,hx,hb,hR⟩
 refine ⟨U,hU,fun dst ⟨d,hd,hno⟩=>⟨M',upd σ d x,x,d,hd,hk,hx,rfl,hb _,hR _ _ (BK _ _ _)⟩⟩
def OwnV (v:Nat->Tv):Prop:=∀ (M:Nat->Option Obj) (σ σ':Nat->Loc) (n d:Nat) (U:Value),σ' d=σ n->RT M σ (v n) U->RT M σ' (v d) U
theorem Ek (sz len:Nat):OwnV fun d=>.av (.one (.own d sz len)):=fun M σ σ' n d U h hR=>by
 have hR:R M σ (.own n sz len) U:=hR
 show R M σ' (.own d sz len) U
 simp only [R] at *
 rw [h];exact hR
theorem EC {f:FuncId} {fn:Func} {c:Code} (hf:P.funcs[f]? = some fn) (hb:fn.body=some c) {xs:List Av} {sz len:Nat} {g:Nat->Nat->Cl} {ty:TypeId} {v:Nat->Tv} (hN:Nat.ble xs.length fn.ntmps=true) (hv:OwnV v)
  (h:∀ (W0:World) (M0:Nat->Option Obj),AWp P none fn.ntmps W0 noX M0 c (Yx P fn.ntmps W0 noX M0 fn fun r' s'=>∃ n,TvE r' (v n)/\∃ b,get s'.h n=some b/\Hj b (.row sz len g ty)) ⟨D5 0 xs,[]⟩):Fr P f xs (.row sz len g ty) v:=by
 intro M σ w args himm hargs
 refine ET (X:=noX) (σ:=σ) (h0:=[]) hf hb (Nat.le_of_ble_eq_true hN) himm hargs (fun n b h=>by cases h) (fun n b h=>by cases h) (fun n x h=>by cases h) (fun n m b c h=>by cases h) (DH (h w M)) ?_
 rintro r' s' M' σ' a' w' U ⟨n,he,b,hb1,hbe⟩ hs hR
 have hbk:=I2 hbe (hs.blk n _ hb1)
 refine ⟨U,rfl,M',σ' n,⟨hs.os,hs.tape,hs.output,hs.size,fun b hb _=>hs.old b hb (EY b),hs.sub,hs.new,hs.imm⟩,?_,fun σ'' => ?_,fun σ'' d hd=>hv M' σ' σ'' n d U hd (LC he hR)⟩
 ·rcases hs.loc n _ hb1 with h1 | ⟨h1,h2 | h2⟩
  ·exact .inl h1
  ·exact .inr ⟨h2,h1⟩
  ·exact absurd h2 (EY _)
 ·exact hbk
theorem frE {α:Type} [Inhabited α] {c:α->List Cl} {sz n:Nat} {ty:TypeId} {xs ys:List α} {s':AS} (h:xs=ys) (hg:get s'.h n=some (.row sz xs.length (AP c xs) ty)) :
  ∃ m,TvE (.av (.one (.own n sz xs.length))) (.av (.one (.own m sz ys.length)))/\∃ b,get s'.h m=some b/\Hj b (.row sz ys.length (AP c ys) ty):=by subst h;exact ⟨n,.refl _,_,hg,.refl _⟩
theorem V5 {f:FuncId} {sz len:Nat} {F:Nat->Nat->Cl} {b:Blk} {v:Nat->Tv} (h0:len=0->Fr P f [.one (.val (.slice none 0 0))] b v) (h1:Fr P f [.one (.list true sz len F)] b v) (hsz:sz≠0:=by decide):Fr P f [.one (.list false sz len F)] b v:=by
 intro M σ w args himm hargs
 cases hargs with
 | cons ha ht =>
  cases ht with
  | nil =>
   have ha:RC M (.list false sz len F) _:=ha
   cases ha with
   | nil=>exact h0 rfl M σ w _ himm (.cons ⟨rfl,rfl⟩ .nil)
   | mt _ _ _ a cap=>exact h1 M σ w _ himm (.cons (RC.mt true sz F a cap (fun _ h=>absurd h hsz)) .nil)
   | list _ _ _ _ b off cap g e1 e2 e3=>exact h1 M σ w _ himm (.cons (RC.list true sz len F b off cap g e1 e2 e3 (fun _ h=>absurd h hsz)) .nil)
end
end
section
open Go.RowKit Go.MapKept
section
variable {K V:Type} [Inhabited K] [Inhabited V]
def kfG (ck:K->Value) (l:List (K×V)):Nat->Value:=fun i=>ck (l.getD i default).1
def vfG (c:V->List Cl) (l:List (K×V)):Nat->Nat->Cl:=fun i j=>(c (l.getD i default).2).getD j default
def Do (eq:K->K->Bool) (l:List (K×V)) (k:K):Bool:=l.any fun e=>eq e.1 k
def Cg (eq:K->K->Bool) (l:List (K×V)) (k:K):Nat:=l.findIdx fun e=>eq e.1 k
def Ic (eq:K->K->Bool) (l:List (K×V)) (k:K) (v:V):List (K×V):=bif Do eq l k then l.set (Cg eq l k) (k,v) else l++[(k,v)]
theorem Tn {eq:K->K->Bool} {l:List (K×V)} {k:K} (h:Do eq l k=true):Cg eq l k<l.length/\eq (l.getD (Cg eq l k) default).1 k=true/\∀ j,j<Cg eq l k->eq (l.getD j default).1 k=false:=by
 unfold Do at h
 obtain ⟨x,hx,hxk⟩:=List.any_eq_true.1 h
 have hlt:l.findIdx (fun e=>eq e.1 k)<l.length:=List.findIdx_lt_length.2 ⟨x,hx,hxk⟩
 refine ⟨hlt,?_,fun j hj => ?_⟩
 ·have:=List.findIdx_getElem (w:=hlt)
  unfold Cg
  rw [List.getD_eq_getElem?_getD,List.getElem?_eq_getElem hlt]
  exact this
 ·have:=List.not_of_lt_findIdx hj
  have hj':j<l.length:=Nat.lt_trans hj hlt
  rw [List.getD_eq_getElem?_getD,List.getElem?_eq_getElem hj']
  exact this
theorem iG {eq:K->K->Bool} {l:List (K×V)} {k:K} (h:Do eq l k=false):∀ j,j<l.length->eq (l.getD j default).1 k=false:=by
 intro j hj
 unfold Do at h
 have:=(List.any_eq_false.1 h) l[j] (List.getElem_mem hj)
 rw [List.getD_eq_getElem?_getD,List.getElem?_eq_getElem hj]
 simpa using this
theorem Tz {P:Program} {E:TypeId->Option (List Kd)} {kt:TypeId} {ck:K->Value} {eq:K->K->Bool} (heq:∀ a b,eq a b=true↔ck a=ck b) (hfit:∀ k,FE P E kt (ck k)) (l:List (K×V)) (k:K) :
  UZ P E kt l.length (kfG ck l) (ck k) (Do eq l k) (Cg eq l k):=by
 refine ⟨hfit k,fun j _=>hfit _,fun h => ?_,fun h j hj => ?_⟩
 ·obtain ⟨h1,h2,h3⟩:=Tn h
  refine ⟨h1,(heq _ _).1 h2,fun j hj e => ?_⟩
  have:=(heq _ _).2 e
  rw [h3 j hj] at this
  cases this
 ·intro e
  have:=(heq _ _).2 e
  rw [iG h j hj] at this
  cases this
omit [Inhabited K] [Inhabited V] in
theorem Ti (eq:K->K->Bool) (l:List (K×V)) (k:K) (v:V):(bif Do eq l k then l.length else l.length+1)=(Ic eq l k v).length:=by
 unfold Ic
 cases Do eq l k <;> simp
theorem Tj {eq:K->K->Bool} {l:List (K×V)} {k:K} {v:V} (j:Nat) (hj:j<(Ic eq l k v).length):(Ic eq l k v).getD j default=bif Nat.beq j (bif Do eq l k then Cg eq l k else l.length) then (k,v) else l.getD j default:=by
 rw [<- Ti] at hj
 unfold Ic
 cases h:Do eq l k with
 | true =>
  rw [h] at hj
  simp only [cond_true] at *
  have hlt:=(Tn h).1
  rw [List.getD_eq_getElem?_getD,List.getElem?_set,CT]
  by_cases e:Cg eq l k=j
  ·subst e;simp [hlt]
  ·rw [if_neg e,decide_eq_false (Ne.symm e),cond_false,List.getD_eq_getElem?_getD]
 | false =>
  rw [h] at hj
  simp only [cond_false] at *
  rw [List.getD_eq_getElem?_getD,CT]
  by_cases e:j=l.length
  ·subst e
   rw [decide_eq_true rfl,cond_true,List.getElem?_append_right (Nat.le_refl _),Nat.sub_self]
   rfl
  ·rw [decide_eq_false e,cond_false,List.getElem?_append_left (by omega),List.getD_eq_getElem?_getD]
theorem dE {ck:K->Value} {cv:V->List Cl} {eq:K->K->Bool} {agg:Bool} {nv:Nat} (l:List (K×V)) (k:K) (v:V) (cells:List Cl) (hc:cells=cv v) :
  Hj (.omap agg nv (bif Do eq l k then l.length else l.length+1) (fun j=>bif Nat.beq j (bif Do eq l k then Cg eq l k else l.length) then ck k else kfG ck l j) (fun j c=>bif Nat.beq j (bif Do eq l k then Cg eq l k else l.length) then cells.getD c default else vfG cv l j c))
   (.omap agg nv (Ic eq l k v).length (kfG ck (Ic eq l k v)) (vfG cv (Ic eq l k v))):=by
 subst hc
 refine .omap agg nv (Ti eq l k v) (fun j hj => ?_) (fun j c hj _ => ?_)
 ·unfold kfG
  rw [Tj j hj]
  cases Nat.beq j (bif Do eq l k then Cg eq l k else l.length) <;> rfl
 ·have:(bif Nat.beq j (bif Do eq l k then Cg eq l k else l.length) then (cv v).getD c default else vfG cv l j c)=vfG cv (Ic eq l k v) j c:=by
   unfold vfG
   rw [Tj j hj]
   cases Nat.beq j (bif Do eq l k then Cg eq l k else l.length) <;> rfl
  rw [this]
  exact .refl _
theorem dF {ck:K->Value} {cv:V->List Cl} {agg:Bool} {nv:Nat}:Hj (.omap agg nv 0 (fun _=>undef) (fun _ _=>default)) (.omap agg nv ([]:List (K×V)).length (kfG ck ([]:List (K×V))) (vfG cv ([]:List (K×V)))) :=
 .omap agg nv rfl (fun j hj=>absurd hj (Nat.not_lt_zero _)) (fun j c hj _=>absurd hj (Nat.not_lt_zero _))
end
def eqS (a b:ByteArray):Bool:=a.toList==b.toList
theorem WC (a b:ByteArray):eqS a b=true↔Value.string a=Value.string b:=by
 unfold eqS
 rw [beq_iff_eq,Value.string.injEq]
 exact ⟨dI,fun h=>by rw [h]⟩
end
section
open Go.RowKit Go.MapKept
section
variable {P:Program}
def Wr2 (P:Program) (f:FuncId) (K L:Nat) (xs:List Av) (b0 d0:Blk) (r:Tv) (b1 d1:Blk):Prop:=∀ (M:Nat->Option Obj) (σ:Nat->Loc) (w:World) (args:List Value),(∀ b o,M b=some o->w.heap[b]? = some o) ->
 (Bj M σ w (σ K) b0/\(σ K).nil=false/\M (σ K).b=none)->(Bj M σ w (σ L) d0/\(σ L).nil=false/\M (σ L).b=none)->(σ K).b≠(σ L).b->L2 (RA M σ) xs args ->
 Calls P f args.toArray w fun en w'=>∃ U,en=.returned U/\∃ M',GL w w' M M' (fun b=>only (σ K) b\/only (σ L) b)/\(∀ σ',RT M' σ' r U)/\(∀ σ',Bj M' σ' w' (σ K) b1)/\∀ σ',Bj M' σ' w' (σ L) d1
theorem Oe {f:FuncId} {fn:Func} {c:Code} (hf:P.funcs[f]? = some fn) (hb:fn.body=some c) {K L:Nat} {xs:List Av} {b0 d0 b1 d1:Blk} {r:Tv} (hN:Nat.ble xs.length fn.ntmps=true) (hK:Nat.ble fn.ntmps K=true) (hL:Nat.ble fn.ntmps L=true) (hKL:Nat.beq K L=false) (hd:r.dv=true) (hd1:KT b1=true) (hd2:KT d1=true)
  (h:∀ (W0:World) (M0:Nat->Option Obj) (X:Nat->Option Loc),(∀ k x,X k=some x->A2 [K,L] k=true)->AWp P none fn.ntmps W0 X M0 c (Yx P fn.ntmps W0 X M0 fn fun r' s'=>TvE r' r/\(∃ b,get s'.h K=some b/\Hj b b1)/\∃ b,get s'.h L=some b/\Hj b d1) ⟨D5 0 xs,[(K,b0),(L,d0)]⟩):Wr2 P f K L xs b0 d0 r b1 d1:=by
 intro M σ w args himm ⟨hblk,hnil,hM⟩ ⟨hblk2,hnil2,hM2⟩ hbne hargs
 have hne:K≠L:=fun e=>by rw [e,Nat.beq_refl] at hKL;cases hKL
 let X:Nat->Option Loc:=upd (upd noX K (some (σ K))) L (some (σ L))
 have hXL:X L=some (σ L):=BK _ _ _
 have hXK:X K=some (σ K):=by
  show upd _ L _ K=_
  rw [CN _ _ hne];exact BK _ _ _
 have one:∀ n b,get [(K,b0),(L,d0)] n=some b->(n=K/\b=b0)\/(n=L/\b=d0):=fun n b hn=>by
  simp only [get,CT] at hn
  by_cases hk:K=n
  ·simp [hk] at hn;exact .inl ⟨hk.symm,hn.symm⟩
  ·by_cases hl:L=n
   ·simp [hk,hl] at hn;exact .inr ⟨hl.symm,hn.symm⟩
   ·simp [hk,hl] at hn
 have pins:∀ n x,X n=some x->(n=K/\x=σ K)\/(n=L/\x=σ L):=fun n x hx=>by
  by_cases hl:n=L
  ·subst hl;rw [hXL] at hx;injection hx with hx;exact .inr ⟨rfl,hx.symm⟩
  ·by_cases hk:n=K
   ·subst hk;rw [hXK] at hx;injection hx with hx;exact .inl ⟨rfl,hx.symm⟩
   ·simp only [X] at hx;rw [CN _ _ hl,CN _ _ hk] at hx;cases hx
 have hXm:∀ k x,X k=some x->A2 [K,L] k=true:=fun k x hk=>by
  rcases pins k x hk with ⟨rfl,_⟩ | ⟨rfl,_⟩
  ·unfold A2;rw [Nat.beq_refl];rfl
  ·unfold A2;rw [hKL];exact LW _
 refine ET (X:=X) (σ:=σ) (h0:=[(K,b0),(L,d0)]) hf hb (Nat.le_of_ble_eq_true hN) himm hargs (fun n b hn => ?_) (fun n b hn => ?_) (fun n x hx => ?_) (fun n m b c hn hm hnm => ?_) (DH (h w M X hXm)) ?_
 ·rcases one n b hn with ⟨rfl,rfl⟩ | ⟨rfl,rfl⟩
  ·exact hblk
  ·exact hblk2
 ·rcases one n b hn with ⟨rfl,rfl⟩ | ⟨rfl,rfl⟩
  ·exact .inr ⟨hM,n,σ n,hXK,rfl⟩
  ·exact .inr ⟨hM2,n,σ n,hXL,rfl⟩
 ·rcases pins n x hx with ⟨rfl,rfl⟩ | ⟨rfl,rfl⟩
  ·exact ⟨Nat.le_of_ble_eq_true hK,rfl⟩
  ·exact ⟨Nat.le_of_ble_eq_true hL,rfl⟩
 ·rcases one n b hn with ⟨rfl,rfl⟩ | ⟨rfl,rfl⟩ <;> rcases one m c hm with ⟨rfl,rfl⟩ | ⟨rfl,rfl⟩
  ·exact absurd rfl hnm
  ·exact .inr (.inr hbne)
  ·exact .inr (.inr fun e=>hbne e.symm)
  ·exact absurd rfl hnm
 ·rintro r' s' M' σ' a' w' U ⟨he,⟨b,hb1,hbe⟩,e,he1,hee⟩ hs hR
  have hpin:=(hs.pin K _ hXK).2
  have hbk:=hs.blk K _ hb1
  rw [hpin] at hbk
  have hpin2:=(hs.pin L _ hXL).2
  have hbk2:=hs.blk L _ he1
  rw [hpin2] at hbk2
  refine ⟨U,rfl,M',⟨hs.os,hs.tape,hs.output,hs.size,fun b hb hne=>hs.old b hb ?_,hs.sub,hs.new,hs.imm⟩,fun σ''=>G4 hd (LC he hR),fun σ''=>Fq hd1 (I2 hbe hbk),fun σ''=>Fq hd2 (I2 hee hbk2)⟩
  rintro ⟨n,x,hx,rfl⟩
  rcases pins n x hx with ⟨rfl,rfl⟩ | ⟨rfl,rfl⟩
  ·exact hne (.inl ⟨hnil,rfl⟩)
  ·exact hne (.inr ⟨hnil2,rfl⟩)
def FM (K n L m:Nat):Av->Av
 | .one (.ptr q off)=>.one (.ptr (bif Nat.beq q K then n else bif Nat.beq q L then m else q) off)
 | x=>x
def Oo (K L:Nat):Av->Bool
 | .one (.ptr q _)=>bif Nat.beq q K then true else Nat.beq q L
 | x=>x.dv
def qH (n m:Nat) (b0 d0:Blk) (r:Tv) (b1 d1:Blk):Ef:=.wrs [n,m] [] fun bs _=>some ([bs=[b0,d0]],r,[b1,d1])
theorem QX {w w':World} {M M':Nat->Option Obj} {p q:Nat->Prop} (h:GL w w' M M' p) (hp:∀ b,p b->q b):GL w w' M M' q :=
 ⟨h.os,h.tape,h.output,h.size,fun b hb hn=>h.old b hb fun h1=>hn (hp b h1),h.sub,h.new,h.imm⟩
theorem WJ {f:FuncId} {K L n m:Nat} {xs:List Av} {b0 d0 b1 d1:Blk} {r:Tv} (h1:∀ args w,(callFunc f args).run P w=.ok (.enter f args) w) (hx:xs.all (Oo K L)=true) (hKL:Nat.beq K L=false) (hnm:Nat.beq n m=false) (hd0:KT b0=true) (hd2:KT d0=true) (h:Wr2 P f K L xs b0 d0 r b1 d1):Az P f (xs.map (FM K n L m)) (qH n m b0 d0 r b1 d1):=by
 have hne:K≠L:=fun e=>by rw [e,Nat.beq_refl] at hKL;cases hKL
 have hnm':n≠m:=fun e=>by rw [e,Nat.beq_refl] at hnm;cases hnm
 refine .inl ⟨h1,fun M σ w hh args cs' g hs hargs hres hc => ?_⟩
 simp only [qH,res,Hf] at hres
 cases hn:hh n with
 | none=>rw [hn] at hres;cases hres
 | some b =>
  cases hm:hh m with
  | none=>rw [hn,hm] at hres;cases hres
  | some d =>
   rw [hn,hm] at hres
   simp only [List.length_cons,List.length_nil,Nat.beq_refl,Option.some.injEq,Prod.mk.injEq] at hres
   obtain ⟨rfl,rfl⟩:=hres
   have hbd:=hc.head
   injection hbd with e1 e2
   injection e2 with e2 _
   subst e1;subst e2
   have hblk:=hs.blk n _ hn
   have hblk2:=hs.blk m _ hm
   have nilOf:∀ {q:Nat} {bq:Blk},KT bq=true->Bj M σ w (σ q) bq->(σ q).nil=false:=fun {q bq} hd hb=>by
    cases bq with
    | row=>cases hd
    | omap=>cases hd
    | rowx=>cases hd
    | cells l ty=>exact hb.1
   have hnil:=nilOf hd0 hblk
   have hnil2:=nilOf hd2 hblk2
   have hM:M (σ n).b=none:=by
    rcases hs.loc n _ hn with h | h
    ·rw [hnil] at h;cases h
    ·exact h
   have hM2:M (σ m).b=none:=by
    rcases hs.loc m _ hm with h | h
    ·rw [hnil2] at h;cases h
    ·exact h
   have hbne:(σ n).b≠(σ m).b:=by
    rcases hs.inj n m _ _ hn hm hnm' with h | h | h
    ·rw [hnil] at h;cases h
    ·rw [hnil2] at h;cases h
    ·exact h
   let σ2:Nat->Loc:=upd (upd σ K (σ n)) L (σ m)
   have hL:σ2 L=σ m:=BK _ _ _
   have hK:σ2 K=σ n:=by
    show upd _ L _ K=_
    rw [CN _ _ hne];exact BK _ _ _
   have hargs2:L2 (RA M σ2) xs args:=by
    refine L2.of (by have:=hargs.length;simpa using this) fun i x V hxi hV => ?_
    obtain ⟨V',hV',hR⟩:=hargs.get i (FM K n L m x) (by rw [List.getElem?_map,hxi];rfl)
    rw [hV] at hV';injection hV' with hV';subst hV'
    have hok:=(List.all_eq_true.1 hx) x (List.mem_of_getElem? hxi)
    unfold Oo at hok
    split at hok
    ·rename_i q off
     by_cases hq:q=K
     ·subst hq
      simp only [FM,Nat.beq_refl,cond_true] at hR
      have hR':V=.pointer (some ⟨(σ n).b,off,none⟩):=hR
      show V=.pointer (some ⟨(σ2 q).b,off,none⟩)
      rw [hK];exact hR'
     ·have hqb:Nat.beq q K=false:=by
       cases hb:Nat.beq q K with
       | false=>rfl
       | true=>exact absurd (Nat.eq_of_beq_eq_true hb) hq
      rw [hqb] at hok
      have:=Nat.eq_of_beq_eq_true hok
      subst this
      simp only [FM,hqb,Nat.beq_refl,cond_true,cond_false] at hR
      have hR':V=.pointer (some ⟨(σ m).b,off,none⟩):=hR
      show V=.pointer (some ⟨(σ2 q).b,off,none⟩)
      rw [hL];exact hR'
    ·rename_i hnp
     have:FM K n L m x=x:=by
      unfold FM
      split
      ·rename_i q off;exact (hnp q off rfl).elim
      ·rfl
     rw [this] at hR
     exact G4 (σ':=σ2) (r:=.av x) hok hR
   refine (h M σ2 w args hs.imm (by rw [hK];exact ⟨Fq hd0 hblk,hnil,hM⟩) (by rw [hL];exact ⟨Fq hd2 hblk2,hnil2,hM2⟩) (by rw [hK,hL];exact hbne) hargs2).mono ?_
   rintro en w' ⟨U,hU,M',hk,hR,hb,hb2⟩
   rw [hK,hL] at hk
   have g1:get ([n,m].zip [b1,d1]) n=some b1:=by simp [get,CT]
   have g2:get ([n,m].zip [b1,d1]) m=some d1:=by simp [get,CT,hnm']
   refine ⟨U,hU,fun dst _=>⟨M',σ,QX hk fun b hb => ?_,rfl,hR σ,fun q bq hq => ?_⟩⟩
   ·rcases hb with h | h
    ·exact ⟨n,by rw [g1];rfl,h⟩
    ·exact ⟨m,by rw [g2];rfl,h⟩
   ·have h1:=hb σ
    have h2:=hb2 σ
    rw [hK] at h1
    rw [hL] at h2
    by_cases e:q=n
    ·subst e;rw [g1] at hq;injection hq with hq;subst hq;exact h1
    ·by_cases e2:q=m
     ·subst e2;rw [g2] at hq;injection hq with hq;subst hq;exact h2
     ·simp [get,CT,Ne.symm e,Ne.symm e2] at hq
end
end
section
open Go.RowKit Go.MapKept
section
variable {P:Program} {rd:Option Nat} {N:Nat} {W0:World} {X:Nat→Option Loc} {M0:Nat→Option Obj} {Q:Exit→AS→Prop} {s:AS}
theorem UU {c:Code} (b:Bool) (h1:b=true->AWp P rd N W0 X M0 c Q s) (h2:b=false->AWp P rd N W0 X M0 c Q s):AWp P rd N W0 X M0 c Q s:=by
 cases hb:b with
 | true=>exact h1 hb
 | false=>exact h2 hb
def AWL (P:Program) (rd:Option Nat) (N:Nat) (W0:World) (X:Nat->Option Loc) (M0:Nat->Option Obj) (ops:Array Oper) (l:List Oper) (K:AS->Prop) (s:AS):Prop :=
 ∀ M σ a w,Sim N W0 X M0 M σ (get s.t) (get s.h) a w->∀ Q':Exit->Act->World->Prop,(∀ s' M' σ' a' w',K s'->Sim N W0 X M0 M' σ' (get s'.t) (get s'.h) a' w'->Q' .normal a' w')->wpListIn (FW rd) 0 P ops Q' l a w
theorem EU {id:Nat} {l:List Oper} (h:AWL P rd N W0 X M0 l.toArray l (Q .normal) s):AWp P rd N W0 X M0 (.region id l.toArray false) Q s:=by
 intro M σ a w hs
 exact wpIn_region_lit (h M σ a w hs _ fun s' M' σ' a' w' hk hs'=>⟨s',M',σ',hk,hs'⟩)
theorem Om {V:Env P} (hV:JB P V) {ops:Array Oper} {Q':Exit->Act->World->Prop} (l2:List Oper):∀ (l:List Oper) (s s1:AS) (cs:List Prop),LN P V N ops l s=some (cs,s1)->B2 cs->∀ M σ a w,Sim N W0 X M0 M σ (get s.t) (get s.h) a w->(∀ M' σ' a' w',Sim N W0 X M0 M' σ' (get s1.t) (get s1.h) a' w'->wpListIn (FW rd) 0 P ops Q' l2 a' w')->wpListIn (FW rd) 0 P ops Q' (l++l2) a w
 | [],s,s1,cs,hr,hc,M,σ,a,w,hs,hK=>by
  simp only [LN,Option.some.injEq,Prod.mk.injEq] at hr
  obtain ⟨_,rfl⟩:=hr
  exact hK M σ a w hs
 | o::l,s,s1,cs,hr,hc,M,σ,a,w,hs,hK=>by
  simp only [LN] at hr
  split at hr
  ·rename_i cs1 s2 h1
   split at hr
   ·rename_i ds s3 h2
    simp only [Option.some.injEq,Prod.mk.injEq] at hr
    obtain ⟨rfl,rfl⟩:=hr
    obtain ⟨hc1,hc2⟩:=hc.append
    refine wpListIn_step fun K hK' => ?_
    refine Oi hV h1 hc1 hs (fun _ _=>rfl) (fun _ _=>rfl) (fun hn d hd=>Og h1 hn hd) fun M' σ' a' w' hs'=>hK' _ _ (Om hV l2 l s2 s3 ds h2 hc2 M' σ' a' w' ?_ hK)
    rw [(EP h1).1,(EP h1).2]
    exact hs'
   ·cases hr
  ·cases hr
def QH (P:Program) (V:Env P) (N:Nat) (ops:Array Oper) (l:List Oper) (ts hs:List Nat) (s:AS):Option (List Prop×AS):=match LN P V N ops l s with
 | some (cs,s1)=>some (cs,NY ts hs s1)
 | none=>none
theorem HM {E:TypeId->Option (List Kd)} (hE:IC P ⟨fun _=>none,E,fun _=>false,fun _=>none⟩) {ops:Array Oper} {l:List Oper} {K:AS->Prop} (k:Nat) (ow:List Nat) (qs:List (Nat×(Bool×Nat))) (tbl:List (Nat×FuncId×List Av×Ef)) (ts ns:List Nat) (cs:List Prop) (S:AS) (htbl:GP P tbl)
  (hr:QH P ⟨ER tbl,E,A2 ow,get qs⟩ N ops (l.take k) ts ns s=some (cs,S)) (hc:B2 cs) (h:AWL P rd N W0 X M0 ops (l.drop k) K S):AWL P rd N W0 X M0 ops l K s:=by
 have hV:=htbl.env (O:=A2 ow) (q:=get qs) hE
 intro M σ a w hs Q' hQ'
 unfold QH at hr
 split at hr
 ·rename_i cs1 s1 h1
  simp only [Option.some.injEq,Prod.mk.injEq] at hr
  obtain ⟨rfl,rfl⟩:=hr
  have key:=Om (Q':=Q') (rd:=rd) hV (l.drop k) (l.take k) s s1 cs1 h1 hc M σ a w hs fun M' σ' a' w' hs'=>h M' σ' a' w' (D8 hs' ts ns) Q' hQ'
  rw [List.take_append_drop] at key
  exact key
 ·cases hr
theorem F6 {E:TypeId->Option (List Kd)} (hE:IC P ⟨fun _=>none,E,fun _=>false,fun _=>none⟩) {ops:Array Oper} {l:List Oper} {K:AS->Prop} (ow:List Nat) (qs:List (Nat×(Bool×Nat))) (tbl:List (Nat×FuncId×List Av×Ef)) (ts ns:List Nat) (cs:List Prop) (S:AS) (htbl:GP P tbl)
  (hr:QH P ⟨ER tbl,E,A2 ow,get qs⟩ N ops l ts ns s=some (cs,S)) (hc:B2 cs) (h:K S):AWL P rd N W0 X M0 ops l K s:=by
 have hV:=htbl.env (O:=A2 ow) (q:=get qs) hE
 intro M σ a w hs Q' hQ'
 unfold QH at hr
 split at hr
 ·rename_i cs1 s1 h1
  simp only [Option.some.injEq,Prod.mk.injEq] at hr
  obtain ⟨rfl,rfl⟩:=hr
  exact N1 (Q':=Q') (rd:=rd) hV l s s1 cs1 h1 hc M σ a w hs fun M' σ' a' w' hs'=>hQ' _ M' σ' a' w' h (D8 hs' ts ns)
 ·cases hr
theorem cQ (n:Nat) (b b':Blk) (hn:get s.h n=some b) (hb:∀ M σ w x,Bj M σ w x b->Bj M σ w x b'):Cv N W0 X M0 s ⟨s.t,put s.h n b'⟩:=by
 intro M σ a w hs
 have hk:∀ m c,get (put s.h n b') m=some c->∃ b0,get s.h m=some b0/\(Bj M σ w (σ m) b0->Bj M σ w (σ m) c):=fun m c hm=>by
  rw [Ig] at hm
  split at hm
  ·rename_i e
   subst e
   injection hm with hm
   subst hm
   exact ⟨b,hn,hb M σ w _⟩
  ·exact ⟨c,hm,id⟩
 refine ⟨M,σ,hs.os,hs.tape,hs.output,hs.size,hs.old,hs.sub,hs.new,hs.pin,hs.defers,hs.room,hs.tmps,hs.imm,fun m c hm => ?_,fun m c hm => ?_,fun m k c c' hm hk' hne => ?_⟩
 ·obtain ⟨b0,e1,e2⟩:=hk m c hm;exact e2 (hs.blk m b0 e1)
 ·obtain ⟨b0,e1,_⟩:=hk m c hm;exact hs.loc m b0 e1
 ·obtain ⟨b0,e1,_⟩:=hk m c hm;obtain ⟨b0',e1',_⟩:=hk k c' hk';exact hs.inj m k b0 b0' e1 e1' hne
def Qp:Nat->List (List Cl)->List (Nat×List Cl)
 | _,[]=>[]
 | k,l::r=>(k,l)::Qp (k+1) r
theorem J4:∀ (ls:List (List Cl)) (k i:Nat),get (Qp k ls) i=if k<=i then ls[i-k]? else none
 | [],k,i=>by simp [Qp,get]
 | l::r,k,i=>by
  simp only [Qp,get,CT]
  by_cases h:k=i
  ·subst h;simp
  ·simp only [h,decide_false,cond_false]
   rw [J4 r (k+1) i]
   by_cases h2:k<=i
   ·rw [if_pos (by omega),if_pos h2,show i-k=(i-(k+1))+1 by omega,List.getElem?_cons_succ]
   ·rw [if_neg (by omega),if_neg h2]
theorem cO {s:AS} (S:AS) (n sz len:Nat) (f:Nat->Nat->Cl) (ty:TypeId) (hn:get s.h n=some (.row sz len f ty)) (hl:Nat.blt 0 len=true) (hS:(⟨s.t,put s.h n (.rowx sz len (fun _ _=>default) ty (Qp 0 ((List.range len).map fun i=>GJ f i 0 sz)))⟩:AS)=S):Cv N W0 X M0 s S:=by
 subst hS
 have h0:0<len:=by
  have h1:Nat.ble (0+1) len=true:=hl
  exact Nat.le_of_ble_eq_true h1
 refine cQ n _ _ hn fun M σ w x hb => ?_
 rcases hb with ⟨_,h⟩ | ⟨e0,c,e1,e2,e3,e4,g,e5⟩
 ·omega
 refine ⟨e0,c,e1,e2,e3,e4,g,fun i j hi hj=>⟨(e5 i j hi hj).1,fun hno => ?_⟩,fun i l hl => ?_⟩
 ·rw [J4] at hno
  simp [hi] at hno
 ·rw [J4,if_pos (Nat.zero_le _),Nat.sub_zero,List.getElem?_map] at hl
  by_cases hi:i<len
  ·rw [List.getElem?_range hi] at hl
   simp only [Option.map_some,Option.some.injEq] at hl
   subst hl
   refine ⟨hi,L2.of (by simp [Df]) fun j a b ha hb => ?_⟩
   have hj:j<sz:=by have:=(List.getElem?_eq_some_iff.1 ha).1;rwa [Df] at this
   rw [Ik _ _ _ _ _ hj,Nat.zero_add] at ha
   injection ha with ha
   subst ha
   rw [List.getElem?_map,List.getElem?_range hj] at hb
   simp only [Option.map_some,Option.some.injEq] at hb
   subst hb
   exact Pj (e5 i j hi hj).2
  ·rw [List.getElem?_eq_none (by simp;omega)] at hl
   cases hl
theorem cP {s:AS} (S:AS) (n sz len:Nat) (f:Nat->Nat->Cl) (ty:TypeId) (ls:List (List Cl)) (hn:get s.h n=some (.rowx sz len f ty (Qp 0 ls))) (hlen:Nat.beq ls.length len=true) (hsz:ls.all (fun l=>Nat.beq l.length sz&&l.all Cl.dv)=true) (hS:(⟨s.t,put s.h n (.row sz len (Ay sz len ls.flatten) ty)⟩:AS)=S):Cv N W0 X M0 s S:=by
 subst hS
 have hlen:=Nat.eq_of_beq_eq_true hlen
 refine cQ n _ _ hn fun M σ w x hb => ?_
 obtain ⟨e0,c,e1,e2,e3,e4,g,e5,e6⟩:=hb
 refine .inr ⟨e0,c,e1,e2,e3,e4,g,fun i j hi hj=>⟨(e5 i j hi hj).1,?_⟩⟩
 have hil:i<ls.length:=by omega
 have hmem:=List.getElem_mem hil
 have hall:=(List.all_eq_true.1 hsz) _ hmem
 simp only [Bool.and_eq_true] at hall
 have hli:=Nat.eq_of_beq_eq_true hall.1
 obtain ⟨_,hL⟩:=e6 i ls[i] (by rw [J4,if_pos (Nat.zero_le _),Nat.sub_zero,List.getElem?_eq_getElem hil])
 have hflat:∀ (q:List (List Cl)) (i j:Nat) (hi:i<q.length),(∀ l∈q,l.length=sz)->j<sz->q.flatten[i*sz+j]? = q[i][j]? := by
  intro q
  induction q with
  | nil=>intro i j hi;simp at hi
  | cons l r ih =>
   intro i j hi hall hj
   have h1:=hall l (by simp)
   cases i with
   | zero=>simp [List.getElem?_append,h1,hj]
   | succ i =>
    rw [List.flatten_cons,List.getElem?_append_right (by rw [h1,Nat.add_mul];omega),h1,show (i+1)*sz+j-sz=i*sz+j by rw [Nat.add_mul];omega]
    simpa using ih i j (by simpa using hi) (fun l hl=>hall l (by simp [hl])) hj
 have hjl:j<ls[i].length:=by omega
 rw [UO _ _ _ _ _ hi,List.getD_eq_getElem?_getD,hflat ls i j hil (fun l hl=>by
  have h:=(List.all_eq_true.1 hsz) l hl
  simp only [Bool.and_eq_true] at h
  exact Nat.eq_of_beq_eq_true h.1) hj,List.getElem?_eq_getElem hjl,Option.getD_some]
 obtain ⟨v,hv,hR⟩:=hL.get j _ (List.getElem?_eq_getElem hjl)
 rw [List.getElem?_map,List.getElem?_range hj] at hv
 simp only [Option.map_some,Option.some.injEq] at hv
 subst hv
 exact Lr ((List.all_eq_true.1 hall.2) _ (List.getElem_mem hjl)) hR
end
end
section
open Go.RowKit Go.MapKept
def Py (is:List Nat):Nat->List Cl->List Cl->List Cl
 | k,x::a,y::b=>(bif A2 is k then x else y)::Py is (k+1) a b
 | _,_,_=>[]
def VQ (is:List Nat) (vs:Nat->Value):Nat->List Cl->List Cl
 | k,y::b=>(bif A2 is k then .val (vs k) else y)::VQ is vs (k+1) b
 | _,[]=>[]
section
variable {P:Program} {M M':Nat→Option Obj} {σ σ':Nat→Loc} {w w':World}
theorem Wf (is:List Nat) (vs:Nat->Value):∀ (k:Nat) (l l0:List Cl) (c:List Value),l=Py is k l l0->l.length=l0.length->(∀ j,j<c.length->vs (k+j)=c.getD j undef)->(∀ x∈l0,x.dv=true\/True)->L2 (R M σ) l c->L2 (R M σ) (VQ is vs k l0) c
 | k,[],[],c,_,_,_,_,h=>by cases h;exact .nil
 | k,[],_::_,c,_,hl,_,_,h=>by simp at hl
 | k,_::_,[],c,_,hl,_,_,h=>by simp at hl
 | k,x::l,y::l0,c,he,hl,hv,hd,h=>by
  cases h with
  | cons h1 h2 =>
   rename_i v c
   simp only [Py,List.cons.injEq] at he
   refine .cons ?_ (Wf is vs (k+1) l l0 c he.2 (by simpa using hl) (fun j hj=>by
    have:=hv (j+1) (by simp;omega)
    rw [show k+1+j=k+(j+1) by omega,this];rfl) (fun x hx=>.inr trivial) h2)
   cases hm:A2 is k with
   | true =>
    have:=hv 0 (by simp)
    simp only [cond_true]
    exact ⟨by rw [show k=k+0 from rfl,this];rfl,by rw [show k=k+0 from rfl,this];exact Pg h1⟩
   | false =>
    rw [hm] at he
    simp only [cond_false] at he ⊢
    rw [<- he.1];exact h1
theorem TF (is:List Nat) (vs:Nat->Value) (hM:∀ b o,M b=some o->M' b=some o):∀ (k:Nat) (l l1:List Cl) (c c':List Value),l.length=l1.length->(∀ j,j<c.length->vs (k+j)=c.getD j undef)->L2 (R M σ) l c->L2 (R M' σ) (VQ is vs k l1) c'->L2 (R M' σ) (Py is k l l1) c'
 | k,[],[],c,c',_,_,_,h=>by cases h;exact .nil
 | k,[],_::_,c,c',hl,_,_,h=>by simp at hl
 | k,_::_,[],c,c',hl,_,_,h=>by simp at hl
 | k,x::l,y::l1,c,c',hl,hv,h0,h=>by
  cases h0 with
  | cons h1 h2 =>
   rename_i v c
   simp only [VQ] at h
   cases h with
   | cons h3 h4 =>
    simp only [Py]
    refine .cons ?_ (TF is vs hM (k+1) l l1 c _ (by simpa using hl) (fun j hj=>by
     have:=hv (j+1) (by simp;omega)
     rw [show k+1+j=k+(j+1) by omega,this];rfl) h2 h4)
    cases hm:A2 is k with
    | true =>
     rw [hm] at h3
     have h5:=h3.1
     have h6:=hv 0 (by simp)
     rw [h5,show k=k+0 from rfl,h6]
     exact Di hM (fun _ _=>rfl) h1
    | false=>rw [hm] at h3;exact h3
theorem eR {hh:Nat->Option Blk} {f:FuncId} {K L n m:Nat} {xs:List Av} {args:List Value} {b d b0 d0 b1 d1:Blk} {r:Tv} (hx:xs.all (Oo K L)=true) (hKL:Nat.beq K L=false) (hnm':n≠m) (hs:Std M σ w hh) (hn:hh n=some b) (hm:hh m=some d) (hnil:(σ n).nil=false) (hnil2:(σ m).nil=false) (hblk:∀ σ',(∀ q,q≠K->q≠L->σ' q=σ q)->Bj M σ' w (σ n) b0) (hblk2:∀ σ',Bj M σ' w (σ m) d0)
  (hargs:L2 (RA M σ) (xs.map (FM K n L m)) args) (h:Wr2 P f K L xs b0 d0 r b1 d1):Calls P f args.toArray w (fun en w'=>∃ U,en=.returned U/\∃ M',GL w w' M M' (fun b=>only (σ n) b\/only (σ m) b)/\(∀ σ',RT M' σ' r U)/\(∀ σ',Bj M' σ' w' (σ n) b1)/\∀ σ',Bj M' σ' w' (σ m) d1):=by
 have hne:K≠L:=fun e=>by rw [e,Nat.beq_refl] at hKL;cases hKL
 have hM:M (σ n).b=none:=by
  rcases hs.loc n _ hn with h | h
  ·rw [hnil] at h;cases h
  ·exact h
 have hM2:M (σ m).b=none:=by
  rcases hs.loc m _ hm with h | h
  ·rw [hnil2] at h;cases h
  ·exact h
 have hbne:(σ n).b≠(σ m).b:=by
  rcases hs.inj n m _ _ hn hm hnm' with h | h | h
  ·rw [hnil] at h;cases h
  ·rw [hnil2] at h;cases h
  ·exact h
 let σ2:Nat->Loc:=upd (upd σ K (σ n)) L (σ m)
 have hL:σ2 L=σ m:=BK _ _ _
 have hK:σ2 K=σ n:=by
  show upd _ L _ K=_
  rw [CN _ _ hne];exact BK _ _ _
 have hrest:∀ q,q≠K->q≠L->σ2 q=σ q:=fun q h1 h2=>by
  show upd _ L _ q=_
  rw [CN _ _ h2,CN _ _ h1]
 have hargs2:L2 (RA M σ2) xs args:=by
  refine L2.of (by have:=hargs.length;simpa using this) fun i x V hxi hV => ?_
  obtain ⟨V',hV',hR⟩:=hargs.get i (FM K n L m x) (by rw [List.getElem?_map,hxi];rfl)
  rw [hV] at hV';injection hV' with hV';subst hV'
  have hok:=(List.all_eq_true.1 hx) x (List.mem_of_getElem? hxi)
  unfold Oo at hok
  split at hok
  ·rename_i q off
   by_cases hq:q=K
   ·subst hq
    simp only [FM,Nat.beq_refl,cond_true] at hR
    have hR':V=.pointer (some ⟨(σ n).b,off,none⟩):=hR
    show V=.pointer (some ⟨(σ2 q).b,off,none⟩)
    rw [hK];exact hR'
   ·have hqb:Nat.beq q K=false:=by
     cases hb:Nat.beq q K with
     | false=>rfl
     | true=>exact absurd (Nat.eq_of_beq_eq_true hb) hq
    rw [hqb] at hok
    have:=Nat.eq_of_beq_eq_true hok
    subst this
    simp only [FM,hqb,Nat.beq_refl,cond_true,cond_false] at hR
    have hR':V=.pointer (some ⟨(σ m).b,off,none⟩):=hR
    show V=.pointer (some ⟨(σ2 q).b,off,none⟩)
    rw [hL];exact hR'
  ·rename_i hnp
   have:FM K n L m x=x:=by
    unfold FM
    split
    ·rename_i q off;exact (hnp q off rfl).elim
    ·rfl
   rw [this] at hR
   exact G4 (σ':=σ2) (r:=.av x) hok hR
 refine (h M σ2 w args hs.imm (by rw [hK];exact ⟨hblk σ2 hrest,hnil,hM⟩) (by rw [hL];exact ⟨hblk2 σ2,hnil2,hM2⟩) (by rw [hK,hL];exact hbne) hargs2).mono ?_
 rintro en w' ⟨U,hU,M',hk,hR,hb,hb2⟩
 rw [hK,hL] at hk
 refine ⟨U,hU,M',hk,hR,fun σ' => ?_,fun σ' => ?_⟩
 ·have:=hb σ';rw [hK] at this;exact this
 ·have:=hb2 σ';rw [hL] at this;exact this
def wqV (n m:Nat) (is:List Nat) (l0:List Cl) (ty:TypeId) (d0:Blk) (r:Tv) (d1:Blk):Ef:=.wq m n fun y x=>match x with
 | .cells l ty'=>bif Nat.beq l.length l0.length then some ([Blk.cells l ty'=.cells (Py is 0 l l0) ty,y=d0],r,d1) else none
 | _=>none
theorem Iv {f:FuncId} {K L n m:Nat} {xs:List Av} {is:List Nat} {l0:List Cl} {ty:TypeId} {d0 d1:Blk} {r:Tv} {B0:(Nat->Value)->List Cl} (h1:∀ args w,(callFunc f args).run P w=.ok (.enter f args) w) (hx:xs.all (Oo K L)=true) (hKL:Nat.beq K L=false) (hnm:Nat.beq n m=false) (hd2:KT d0=true) (hdl:∀ vs,(VQ is vs 0 l0).all Cl.dv=true)
  (e0:∀ vs,VQ is vs 0 l0=B0 vs) (h:∀ vs,Wr2 P f K L xs (.cells (B0 vs) ty) d0 r (.cells (B0 vs) ty) d1):Az P f (xs.map (FM K n L m)) (wqV n m is l0 ty d0 r d1):=by
 have hnm':n≠m:=fun e=>by rw [e,Nat.beq_refl] at hnm;cases hnm
 refine .inl ⟨h1,fun M σ w hh args cs' g hs hargs hres hc => ?_⟩
 simp only [wqV,res] at hres
 cases hm:hh m with
 | none=>rw [hm] at hres;cases hres
 | some d =>
  cases hn:hh n with
  | none=>rw [hn,hm] at hres;cases hres
  | some b =>
   rw [hn,hm] at hres
   cases b with
   | row=>simp at hres
   | omap=>simp at hres
   | rowx=>simp at hres
   | cells l ty' =>
    simp only at hres
    cases hlen:Nat.beq l.length l0.length with
    | false=>rw [hlen] at hres;simp at hres
    | true =>
     have hmn:Nat.beq m n=false:=by
      cases hb:Nat.beq m n with
      | false=>rfl
      | true=>exact absurd (Nat.eq_of_beq_eq_true hb).symm hnm'
     rw [hlen,hmn] at hres
     simp only [cond_true,Option.some.injEq,Prod.mk.injEq] at hres
     obtain ⟨rfl,rfl⟩:=hres
     have hlen0:=Nat.eq_of_beq_eq_true hlen
     have hbd:=hc.head
     have hdd:=hc.tail.head
     subst hdd
     injection hbd with hl hty
     subst hty
     obtain ⟨hnil,c,hheap,hL⟩:=hs.blk n _ hn
     have hblk2:=hs.blk m _ hm
     have hnil2:(σ m).nil=false:=by
      cases d with
      | row=>cases hd2
      | omap=>cases hd2
      | rowx=>cases hd2
      | cells l ty=>exact hblk2.1
     let vs:Nat->Value:=fun k=>c.getD k undef
     have hvs:∀ j,j<c.length->vs (0+j)=c.getD j undef:=fun j _=>by simp only [vs,Nat.zero_add]
     have hin:L2 (R M σ) (VQ is vs 0 l0) c:=Wf is vs 0 l l0 c hl hlen0 hvs (fun _ _=>.inr trivial) hL
     have hcall:=eR (b0:=Blk.cells (B0 vs) ty') (b1:=Blk.cells (B0 vs) ty') hx hKL hnm' hs hn hm hnil hnil2 (fun σ' _=>⟨hnil,c,hheap,by rw [<- e0 vs];exact hin.mono fun a ha v hv=>(JC ((List.all_eq_true.1 (hdl vs)) a ha)).2 ((JC ((List.all_eq_true.1 (hdl vs)) a ha)).1 hv)⟩) (fun σ'=>Fq hd2 hblk2) hargs (h vs)
     refine hcall.mono ?_
     rintro en w' ⟨U,hU,M',hk,hR,hb,hb2⟩
     refine ⟨U,hU,fun dst _=>⟨M',σ,QX hk fun b hb=>hb.symm,rfl,hR σ,hb2 σ,?_⟩⟩
     obtain ⟨k1,c',k2,k3⟩:=hb σ
     refine ⟨k1,c',k2,?_⟩
     rw [<- e0 vs] at k3
     have k4:=TF is vs hk.sub 0 l l0 c c' hlen0 hvs hL k3
     rw [<- hl] at k4
     exact k4
end
end
section
open Go.RowKit Go.MapKept
def We (P:Program) (V:Env P) (N:Nat) (o:Oper) (G:Prop) (s:AS):Option (List Prop×AS):=match eff P V o.dst o.op (evG (get s.t) (Gu o.op)) with
 | some e=>match res (get s.h) e with
  | some (cs,g)=>bif Hy N s o.dst g then some (KN (get s.t) G (Gu o.op)++cs,UA s o.dst g) else none
  | none=>none
 | none=>none
section
variable {P:Program} {rd:Option Nat} {N:Nat} {W0:World} {X:Nat→Option Loc} {M0:Nat→Option Obj} {s:AS}
theorem Pe {E:TypeId->Option (List Kd)} (hE:IC P ⟨fun _=>none,E,fun _=>false,fun _=>none⟩) {ops:Array Oper} {o:Oper} {l:List Oper} {K:AS->Prop} (j:Nat) (want:Bool) (G:Prop) (qs:List (Nat×(Bool×Nat))) (tbl:List (Nat×FuncId×List Av×Ef)) (cs:List Prop) (S:AS) (hg:o.guard=some (j,want)) (hG:GH (get s.t) ops j want=some G) (hGp:G) (htbl:GP P tbl)
  (hst:We P ⟨ER tbl,E,A2 [],get qs⟩ N o G s=some (cs,S)) (hc:B2 cs) (h:AWL P rd N W0 X M0 ops l K S):AWL P rd N W0 X M0 ops (o::l) K s:=by
 have hV:=htbl.env (O:=A2 []) (q:=get qs) hE
 intro M σ a w hs Q' hQ'
 refine wpListIn_step fun K0 hK' => ?_
 rw [if_pos ((EW hs.tmps hs.room hg hG).2 hGp)]
 unfold We at hst
 split at hst
 ·rename_i e he
  split at hst
  ·rename_i cs' g hr
   cases hok:Hy N s o.dst g with
   | false=>rw [hok] at hst;cases hst
   | true =>
    rw [hok] at hst
    simp only [cond_true,Option.some.injEq,Prod.mk.injEq] at hst
    obtain ⟨rfl,rfl⟩:=hst
    obtain ⟨hc1,hc2⟩:=hc.append
    have hgo0:=J3 hok (fun n v b hg=>by subst hg;exact Rx hr) (fun l v hg=>by subst hg;exact N2 hr) (fun n q v b bq hg=>by subst hg;exact Ry hr) (fun n b v hg=>by subst hg;exact N3 hr)
    refine (Se hV (fun x v hv=>V9 hGp hc1 hs.tmps hv) he hs.std hr hc2 (SY hgo0)).wp ?_ (fun c hc=>by rw [hc] at he;cases he)
    rintro U w' ⟨M',σ',ho⟩
    have hsim:=Mk hs ho hgo0
    rw [<- (FC s o.dst g).1,<- (FC s o.dst g).2] at hsim
    exact hK' _ _ (h M' σ' _ w' hsim Q' hQ')
  ·cases hst
 ·cases hst
theorem G3 {ops:Array Oper} {o:Oper} {l:List Oper} {K:AS->Prop} (j:Nat) (want:Bool) (G:Prop) (S:AS) (hg:o.guard=some (j,want)) (hG:GH (get s.t) ops j want=some G) (hGn:¬ G) (hok:Hy N s o.dst (.val (.av (.one (.val (.bool false)))))=true) (hS:Nt s o.dst (.grd G (.one (.val (.bool false))))=S)
  (h:AWL P rd N W0 X M0 ops l K S):AWL P rd N W0 X M0 ops (o::l) K s:=by
 subst hS
 intro M σ a w hs Q' hQ'
 refine wpListIn_step fun K0 hK' => ?_
 rw [if_neg (fun h=>hGn ((EW hs.tmps hs.room hg hG).1 h))]
 refine ⟨fun _ _=>trivial,?_⟩
 have hgo0:=J3 hok (fun n v b hg=>by cases hg) (fun l v hg=>by cases hg) (fun n q v b bq hg=>by cases hg) (fun n b v hg=>by cases hg)
 have hsim:=Mk hs (g:=.val (.grd G (.one (.val (.bool false))))) (V:=undef) (w':=w) (M':=M) (σ':=σ) ⟨GL.refl hs.imm _,rfl,fun h=>absurd h hGn,fun _=>rfl⟩ ⟨hgo0.1,trivial⟩
 rw [<- (FC s o.dst _).1,<- (FC s o.dst _).2] at hsim
 exact hK' _ _ (h M σ _ w hsim Q' hQ')
end
end
section
open Go.RowKit
def BkN:Blk->Prop
 | .cells l _=>∀ c∈l,NM c
 | .row _ _ f _=>∀ i j,NM (f i j)
 | .omap _ _ _ _ vf=>∀ i j,NM (vf i j)
 | .rowx .. => False
theorem WW {M M':Nat->Option Obj} (h:∀ b c t f,M b=some (.cells c t f)->M' b=some (.cells c t f)) {σ:Nat->Loc} {w:World} {x:Loc} {b:Blk} (hr:Bj M σ w x b) (hn:BkN b):Bj M' σ w x b:=by
 cases b with
 | cells l ty =>
  obtain ⟨h0,c,hc,hl⟩:=hr
  exact ⟨h0,c,hc,hl.mono fun a ha b hb=>UX h hb (hn a ha)⟩
 | row sz len f ty =>
  rcases hr with hr | ⟨h0,c,hc,h1,h2,h3,g,hg⟩
  ·exact .inl hr
  ·exact .inr ⟨h0,c,hc,h1,h2,h3,g,fun i j hi hj=>⟨(hg i j hi hj).1,Pi h (hg i j hi hj).2 (hn i j)⟩⟩
 | omap agg nv len kf vf =>
  obtain ⟨h0,es,ck,g,hc,h1,h2,h3⟩:=hr
  exact ⟨h0,es,ck,g,hc,h1,h2,fun i j hi hj=>Pi h (h3 i j hi hj) (hn i j)⟩
 | rowx=>exact hn.elim
def Blk.isP:Blk->Bool
 | .cells .. => true
 | .omap .. => true
 | _=>false
def Blk.isR:Blk->Bool
 | .row .. => true
 | _=>false
def slV:Value->Bool
 | .slice (some _) _ _=>true
 | _=>false
def SE (o:Obj) (k:Nat):Option Value:=match o with
 | .cells c _ _=>c[k]?
 | _=>none
def JA (bq off:Nat) (W:World) (b:Nat):Prop:=∃ o len cap,W.heap[bq]? = some o/\SE o off=some (.slice (some ⟨b,0,none⟩) len cap)
def PI (q off r:Nat) (h:List (Nat×Blk)):Bool:=match get h q with
 | some (.cells l _)=>(match get h r with
  | some (.row ..)=>(match l[off]? with
   | some (.own r' _ _)=>Nat.beq r' r
   | _=>false)
  | none=>(match l[off]? with
   | none=>true
   | some (.val v) => !slV v
   | some (.ptr ..)=>true
   | _=>false)
  | _=>false)
 | _=>false
def PXr (pids:List Nat) (r:Nat) (G:Prop) (X:Nat->Option Loc):Prop:=∀ m x,X m=some x->(∃ q,A2 pids q=true/\∃ y,X q=some y/\y.b=x.b)\/(m=r/\G/\x.nil=false)
section
variable {N:Nat} {W0 W W':World} {X XA:Nat→Option Loc} {M0 M M' M3:Nat→Option Obj} {σ σ' σ3:Nat→Loc} {T T':Nat→Option Tv} {H H':Nat→Option Blk} {a a':Act} {h:List (Nat×Blk)} {q off r:Nat}
theorem SW (hs:Sim N W0 X M0 M σ T (get h) a W) (hb:PI q off r h=true) {b:Nat} (hh:JA (σ q).b off W b):(∃ x,get h r=some x)/\(σ r).nil=false/\(σ r).b=b:=by
 unfold PI at hb
 cases hq:get h q with
 | none=>rw [hq] at hb;cases hb
 | some bq =>
  rw [hq] at hb
  cases bq with
  | cells l ty =>
   obtain ⟨hn,c,hc,hl⟩:=hs.blk q _ hq
   obtain ⟨o,len,cap,ho,hcell⟩:=hh
   rw [hc] at ho;injection ho with ho;subst ho
   have hcl:c[off]? = some (.slice (some ⟨b,0,none⟩) len cap):=by simpa [SE] using hcell
   have hoff:off<l.length:=by rw [hl.length];exact (List.getElem?_eq_some_iff.1 hcl).1
   have hcl2:l[off]? = some l[off]:=List.getElem?_eq_getElem hoff
   obtain ⟨v,hv,hR⟩:=hl.get off _ hcl2
   rw [hcl] at hv;injection hv with hv;subst hv
   generalize l[off]=cl at hcl2 hR
   cases hr:get h r with
   | none =>
    simp only [hr,hcl2] at hb
    exfalso
    cases cl with
    | val u =>
     obtain ⟨h1,_⟩:=hR
     subst h1
     simp [slV] at hb
    | ptr n o=>cases hR
    | _=>cases hb
   | some br =>
    simp only [hr,hcl2] at hb
    cases br with
    | row sz len' f ty' =>
     cases cl with
     | own r' sz' len'' =>
      have:=Nat.eq_of_beq_eq_true hb
      subst this
      unfold R at hR
      split at hR
      ·cases hR.2
      ·rename_i hnil
       injection hR with h1
       injection h1 with h1
       injection h1 with h1
       exact ⟨⟨_,rfl⟩,by simpa using hnil,h1.symm⟩
     | _=>cases hb
    | _=>cases hb
  | _=>cases hb
theorem T8 (hs:Sim N W0 X M0 M σ T (get h) a W) (hb:PI q off r h=true) {x:Blk} (hr:get h r=some x) (hn:(σ r).nil=false):JA (σ q).b off W (σ r).b:=by
 unfold PI at hb
 cases hq:get h q with
 | none=>rw [hq] at hb;cases hb
 | some bq =>
  rw [hq] at hb
  cases bq with
  | cells l ty =>
   obtain ⟨_,c,hc,hl⟩:=hs.blk q _ hq
   simp only [hr] at hb
   cases x with
   | row sz len' f ty' =>
    cases hcl:l[off]? with
    | none=>simp only [hcl] at hb;cases hb
    | some cl =>
     simp only [hcl] at hb
     cases cl with
     | own r' sz' len'' =>
      have:=Nat.eq_of_beq_eq_true hb
      subst this
      obtain ⟨v,hv,hR⟩:=hl.get off _ hcl
      unfold R at hR
      rw [hn] at hR
      exact ⟨_,len'',(σ r').cap,hc,by simp only [SE,List.getElem?_toArray];rw [hv];exact congrArg some hR⟩
     | _=>cases hb
   | _=>cases hb
  | _=>cases hb
section
 open Go.Proofs.YtheobjkgllmnmaaGreat renaming WW→mp0
theorem Zl {Xr X2:Nat->Option Loc} (hs:Sim N W0 XA M0 M' σ' T H a W) (hr:Sim N W Xr M' M3 σ3 T' H' a' W') (hin:∀ b,inX Xr b->inX XA b\/W0.heap.size<=b)
  {H2:Nat->Option Blk} (hH2:∀ n b,H2 n=some b->H' n=some b) (hH:∀ n b,H2 n=some b->BkN b) {a2:Act} {T2:Nat->Option Tv} (hsz:a2.tmps.size=N) (hT2:∀ i v,T2 i=some v->RT (Iq M' M3) σ3 v (a2.tmps.getD i undef)) (hX2:∀ n x,X2 n=some x->N<=n/\σ3 n=x) (hX3:∀ b,inX XA b↔inX X2 b) (hd:HR X2 M0 (Iq M' M3) a2.defers) :
  Sim N W0 X2 M0 (Iq M' M3) σ3 T2 H2 a2 W':=mac0
end
theorem VN (hs:Sim N W0 X M0 M σ T H a W) {row:Option Nat} (hH:∀ n b,H n=some b->b.isM=true->∀ r,row=some r->(σ n).b<r) (hg:W.grownBy W' row) (hr:∀ r,row=some r->W0.heap.size<=r/\(∃ o:Obj,W.heap[r]? = some o/\o.isCells=false)/\M r=none):Sim N W0 X M0 M σ T H a W':=by
 have hsame:∀ b (o:Obj),W.heap[b]? = some o->(o.isCells=true\/M b=some o\/b<W0.heap.size)->W'.heap[b]? = some o:=fun b o hb hc=>by
  refine (hg.block b (Array.getElem?_eq_some_iff.1 hb).1 fun e => ?_).trans hb
  obtain ⟨h1,⟨o',h2,h3⟩,h4⟩:=hr b e.symm
  rw [hb] at h2;injection h2 with h2;subst h2
  rcases hc with h | h | h
  ·rw [h3] at h;cases h
  ·rw [h4] at h;cases h
  ·omega
 refine ⟨hg.os.trans hs.os,hg.tape.trans hs.tape,hg.output.trans hs.output,Nat.le_trans hs.size hg.size,fun b hb hx => ?_,hs.sub,hs.new,hs.pin,hs.defers,hs.room,hs.tmps,fun b o h=>hsame b o (hs.imm b o h) (.inr (.inl h)),fun n b h => ?_,hs.loc,hs.inj⟩
 ·have h1:=hs.old b hb hx
  have h2:W0.heap[b]? = some W0.heap[b]:=Array.getElem?_eq_getElem hb
  rw [h2] at h1 ⊢
  exact hsame b _ h1 (.inr (.inr hb))
 ·refine (hs.blk n b h).mono (fun _ _ h=>h) (fun _ _=>rfl) fun hn => ?_
  have hb:=hs.blk n b h
  cases b with
  | cells l ty=>obtain ⟨_,c,hc,_⟩:=hb;rw [hc];exact hsame _ _ hc (.inl rfl)
  | row sz len f ty =>
   rcases hb with ⟨h0,_⟩ | ⟨_,c,hc,_⟩
   ·rw [hn] at h0;cases h0
   ·rw [hc];exact hsame _ _ hc (.inl rfl)
  | omap =>
   obtain ⟨_,es,ck,g,hc,_⟩:=hb
   exact hg.block _ (Array.getElem?_eq_some_iff.1 hc).1 fun e=>by have:=hH n _ h rfl _ e.symm;omega
  | rowx sz len f ty hh=>obtain ⟨_,c,hc,_⟩:=hb;rw [hc];exact hsame _ _ hc (.inl rfl)
theorem QG {fid:Nat} {XB:Nat->Option Loc} {σ2:Nat->Loc} (hs:Sim N W0 XA M0 M' σ' T H a W) {a2:Act} (hd:a2.defers=[]) (hr:a2.tmps.size=N) (hpin:∀ n x,XB n=some x->N<=n/\σ2 n=x) (hσ:∀ n,n≠fid->σ2 n=σ' n)
  (hT:∀ i v,T' i=some v->RT M' σ' v (a2.tmps.getD i undef)/\v.no fid=true) (hHf:∀ n b,H n=some b->n≠fid/\b.no fid=true/\((σ' n).nil=true\/inX XB (σ' n).b)):Sim N W XB M' M' σ2 T' H a2 W:=by
 refine ⟨rfl,rfl,rfl,Nat.le_refl _,fun _ _ _=>rfl,fun _ _ h=>h,fun b o h h'=>by (rw [h] at h';cases h'),hpin,⟨by rw [hd];trivial,fun _=>hd⟩,hr,fun i v hv=>DY (fun _ _ h=>h) (fun d hd=>hσ d fun e => ?_) (hT i v hv).1,hs.imm,fun n b hb => ?_,fun n b hb => ?_,fun n m b c hb hc hne => ?_⟩
 ·subst e;rw [(hT i v hv).2] at hd;cases hd
 ·obtain ⟨h1,h2,h3⟩:=hHf n b hb
  rw [hσ n h1]
  exact (hs.blk n b hb).mono (fun _ _ h=>h) (fun d hd=>hσ d fun e=>by subst e;rw [h2] at hd;cases hd) (fun _=>rfl)
 ·obtain ⟨h1,h2,h3⟩:=hHf n b hb
  rw [hσ n h1]
  rcases hs.loc n b hb with h4 | h4
  ·exact .inl h4
  ·exact h3.imp id fun h=>⟨h4.1,.inr h⟩
 ·rw [hσ n (hHf n b hb).1,hσ m (hHf m c hc).1]
  exact hs.inj n m b c hb hc hne
end
end
section
open Go.RowKit
def Wi (N:Nat) (pids:List Nat) (fid q r:Nat) (t0:List (Nat×Tv)) (ps:Array Tmp):Bool :=
 t0.all (fun p=>pvT pids p.2)&&(pids.all (fun m=>Nat.ble N m)&&(!A2 pids fid&&(!A2 pids r&&(!Nat.beq r fid&&(Nat.ble N fid&&(Nat.ble N r&&(A2 pids q&&ps.toList.all (fun p=>Nat.blt p N))))))))
def famB (pids:List Nat) (fid q off r:Nat) (h:List (Nat×Blk)):Bool :=
 h.all (fun p=>(A2 pids p.1&&p.2.isP||Nat.beq p.1 r&&p.2.isR)&&p.2.no fid)&&(pids.all (fun m=>(get h m).isSome)&&PI q off r h)
def HsN (h:List (Nat×Blk)):Prop:=∀ n b,get h n=some b->BkN b
theorem Q0 {l:List Cl} {ty:TypeId} (h:∀ c∈l,NM c):BkN (.cells l ty):=h
theorem kY {α:Type} [Inhabited α] {sz len:Nat} {c:α->List Cl} {xs:List α} {ty:TypeId} (h:∀ x,∀ y∈c x,NM y):BkN (.row sz len (AP c xs) ty):=fun i j=>by
 unfold AP
 rw [List.getD_eq_getElem?_getD]
 cases hj:(c (xs.getD i default))[j]? with
 | none=>exact .val _
 | some y=>exact h _ y (List.mem_of_getElem? hj)
theorem kZ {κ α:Type} [Inhabited κ] [Inhabited α] {agg:Bool} {nv len:Nat} {kf:Nat->Value} {c:α->List Cl} {xs:List (κ×α)} (h:∀ x,∀ y∈c x,NM y):BkN (.omap agg nv len kf (vfG c xs)):=fun i j=>by
 unfold vfG
 rw [List.getD_eq_getElem?_getD]
 cases hj:(c (xs.getD i default).2)[j]? with
 | none=>exact .val _
 | some y=>exact h _ y (List.mem_of_getElem? hj)
def dN (pids:List Nat) (n r:Nat) (s:AS):Bool := !Nat.beq r n&&pids.all fun q => !Nat.beq q n&&match get s.h q with | some (.cells ..)=>true | some (.omap ..)=>true | _=>false
section
variable {P:Program} {N:Nat} {W0:World} {X:Nat→Option Loc} {M0:Nat→Option Obj} {s:AS}
theorem PV (S:AS) (n:Nat) (l:List Cl) (ty:TypeId) (pids:List Nat) (r:Nat) {G:Prop} (hX:PXr pids r G X) (hK:dN pids n r s=true) (hG:G->∃ b,get s.h r=some b) (hn:get s.h n=some (.cells l ty)) (hdv:l.all Cl.dv=true) (hS:fxS n l s=S):Cv N W0 X M0 s S:=by
 subst hS
 intro M σ a w hs
 simp only [dN,Bool.and_eq_true,Bool.not_eq_true'] at hK
 obtain ⟨hrn,hK⟩:=hK
 obtain ⟨M',h1⟩:=Rw n l ty (fun hnil=>by
  rintro ⟨m,x,h1,h2⟩
  have key:∀ q y bk,q≠n->X q=some y->y.b=x.b->(σ q).nil=false->get s.h q=some bk->False:=fun q y bk hqn hy hyx h4 hb=>by
   have h5:=(hs.pin q y hy).2
   rcases hs.inj q n _ _ hb hn hqn with h6 | h6 | h6
   ·rw [h4] at h6;cases h6
   ·rw [hnil] at h6;cases h6
   ·exact h6 (by rw [h5,hyx,h2])
  rcases hX m x h1 with ⟨q,hq,y,hy,hyx⟩ | ⟨rfl,hg,hxn⟩
  ·have h3:=List.all_eq_true.1 hK q (SL hq)
   simp only [Bool.and_eq_true,Bool.not_eq_true'] at h3
   have hqn:q≠n:=fun e=>by have:=h3.1;rw [e,Nat.beq_refl] at this;cases this
   cases hb:get s.h q with
   | none=>rw [hb] at h3;cases h3.2
   | some bk =>
    rw [hb] at h3
    refine key q y bk hqn hy hyx ?_ hb
    have h4:=hs.blk q _ hb
    cases bk with
    | row=>cases h3.2
    | rowx=>cases h3.2
    | omap=>exact h4.1
    | cells lq tq=>exact h4.1
  ·obtain ⟨bk,hb⟩:=hG hg
   refine key m x bk (fun e=>by rw [e,Nat.beq_refl] at hrn;cases hrn) h1 rfl ?_ hb
   rw [(hs.pin m x h1).2];exact hxn) hn hdv hs
 exact ⟨M',σ,h1⟩
end
end
section
open Go.RowKit
theorem Tm:Tryz.prog.follows .mixedOrders=true:=by kernel_rfl
structure AB where
 X:Int
 Y:Int
 deriving Inhabited
def AB.c (x:AB):List Cl:=[.i x.X,.i x.Y]
structure Ac where
 At:AB
 Turn:Int
 Mirror:Bool
 deriving Inhabited
def Ac.c (x:Ac):List Cl:=[.i x.At.X,.i x.At.Y,.i x.Turn,.b x.Mirror]
structure AG where
 Kind:Int
 A:AB
 B:AB
 C:AB
 deriving Inhabited
def AG.c (x:AG):List Cl:=[.i x.Kind,.i x.A.X,.i x.A.Y,.i x.B.X,.i x.B.Y,.i x.C.X,.i x.C.Y]
structure Ad where
 X0:Int
 Y0:Int
 X1:Int
 Y1:Int
 deriving Inhabited
def Ad.c (x:Ad):List Cl:=[.i x.X0,.i x.Y0,.i x.X1,.i x.Y1]
structure AD where
 L:(List Int)
 At:Int
 deriving Inhabited
def AD.c (x:AD):List Cl:=[lst 1 (fun x=>[.i x]) x.L,.i x.At]
structure OpL where
 len:Nat
 f:Nat->Nat->Cl
 deriving Inhabited
abbrev opL (x:OpL):Cl:=.list false 8 x.len x.f
structure Aq where
 Ref:ByteArray
 Pad:ByteArray
 deriving Inhabited
def Aq.c (x:Aq):List Cl:=[.s x.Ref,.s x.Pad]
structure A1 where
 Name:ByteArray
 Pins:(List Aq)
 deriving Inhabited
def A1.c (x:A1):List Cl:=[.s x.Name,lst 2 Aq.c x.Pins]
structure AE where
 Id:Int
 Ref:ByteArray
 Type':ByteArray
 At:AB
 Turn:Int
 Under:Bool
 deriving Inhabited
def AE.c (x:AE):List Cl:=[.i x.Id,.s x.Ref,.s x.Type',.i x.At.X,.i x.At.Y,.i x.Turn,.b x.Under]
structure AQ where
 Kind:Int
 Edges:(List AG)
 R:Int
 deriving Inhabited
def AQ.c (x:AQ):List Cl:=[.i x.Kind,lst 7 AG.c x.Edges,.i x.R]
structure BF where
 Name:ByteArray
 Shape:AQ
 At:AB
 Drill:Int
 deriving Inhabited
def BF.c (x:BF):List Cl:=[.s x.Name,.i x.Shape.Kind,lst 7 AG.c x.Shape.Edges,.i x.Shape.R,.i x.At.X,.i x.At.Y,.i x.Drill]
structure Br where
 Pad:ByteArray
 Group:Int
 deriving Inhabited
def Br.c (x:Br):List Cl:=[.s x.Pad,.i x.Group]
structure A4 where
 Kind:Int
 Legs:(List Br)
 deriving Inhabited
def A4.c (x:A4):List Cl:=[.i x.Kind,lst 2 Br.c x.Legs]
structure AM where
 Name:ByteArray
 Pads:(List BF)
 Gates:(List A4)
 deriving Inhabited
def AM.c (x:AM):List Cl:=[.s x.Name,lst 7 BF.c x.Pads,lst 2 A4.c x.Gates]
structure AO where
 Id:Int
 Net:ByteArray
 Layer:Int
 Shape:AQ
 deriving Inhabited
def AO.c (x:AO):List Cl:=[.i x.Id,.s x.Net,.i x.Layer,.i x.Shape.Kind,lst 7 AG.c x.Shape.Edges,.i x.Shape.R]
structure As where
 Id:Int
 Net:ByteArray
 At:AB
 R:Int
 Drill:Int
 From:Int
 To:Int
 deriving Inhabited
def As.c (x:As):List Cl:=[.i x.Id,.s x.Net,.i x.At.X,.i x.At.Y,.i x.R,.i x.Drill,.i x.From,.i x.To]
structure A0 where
 Id:Int
 Net:ByteArray
 Layer:Int
 Pitch:Int
 Priority:Int
 Relief:Int
 Spoke:Int
 Rects:(List Ad)
 deriving Inhabited
def A0.c (x:A0):List Cl:=[.i x.Id,.s x.Net,.i x.Layer,.i x.Pitch,.i x.Priority,.i x.Relief,.i x.Spoke,lst 4 Ad.c x.Rects]
structure Bb where
 Id:Int
 Layer:Int
 Shape:AQ
 deriving Inhabited
def Bb.c (x:Bb):List Cl:=[.i x.Id,.i x.Layer,.i x.Shape.Kind,lst 7 AG.c x.Shape.Edges,.i x.Shape.R]
structure Am where
 Id:Int
 Shape:AQ
 deriving Inhabited
def Am.c (x:Am):List Cl:=[.i x.Id,.i x.Shape.Kind,lst 7 AG.c x.Shape.Edges,.i x.Shape.R]
structure B8 where
 Name:ByteArray
 Nets:(List ByteArray)
 deriving Inhabited
def B8.c (x:B8):List Cl:=[.s x.Name,lst 1 (fun x=>[.s x]) x.Nets]
structure Ec where
 Op:Int
 Text:ByteArray
 N:Int
 Box:Ad
 L:OpL
 deriving Inhabited
def Ec.c (x:Ec):List Cl:=[.i x.Op,.s x.Text,.i x.N,.i x.Box.X0,.i x.Box.Y0,.i x.Box.X1,.i x.Box.Y1,opL x.L]
structure BC where
 Name:ByteArray
 Priority:Int
 What:Int
 A:Ec
 B:Ec
 Value:Int
 deriving Inhabited
def BC.c (x:BC):List Cl:=[.s x.Name,.i x.Priority,.i x.What,.i x.A.Op,.s x.A.Text,.i x.A.N,.i x.A.Box.X0,.i x.A.Box.Y0,.i x.A.Box.X1,.i x.A.Box.Y1,opL x.A.L,.i x.B.Op,.s x.B.Text,.i x.B.N,.i x.B.Box.X0,.i x.B.Box.Y0,.i x.B.Box.X1,.i x.B.Box.Y1,opL x.B.L,.i x.Value]
structure B4 where
 A:Int
 B:Int
 Rule:ByteArray
 deriving Inhabited
def B4.c (x:B4):List Cl:=[.i x.A,.i x.B,.s x.Rule]
structure Dw where
 Name:ByteArray
 Nets:(List ByteArray)
 Within:Int
 deriving Inhabited
def Dw.c (x:Dw):List Cl:=[.s x.Name,lst 1 (fun x=>[.s x]) x.Nets,.i x.Within]
structure AF where
 Layers:Int
 Outline:AQ
 Parts:(List AE)
 Nets:(List A1)
 Tracks:(List AO)
 Vias:(List As)
 Pours:(List A0)
 Keeps:(List Bb)
 Slots:(List Am)
 Classes:(List B8)
 Rules:(List BC)
 Waivers:(List B4)
 Matches:(List Dw)
 deriving Inhabited
def AF.c (x:AF):List Cl:=[.i x.Layers,.i x.Outline.Kind,lst 7 AG.c x.Outline.Edges,.i x.Outline.R,lst 7 AE.c x.Parts,lst 2 A1.c x.Nets,lst 6 AO.c x.Tracks,lst 8 As.c x.Vias,lst 8 A0.c x.Pours,lst 5 Bb.c x.Keeps,lst 4 Am.c x.Slots,lst 2 B8.c x.Classes,lst 20 BC.c x.Rules,lst 3 B4.c x.Waivers,lst 3 Dw.c x.Matches]
structure AZ where
 Id:Int
 Pad:ByteArray
 Kind:Int
 Net:ByteArray
 From:Int
 To:Int
 Shape:AQ
 deriving Inhabited
def AZ.c (x:AZ):List Cl:=[.i x.Id,.s x.Pad,.i x.Kind,.s x.Net,.i x.From,.i x.To,.i x.Shape.Kind,lst 7 AG.c x.Shape.Edges,.i x.Shape.R]
structure UW where
 e0:Int
 e1:Int
 e2:Int
 deriving Inhabited
def UW.c (x:UW):List Cl:=[.i x.e0,.i x.e1,.i x.e2]
structure lB where
 deriving Inhabited
def lB.c (x:lB):List Cl:=[]
structure Ar where
 Shape:AQ
 From:Int
 To:Int
 Plated:Bool
 deriving Inhabited
def Ar.c (x:Ar):List Cl:=[.i x.Shape.Kind,lst 7 AG.c x.Shape.Edges,.i x.Shape.R,.i x.From,.i x.To,.b x.Plated]
structure TA91 where
 e0:AZ
 e1:AZ
 deriving Inhabited
def TA91.c (x:TA91):List Cl:=[.i x.e0.Id,.s x.e0.Pad,.i x.e0.Kind,.s x.e0.Net,.i x.e0.From,.i x.e0.To,.i x.e0.Shape.Kind,lst 7 AG.c x.e0.Shape.Edges,.i x.e0.Shape.R,.i x.e1.Id,.s x.e1.Pad,.i x.e1.Kind,.s x.e1.Net,.i x.e1.From,.i x.e1.To,.i x.e1.Shape.Kind,lst 7 AG.c x.e1.Shape.Edges,.i x.e1.Shape.R]
structure CY where
 Board:(List (List Int))
 Odd:UW
 deriving Inhabited
def CY.c (x:CY):List Cl:=[lst 1 (fun x=>[lst 1 (fun x=>[.i x]) x]) x.Board,.i x.Odd.e0,.i x.Odd.e1,.i x.Odd.e2]
structure lA where
 e0:Int
 e1:Int
 deriving Inhabited
def lA.c (x:lA):List Cl:=[.val (.int .u64 x.e0),.val (.int .u64 x.e1)]
def eqE:TypeId->Option (List Kd):=fun T=>get [(66,[.int .i64,.int .i64]),(68,[.int .i64,.int .i64,.int .i64,.int .i64,.int .i64,.int .i64,.int .i64]),(90,[.int .i64,.int .i64,.int .i64,.int .i64]),(106,[.str,.str]),(254,[.int .u64,.int .u64])] T
theorem C4:IC Tryz.prog ⟨fun _=>none,eqE,fun _=>false,fun _=>none⟩:=by
 intro T ks h
 have hm:(T,ks)∈_:=C8 h
 simp only [List.mem_cons,Prod.mk.injEq,List.not_mem_nil,or_false] at hm
 rcases hm with ⟨rfl,rfl⟩ | ⟨rfl,rfl⟩ | ⟨rfl,rfl⟩ | ⟨rfl,rfl⟩ | ⟨rfl,rfl⟩
 all_goals exact ⟨by kernel_rfl,by kernel_rfl,_,rfl,rfl⟩
theorem rg {rd:Option Nat} {N:Nat} {W0:World} {X:Nat→Option Loc} {M0:Nat→Option Obj} {Q:Exit→AS→Prop} {s:AS} {id:Nat} {l:List Oper} (S:AS) (h:Q .normal S) (hr:IW Tryz.prog ⟨ER [],eqE,A2 [],get []⟩ N l (S.t.map Prod.fst) (S.h.map Prod.fst) s=some ([],S):=by kernel_rfl):AWp Tryz.prog rd N W0 X M0 (.region id l.toArray false) Q s:=Cz C4 [] [] [] _ _ [] S .nil hr .nil h
theorem rn {rd:Option Nat} {N:Nat} {W0:World} {X:Nat→Option Loc} {M0:Nat→Option Obj} {K:AS→Prop} {Q:Exit→AS→Prop} {s:AS} {id:Nat} {l:List Oper} (S:AS) (h:K S) (hr:IW Tryz.prog ⟨ER [],eqE,A2 [],get []⟩ N l (S.t.map Prod.fst) (S.h.map Prod.fst) s=some ([],S):=by kernel_rfl):AWp Tryz.prog rd N W0 X M0 (.region id l.toArray false) (ATh K Q) s:=rg S (AJ h) hr
theorem rc {rd:Option Nat} {N:Nat} {W0:World} {X:Nat→Option Loc} {M0:Nat→Option Obj} {Q:Exit→AS→Prop} {s:AS} {id:Nat} {l:List Oper} (tbl:List (Nat×FuncId×List Av×Ef)) (cs:List Prop) (S:AS) (htbl:GP Tryz.prog tbl) (hc:B2 cs) (h:Q .normal S) (hr:IW Tryz.prog ⟨ER tbl,eqE,A2 [],get []⟩ N l (S.t.map Prod.fst) (S.h.map Prod.fst) s=some (cs,S):=by kernel_rfl):AWp Tryz.prog rd N W0 X M0 (.region id l.toArray false) Q s:=Cz C4 [] [] tbl _ _ cs S htbl hr hc h
abbrev gi (c:Bool):Prop:=c=false→c=false
abbrev gt (c:Bool):Prop:=c=true→c=true
abbrev gj (c:Bool) (p:Prop):Prop:=c=false→p
abbrev gk (c:Bool) (p:Prop):Prop:=c=true→p
theorem ci {p:Prop} {l:List Prop} (h:B2 l):B2 ((p→p)::l):=.cons id h
abbrev tO (c:Cl):Tv:=.av (.one c)
abbrev gD (l:List Cl):Nat→Nat→Cl:=fun _ j_=>l.getD j_ default
theorem rr {a:Cl} {x y:List Cl} (h:L2 ClE x y):L2 ClE (a::x) (a::y):=.cons (.refl _) h
theorem oT {p:Prop} [Decidable p] (h:decide p=true):p:=of_decide_eq_true h
theorem oF {p:Prop} [Decidable p] (h:decide p=false):¬ p:=of_decide_eq_false h
theorem dw {rd:Option Nat} {N:Nat} {W0:World} {X:Nat→Option Loc} {M0:Nat→Option Obj} {Q:Exit→AS→Prop} {s:AS} {id:Nat} {l:List Oper} (ow:List Nat) (tbl:List (Nat×FuncId×List Av×Ef)) (cs:List Prop) (S:AS) (htbl:GP Tryz.prog tbl) (hc:B2 cs) (h:Q .normal S) (hr:IW Tryz.prog ⟨ER tbl,eqE,A2 ow,get []⟩ N l (S.t.map Prod.fst) (S.h.map Prod.fst) s=some (cs,S):=by kernel_rfl) (hd:PT Tryz.prog ⟨ER tbl,eqE,A2 ow,get []⟩ N l s=true:=by kernel_rfl):AWp Tryz.prog rd N W0 X M0 (.region id l.toArray true) Q s:=Xe Tm C4 ow [] tbl _ _ cs S htbl hr hd hc h
def Ai (x0:AB):Bool:=bif decide (((max x0.X x0.Y):Int)<=67108864) then decide ((((-67108864)):Int)<=(min x0.X x0.Y)) else false
def Bi (x0:AB):FuncId×List Av×Ef:=(131,[.agg (AB.c x0)],.val [] (.av (.one (.b (Ai x0)))))
theorem kr {p:Prop} (h:p:=by kernel_rfl):p:=h
theorem Xx (x0:AB):Bk Tryz.prog 131 (Bi x0).2.1 (tO (.b (Ai x0))):=by
 refine AV Tryz.func131 rfl kr kr fun W0 M0 => ?_
 refine AC<|rn ⟨[(1,tP 1 0)],[(1,.cells (AB.c x0) 66)]⟩<|AC ?_
 refine rc [] [gt (decide (((max x0.X x0.Y):Int)<=67108864)),gt (decide (((max x0.X x0.Y):Int)<=67108864)),gt (decide (((max x0.X x0.Y):Int)<=67108864)),gt (decide (((max x0.X x0.Y):Int)<=67108864)),gt (decide (((max x0.X x0.Y):Int)<=67108864)),gt (decide (((max x0.X x0.Y):Int)<=67108864))] ⟨[(2,tB (bif decide (((max x0.X x0.Y):Int)<=67108864) then decide ((((-67108864)):Int)<=(min x0.X x0.Y)) else false))],[]⟩ .nil (ci (ci (ci (ci (ci (ci .nil))))))<|AJ<|Ag ?_
 exact ⟨_,Cv.refl _,.inl rfl,tO (.b (bif decide (((max x0.X x0.Y):Int)<=67108864) then decide ((((-67108864)):Int)<=(min x0.X x0.Y)) else false)),by kernel_rfl,Al (by rfl)⟩
theorem C0 (x0:AB):Az Tryz.prog (Bi x0).1 (Bi x0).2.1 (Bi x0).2.2:=AW (fun _ _=>by kernel_rfl) fun _=>Xx x0
def BO (x0:AB) (x1:AB):AB:=AB.mk (W64 (x0.X-x1.X)) (W64 (x0.Y-x1.Y))
def HG (x0:AB) (x1:AB):FuncId×List Av×Ef:=(137,[.agg (AB.c x0),.agg (AB.c x1)],.val [] (.av (.agg (AB.c (BO x0 x1)))))
theorem fJ (x0:AB) (x1:AB):Bk Tryz.prog 137 (HG x0 x1).2.1 (.av (.agg (AB.c (BO x0 x1)))):=by
 refine AV Tryz.func137 rfl kr kr fun W0 M0 => ?_
 refine AC<|rn ⟨[(2,tP 2 0),(3,tP 3 0),(4,tP 4 0)],[(2,.cells (AB.c x0) 66),(3,.cells (AB.c x1) 66),(4,.cells [.i 0,.i 0] 66)]⟩<|AC ?_
 refine rn ⟨[(4,tP 4 0)],[(4,.cells [.i (W64 (x0.X-x1.X)),.i (W64 (x0.Y-x1.Y))] 66)]⟩<|Ag ?_
 exact ⟨_,Cv.refl _,.inl rfl,.av (.agg [.i (W64 (x0.X-x1.X)),.i (W64 (x0.Y-x1.Y))]),by kernel_rfl,Al (by rfl)⟩
theorem TU (x0:AB) (x1:AB):Az Tryz.prog (HG x0 x1).1 (HG x0 x1).2.1 (HG x0 x1).2.2:=AW (fun _ _=>by kernel_rfl) fun _=>fJ x0 x1
def GV (x0:AB) (x1:AB):AB:=AB.mk (W64 (x0.X+x1.X)) (W64 (x0.Y+x1.Y))
def J8 (x0:AB) (x1:AB):FuncId×List Av×Ef:=(119,[.agg (AB.c x0),.agg (AB.c x1)],.val [] (.av (.agg (AB.c (GV x0 x1)))))
theorem fK (x0:AB) (x1:AB):Bk Tryz.prog 119 (J8 x0 x1).2.1 (.av (.agg (AB.c (GV x0 x1)))):=by
 refine AV Tryz.func119 rfl kr kr fun W0 M0 => ?_
 refine AC<|rn ⟨[(2,tP 2 0),(3,tP 3 0),(4,tP 4 0)],[(2,.cells (AB.c x0) 66),(3,.cells (AB.c x1) 66),(4,.cells [.i 0,.i 0] 66)]⟩<|AC ?_
 refine rn ⟨[(4,tP 4 0)],[(4,.cells [.i (W64 (x0.X+x1.X)),.i (W64 (x0.Y+x1.Y))] 66)]⟩<|Ag ?_
 exact ⟨_,Cv.refl _,.inl rfl,.av (.agg [.i (W64 (x0.X+x1.X)),.i (W64 (x0.Y+x1.Y))]),by kernel_rfl,Al (by rfl)⟩
theorem aG (x0:AB) (x1:AB):Az Tryz.prog (J8 x0 x1).1 (J8 x0 x1).2.1 (J8 x0 x1).2.2:=AW (fun _ _=>by kernel_rfl) fun _=>fK x0 x1
def CC (m:Ac):Int:=A64 m.Turn 3
def GZ (m:Ac):FuncId×List Av×Ef:=(118,[.agg (Ac.c m)],.val [] (.av (.one (.i (CC m)))))
theorem Xw (m:Ac):Bk Tryz.prog 118 (GZ m).2.1 (tO (.i (CC m))):=by
 refine AV Tryz.func118 rfl kr kr fun W0 M0 => ?_
 refine AC<|rn ⟨[(1,tP 1 0)],[(1,.cells (Ac.c m) 74)]⟩<|AC ?_
 refine rn ⟨[(2,tI (A64 m.Turn 3))],[]⟩<|Ag ?_
 exact ⟨_,Cv.refl _,.inl rfl,tO (.i (A64 m.Turn 3)),by kernel_rfl,Al (by rfl)⟩
theorem Vg (m:Ac):Az Tryz.prog (GZ m).1 (GZ m).2.1 (GZ m).2.2:=AW (fun _ _=>by kernel_rfl) fun _=>Xw m
theorem A64_3 (t:Int):0<=A64 t 3/\A64 t 3<=3:=by
 unfold A64
 rw [IntKind.wrap_i64]
 have h:((BitVec.ofInt 64 t &&& BitVec.ofInt 64 3).toNat)<=3:=by
  rw [BitVec.toNat_and]
  exact Nat.le_trans Nat.and_le_right (by decide)
 generalize (BitVec.ofInt 64 t &&& BitVec.ofInt 64 3).toNat=n at *
 omega
theorem Wd (m:Ac):0<=CC m/\CC m<=3:=A64_3 m.Turn
def CJ (m:Ac) (p:AB):Nat->AB->Int->AB
 | 0,_,_=>default
 | n0+1,p',v13=>bif decide ((v13:Int)<(CC m)) then ((CJ m p n0) (AB.mk (W64 (0-p'.Y)) p'.X) (v13+1)) else (GV p' m.At)
def Aa (m:Ac) (p:AB):AB:=CJ m p ((((CC m))-0).toNat+1) (AB.mk (bif m.Mirror then (W64 (0-p.X)) else p.X) p.Y) 0
def Bp (m:Ac) (p:AB):FuncId×List Av×Ef:=(62,[.agg (Ac.c m),.agg (AB.c p)],.val [] (.av (.agg (AB.c (Aa m p)))))
theorem at0 {p:Prop} (h:p:=by simp only [List.length_append,List.length_cons,List.length_nil];omega):p:=h
theorem at1 {p:Prop} (h:p:=by simp only [List.length_set,List.length_append,List.length_cons,List.length_nil];omega):p:=h
theorem at2 {p:Prop} (h:p:=by simp only [Bx];omega):p:=h
theorem ax0 {p:Prop} (h:p:=by first | omega | (dsimp only <;> first | trivial | omega | exact at0 | exact at1 | exact at2 | (simp;omega) | simp) | (first | trivial | omega | exact at0 | exact at1 | exact at2 | (simp;omega) | simp)):p:=h
theorem Xy (m:Ac) (p:AB):Bk Tryz.prog 62 (Bp m p).2.1 (.av (.agg (AB.c (Aa m p)))):=by
 refine AV Tryz.func62 rfl kr kr fun W0 M0 => ?_
 refine AC<|rn ⟨[(2,tP 2 0),(3,tP 3 0),(4,tP 4 0)],[(2,.cells (Ac.c m) 74),(3,.cells (AB.c p) 66),(4,.cells [.i 0,.i 0] 66)]⟩ ?_
 refine AC<|AC ?_
 refine rn ⟨[(2,tP 2 0),(3,tP 3 0),(4,tP 4 0),(6,tB m.Mirror)],[(2,.cells (Ac.c m) 74),(3,.cells (AB.c p) 66),(4,.cells [.i 0,.i 0] 66)]⟩ ?_
 refine Bu (⟨[(2,tP 2 0),(3,tP 3 0),(4,tP 4 0)],[(2,.cells (Ac.c m) 74),(3,.cells [.i (bif m.Mirror then (W64 (0-p.X)) else p.X),.i p.Y] 66),(4,.cells [.i 0,.i 0] 66)]⟩) ?_ ?_
 ·refine Ab _ rfl (fun h1 => ?_) (fun h1 => ?_)
  ·refine rn ⟨[(2,tP 2 0),(3,tP 3 0),(4,tP 4 0)],[(2,.cells (Ac.c m) 74),(3,.cells [.i (W64 (0-p.X)),.i p.Y] 66),(4,.cells [.i 0,.i 0] 66)]⟩ ?_
   refine BB ?_
   first | rfl | (simp only [h1,cond_true,cond_false] <;> rfl)
  ·refine Af<|AJ ?_
   refine Cv.trans (BD [2,3,4] [2,3,4] (⟨[(2,tP 2 0),(3,tP 3 0),(4,tP 4 0)],[(2,.cells (Ac.c m) 74),(3,.cells (AB.c p) 66),(4,.cells [.i 0,.i 0] 66)]⟩) kr) (BB ?_)
   first | rfl | (simp only [h1,cond_true,cond_false] <;> rfl)
 refine AC<|AC ?_
 refine rc [(12,GZ m)] [Ak (GZ m).2.1] ⟨[(2,tP 2 0),(3,tP 3 0),(4,tP 4 0),(12,tI (CC m)),(13,tI 0)],[(2,.cells (Ac.c m) 74),(3,.cells [.i (bif m.Mirror then (W64 (0-p.X)) else p.X),.i p.Y] 66),(4,.cells [.i 0,.i 0] 66)]⟩ (.cons (Vg m) .nil) (.cons rfl .nil)<|AJ<|AY ?_
 refine BS (ι:=Nat×AB×Int) (fun x=>⟨[(2,tP 2 0),(3,tP 3 0),(4,tP 4 0),(12,tI (CC m)),(13,tI x.2.2)],[(2,.cells (Ac.c m) 74),(3,.cells (AB.c x.2.1) 66),(4,.cells [.i 0,.i 0] 66)]⟩) (fun x=>(((CC m))-x.2.2).toNat<x.1/\(0<=x.2.2/\x.2.2<=CC m)/\CJ m p x.1 x.2.1 x.2.2=Aa m p) (fun x=>x.1) ?_ ((((CC m))-0).toNat+1,AB.mk (bif m.Mirror then (W64 (0-p.X)) else p.X) p.Y,0) ⟨Nat.lt_succ_self _,(by show 0<=0/\0<=CC m;(have:=Wd m;omega)),(by simp only [Aa,cond_true,cond_false])⟩
 rintro ⟨n0,p',v13⟩ ⟨hn,hinv,hF⟩
 have hm0:=hn;have hinv0:=hinv;have hF0:=hF;try dsimp only at hm0 hinv0 hF0
 clear hn hinv hF
 cases n0 with
 | zero=>exact absurd hm0 (Nat.not_lt_zero _)
 | succ n0 =>
  have ht:=Wd m
  have e1:W64 (v13+1)=v13+1:=An (by omega) (by omega)
  refine AC<|rn ⟨[(2,tP 2 0),(3,tP 3 0),(4,tP 4 0),(12,tI (CC m)),(13,tI v13),(14,tB (decide ((v13:Int)<(CC m))))],[(2,.cells (Ac.c m) 74),(3,.cells (AB.c p') 66),(4,.cells [.i 0,.i 0] 66)]⟩<|AC ?_
  refine Ab _ rfl (fun h1 => ?_) (fun h1 => ?_)
  ·have g1:=oT h1
   refine Af<|AJ ?_
   refine AC<|AY ?_
   refine rg ⟨[(2,tP 2 0),(3,tP 3 0),(4,tP 4 0),(12,tI (CC m)),(13,tI v13)],[(2,.cells (Ac.c m) 74),(3,.cells [.i (W64 (0-p'.Y)),.i p'.X] 66),(4,.cells [.i 0,.i 0] 66)]⟩<|Be<|AJ ?_
   refine rg ⟨[(2,tP 2 0),(3,tP 3 0),(4,tP 4 0),(12,tI (CC m)),(13,tI (W64 (v13+1)))],[(2,.cells (Ac.c m) 74),(3,.cells [.i (W64 (0-p'.Y)),.i p'.X] 66),(4,.cells [.i 0,.i 0] 66)]⟩ ?_
   (try rw [e1])
   refine AJ ?_
   refine ⟨(n0,AB.mk (W64 (0-p'.Y)) p'.X,v13+1),⟨?_,?_,(by rw [<- hF0];simp only [CJ,h1,cond_true,cond_false])⟩,Nat.lt_succ_self _,BB kr⟩
   ·show (((CC m))-(v13+1)).toNat<n0;omega
   ·exact ax0
  ·have g1:=oF h1
   refine BV<|BE ?_
   refine BE<|BW ?_
   refine AJ<|AC ?_
   refine rc [(25,J8 p' m.At)] [Ak (J8 p' m.At).2.1] ⟨[(4,tP 4 0)],[(4,.cells (AB.c (GV p' m.At)) 66)]⟩ (.cons (aG p' m.At) .nil) (.cons rfl .nil)<|AJ<|Ag ?_
   exact ⟨_,Cv.refl _,.inl rfl,.av (.agg (AB.c (GV p' m.At))),by kernel_rfl,Al (by rw [<- hF0];first | (simp only [CJ,h1,cond_true,cond_false] <;> rfl))⟩
theorem Dd (m:Ac) (p:AB):Az Tryz.prog (Bp m p).1 (Bp m p).2.1 (Bp m p).2.2:=AW (fun _ _=>by kernel_rfl) fun _=>Xy m p
def Cs (x0:AG) (x1:Int):Bool:=bif !((decide ((((BO x0.A x0.C).X):Int)=0))==(decide ((((BO x0.A x0.C).Y):Int)=0))) then (decide (((BO x0.B x0.C).X)=((Aa (Ac.mk (AB.mk 0 0) x1 false) (BO x0.A x0.C)).X))&&(decide (((BO x0.B x0.C).Y)=((Aa (Ac.mk (AB.mk 0 0) x1 false) (BO x0.A x0.C)).Y))&&true)) else false
def DW (x0:AG) (x1:Int):FuncId×List Av×Ef:=(190,[.agg (AG.c x0),.one (.i x1)],.val [] (.av (.one (.b (Cs x0 x1)))))
theorem R7 (x0:AG) (x1:Int):Bk Tryz.prog 190 (DW x0 x1).2.1 (tO (.b (Cs x0 x1))):=by
 refine AV Tryz.func190 rfl kr kr fun W0 M0 => ?_
 refine AC<|rn ⟨[(1,tI x1),(2,tP 2 0)],[(2,.cells (AG.c x0) 68)]⟩<|AC ?_
 refine rc [(10,HG x0.A x0.C)] [Ak (HG x0.A x0.C).2.1] ⟨[(1,tI x1),(2,tP 2 0),(5,tP 5 0)],[(2,.cells (AG.c x0) 68),(5,.cells (AB.c (BO x0.A x0.C)) 66)]⟩ (.cons (TU x0.A x0.C) .nil) (.cons rfl .nil)<|AJ<|AC ?_
 refine dw [] [(23,HG x0.B x0.C),(27,Bp (Ac.mk (AB.mk 0 0) x1 false) (BO x0.A x0.C))] [gt (!((decide ((((BO x0.A x0.C).X):Int)=0))==(decide ((((BO x0.A x0.C).Y):Int)=0)))),gt (!((decide ((((BO x0.A x0.C).X):Int)=0))==(decide ((((BO x0.A x0.C).Y):Int)=0)))),gt (!((decide ((((BO x0.A x0.C).X):Int)=0))==(decide ((((BO x0.A x0.C).Y):Int)=0)))),gt (!((decide ((((BO x0.A x0.C).X):Int)=0))==(decide ((((BO x0.A x0.C).Y):Int)=0)))),gk (!((decide ((((BO x0.A x0.C).X):Int)=0))==(decide ((((BO x0.A x0.C).Y):Int)=0)))) (Ak (HG x0.B x0.C).2.1),gt (!((decide ((((BO x0.A x0.C).X):Int)=0))==(decide ((((BO x0.A x0.C).Y):Int)=0)))),gt (!((decide ((((BO x0.A x0.C).X):Int)=0))==(decide ((((BO x0.A x0.C).Y):Int)=0)))),gt (!((decide ((((BO x0.A x0.C).X):Int)=0))==(decide ((((BO x0.A x0.C).Y):Int)=0)))),gk (!((decide ((((BO x0.A x0.C).X):Int)=0))==(decide ((((BO x0.A x0.C).Y):Int)=0)))) (Ak (Bp (Ac.mk (AB.mk 0 0) x1 false) (BO x0.A x0.C)).2.1),gt (!((decide ((((BO x0.A x0.C).X):Int)=0))==(decide ((((BO x0.A x0.C).Y):Int)=0)))),gt (!((decide ((((BO x0.A x0.C).X):Int)=0))==(decide ((((BO x0.A x0.C).Y):Int)=0)))),gt (!((decide ((((BO x0.A x0.C).X):Int)=0))==(decide ((((BO x0.A x0.C).Y):Int)=0))))] ⟨[(4,tB (bif !((decide ((((BO x0.A x0.C).X):Int)=0))==(decide ((((BO x0.A x0.C).Y):Int)=0))) then (decide (((BO x0.B x0.C).X)=((Aa (Ac.mk (AB.mk 0 0) x1 false) (BO x0.A x0.C)).X))&&(decide (((BO x0.B x0.C).Y)=((Aa (Ac.mk (AB.mk 0 0) x1 false) (BO x0.A x0.C)).Y))&&true)) else false))],[]⟩ (.cons (TU x0.B x0.C) (.cons (Dd (Ac.mk (AB.mk 0 0) x1 false) (BO x0.A x0.C)) .nil)) (ci (ci (ci (ci (.cons (fun _=>rfl) (ci (ci (ci (.cons (fun _=>rfl) (ci (ci (ci .nil))))))))))))<|AJ<|Ag ?_
 exact ⟨_,Cv.refl _,.inl rfl,tO (.b (bif !((decide ((((BO x0.A x0.C).X):Int)=0))==(decide ((((BO x0.A x0.C).Y):Int)=0))) then (decide (((BO x0.B x0.C).X)=((Aa (Ac.mk (AB.mk 0 0) x1 false) (BO x0.A x0.C)).X))&&(decide (((BO x0.B x0.C).Y)=((Aa (Ac.mk (AB.mk 0 0) x1 false) (BO x0.A x0.C)).Y))&&true)) else false)),by kernel_rfl,Al (by rfl)⟩
theorem KM (x0:AG) (x1:Int):Az Tryz.prog (DW x0 x1).1 (DW x0 x1).2.1 (DW x0 x1).2.2:=AW (fun _ _=>by kernel_rfl) fun _=>R7 x0 x1
def Ge (x0:AG):Bool:=(decide (x0.C.X=0)&&(decide (x0.C.Y=0)&&true))
def H5 (x0:AG):FuncId×List Av×Ef:=(172,[.agg (AG.c x0)],.val [] (.av (.one (.b (Ge x0)))))
theorem X6 (x0:AG):Bk Tryz.prog 172 (H5 x0).2.1 (tO (.b (Ge x0))):=by
 refine AV Tryz.func172 rfl kr kr fun W0 M0 => ?_
 refine AC<|rn ⟨[(1,tP 1 0)],[(1,.cells (AG.c x0) 68)]⟩<|AC ?_
 refine rn ⟨[(2,tB ((decide (x0.C.X=0)&&(decide (x0.C.Y=0)&&true))))],[]⟩<|Ag ?_
 exact ⟨_,Cv.refl _,.inl rfl,tO (.b ((decide (x0.C.X=0)&&(decide (x0.C.Y=0)&&true)))),by kernel_rfl,Al (by rfl)⟩
theorem Vi (x0:AG):Az Tryz.prog (H5 x0).1 (H5 x0).2.1 (H5 x0).2.2:=AW (fun _ _=>by kernel_rfl) fun _=>X6 x0
def Dx (x0:AG):Bool:=Cs x0 1
def ES (x0:AG):FuncId×List Av×Ef:=(175,[.agg (AG.c x0)],.val [] (.av (.one (.b (Dx x0)))))
theorem Oy (x0:AG):Bk Tryz.prog 175 (ES x0).2.1 (tO (.b (Dx x0))):=by
 refine AV Tryz.func175 rfl kr kr fun W0 M0 => ?_
 refine AC<|rn ⟨[(1,tP 1 0)],[(1,.cells (AG.c x0) 68)]⟩<|AC ?_
 refine rc [(4,DW x0 1)] [Ak (DW x0 1).2.1] ⟨[(2,tB (Cs x0 1))],[]⟩ (.cons (KM x0 1) .nil) (.cons rfl .nil)<|AJ<|Ag ?_
 exact ⟨_,Cv.refl _,.inl rfl,tO (.b (Cs x0 1)),by kernel_rfl,Al (by rfl)⟩
theorem Nw (x0:AG):Az Tryz.prog (ES x0).1 (ES x0).2.1 (ES x0).2.2:=AW (fun _ _=>by kernel_rfl) fun _=>Oy x0
def DT (x0:AG):Bool:=Cs x0 3
def D9 (x0:AG):FuncId×List Av×Ef:=(178,[.agg (AG.c x0)],.val [] (.av (.one (.b (DT x0)))))
theorem Nu (x0:AG):Bk Tryz.prog 178 (D9 x0).2.1 (tO (.b (DT x0))):=by
 refine AV Tryz.func178 rfl kr kr fun W0 M0 => ?_
 refine AC<|rn ⟨[(1,tP 1 0)],[(1,.cells (AG.c x0) 68)]⟩<|AC ?_
 refine rc [(4,DW x0 3)] [Ak (DW x0 3).2.1] ⟨[(2,tB (Cs x0 3))],[]⟩ (.cons (KM x0 3) .nil) (.cons rfl .nil)<|AJ<|Ag ?_
 exact ⟨_,Cv.refl _,.inl rfl,tO (.b (Cs x0 3)),by kernel_rfl,Al (by rfl)⟩
theorem Ml (x0:AG):Az Tryz.prog (D9 x0).1 (D9 x0).2.1 (D9 x0).2.2:=AW (fun _ _=>by kernel_rfl) fun _=>Nu x0
def G2:FuncId×List Av×Ef:=(164,[.one (.i 1)],.val [] (.tup [.agg [.clo 172 0 (fun _=>default),.clo 173 0 (fun _=>default),.clo 174 0 (fun _=>default),.i 1],.one (.b true)]))
theorem Va  : Bk Tryz.prog 164 (G2 ).2.1 (.tup [.agg [.clo 172 0 (fun _=>default),.clo 173 0 (fun _=>default),.clo 174 0 (fun _=>default),.i 1],.one (.b true)]):=by
 refine AV Tryz.func164 rfl kr kr fun W0 M0 => ?_
 refine AC<|rn ⟨[(0,tI 1),(2,tP 2 0)],[(2,.cells [.val .nilFunc,.val .nilFunc,.val .nilFunc,.i 0] 241)]⟩ ?_
 refine AC<|AC ?_
 refine rn ⟨[(0,tI 1),(2,tP 2 0),(4,tI 1)],[(2,.cells [.val .nilFunc,.val .nilFunc,.val .nilFunc,.i 0] 241)]⟩ ?_
 refine AY<|AC ?_
 refine rn ⟨[(0,tI 1),(2,tP 2 0),(4,tI 1),(5,tB true)],[(2,.cells [.val .nilFunc,.val .nilFunc,.val .nilFunc,.i 0] 241)]⟩ ?_
 refine DS kr<|AC ?_
 refine rn ⟨[(2,tP 2 0),(3,tB true)],[(2,.cells [.clo 172 0 (fun _=>default),.clo 173 0 (fun _=>default),.clo 174 0 (fun _=>default),.i 1] 241)]⟩ ?_
 refine Ag<|CO<|Bd ?_
 exact ⟨_,Cv.refl _,.inl rfl,.tup [.agg [.clo 172 0 (fun _=>default),.clo 173 0 (fun _=>default),.clo 174 0 (fun _=>default),.i 1],.one (.b true)],by kernel_rfl,Al rfl⟩
theorem TY  : Az Tryz.prog (G2 ).1 (G2 ).2.1 (G2 ).2.2:=AW (fun _ _=>by kernel_rfl) fun _=>Va
def G1:FuncId×List Av×Ef:=(164,[.one (.i 2)],.val [] (.tup [.agg [.clo 175 0 (fun _=>default),.clo 176 0 (fun _=>default),.clo 177 0 (fun _=>default),.i 3],.one (.b true)]))
theorem VZ  : Bk Tryz.prog 164 (G1 ).2.1 (.tup [.agg [.clo 175 0 (fun _=>default),.clo 176 0 (fun _=>default),.clo 177 0 (fun _=>default),.i 3],.one (.b true)]):=by
 refine AV Tryz.func164 rfl kr kr fun W0 M0 => ?_
 refine AC<|rn ⟨[(0,tI 2),(2,tP 2 0)],[(2,.cells [.val .nilFunc,.val .nilFunc,.val .nilFunc,.i 0] 241)]⟩ ?_
 refine AC<|AC ?_
 refine rn ⟨[(0,tI 2),(2,tP 2 0),(4,tI 2)],[(2,.cells [.val .nilFunc,.val .nilFunc,.val .nilFunc,.i 0] 241)]⟩ ?_
 refine AY<|AC ?_
 refine rn ⟨[(0,tI 2),(2,tP 2 0),(4,tI 2),(5,tB false)],[(2,.cells [.val .nilFunc,.val .nilFunc,.val .nilFunc,.i 0] 241)]⟩ ?_
 refine E7 kr<|AC ?_
 refine rn ⟨[(0,tI 2),(2,tP 2 0),(4,tI 2),(8,tB true)],[(2,.cells [.val .nilFunc,.val .nilFunc,.val .nilFunc,.i 0] 241)]⟩ ?_
 refine DS kr<|AC ?_
 refine rn ⟨[(2,tP 2 0),(3,tB true)],[(2,.cells [.clo 175 0 (fun _=>default),.clo 176 0 (fun _=>default),.clo 177 0 (fun _=>default),.i 3] 241)]⟩ ?_
 refine Ag<|CO<|Bd ?_
 exact ⟨_,Cv.refl _,.inl rfl,.tup [.agg [.clo 175 0 (fun _=>default),.clo 176 0 (fun _=>default),.clo 177 0 (fun _=>default),.i 3],.one (.b true)],by kernel_rfl,Al rfl⟩
theorem TX  : Az Tryz.prog (G1 ).1 (G1 ).2.1 (G1 ).2.2:=AW (fun _ _=>by kernel_rfl) fun _=>VZ
def G0:FuncId×List Av×Ef:=(164,[.one (.i 3)],.val [] (.tup [.agg [.clo 178 0 (fun _=>default),.clo 176 0 (fun _=>default),.clo 177 0 (fun _=>default),.i 2],.one (.b true)]))
theorem VY  : Bk Tryz.prog 164 (G0 ).2.1 (.tup [.agg [.clo 178 0 (fun _=>default),.clo 176 0 (fun _=>default),.clo 177 0 (fun _=>default),.i 2],.one (.b true)]):=by
 refine AV Tryz.func164 rfl kr kr fun W0 M0 => ?_
 refine AC<|rn ⟨[(0,tI 3),(2,tP 2 0)],[(2,.cells [.val .nilFunc,.val .nilFunc,.val .nilFunc,.i 0] 241)]⟩ ?_
 refine AC<|AC ?_
 refine rn ⟨[(0,tI 3),(2,tP 2 0),(4,tI 3)],[(2,.cells [.val .nilFunc,.val .nilFunc,.val .nilFunc,.i 0] 241)]⟩ ?_
 refine AY<|AC ?_
 refine rn ⟨[(0,tI 3),(2,tP 2 0),(4,tI 3),(5,tB false)],[(2,.cells [.val .nilFunc,.val .nilFunc,.val .nilFunc,.i 0] 241)]⟩ ?_
 refine E7 kr<|AC ?_
 refine rn ⟨[(0,tI 3),(2,tP 2 0),(4,tI 3),(8,tB false)],[(2,.cells [.val .nilFunc,.val .nilFunc,.val .nilFunc,.i 0] 241)]⟩ ?_
 refine E7 kr<|AC ?_
 refine rn ⟨[(0,tI 3),(2,tP 2 0),(11,tB true)],[(2,.cells [.val .nilFunc,.val .nilFunc,.val .nilFunc,.i 0] 241)]⟩ ?_
 refine DS kr<|AC ?_
 refine rn ⟨[(2,tP 2 0),(3,tB true)],[(2,.cells [.clo 178 0 (fun _=>default),.clo 176 0 (fun _=>default),.clo 177 0 (fun _=>default),.i 2] 241)]⟩ ?_
 refine Ag<|CO<|Bd ?_
 exact ⟨_,Cv.refl _,.inl rfl,.tup [.agg [.clo 178 0 (fun _=>default),.clo 176 0 (fun _=>default),.clo 177 0 (fun _=>default),.i 2],.one (.b true)],by kernel_rfl,Al rfl⟩
theorem TW  : Az Tryz.prog (G0 ).1 (G0 ).2.1 (G0 ).2.2:=AW (fun _ _=>by kernel_rfl) fun _=>VY
def Fb (k:Int):FuncId×List Av×Ef:=(164,[.one (.i k)],.val [] (.tup [.agg [.val .nilFunc,.val .nilFunc,.val .nilFunc,.i k],.one (.b false)]))
theorem VX (k:Int) (k1:¬ k=1) (k2:¬ k=2) (k3:¬ k=3):Bk Tryz.prog 164 (Fb k).2.1 (.tup [.agg [.val .nilFunc,.val .nilFunc,.val .nilFunc,.i k],.one (.b false)]):=by
 refine AV Tryz.func164 rfl kr kr fun W0 M0 => ?_
 refine AC<|rn ⟨[(0,tI k),(2,tP 2 0)],[(2,.cells [.val .nilFunc,.val .nilFunc,.val .nilFunc,.i 0] 241)]⟩ ?_
 refine AC<|AC ?_
 refine rn ⟨[(0,tI k),(2,tP 2 0),(4,tI k)],[(2,.cells [.val .nilFunc,.val .nilFunc,.val .nilFunc,.i 0] 241)]⟩ ?_
 refine AY<|AC ?_
 refine rn ⟨[(0,tI k),(2,tP 2 0),(4,tI k),(5,tB (decide ((k:Int)=1)))],[(2,.cells [.val .nilFunc,.val .nilFunc,.val .nilFunc,.i 0] 241)]⟩ ?_
 refine Ab _ rfl (fun h=>absurd ((decide_eq_false k1).symm.trans h) (by decide)) (fun _ => ?_)
 refine AC<|rn ⟨[(0,tI k),(2,tP 2 0),(4,tI k),(8,tB (decide ((k:Int)=2)))],[(2,.cells [.val .nilFunc,.val .nilFunc,.val .nilFunc,.i 0] 241)]⟩ ?_
 refine Ab _ rfl (fun h=>absurd ((decide_eq_false k2).symm.trans h) (by decide)) (fun _ => ?_)
 refine AC<|rn ⟨[(0,tI k),(2,tP 2 0),(11,tB (decide ((k:Int)=3)))],[(2,.cells [.val .nilFunc,.val .nilFunc,.val .nilFunc,.i 0] 241)]⟩ ?_
 refine Ab _ rfl (fun h=>absurd ((decide_eq_false k3).symm.trans h) (by decide)) (fun _ => ?_)
 refine Af<|Be ?_
 refine AJ<|AC ?_
 refine rn ⟨[(2,tP 2 0),(3,tB false)],[(2,.cells [.val .nilFunc,.val .nilFunc,.val .nilFunc,.i k] 241)]⟩<|Ag ?_
 exact ⟨_,Cv.refl _,.inl rfl,.tup [.agg [.val .nilFunc,.val .nilFunc,.val .nilFunc,.i k],.one (.b false)],by kernel_rfl,Al rfl⟩
theorem TV (k:Int) (k1:¬ k=1) (k2:¬ k=2) (k3:¬ k=3):Az Tryz.prog (Fb k).1 (Fb k).2.1 (Fb k).2.2:=AW (fun _ _=>by kernel_rfl) fun _=>VX k k1 k2 k3
def Z00 (a0:AB) (a1:AB):Bool:=bif Ai a0 then Ai a1 else false
def Z01 (a0:AB) (a1:AB) (a2:AB):Bool:=bif Z00 a0 a1 then Ai a2 else false
def Z02 (a0:AB) (a1:AB) (a2:AB):Bool:=bif Z01 a0 a1 a2 then Ge (AG.mk 1 a0 a1 a2) else false
def WH (a0:AB) (a1:AB) (a2:AB):FuncId×List Av×Ef:=(130,[.agg [.i 1,.i a0.X,.i a0.Y,.i a1.X,.i a1.Y,.i a2.X,.i a2.Y]],.val [] (.tup [.agg [.clo 172 0 (fun _=>default),.clo 173 0 (fun _=>default),.clo 174 0 (fun _=>default),.i 1],.one (.b (Z02 a0 a1 a2))]))
theorem sF {p:Prop} (h:p:=by
 refine AV Tryz.func130 rfl kr kr fun W0 M0 => ?_
 refine AC<|rn ⟨[(1,tP 1 0),(2,tP 2 0)],[(1,.cells [.i mp0,.i a0.X,.i a0.Y,.i a1.X,.i a1.Y,.i a2.X,.i a2.Y] 68),(2,.cells [.val .nilFunc,.val .nilFunc,.val .nilFunc,.i 0] 241)]⟩<|AC ?_
 refine rc [(9,mp1)] [Ak (mp1).2.1] ⟨[(1,tP 1 0),(2,tP 2 0),(4,tP 4 0),(5,tB true)],[(1,.cells [.i mp0,.i a0.X,.i a0.Y,.i a1.X,.i a1.Y,.i a2.X,.i a2.Y] 68),(2,.cells [.val .nilFunc,.val .nilFunc,.val .nilFunc,.i 0] 241),(4,.cells [.clo mp2 0 (fun _=>default),.clo mp3 0 (fun _=>default),.clo mp4 0 (fun _=>default),.i mp5] 241)]⟩ (.cons (mp6) .nil) (.cons rfl .nil)<|AJ<|AC ?_
 refine dw [] [(17,Bi a0),(22,Bi a1),(27,Bi a2),(33,mp7 (AG.mk mp0 a0 a1 a2))] [((true)=true)->((true)=true),((true)=true)->((true)=true),((true)=true)->(Ak (Bi a0).2.1),(true)=true->((true)=true),gt (Ai a0),gt (Ai a0),gk (Ai a0) (Ak (Bi a1).2.1),gt (Ai a0),((mp8 a0 a1)=true)->((mp8 a0 a1)=true),((mp8 a0 a1)=true)->((mp8 a0 a1)=true),((mp8 a0 a1)=true)->(Ak (Bi a2).2.1),(mp8 a0 a1)=true->((mp8 a0 a1)=true),gt (mp9 a0 a1 a2),gt (mp9 a0 a1 a2),gt (mp9 a0 a1 a2),gk (mp9 a0 a1 a2) (Ak (mp7 (AG.mk mp0 a0 a1 a2)).2.1),gt (mp9 a0 a1 a2)] ⟨[(2,tP 2 0),(3,tB (mp10 a0 a1 a2))],[(2,.cells [.clo mp2 0 (fun _=>default),.clo mp3 0 (fun _=>default),.clo mp4 0 (fun _=>default),.i mp5] 241)]⟩ (.cons (C0 a0) (.cons (C0 a1) (.cons (C0 a2) (.cons (mp11 (AG.mk mp0 a0 a1 a2)) .nil)))) (ci (ci (.cons (fun _=>rfl) (ci (ci (ci (.cons (fun _=>rfl) (ci (ci (ci (.cons (fun _=>rfl) (ci (ci (ci (ci (.cons (fun _=>rfl) (ci .nil)))))))))))))))))<|AJ<|Ag ?_
 exact ⟨_,Cv.refl _,.inl rfl,.tup [.agg [.clo mp2 0 (fun _=>default),.clo mp3 0 (fun _=>default),.clo mp4 0 (fun _=>default),.i mp5],.one (.b (mp10 a0 a1 a2))],by kernel_rfl,Al rfl⟩):p:=h
section
 open Go.Proofs.YtheobjkgllmnmaaGreat renaming nn1→mp0,G2→mp1,nn172→mp2,nn173→mp3,nn174→mp4,nn1→mp5,TY→mp6,H5→mp7,Z00→mp8,Z01→mp9,Z02→mp10,Vi→mp11
theorem pof1 (a0:AB) (a1:AB) (a2:AB):Bk Tryz.prog 130 (WH a0 a1 a2).2.1 (.tup [.agg [.clo 172 0 (fun _=>default),.clo 173 0 (fun _=>default),.clo 174 0 (fun _=>default),.i 1],.one (.b (Z02 a0 a1 a2))]):=sF
end
theorem kI (a0:AB) (a1:AB) (a2:AB):Az Tryz.prog (WH a0 a1 a2).1 (WH a0 a1 a2).2.1 (WH a0 a1 a2).2.2:=AW (fun _ _=>by kernel_rfl) fun _=>pof1 a0 a1 a2
def Z03 (a0:AB) (a1:AB):Bool:=bif Ai a0 then Ai a1 else false
def Z04 (a0:AB) (a1:AB) (a2:AB):Bool:=bif Z03 a0 a1 then Ai a2 else false
def Z05 (a0:AB) (a1:AB) (a2:AB):Bool:=bif Z04 a0 a1 a2 then Dx (AG.mk 2 a0 a1 a2) else false
def Yf (a0:AB) (a1:AB) (a2:AB):FuncId×List Av×Ef:=(130,[.agg [.i 2,.i a0.X,.i a0.Y,.i a1.X,.i a1.Y,.i a2.X,.i a2.Y]],.val [] (.tup [.agg [.clo 175 0 (fun _=>default),.clo 176 0 (fun _=>default),.clo 177 0 (fun _=>default),.i 3],.one (.b (Z05 a0 a1 a2))]))
section
 open Go.Proofs.YtheobjkgllmnmaaGreat renaming nn2→mp0,G1→mp1,kQ→mp2,kP→mp3,kO→mp4,nn3→mp5,TX→mp6,ES→mp7,Z03→mp8,Z04→mp9,Z05→mp10,Nw→mp11
theorem pof2 (a0:AB) (a1:AB) (a2:AB):Bk Tryz.prog 130 (Yf a0 a1 a2).2.1 (.tup [.agg [.clo 175 0 (fun _=>default),.clo 176 0 (fun _=>default),.clo 177 0 (fun _=>default),.i 3],.one (.b (Z05 a0 a1 a2))]):=sF
end
theorem kH (a0:AB) (a1:AB) (a2:AB):Az Tryz.prog (Yf a0 a1 a2).1 (Yf a0 a1 a2).2.1 (Yf a0 a1 a2).2.2:=AW (fun _ _=>by kernel_rfl) fun _=>pof2 a0 a1 a2
def Z06 (a0:AB) (a1:AB):Bool:=bif Ai a0 then Ai a1 else false
def Z07 (a0:AB) (a1:AB) (a2:AB):Bool:=bif Z06 a0 a1 then Ai a2 else false
def Z08 (a0:AB) (a1:AB) (a2:AB):Bool:=bif Z07 a0 a1 a2 then DT (AG.mk 3 a0 a1 a2) else false
def Ye (a0:AB) (a1:AB) (a2:AB):FuncId×List Av×Ef:=(130,[.agg [.i 3,.i a0.X,.i a0.Y,.i a1.X,.i a1.Y,.i a2.X,.i a2.Y]],.val [] (.tup [.agg [.clo 178 0 (fun _=>default),.clo 176 0 (fun _=>default),.clo 177 0 (fun _=>default),.i 2],.one (.b (Z08 a0 a1 a2))]))
section
 open Go.Proofs.YtheobjkgllmnmaaGreat renaming nn3→mp0,G0→mp1,kN→mp2,kP→mp3,kO→mp4,nn2→mp5,TW→mp6,D9→mp7,Z06→mp8,Z07→mp9,Z08→mp10,Ml→mp11
theorem pof3 (a0:AB) (a1:AB) (a2:AB):Bk Tryz.prog 130 (Ye a0 a1 a2).2.1 (.tup [.agg [.clo 178 0 (fun _=>default),.clo 176 0 (fun _=>default),.clo 177 0 (fun _=>default),.i 2],.one (.b (Z08 a0 a1 a2))]):=sF
end
theorem kG (a0:AB) (a1:AB) (a2:AB):Az Tryz.prog (Ye a0 a1 a2).1 (Ye a0 a1 a2).2.1 (Ye a0 a1 a2).2.2:=AW (fun _ _=>by kernel_rfl) fun _=>pof3 a0 a1 a2
def UP (e:AG):FuncId×List Av×Ef:=(130,[.agg (AG.c e)],.val [] (.tup [.agg [.val .nilFunc,.val .nilFunc,.val .nilFunc,.i e.Kind],.one (.b false)]))
theorem pofN (e:AG) (k1:¬ e.Kind=1) (k2:¬ e.Kind=2) (k3:¬ e.Kind=3):Bk Tryz.prog 130 (UP e).2.1 (.tup [.agg [.val .nilFunc,.val .nilFunc,.val .nilFunc,.i e.Kind],.one (.b false)]):=by
 refine AV Tryz.func130 rfl kr kr fun W0 M0 => ?_
 refine AC<|rn ⟨[(1,tP 1 0),(2,tP 2 0)],[(1,.cells (AG.c e) 68),(2,.cells [.val .nilFunc,.val .nilFunc,.val .nilFunc,.i 0] 241)]⟩<|AC ?_
 refine rc [(9,Fb e.Kind)] [Ak (Fb e.Kind).2.1] ⟨[(1,tP 1 0),(2,tP 2 0),(4,tP 4 0),(5,tB false)],[(1,.cells (AG.c e) 68),(2,.cells [.val .nilFunc,.val .nilFunc,.val .nilFunc,.i 0] 241),(4,.cells [.val .nilFunc,.val .nilFunc,.val .nilFunc,.i e.Kind] 241)]⟩ (.cons (TV e.Kind k1 k2 k3) .nil) (.cons rfl .nil)<|AJ<|AC ?_
 refine dw [] [(17,Bi e.A),(22,Bi e.B),(27,Bi e.C)] [((false)=true)->((false)=true),((false)=true)->((false)=true),((false)=true)->(Ak (Bi e.A).2.1),(false)=true->((false)=true),((false)=true)->((false)=true),((false)=true)->((false)=true),((false)=true)->(Ak (Bi e.B).2.1),(false)=true->((false)=true),((false)=true)->((false)=true),((false)=true)->((false)=true),((false)=true)->(Ak (Bi e.C).2.1),(false)=true->((false)=true),((false)=true)->((false)=true),¬ ((false)=true),(false)=true->((false)=true)] ⟨[(2,tP 2 0),(3,tB false)],[(2,.cells [.val .nilFunc,.val .nilFunc,.val .nilFunc,.i e.Kind] 241)]⟩ (.cons (C0 e.A) (.cons (C0 e.B) (.cons (C0 e.C) .nil))) (ci (ci (.cons (fun _=>rfl) (ci (ci (ci (.cons (fun _=>rfl) (ci (ci (ci (.cons (fun _=>rfl) (ci (ci (.cons (by simp) (ci .nil)))))))))))))))<|AJ<|Ag ?_
 exact ⟨_,Cv.refl _,.inl rfl,.tup [.agg [.val .nilFunc,.val .nilFunc,.val .nilFunc,.i e.Kind],.one (.b false)],by kernel_rfl,Al rfl⟩
theorem kF (e:AG) (k1:¬ e.Kind=1) (k2:¬ e.Kind=2) (k3:¬ e.Kind=3):Az Tryz.prog (UP e).1 (UP e).2.1 (UP e).2.2:=AW (fun _ _=>by kernel_rfl) fun _=>pofN e k1 k2 k3
def Z09 (a0:AB) (a1:AB) (a2:AB):Bool := !(bif bif Ai a0 then Ai a1 else false then Ai a2 else false)
def KJ (a0:AB) (a1:AB) (a2:AB):Int:=bif Z02 a0 a1 a2 then (0) else (bif Z09 a0 a1 a2 then (10) else (11))
def jH (a0:AB) (a1:AB) (a2:AB):FuncId×List Av×Ef:=(79,[.agg [.i 1,.i a0.X,.i a0.Y,.i a1.X,.i a1.Y,.i a2.X,.i a2.Y]],.val [] (.av (.one (.i (KJ a0 a1 a2)))))
theorem sE {p:Prop} (h:p:=by
 refine AV Tryz.func79 rfl kr kr fun W0 M0 => ?_
 refine AC<|rn ⟨[(1,tP 1 0)],[(1,.cells [.i mp0,.i a0.X,.i a0.Y,.i a1.X,.i a1.Y,.i a2.X,.i a2.Y] 68)]⟩ ?_
 refine AC<|AC ?_
 refine rc [(7,mp1 a0 a1 a2)] [Ak (mp1 a0 a1 a2).2.1] ⟨[(1,tP 1 0),(4,tB (mp2 a0 a1 a2))],[(1,.cells [.i mp0,.i a0.X,.i a0.Y,.i a1.X,.i a1.Y,.i a2.X,.i a2.Y] 68)]⟩ (.cons (mp3 a0 a1 a2) .nil) (.cons rfl .nil)<|AJ ?_
 refine AY<|AC ?_
 refine rn ⟨[(1,tP 1 0),(10,tB (mp2 a0 a1 a2))],[(1,.cells [.i mp0,.i a0.X,.i a0.Y,.i a1.X,.i a1.Y,.i a2.X,.i a2.Y] 68)]⟩ ?_
 refine Ab _ rfl (fun h1 => ?_) (fun h1 => ?_)
 ·refine AC<|rn ⟨[(2,tI 0)],[]⟩ ?_
  refine Ag<|CO<|Bd ?_
  exact ⟨_,Cv.refl _,.inl rfl,tO (.i 0),by kernel_rfl,Al (by first | (simp only [mp4,h1,cond_true,cond_false] <;> rfl))⟩
 ·refine AC<|rc [(24,Bi a0),(28,Bi a1),(33,Bi a2)] [((true)=true)->((true)=true),((true)=true)->((true)=true),(true)=true->((true)=true),((true)=true)->((true)=true),((true)=true)->((true)=true),((true)=true)->(Ak (Bi a0).2.1),((true)=true)->((true)=true),(((true)=true)/\(Ai a0)=true)->(((true)=true)/\(Ai a0)=true),(((true)=true)/\(Ai a0)=true)->(((true)=true)/\(Ai a0)=true),(((true)=true)/\(Ai a0)=true)->(Ak (Bi a1).2.1),((true)=true)->((true)=true),((true)=true)->((Ai a0)=true->(((true)=true)/\(Ai a0)=true)),((true)=true)->((true)=true),(((true)=true)/\(bif Ai a0 then Ai a1 else false)=true)->(((true)=true)/\(bif Ai a0 then Ai a1 else false)=true),(((true)=true)/\(bif Ai a0 then Ai a1 else false)=true)->(((true)=true)/\(bif Ai a0 then Ai a1 else false)=true),(((true)=true)/\(bif Ai a0 then Ai a1 else false)=true)->(Ak (Bi a2).2.1),((true)=true)->((true)=true),((true)=true)->((bif Ai a0 then Ai a1 else false)=true->(((true)=true)/\(bif Ai a0 then Ai a1 else false)=true)),((true)=true)->((true)=true),(true)=true->((true)=true)] ⟨[(12,tB (mp5 a0 a1 a2))],[]⟩ (.cons (C0 a0) (.cons (C0 a1) (.cons (C0 a2) .nil))) (ci (ci (ci (ci (ci (.cons (fun _=>rfl) (ci (ci (ci (.cons (fun _=>rfl) (ci (.cons (by intros;first | assumption | exact ⟨by assumption,by assumption⟩ | simp_all) (ci (ci (ci (.cons (fun _=>rfl) (ci (.cons (by intros;first | assumption | exact ⟨by assumption,by assumption⟩ | simp_all) (ci (ci .nil))))))))))))))))))))<|AJ ?_
  refine Ab _ rfl (fun h2 => ?_) (fun h2 => ?_)
  ·refine AC<|rn ⟨[(2,tI 10)],[]⟩ ?_
   refine Ag<|CO<|Bd ?_
   exact ⟨_,Cv.refl _,.inl rfl,tO (.i 10),by kernel_rfl,Al (by first | (simp only [mp4,h1,h2,cond_true,cond_false] <;> rfl))⟩
  ·refine Af<|Be ?_
   refine AJ<|AC ?_
   refine rn ⟨[(2,tI 11)],[]⟩<|Ag ?_
   exact ⟨_,Cv.refl _,.inl rfl,tO (.i 11),by kernel_rfl,Al (by first | (simp only [mp4,h1,h2,cond_true,cond_false] <;> rfl))⟩):p:=h
section
 open Go.Proofs.YtheobjkgllmnmaaGreat renaming nn1→mp0,WH→mp1,Z02→mp2,kI→mp3,KJ→mp4,Z09→mp5
theorem gF (a0:AB) (a1:AB) (a2:AB):Bk Tryz.prog 79 (jH a0 a1 a2).2.1 (tO (.i (KJ a0 a1 a2))):=sE
end
def Z0a (a0:AB) (a1:AB) (a2:AB):Bool := !(bif bif Ai a0 then Ai a1 else false then Ai a2 else false)
def KI (a0:AB) (a1:AB) (a2:AB):Int:=bif Z05 a0 a1 a2 then (0) else (bif Z0a a0 a1 a2 then (10) else (11))
def jG (a0:AB) (a1:AB) (a2:AB):FuncId×List Av×Ef:=(79,[.agg [.i 2,.i a0.X,.i a0.Y,.i a1.X,.i a1.Y,.i a2.X,.i a2.Y]],.val [] (.av (.one (.i (KI a0 a1 a2)))))
section
 open Go.Proofs.YtheobjkgllmnmaaGreat renaming nn2→mp0,Yf→mp1,Z05→mp2,kH→mp3,KI→mp4,Z0a→mp5
theorem gE (a0:AB) (a1:AB) (a2:AB):Bk Tryz.prog 79 (jG a0 a1 a2).2.1 (tO (.i (KI a0 a1 a2))):=sE
end
def Z0b (a0:AB) (a1:AB) (a2:AB):Bool := !(bif bif Ai a0 then Ai a1 else false then Ai a2 else false)
def KH (a0:AB) (a1:AB) (a2:AB):Int:=bif Z08 a0 a1 a2 then (0) else (bif Z0b a0 a1 a2 then (10) else (11))
def jF (a0:AB) (a1:AB) (a2:AB):FuncId×List Av×Ef:=(79,[.agg [.i 3,.i a0.X,.i a0.Y,.i a1.X,.i a1.Y,.i a2.X,.i a2.Y]],.val [] (.av (.one (.i (KH a0 a1 a2)))))
section
 open Go.Proofs.YtheobjkgllmnmaaGreat renaming nn3→mp0,Ye→mp1,Z08→mp2,kG→mp3,KH→mp4,Z0b→mp5
theorem gC (a0:AB) (a1:AB) (a2:AB):Bk Tryz.prog 79 (jF a0 a1 a2).2.1 (tO (.i (KH a0 a1 a2))):=sE
end
def I1 (e:AG):Int:=bif bif bif decide ((1:Int)<=e.Kind) then decide ((e.Kind:Int)<=3) else false then !(bif bif Ai e.A then Ai e.B else false then Ai e.C else false) else false then (10) else (11)
def jE (e:AG):FuncId×List Av×Ef:=(79,[.agg (AG.c e)],.val [] (.av (.one (.i (I1 e)))))
theorem gB (e:AG) (k1:¬ e.Kind=1) (k2:¬ e.Kind=2) (k3:¬ e.Kind=3):Bk Tryz.prog 79 (jE e).2.1 (tO (.i (I1 e))):=by
 refine AV Tryz.func79 rfl kr kr fun W0 M0 => ?_
 refine AC<|rn ⟨[(1,tP 1 0)],[(1,.cells (AG.c e) 68)]⟩ ?_
 refine AC<|AC ?_
 refine rc [(7,UP e)] [Ak (UP e).2.1] ⟨[(1,tP 1 0),(4,tB false)],[(1,.cells (AG.c e) 68)]⟩ (.cons (kF e k1 k2 k3) .nil) (.cons rfl .nil)<|AJ ?_
 refine AY<|AC ?_
 refine rn ⟨[(1,tP 1 0),(10,tB false)],[(1,.cells (AG.c e) 68)]⟩ ?_
 refine E7 kr<|AC ?_
 refine rc [(24,Bi e.A),(28,Bi e.B),(33,Bi e.C)] [gt (decide ((1:Int)<=e.Kind)),gt (decide ((1:Int)<=e.Kind)),gt (decide ((1:Int)<=e.Kind)),gt (bif decide ((1:Int)<=e.Kind) then decide ((e.Kind:Int)<=3) else false),gt (bif decide ((1:Int)<=e.Kind) then decide ((e.Kind:Int)<=3) else false),gk (bif decide ((1:Int)<=e.Kind) then decide ((e.Kind:Int)<=3) else false) (Ak (Bi e.A).2.1),gt (bif decide ((1:Int)<=e.Kind) then decide ((e.Kind:Int)<=3) else false),(((bif decide ((1:Int)<=e.Kind) then decide ((e.Kind:Int)<=3) else false)=true)/\(Ai e.A)=true)->(((bif decide ((1:Int)<=e.Kind) then decide ((e.Kind:Int)<=3) else false)=true)/\(Ai e.A)=true),(((bif decide ((1:Int)<=e.Kind) then decide ((e.Kind:Int)<=3) else false)=true)/\(Ai e.A)=true)->(((bif decide ((1:Int)<=e.Kind) then decide ((e.Kind:Int)<=3) else false)=true)/\(Ai e.A)=true),(((bif decide ((1:Int)<=e.Kind) then decide ((e.Kind:Int)<=3) else false)=true)/\(Ai e.A)=true)->(Ak (Bi e.B).2.1),gt (bif decide ((1:Int)<=e.Kind) then decide ((e.Kind:Int)<=3) else false),((bif decide ((1:Int)<=e.Kind) then decide ((e.Kind:Int)<=3) else false)=true)->((Ai e.A)=true->(((bif decide ((1:Int)<=e.Kind) then decide ((e.Kind:Int)<=3) else false)=true)/\(Ai e.A)=true)),gt (bif decide ((1:Int)<=e.Kind) then decide ((e.Kind:Int)<=3) else false),(((bif decide ((1:Int)<=e.Kind) then decide ((e.Kind:Int)<=3) else false)=true)/\(bif Ai e.A then Ai e.B else false)=true)->(((bif decide ((1:Int)<=e.Kind) then decide ((e.Kind:Int)<=3) else false)=true)/\(bif Ai e.A then Ai e.B else false)=true),(((bif decide ((1:Int)<=e.Kind) then decide ((e.Kind:Int)<=3) else false)=true)/\(bif Ai e.A then Ai e.B else false)=true)->(((bif decide ((1:Int)<=e.Kind) then decide ((e.Kind:Int)<=3) else false)=true)/\(bif Ai e.A then Ai e.B else false)=true),(((bif decide ((1:Int)<=e.Kind) then decide ((e.Kind:Int)<=3) else false)=true)/\(bif Ai e.A then Ai e.B else false)=true)->(Ak (Bi e.C).2.1),gt (bif decide ((1:Int)<=e.Kind) then decide ((e.Kind:Int)<=3) else false),((bif decide ((1:Int)<=e.Kind) then decide ((e.Kind:Int)<=3) else false)=true)->((bif Ai e.A then Ai e.B else false)=true->(((bif decide ((1:Int)<=e.Kind) then decide ((e.Kind:Int)<=3) else false)=true)/\(bif Ai e.A then Ai e.B else false)=true)),gt (bif decide ((1:Int)<=e.Kind) then decide ((e.Kind:Int)<=3) else false),gt (bif decide ((1:Int)<=e.Kind) then decide ((e.Kind:Int)<=3) else false)] ⟨[(12,tB (bif bif decide ((1:Int)<=e.Kind) then decide ((e.Kind:Int)<=3) else false then !(bif bif Ai e.A then Ai e.B else false then Ai e.C else false) else false))],[]⟩ (.cons (C0 e.A) (.cons (C0 e.B) (.cons (C0 e.C) .nil))) (ci (ci (ci (ci (ci (.cons (fun _=>rfl) (ci (ci (ci (.cons (fun _=>rfl) (ci (.cons (by intros;first | assumption | exact ⟨by assumption,by assumption⟩ | simp_all) (ci (ci (ci (.cons (fun _=>rfl) (ci (.cons (by intros;first | assumption | exact ⟨by assumption,by assumption⟩ | simp_all) (ci (ci .nil))))))))))))))))))))<|AJ ?_
 refine Ab _ rfl (fun h4 => ?_) (fun h4 => ?_)
 ·refine AC<|rn ⟨[(2,tI 10)],[]⟩ ?_
  refine Ag<|CO<|Bd ?_
  exact ⟨_,Cv.refl _,.inl rfl,tO (.i 10),by kernel_rfl,Al (by first | (simp only [I1,h4,cond_true,cond_false] <;> rfl))⟩
 ·refine Af<|Be ?_
  refine AJ<|AC ?_
  refine rn ⟨[(2,tI 11)],[]⟩<|Ag ?_
  exact ⟨_,Cv.refl _,.inl rfl,tO (.i 11),by kernel_rfl,Al (by first | (simp only [I1,h4,cond_true,cond_false] <;> rfl))⟩
def D7 (e:AG)  : Int:=if e.Kind=1 then KJ e.A e.B e.C  else if e.Kind=2 then KI e.A e.B e.C  else if e.Kind=3 then KH e.A e.B e.C  else I1 e
def M9 (e:AG)  : FuncId×List Av×Ef:=(79,[.agg (AG.c e)],.val [] (.av (.one (.i (D7 e )))))
theorem rI (e:AG)  : Bk Tryz.prog 79 (M9 e ).2.1 (.av (.one (.i (D7 e )))):=by
 by_cases k1:e.Kind=1
 ·have hF:D7 e  = KJ e.A e.B e.C  := by unfold D7;rw [if_pos k1]
  rw [hF];obtain ⟨k,a0,a1,a2⟩:=e;simp only at k1;subst k1;exact gF a0 a1 a2 
 by_cases k2:e.Kind=2
 ·have hF:D7 e  = KI e.A e.B e.C  := by unfold D7;rw [if_neg k1];rw [if_pos k2]
  rw [hF];obtain ⟨k,a0,a1,a2⟩:=e;simp only at k2;subst k2;exact gE a0 a1 a2 
 by_cases k3:e.Kind=3
 ·have hF:D7 e  = KH e.A e.B e.C  := by unfold D7;rw [if_neg k1];rw [if_neg k2];rw [if_pos k3]
  rw [hF];obtain ⟨k,a0,a1,a2⟩:=e;simp only at k3;subst k3;exact gC a0 a1 a2 
 have hF:D7 e  = I1 e  := by unfold D7;rw [if_neg k1,if_neg k2,if_neg k3]
 rw [hF];exact gB e  k1 k2 k3
theorem gR (e:AG)  : Az Tryz.prog (M9 e ).1 (M9 e ).2.1 (M9 e ).2.2:=AW (fun _ _=>by kernel_rfl) fun _=>rI e
def Pw (a0:AB) (a1:AB) (a2:AB) (m:Ac):AG:=AG.mk 1 (Aa m a0) (Aa m a1) a2
def sV (a0:AB) (a1:AB) (a2:AB) (m:Ac):FuncId×List Av×Ef:=(152,[.agg [.i 1,.i a0.X,.i a0.Y,.i a1.X,.i a1.Y,.i a2.X,.i a2.Y],.agg (Ac.c m)],.val [] (.av (.agg (AG.c (Pw a0 a1 a2 m)))))
theorem rD (a0:AB) (a1:AB) (a2:AB) (m:Ac):Bk Tryz.prog 152 (sV a0 a1 a2 m).2.1 (.av (.agg (AG.c (Pw a0 a1 a2 m)))):=by
 refine AV Tryz.func152 rfl kr kr fun W0 M0 => ?_
 refine AC<|rn ⟨[(2,tP 2 0),(3,tP 3 0),(4,tP 4 0)],[(2,.cells [.i 1,.i a0.X,.i a0.Y,.i a1.X,.i a1.Y,.i a2.X,.i a2.Y] 68),(3,.cells (Ac.c m) 74),(4,.cells [.i 0,.i 0,.i 0,.i 0,.i 0,.i 0,.i 0] 68)]⟩ ?_
 refine AC<|AC ?_
 refine rc [(9,WH a0 a1 a2)] [Ak (WH a0 a1 a2).2.1] ⟨[(2,tP 2 0),(3,tP 3 0),(4,tP 4 0),(5,tP 5 0)],[(2,.cells [.i 1,.i a0.X,.i a0.Y,.i a1.X,.i a1.Y,.i a2.X,.i a2.Y] 68),(3,.cells (Ac.c m) 74),(4,.cells [.i 0,.i 0,.i 0,.i 0,.i 0,.i 0,.i 0] 68),(5,.cells [.clo 172 0 (fun _=>default),.clo 173 0 (fun _=>default),.clo 174 0 (fun _=>default),.i 1] 241)]⟩ (.cons (kI a0 a1 a2) .nil) (.cons rfl .nil)<|AJ<|AC ?_
 refine rn ⟨[(2,tP 2 0),(3,tP 3 0),(4,tP 4 0),(5,tP 5 0),(13,tB m.Mirror)],[(2,.cells [.i 1,.i a0.X,.i a0.Y,.i a1.X,.i a1.Y,.i a2.X,.i a2.Y] 68),(3,.cells (Ac.c m) 74),(4,.cells [.i 0,.i 0,.i 0,.i 0,.i 0,.i 0,.i 0] 68),(5,.cells [.clo 172 0 (fun _=>default),.clo 173 0 (fun _=>default),.clo 174 0 (fun _=>default),.i 1] 241)]⟩ ?_
 refine Bu (⟨[(2,tP 2 0),(3,tP 3 0),(4,tP 4 0)],[(2,.cells [.i 1,.i a0.X,.i a0.Y,.i a1.X,.i a1.Y,.i a2.X,.i a2.Y] 68),(3,.cells (Ac.c m) 74),(4,.cells [.i 0,.i 0,.i 0,.i 0,.i 0,.i 0,.i 0] 68)]⟩) ?_ ?_
 ·refine Ab _ rfl (fun h1 => ?_) (fun h1 => ?_)
  ·refine rn ⟨[(2,tP 2 0),(3,tP 3 0),(4,tP 4 0)],[(2,.cells [.i 1,.i a0.X,.i a0.Y,.i a1.X,.i a1.Y,.i a2.X,.i a2.Y] 68),(3,.cells (Ac.c m) 74),(4,.cells [.i 0,.i 0,.i 0,.i 0,.i 0,.i 0,.i 0] 68)]⟩ ?_
   refine BB ?_
   first | rfl | (simp only [h1,cond_true,cond_false] <;> rfl)
  ·refine Af<|AJ ?_
   refine Cv.trans (BD [2,3,4] [2,3,4] (⟨[(2,tP 2 0),(3,tP 3 0),(4,tP 4 0)],[(2,.cells [.i 1,.i a0.X,.i a0.Y,.i a1.X,.i a1.Y,.i a2.X,.i a2.Y] 68),(3,.cells (Ac.c m) 74),(4,.cells [.i 0,.i 0,.i 0,.i 0,.i 0,.i 0,.i 0] 68)]⟩) kr) (BB ?_)
   first | rfl | (simp only [h1,cond_true,cond_false] <;> rfl)
 refine AC<|AC ?_
 refine rn ⟨[(2,tP 2 0),(3,tP 3 0),(4,tP 4 0),(19,tB false)],[(2,.cells [.i 1,.i a0.X,.i a0.Y,.i a1.X,.i a1.Y,.i a2.X,.i a2.Y] 68),(3,.cells (Ac.c m) 74),(4,.cells [.i 0,.i 0,.i 0,.i 0,.i 0,.i 0,.i 0] 68)]⟩ ?_
 refine E7 kr<|Af ?_
 refine AJ<|AC ?_
 refine dw [] [(28,Bp m a0),(32,Bp m a1)] [Ak (Bp m a0).2.1,Ak (Bp m a1).2.1] ⟨[(2,tP 2 0),(4,tP 4 0)],[(2,.cells [.i 1,.i ((Aa m a0).X),.i ((Aa m a0).Y),.i ((Aa m a1).X),.i ((Aa m a1).Y),.i a2.X,.i a2.Y] 68),(4,.cells [.i 0,.i 0,.i 0,.i 0,.i 0,.i 0,.i 0] 68)]⟩ (.cons (Dd m a0) (.cons (Dd m a1) .nil)) (.cons rfl (.cons rfl .nil))<|AJ<|AC ?_
 refine rn ⟨[(4,tP 4 0)],[(4,.cells [.i 1,.i ((Aa m a0).X),.i ((Aa m a0).Y),.i ((Aa m a1).X),.i ((Aa m a1).Y),.i a2.X,.i a2.Y] 68)]⟩<|Ag ?_
 exact ⟨_,Cv.refl _,.inl rfl,.av (.agg [.i 1,.i ((Aa m a0).X),.i ((Aa m a0).Y),.i ((Aa m a1).X),.i ((Aa m a1).Y),.i a2.X,.i a2.Y]),by kernel_rfl,Al (by rfl)⟩
def Pv (a0:AB) (a1:AB) (a2:AB) (m:Ac):AG:=AG.mk (bif m.Mirror then 3 else 2) (Aa m a0) (Aa m a1) (AB.mk (bif !decide (((bif m.Mirror then 3 else 2):Int)=1) then ((Aa m a2).X) else a2.X) (bif !decide (((bif m.Mirror then 3 else 2):Int)=1) then ((Aa m a2).Y) else a2.Y))
def sT (a0:AB) (a1:AB) (a2:AB) (m:Ac):FuncId×List Av×Ef:=(152,[.agg [.i 2,.i a0.X,.i a0.Y,.i a1.X,.i a1.Y,.i a2.X,.i a2.Y],.agg (Ac.c m)],.val [] (.av (.agg (AG.c (Pv a0 a1 a2 m)))))
theorem mac3 {p:Prop} (h:p:=by
 refine AV Tryz.func152 rfl kr kr fun W0 M0 => ?_
 refine AC<|rn ⟨[(2,tP 2 0),(3,tP 3 0),(4,tP 4 0)],[(2,.cells [.i mp0,.i a0.X,.i a0.Y,.i a1.X,.i a1.Y,.i a2.X,.i a2.Y] 68),(3,.cells (Ac.c m) 74),(4,.cells [.i 0,.i 0,.i 0,.i 0,.i 0,.i 0,.i 0] 68)]⟩ ?_
 refine AC<|AC ?_
 refine rc [(9,mp1 a0 a1 a2)] [Ak (mp1 a0 a1 a2).2.1] ⟨[(2,tP 2 0),(3,tP 3 0),(4,tP 4 0),(5,tP 5 0)],[(2,.cells [.i mp0,.i a0.X,.i a0.Y,.i a1.X,.i a1.Y,.i a2.X,.i a2.Y] 68),(3,.cells (Ac.c m) 74),(4,.cells [.i 0,.i 0,.i 0,.i 0,.i 0,.i 0,.i 0] 68),(5,.cells [.clo mp2 0 (fun _=>default),.clo 176 0 (fun _=>default),.clo 177 0 (fun _=>default),.i mp3] 241)]⟩ (.cons (mp4 a0 a1 a2) .nil) (.cons rfl .nil)<|AJ<|AC ?_
 refine rn ⟨[(2,tP 2 0),(3,tP 3 0),(4,tP 4 0),(5,tP 5 0),(13,tB m.Mirror)],[(2,.cells [.i mp0,.i a0.X,.i a0.Y,.i a1.X,.i a1.Y,.i a2.X,.i a2.Y] 68),(3,.cells (Ac.c m) 74),(4,.cells [.i 0,.i 0,.i 0,.i 0,.i 0,.i 0,.i 0] 68),(5,.cells [.clo mp2 0 (fun _=>default),.clo 176 0 (fun _=>default),.clo 177 0 (fun _=>default),.i mp3] 241)]⟩ ?_
 refine Bu (⟨[(2,tP 2 0),(3,tP 3 0),(4,tP 4 0)],[(2,.cells [.i (bif m.Mirror then mp3 else mp0),.i a0.X,.i a0.Y,.i a1.X,.i a1.Y,.i a2.X,.i a2.Y] 68),(3,.cells (Ac.c m) 74),(4,.cells [.i 0,.i 0,.i 0,.i 0,.i 0,.i 0,.i 0] 68)]⟩) ?_ ?_
 ·refine Ab _ rfl (fun h1 => ?_) (fun h1 => ?_)
  ·refine rn ⟨[(2,tP 2 0),(3,tP 3 0),(4,tP 4 0)],[(2,.cells [.i mp3,.i a0.X,.i a0.Y,.i a1.X,.i a1.Y,.i a2.X,.i a2.Y] 68),(3,.cells (Ac.c m) 74),(4,.cells [.i 0,.i 0,.i 0,.i 0,.i 0,.i 0,.i 0] 68)]⟩ ?_
   refine BB ?_
   first | rfl | (simp only [h1,cond_true,cond_false] <;> rfl)
  ·refine Af<|AJ ?_
   refine Cv.trans (BD [2,3,4] [2,3,4] (⟨[(2,tP 2 0),(3,tP 3 0),(4,tP 4 0)],[(2,.cells [.i mp0,.i a0.X,.i a0.Y,.i a1.X,.i a1.Y,.i a2.X,.i a2.Y] 68),(3,.cells (Ac.c m) 74),(4,.cells [.i 0,.i 0,.i 0,.i 0,.i 0,.i 0,.i 0] 68)]⟩) kr) (BB ?_)
   first | rfl | (simp only [h1,cond_true,cond_false] <;> rfl)
 refine AC<|AC ?_
 refine rn ⟨[(2,tP 2 0),(3,tP 3 0),(4,tP 4 0),(19,tB (!decide (((bif m.Mirror then mp3 else mp0):Int)=1)))],[(2,.cells [.i (bif m.Mirror then mp3 else mp0),.i a0.X,.i a0.Y,.i a1.X,.i a1.Y,.i a2.X,.i a2.Y] 68),(3,.cells (Ac.c m) 74),(4,.cells [.i 0,.i 0,.i 0,.i 0,.i 0,.i 0,.i 0] 68)]⟩ ?_
 refine Bu (⟨[(2,tP 2 0),(3,tP 3 0),(4,tP 4 0)],[(2,.cells [.i (bif m.Mirror then mp3 else mp0),.i a0.X,.i a0.Y,.i a1.X,.i a1.Y,.i (bif !decide (((bif m.Mirror then mp3 else mp0):Int)=1) then ((Aa m a2).X) else a2.X),.i (bif !decide (((bif m.Mirror then mp3 else mp0):Int)=1) then ((Aa m a2).Y) else a2.Y)] 68),(3,.cells (Ac.c m) 74),(4,.cells [.i 0,.i 0,.i 0,.i 0,.i 0,.i 0,.i 0] 68)]⟩) ?_ ?_
 ·refine Ab _ rfl (fun h1 => ?_) (fun h1 => ?_)
  ·have g1:=CF h1
   refine rc [(23,Bp m a2)] [Ak (Bp m a2).2.1] ⟨[(2,tP 2 0),(3,tP 3 0),(4,tP 4 0)],[(2,.cells [.i (bif m.Mirror then mp3 else mp0),.i a0.X,.i a0.Y,.i a1.X,.i a1.Y,.i ((Aa m a2).X),.i ((Aa m a2).Y)] 68),(3,.cells (Ac.c m) 74),(4,.cells [.i 0,.i 0,.i 0,.i 0,.i 0,.i 0,.i 0] 68)]⟩ (.cons (Dd m a2) .nil) (.cons rfl .nil)<|AJ ?_
   refine BB ?_
   first | rfl | (simp only [h1,cond_true,cond_false] <;> rfl)
  ·have g1:=B6 h1
   refine Af<|AJ ?_
   refine Cv.trans (BD [2,3,4] [2,3,4] (⟨[(2,tP 2 0),(3,tP 3 0),(4,tP 4 0)],[(2,.cells [.i (bif m.Mirror then mp3 else mp0),.i a0.X,.i a0.Y,.i a1.X,.i a1.Y,.i a2.X,.i a2.Y] 68),(3,.cells (Ac.c m) 74),(4,.cells [.i 0,.i 0,.i 0,.i 0,.i 0,.i 0,.i 0] 68)]⟩) kr) (BB ?_)
   first | rfl | (simp only [h1,cond_true,cond_false] <;> rfl)
 refine AC<|dw [] [(28,Bp m a0),(32,Bp m a1)] [Ak (Bp m a0).2.1,Ak (Bp m a1).2.1] ⟨[(2,tP 2 0),(4,tP 4 0)],[(2,.cells [.i (bif m.Mirror then mp3 else mp0),.i ((Aa m a0).X),.i ((Aa m a0).Y),.i ((Aa m a1).X),.i ((Aa m a1).Y),.i (bif !decide (((bif m.Mirror then mp3 else mp0):Int)=1) then ((Aa m a2).X) else a2.X),.i (bif !decide (((bif m.Mirror then mp3 else mp0):Int)=1) then ((Aa m a2).Y) else a2.Y)] 68),(4,.cells [.i 0,.i 0,.i 0,.i 0,.i 0,.i 0,.i 0] 68)]⟩ (.cons (Dd m a0) (.cons (Dd m a1) .nil)) (.cons rfl (.cons rfl .nil))<|AJ<|AC ?_
 refine rn ⟨[(4,tP 4 0)],[(4,.cells [.i (bif m.Mirror then mp3 else mp0),.i ((Aa m a0).X),.i ((Aa m a0).Y),.i ((Aa m a1).X),.i ((Aa m a1).Y),.i (bif !decide (((bif m.Mirror then mp3 else mp0):Int)=1) then ((Aa m a2).X) else a2.X),.i (bif !decide (((bif m.Mirror then mp3 else mp0):Int)=1) then ((Aa m a2).Y) else a2.Y)] 68)]⟩<|Ag ?_
 exact ⟨_,Cv.refl _,.inl rfl,.av (.agg [.i (bif m.Mirror then mp3 else mp0),.i ((Aa m a0).X),.i ((Aa m a0).Y),.i ((Aa m a1).X),.i ((Aa m a1).Y),.i (bif !decide (((bif m.Mirror then mp3 else mp0):Int)=1) then ((Aa m a2).X) else a2.X),.i (bif !decide (((bif m.Mirror then mp3 else mp0):Int)=1) then ((Aa m a2).Y) else a2.Y)]),by kernel_rfl,Al (by rfl)⟩):p:=h
section
 open Go.Proofs.YtheobjkgllmnmaaGreat renaming nn2→mp0,Yf→mp1,kQ→mp2,nn3→mp3,kH→mp4
theorem rC (a0:AB) (a1:AB) (a2:AB) (m:Ac):Bk Tryz.prog 152 (sT a0 a1 a2 m).2.1 (.av (.agg (AG.c (Pv a0 a1 a2 m)))):=mac3
end
def Pu (a0:AB) (a1:AB) (a2:AB) (m:Ac):AG:=AG.mk (bif m.Mirror then 2 else 3) (Aa m a0) (Aa m a1) (AB.mk (bif !decide (((bif m.Mirror then 2 else 3):Int)=1) then ((Aa m a2).X) else a2.X) (bif !decide (((bif m.Mirror then 2 else 3):Int)=1) then ((Aa m a2).Y) else a2.Y))
def sS (a0:AB) (a1:AB) (a2:AB) (m:Ac):FuncId×List Av×Ef:=(152,[.agg [.i 3,.i a0.X,.i a0.Y,.i a1.X,.i a1.Y,.i a2.X,.i a2.Y],.agg (Ac.c m)],.val [] (.av (.agg (AG.c (Pu a0 a1 a2 m)))))
section
 open Go.Proofs.YtheobjkgllmnmaaGreat renaming nn3→mp0,Ye→mp1,kN→mp2,nn2→mp3,kG→mp4
theorem rB (a0:AB) (a1:AB) (a2:AB) (m:Ac):Bk Tryz.prog 152 (sS a0 a1 a2 m).2.1 (.av (.agg (AG.c (Pu a0 a1 a2 m)))):=mac3
end
def Sv (e:AG) (m:Ac):AG:=AG.mk e.Kind (Aa m e.A) (Aa m e.B) (AB.mk (bif !decide ((e.Kind:Int)=1) then ((Aa m e.C).X) else e.C.X) (bif !decide ((e.Kind:Int)=1) then ((Aa m e.C).Y) else e.C.Y))
def sR (e:AG) (m:Ac):FuncId×List Av×Ef:=(152,[.agg (AG.c e),.agg (Ac.c m)],.val [] (.av (.agg (AG.c (Sv e m)))))
theorem rA (e:AG) (m:Ac) (k1:¬ e.Kind=1) (k2:¬ e.Kind=2) (k3:¬ e.Kind=3):Bk Tryz.prog 152 (sR e m).2.1 (.av (.agg (AG.c (Sv e m)))):=by
 refine AV Tryz.func152 rfl kr kr fun W0 M0 => ?_
 refine AC<|rn ⟨[(2,tP 2 0),(3,tP 3 0),(4,tP 4 0)],[(2,.cells (AG.c e) 68),(3,.cells (Ac.c m) 74),(4,.cells [.i 0,.i 0,.i 0,.i 0,.i 0,.i 0,.i 0] 68)]⟩ ?_
 refine AC<|AC ?_
 refine rc [(9,UP e)] [Ak (UP e).2.1] ⟨[(2,tP 2 0),(3,tP 3 0),(4,tP 4 0),(5,tP 5 0)],[(2,.cells (AG.c e) 68),(3,.cells (Ac.c m) 74),(4,.cells [.i 0,.i 0,.i 0,.i 0,.i 0,.i 0,.i 0] 68),(5,.cells [.val .nilFunc,.val .nilFunc,.val .nilFunc,.i e.Kind] 241)]⟩ (.cons (kF e k1 k2 k3) .nil) (.cons rfl .nil)<|AJ<|AC ?_
 refine rn ⟨[(2,tP 2 0),(3,tP 3 0),(4,tP 4 0),(5,tP 5 0),(13,tB m.Mirror)],[(2,.cells (AG.c e) 68),(3,.cells (Ac.c m) 74),(4,.cells [.i 0,.i 0,.i 0,.i 0,.i 0,.i 0,.i 0] 68),(5,.cells [.val .nilFunc,.val .nilFunc,.val .nilFunc,.i e.Kind] 241)]⟩ ?_
 refine Bu (⟨[(2,tP 2 0),(3,tP 3 0),(4,tP 4 0)],[(2,.cells (AG.c e) 68),(3,.cells (Ac.c m) 74),(4,.cells [.i 0,.i 0,.i 0,.i 0,.i 0,.i 0,.i 0] 68)]⟩) ?_ ?_
 ·refine Ab _ rfl (fun h4 => ?_) (fun h4 => ?_)
  ·refine rn ⟨[(2,tP 2 0),(3,tP 3 0),(4,tP 4 0)],[(2,.cells (AG.c e) 68),(3,.cells (Ac.c m) 74),(4,.cells [.i 0,.i 0,.i 0,.i 0,.i 0,.i 0,.i 0] 68)]⟩ ?_
   refine BB ?_
   first | rfl | (simp only [h4,cond_true,cond_false] <;> rfl)
  ·refine Af<|AJ ?_
   refine Cv.trans (BD [2,3,4] [2,3,4] (⟨[(2,tP 2 0),(3,tP 3 0),(4,tP 4 0)],[(2,.cells (AG.c e) 68),(3,.cells (Ac.c m) 74),(4,.cells [.i 0,.i 0,.i 0,.i 0,.i 0,.i 0,.i 0] 68)]⟩) kr) (BB ?_)
   first | rfl | (simp only [h4,cond_true,cond_false] <;> rfl)
 refine AC<|AC ?_
 refine rn ⟨[(2,tP 2 0),(3,tP 3 0),(4,tP 4 0),(19,tB (!decide ((e.Kind:Int)=1)))],[(2,.cells (AG.c e) 68),(3,.cells (Ac.c m) 74),(4,.cells [.i 0,.i 0,.i 0,.i 0,.i 0,.i 0,.i 0] 68)]⟩ ?_
 refine Bu (⟨[(2,tP 2 0),(3,tP 3 0),(4,tP 4 0)],[(2,.cells [.i e.Kind,.i e.A.X,.i e.A.Y,.i e.B.X,.i e.B.Y,.i (bif !decide ((e.Kind:Int)=1) then ((Aa m e.C).X) else e.C.X),.i (bif !decide ((e.Kind:Int)=1) then ((Aa m e.C).Y) else e.C.Y)] 68),(3,.cells (Ac.c m) 74),(4,.cells [.i 0,.i 0,.i 0,.i 0,.i 0,.i 0,.i 0] 68)]⟩) ?_ ?_
 ·refine Ab _ rfl (fun h4 => ?_) (fun h4 => ?_)
  ·have g4:=CF h4
   refine rc [(23,Bp m e.C)] [Ak (Bp m e.C).2.1] ⟨[(2,tP 2 0),(3,tP 3 0),(4,tP 4 0)],[(2,.cells [.i e.Kind,.i e.A.X,.i e.A.Y,.i e.B.X,.i e.B.Y,.i ((Aa m e.C).X),.i ((Aa m e.C).Y)] 68),(3,.cells (Ac.c m) 74),(4,.cells [.i 0,.i 0,.i 0,.i 0,.i 0,.i 0,.i 0] 68)]⟩ (.cons (Dd m e.C) .nil) (.cons rfl .nil)<|AJ ?_
   refine BB ?_
   first | rfl | (simp only [h4,cond_true,cond_false] <;> rfl)
  ·have g4:=B6 h4
   refine Af<|AJ ?_
   refine Cv.trans (BD [2,3,4] [2,3,4] (⟨[(2,tP 2 0),(3,tP 3 0),(4,tP 4 0)],[(2,.cells (AG.c e) 68),(3,.cells (Ac.c m) 74),(4,.cells [.i 0,.i 0,.i 0,.i 0,.i 0,.i 0,.i 0] 68)]⟩) kr) (BB ?_)
   first | rfl | (simp only [h4,cond_true,cond_false] <;> rfl)
 refine AC<|dw [] [(28,Bp m e.A),(32,Bp m e.B)] [Ak (Bp m e.A).2.1,Ak (Bp m e.B).2.1] ⟨[(2,tP 2 0),(4,tP 4 0)],[(2,.cells [.i e.Kind,.i ((Aa m e.A).X),.i ((Aa m e.A).Y),.i ((Aa m e.B).X),.i ((Aa m e.B).Y),.i (bif !decide ((e.Kind:Int)=1) then ((Aa m e.C).X) else e.C.X),.i (bif !decide ((e.Kind:Int)=1) then ((Aa m e.C).Y) else e.C.Y)] 68),(4,.cells [.i 0,.i 0,.i 0,.i 0,.i 0,.i 0,.i 0] 68)]⟩ (.cons (Dd m e.A) (.cons (Dd m e.B) .nil)) (.cons rfl (.cons rfl .nil))<|AJ<|AC ?_
 refine rn ⟨[(4,tP 4 0)],[(4,.cells [.i e.Kind,.i ((Aa m e.A).X),.i ((Aa m e.A).Y),.i ((Aa m e.B).X),.i ((Aa m e.B).Y),.i (bif !decide ((e.Kind:Int)=1) then ((Aa m e.C).X) else e.C.X),.i (bif !decide ((e.Kind:Int)=1) then ((Aa m e.C).Y) else e.C.Y)] 68)]⟩<|Ag ?_
 exact ⟨_,Cv.refl _,.inl rfl,.av (.agg [.i e.Kind,.i ((Aa m e.A).X),.i ((Aa m e.A).Y),.i ((Aa m e.B).X),.i ((Aa m e.B).Y),.i (bif !decide ((e.Kind:Int)=1) then ((Aa m e.C).X) else e.C.X),.i (bif !decide ((e.Kind:Int)=1) then ((Aa m e.C).Y) else e.C.Y)]),by kernel_rfl,Al (by rfl)⟩
def EB (e:AG) (m:Ac):AG:=if e.Kind=1 then Pw e.A e.B e.C m else if e.Kind=2 then Pv e.A e.B e.C m else if e.Kind=3 then Pu e.A e.B e.C m else Sv e m
def Qx (e:AG) (m:Ac):FuncId×List Av×Ef:=(152,[.agg (AG.c e),.agg (Ac.c m)],.val [] (.av (.agg (AG.c (EB e m)))))
theorem pMove (e:AG) (m:Ac):Bk Tryz.prog 152 (Qx e m).2.1 (.av (.agg (AG.c (EB e m)))):=by
 by_cases k1:e.Kind=1
 ·have hF:EB e m=Pw e.A e.B e.C m:=by unfold EB;rw [if_pos k1]
  rw [hF];obtain ⟨k,a0,a1,a2⟩:=e;simp only at k1;subst k1;exact rD a0 a1 a2 m
 by_cases k2:e.Kind=2
 ·have hF:EB e m=Pv e.A e.B e.C m:=by unfold EB;rw [if_neg k1];rw [if_pos k2]
  rw [hF];obtain ⟨k,a0,a1,a2⟩:=e;simp only at k2;subst k2;exact rC a0 a1 a2 m
 by_cases k3:e.Kind=3
 ·have hF:EB e m=Pu e.A e.B e.C m:=by unfold EB;rw [if_neg k1];rw [if_neg k2];rw [if_pos k3]
  rw [hF];obtain ⟨k,a0,a1,a2⟩:=e;simp only at k3;subst k3;exact rB a0 a1 a2 m
 have hF:EB e m=Sv e m:=by unfold EB;rw [if_neg k1,if_neg k2,if_neg k3]
 rw [hF];exact rA e m k1 k2 k3
theorem rT (e:AG) (m:Ac):Az Tryz.prog (Qx e m).1 (Qx e m).2.1 (Qx e m).2.2:=AW (fun _ _=>by kernel_rfl) fun _=>pMove e m
end
section
open Go.ChangeShapes Go.WideShapes Go.ChangeAt Go.RowKit
theorem own:ownKnob Tryz.prog.godebug=none:=by kernel_rfl
theorem iV:laidOutB Tryz.prog=true:=by kernel_rfl
theorem opT57:HN Tryz.prog 57 (fun xs:List Int=>[lst 1 (fun x=>[.i x]) xs]) (fun xs=>xs.length<=maxLen/\∀ x∈xs,WF .i64 x):=NR 1 Tryz.underlying57 kr (by decide) (QM Tryz.underlying3)
theorem opT22:HN Tryz.prog 22 (fun xs:List (List Int)=>[lst 1 (fun x=>[lst 1 (fun x=>[.i x]) x]) xs]) (fun xs=>xs.length<=maxLen/\∀ x∈xs,(x.length<=maxLen/\∀ y∈x,WF .i64 y)):=NR 1 Tryz.underlying22 kr (by decide) opT57
def UW.ok (x:UW):Prop:=WF .i64 x.e0/\WF .i64 x.e1/\WF .i64 x.e2/\True
theorem opT23:HN Tryz.prog 23 UW.c UW.ok:=by
 refine QK (TT Tryz.underlying23 kr (QM Tryz.underlying3)) ?_
 rintro xs ⟨hl,hx⟩
 match xs,hl with
 | [a0,a1,a2],_=>exact ⟨⟨a0,a1,a2⟩,⟨hx _ (by simp),hx _ (by simp),hx _ (by simp),trivial⟩,rfl⟩
def CY.ok (x:CY):Prop:=(x.Board.length<=maxLen/\∀ y∈x.Board,(y.length<=maxLen/\∀ z∈y,WF .i64 z))/\UW.ok x.Odd/\True
theorem opT25:HN Tryz.prog 25 CY.c CY.ok:=by
 refine QK (R9 Tryz.underlying25 kr (NS 1 kr rfl opT22 (NS 3 kr rfl opT23 Vf))) ?_
 rintro ⟨a0,a1,_⟩ ⟨h0,h1,_⟩
 exact ⟨⟨a0,a1⟩,⟨h0,h1,trivial⟩,rfl⟩
end
section
open Go.RowKit
def CW (x0:AB) (x1:AB):AB:=AB.mk (W64 (x0.X+x1.X)) (W64 (x0.Y+x1.Y))
def ED (x0:AB) (x1:AB):FuncId×List Av×Ef:=(123,[.agg (AB.c x0),.agg (AB.c x1)],.val [] (.av (.agg (AB.c (CW x0 x1)))))
theorem X5 (x0:AB) (x1:AB):Bk Tryz.prog 123 (ED x0 x1).2.1 (.av (.agg (AB.c (CW x0 x1)))):=by
 refine AV Tryz.func123 rfl kr kr fun W0 M0 => ?_
 refine AC<|rn ⟨[(2,tP 2 0),(3,tP 3 0),(4,tP 4 0)],[(2,.cells (AB.c x0) 66),(3,.cells (AB.c x1) 66),(4,.cells [.i 0,.i 0] 66)]⟩<|AC ?_
 refine rn ⟨[(4,tP 4 0)],[(4,.cells [.i (W64 (x0.X+x1.X)),.i (W64 (x0.Y+x1.Y))] 66)]⟩<|Ag ?_
 exact ⟨_,Cv.refl _,.inl rfl,.av (.agg [.i (W64 (x0.X+x1.X)),.i (W64 (x0.Y+x1.Y))]),by kernel_rfl,Al (by rfl)⟩
theorem Kv (x0:AB) (x1:AB):Az Tryz.prog (ED x0 x1).1 (ED x0 x1).2.1 (ED x0 x1).2.2:=AW (fun _ _=>by kernel_rfl) fun _=>X5 x0 x1
def BU (x0:Int):Int:=Int.tmod (W64 ((Int.tmod x0 4)+4)) 4
def E6 (x0:Int):FuncId×List Av×Ef:=(163,[.one (.i x0)],.val [] (.av (.one (.i (BU x0)))))
theorem au15 {p:Prop} (h:p:=by first | assumption | decide | omega):p:=h
theorem TL (x0:Int):Bk Tryz.prog 163 (E6 x0).2.1 (tO (.i (BU x0))):=by
 refine AV Tryz.func163 rfl kr kr fun W0 M0 => ?_
 refine AC<|rn ⟨[(0,tI x0)],[]⟩<|AC ?_
 refine rc [] [(4:Int)≠0,(4:Int)≠0] ⟨[(2,tI (Int.tmod (W64 ((Int.tmod x0 4)+4)) 4))],[]⟩ .nil (.cons au15 (.cons au15 .nil))<|AJ<|Ag ?_
 exact ⟨_,Cv.refl _,.inl rfl,tO (.i (Int.tmod (W64 ((Int.tmod x0 4)+4)) 4)),by kernel_rfl,Al (by rfl)⟩
theorem SC (x0:Int):Az Tryz.prog (E6 x0).1 (E6 x0).2.1 (E6 x0).2.2:=AW (fun _ _=>by kernel_rfl) fun _=>TL x0
def CA (x0:AB) (x1:Int):AB:=bif decide (((BU x1):Int)=1) then (AB.mk (W64 (0-x0.Y)) x0.X) else (bif decide (((BU x1):Int)=2) then (AB.mk (W64 (0-x0.X)) (W64 (0-x0.Y))) else (bif decide (((BU x1):Int)=3) then (AB.mk x0.Y (W64 (0-x0.X))) else (x0)))
def EZ (x0:AB) (x1:Int):FuncId×List Av×Ef:=(124,[.agg (AB.c x0),.one (.i x1)],.val [] (.av (.agg (AB.c (CA x0 x1)))))
theorem R1 (x0:AB) (x1:Int):Bk Tryz.prog 124 (EZ x0 x1).2.1 (.av (.agg (AB.c (CA x0 x1)))):=by
 refine AV Tryz.func124 rfl kr kr fun W0 M0 => ?_
 refine AC<|rn ⟨[(1,tI x1),(2,tP 2 0),(4,tP 4 0)],[(2,.cells (AB.c x0) 66),(4,.cells [.i 0,.i 0] 66)]⟩ ?_
 refine AC<|AC ?_
 refine rc [(6,E6 x1)] [Ak (E6 x1).2.1] ⟨[(2,tP 2 0),(4,tP 4 0),(6,tI (BU x1))],[(2,.cells (AB.c x0) 66),(4,.cells [.i 0,.i 0] 66)]⟩ (.cons (SC x1) .nil) (.cons rfl .nil)<|AJ ?_
 refine AY<|AC ?_
 refine rn ⟨[(2,tP 2 0),(4,tP 4 0),(6,tI (BU x1)),(7,tB (decide (((BU x1):Int)=1)))],[(2,.cells (AB.c x0) 66),(4,.cells [.i 0,.i 0] 66)]⟩ ?_
 refine Ab _ rfl (fun h1 => ?_) (fun h1 => ?_)
 ·have g1:=oT h1
  refine AC<|rn ⟨[(4,tP 4 0)],[(4,.cells [.i (W64 (0-x0.Y)),.i x0.X] 66)]⟩ ?_
  refine Ag<|CO<|Bd ?_
  exact ⟨_,Cv.refl _,.inl rfl,.av (.agg [.i (W64 (0-x0.Y)),.i x0.X]),by kernel_rfl,Al (by first | (simp only [CA,h1,cond_true,cond_false] <;> rfl))⟩
 ·have g1:=oF h1
  refine AC<|rn ⟨[(2,tP 2 0),(4,tP 4 0),(6,tI (BU x1)),(15,tB (decide (((BU x1):Int)=2)))],[(2,.cells (AB.c x0) 66),(4,.cells [.i 0,.i 0] 66)]⟩ ?_
  refine Ab _ rfl (fun h2 => ?_) (fun h2 => ?_)
  ·have g2:=oT h2
   refine AC<|rn ⟨[(4,tP 4 0)],[(4,.cells [.i (W64 (0-x0.X)),.i (W64 (0-x0.Y))] 66)]⟩ ?_
   refine Ag<|CO<|Bd ?_
   exact ⟨_,Cv.refl _,.inl rfl,.av (.agg [.i (W64 (0-x0.X)),.i (W64 (0-x0.Y))]),by kernel_rfl,Al (by first | (simp only [CA,h1,h2,cond_true,cond_false] <;> rfl))⟩
  ·have g2:=oF h2
   refine AC<|rn ⟨[(2,tP 2 0),(4,tP 4 0),(24,tB (decide (((BU x1):Int)=3)))],[(2,.cells (AB.c x0) 66),(4,.cells [.i 0,.i 0] 66)]⟩ ?_
   refine Ab _ rfl (fun h3 => ?_) (fun h3 => ?_)
   ·have g3:=oT h3
    refine AC<|rn ⟨[(4,tP 4 0)],[(4,.cells [.i x0.Y,.i (W64 (0-x0.X))] 66)]⟩ ?_
    refine Ag<|CO<|Bd ?_
    exact ⟨_,Cv.refl _,.inl rfl,.av (.agg [.i x0.Y,.i (W64 (0-x0.X))]),by kernel_rfl,Al (by first | (simp only [CA,h1,h2,h3,cond_true,cond_false] <;> rfl))⟩
   ·have g3:=oF h3
    refine Af<|Be ?_
    refine AJ<|AC ?_
    refine rn ⟨[(4,tP 4 0)],[(4,.cells (AB.c x0) 66)]⟩<|Ag ?_
    exact ⟨_,Cv.refl _,.inl rfl,.av (.agg (AB.c x0)),by kernel_rfl,Al (by first | (simp only [CA,h1,h2,h3,cond_true,cond_false] <;> rfl))⟩
theorem P0 (x0:AB) (x1:Int):Az Tryz.prog (EZ x0 x1).1 (EZ x0 x1).2.1 (EZ x0 x1).2.2:=AW (fun _ _=>by kernel_rfl) fun _=>R1 x0 x1
def Bv (x0:AB) (x1:Bool):AB:=AB.mk (bif x1 then (W64 (0-x0.X)) else x0.X) x0.Y
def Du (x0:AB) (x1:Bool):FuncId×List Av×Ef:=(125,[.agg (AB.c x0),.one (.b x1)],.val [] (.av (.agg (AB.c (Bv x0 x1)))))
theorem Ot (x0:AB) (x1:Bool):Bk Tryz.prog 125 (Du x0 x1).2.1 (.av (.agg (AB.c (Bv x0 x1)))):=by
 refine AV Tryz.func125 rfl kr kr fun W0 M0 => ?_
 refine AC<|rn ⟨[(1,tB x1),(2,tP 2 0),(4,tP 4 0)],[(2,.cells (AB.c x0) 66),(4,.cells [.i 0,.i 0] 66)]⟩ ?_
 refine AC<|AC ?_
 refine rn ⟨[(2,tP 2 0),(4,tP 4 0),(5,tB x1)],[(2,.cells (AB.c x0) 66),(4,.cells [.i 0,.i 0] 66)]⟩ ?_
 refine Bu (⟨[(2,tP 2 0),(4,tP 4 0)],[(2,.cells [.i (bif x1 then (W64 (0-x0.X)) else x0.X),.i x0.Y] 66),(4,.cells [.i 0,.i 0] 66)]⟩) ?_ ?_
 ·refine Ab _ rfl (fun h1 => ?_) (fun h1 => ?_)
  ·refine rn ⟨[(2,tP 2 0),(4,tP 4 0)],[(2,.cells [.i (W64 (0-x0.X)),.i x0.Y] 66),(4,.cells [.i 0,.i 0] 66)]⟩ ?_
   refine BB ?_
   first | rfl | (simp only [h1,cond_true,cond_false] <;> rfl)
  ·refine Af<|AJ ?_
   refine Cv.trans (BD [2,4] [2,4] (⟨[(2,tP 2 0),(4,tP 4 0)],[(2,.cells (AB.c x0) 66),(4,.cells [.i 0,.i 0] 66)]⟩) kr) (BB ?_)
   first | rfl | (simp only [h1,cond_true,cond_false] <;> rfl)
 refine AC<|rn ⟨[(4,tP 4 0)],[(4,.cells [.i (bif x1 then (W64 (0-x0.X)) else x0.X),.i x0.Y] 66)]⟩<|Ag ?_
 exact ⟨_,Cv.refl _,.inl rfl,.av (.agg [.i (bif x1 then (W64 (0-x0.X)) else x0.X),.i x0.Y]),by kernel_rfl,Al (by rfl)⟩
theorem Nv (x0:AB) (x1:Bool):Az Tryz.prog (Du x0 x1).1 (Du x0 x1).2.1 (Du x0 x1).2.2:=AW (fun _ _=>by kernel_rfl) fun _=>Ot x0 x1
def Z0c (x1:AB) (x0:Ac):AB:=CA (Bv x1 x0.Mirror) x0.Turn
def D0 (x0:Ac) (x1:AB):AB:=CW (Z0c x1 x0) x0.At
def DC (x0:Ac) (x1:AB):FuncId×List Av×Ef:=(66,[.agg (Ac.c x0),.agg (AB.c x1)],.val [] (.av (.agg (AB.c (D0 x0 x1)))))
theorem TM (x0:Ac) (x1:AB):Bk Tryz.prog 66 (DC x0 x1).2.1 (.av (.agg (AB.c (D0 x0 x1)))):=by
 refine AV Tryz.func66 rfl kr kr fun W0 M0 => ?_
 refine AC<|rn ⟨[(2,tP 2 0),(3,tP 3 0),(4,tP 4 0)],[(2,.cells (Ac.c x0) 74),(3,.cells (AB.c x1) 66),(4,.cells [.i 0,.i 0] 66)]⟩<|AC ?_
 refine dw [] [(8,Du x1 x0.Mirror),(11,EZ (Bv x1 x0.Mirror) x0.Turn),(14,ED (Z0c x1 x0) x0.At)] [Ak (Du x1 x0.Mirror).2.1,Ak (EZ (Bv x1 x0.Mirror) x0.Turn).2.1,Ak (ED (Z0c x1 x0) x0.At).2.1] ⟨[(4,tP 4 0)],[(4,.cells (AB.c (CW (Z0c x1 x0) x0.At)) 66)]⟩ (.cons (Nv x1 x0.Mirror) (.cons (P0 (Bv x1 x0.Mirror) x0.Turn) (.cons (Kv (Z0c x1 x0) x0.At) .nil))) (.cons rfl (.cons rfl (.cons rfl .nil)))<|AJ<|Ag ?_
 exact ⟨_,Cv.refl _,.inl rfl,.av (.agg (AB.c (CW (Z0c x1 x0) x0.At))),by kernel_rfl,Al (by rfl)⟩
theorem Ib (x0:Ac) (x1:AB):Az Tryz.prog (DC x0 x1).1 (DC x0 x1).2.1 (DC x0 x1).2.2:=AW (fun _ _=>by kernel_rfl) fun _=>TM x0 x1
def Z0d (x2:Int) (x1:Int):AB:=D0 (Ac.mk (AB.mk 0 0) x2 false) (AB.mk x1 0)
def Z0e (x3:Int) (x2:Int) (x1:Int):AB:=D0 (Ac.mk (AB.mk 0 0) (bif decide ((x3:Int)=3) then (W64 (x2+3)) else (W64 (x2+1))) false) (AB.mk x1 0)
def Co (x0:AB) (x1:Int) (x2:Int) (x3:Int):AG:=AG.mk x3 (CW x0 (Z0d x2 x1)) (CW x0 (Z0e x3 x2 x1)) x0
def B1 (x0:AB) (x1:Int) (x2:Int) (x3:Int):FuncId×List Av×Ef:=(93,[.agg (AB.c x0),.one (.i x1),.one (.i x2),.one (.i x3)],.val [] (.av (.agg (AG.c (Co x0 x1 x2 x3)))))
theorem X4 (x0:AB) (x1:Int) (x2:Int) (x3:Int):Bk Tryz.prog 93 (B1 x0 x1 x2 x3).2.1 (.av (.agg (AG.c (Co x0 x1 x2 x3)))):=by
 refine AV Tryz.func93 rfl kr kr fun W0 M0 => ?_
 refine AC<|rn ⟨[(1,tI x1),(2,tI x2),(3,tI x3),(4,tP 4 0),(8,tP 8 0)],[(4,.cells (AB.c x0) 66),(8,.cells [.i 0,.i 0,.i 0,.i 0,.i 0,.i 0,.i 0] 68)]⟩<|AC ?_
 refine rc [(16,DC (Ac.mk (AB.mk 0 0) x2 false) (AB.mk x1 0))] [Ak (DC (Ac.mk (AB.mk 0 0) x2 false) (AB.mk x1 0)).2.1] ⟨[(1,tI x1),(2,tI x2),(3,tI x3),(4,tP 4 0),(8,tP 8 0),(9,tP 9 0)],[(4,.cells (AB.c x0) 66),(8,.cells [.i 0,.i 0,.i 0,.i 0,.i 0,.i 0,.i 0] 68),(9,.cells (AB.c (Z0d x2 x1)) 66)]⟩ (.cons (Ib (Ac.mk (AB.mk 0 0) x2 false) (AB.mk x1 0)) .nil) (.cons rfl .nil)<|AJ<|AC ?_
 refine rn ⟨[(1,tI x1),(2,tI x2),(3,tI x3),(4,tP 4 0),(8,tP 8 0),(9,tP 9 0),(10,tI (W64 (x2+1)))],[(4,.cells (AB.c x0) 66),(8,.cells [.i 0,.i 0,.i 0,.i 0,.i 0,.i 0,.i 0] 68),(9,.cells (AB.c (Z0d x2 x1)) 66)]⟩ ?_
 refine AC<|AC ?_
 refine rn ⟨[(1,tI x1),(2,tI x2),(3,tI x3),(4,tP 4 0),(8,tP 8 0),(9,tP 9 0),(10,tI (W64 (x2+1))),(20,tB (decide ((x3:Int)=3)))],[(4,.cells (AB.c x0) 66),(8,.cells [.i 0,.i 0,.i 0,.i 0,.i 0,.i 0,.i 0] 68),(9,.cells (AB.c (Z0d x2 x1)) 66)]⟩ ?_
 refine Bu (⟨[(1,tI x1),(3,tI x3),(4,tP 4 0),(8,tP 8 0),(9,tP 9 0),(10,tI (bif decide ((x3:Int)=3) then (W64 (x2+3)) else (W64 (x2+1))))],[(4,.cells (AB.c x0) 66),(8,.cells [.i 0,.i 0,.i 0,.i 0,.i 0,.i 0,.i 0] 68),(9,.cells (AB.c (Z0d x2 x1)) 66)]⟩) ?_ ?_
 ·refine Ab _ rfl (fun h1 => ?_) (fun h1 => ?_)
  ·have g1:=oT h1
   refine rn ⟨[(1,tI x1),(3,tI x3),(4,tP 4 0),(8,tP 8 0),(9,tP 9 0),(10,tI (W64 (x2+3)))],[(4,.cells (AB.c x0) 66),(8,.cells [.i 0,.i 0,.i 0,.i 0,.i 0,.i 0,.i 0] 68),(9,.cells (AB.c (Z0d x2 x1)) 66)]⟩ ?_
   refine BB ?_
   first | rfl | (simp only [h1,cond_true,cond_false] <;> rfl)
  ·have g1:=oF h1
   refine Af<|AJ ?_
   refine Cv.trans (BD [1,3,4,8,9,10] [4,8,9] (⟨[(1,tI x1),(3,tI x3),(4,tP 4 0),(8,tP 8 0),(9,tP 9 0),(10,tI (W64 (x2+1)))],[(4,.cells (AB.c x0) 66),(8,.cells [.i 0,.i 0,.i 0,.i 0,.i 0,.i 0,.i 0] 68),(9,.cells (AB.c (Z0d x2 x1)) 66)]⟩) kr) (BB ?_)
   first | rfl | (simp only [h1,cond_true,cond_false] <;> rfl)
 refine AC<|rc [(27,DC (Ac.mk (AB.mk 0 0) (bif decide ((x3:Int)=3) then (W64 (x2+3)) else (W64 (x2+1))) false) (AB.mk x1 0))] [Ak (DC (Ac.mk (AB.mk 0 0) (bif decide ((x3:Int)=3) then (W64 (x2+3)) else (W64 (x2+1))) false) (AB.mk x1 0)).2.1] ⟨[(3,tI x3),(4,tP 4 0),(8,tP 8 0),(9,tP 9 0),(11,tP 11 0)],[(4,.cells (AB.c x0) 66),(8,.cells [.i 0,.i 0,.i 0,.i 0,.i 0,.i 0,.i 0] 68),(9,.cells (AB.c (Z0d x2 x1)) 66),(11,.cells (AB.c (Z0e x3 x2 x1)) 66)]⟩ (.cons (Ib (Ac.mk (AB.mk 0 0) (bif decide ((x3:Int)=3) then (W64 (x2+3)) else (W64 (x2+1))) false) (AB.mk x1 0)) .nil) (.cons rfl .nil)<|AJ<|AC ?_
 refine dw [] [(31,ED x0 (Z0d x2 x1)),(34,ED x0 (Z0e x3 x2 x1))] [Ak (ED x0 (Z0d x2 x1)).2.1,Ak (ED x0 (Z0e x3 x2 x1)).2.1] ⟨[(8,tP 8 0)],[(8,.cells [.i x3,.i ((CW x0 (Z0d x2 x1)).X),.i ((CW x0 (Z0d x2 x1)).Y),.i ((CW x0 (Z0e x3 x2 x1)).X),.i ((CW x0 (Z0e x3 x2 x1)).Y),.i x0.X,.i x0.Y] 68)]⟩ (.cons (Kv x0 (Z0d x2 x1)) (.cons (Kv x0 (Z0e x3 x2 x1)) .nil)) (.cons rfl (.cons rfl .nil))<|AJ<|Ag ?_
 exact ⟨_,Cv.refl _,.inl rfl,.av (.agg [.i x3,.i ((CW x0 (Z0d x2 x1)).X),.i ((CW x0 (Z0d x2 x1)).Y),.i ((CW x0 (Z0e x3 x2 x1)).X),.i ((CW x0 (Z0e x3 x2 x1)).Y),.i x0.X,.i x0.Y]),by kernel_rfl,Al (by rfl)⟩
theorem D4 (x0:AB) (x1:Int) (x2:Int) (x3:Int):Az Tryz.prog (B1 x0 x1 x2 x3).1 (B1 x0 x1 x2 x3).2.1 (B1 x0 x1 x2 x3).2.2:=AW (fun _ _=>by kernel_rfl) fun _=>X4 x0 x1 x2 x3
def Sw (n:Int) (m:Int):Int:=Int.tmod (W64 ((Int.tmod n m)+m)) m
def Yj (n:Int) (m:Int):FuncId×List Av×Ef:=(29,[.one (.i n),.one (.i m)],.val [] (.av (.one (.i (Sw n m)))))
theorem pMod (n:Int) (m:Int) (hm:m≠0):Bk Tryz.prog 29 (Yj n m).2.1 (tO (.i (Sw n m))):=by
 refine AV Tryz.func29 rfl kr kr fun W0 M0 => ?_
 refine AC<|rn ⟨[(0,tI n),(1,tI m)],[]⟩<|AC ?_
 refine rc [] [(m:Int)≠0,(m:Int)≠0] ⟨[(4,tI (Int.tmod (W64 ((Int.tmod n m)+m)) m))],[]⟩ .nil (.cons au15 (.cons au15 .nil))<|AJ<|Ag ?_
 exact ⟨_,Cv.refl _,.inl rfl,tO (.i (Int.tmod (W64 ((Int.tmod n m)+m)) m)),by kernel_rfl,Al (by rfl)⟩
theorem okMod (n:Int) (m:Int) (hm:m≠0):Az Tryz.prog (Yj n m).1 (Yj n m).2.1 (Yj n m).2.2:=AW (fun _ _=>by kernel_rfl) fun _=>pMod n m hm
def Bo (d:AD):Prop:=0<=d.At/\d.At<=d.L.length/\(d.L.length:Int)<=9223372036854775807
def AA (d:AD) (n:Int):(Int×AD):=bif decide ((((d.L.length:Int)):Int)<=d.At) then ((0,d)) else ((Sw (d.L.getD ((W64 ((W64 (d.At+1))-1)).toNat) default) n,AD.mk d.L (W64 (d.At+1))))
theorem au10 {p:Prop} (h:p:=by first | with_reducible assumption | omega | decide | (simp only [List.length_cons,List.length_nil,List.length_append];omega) | assumption):p:=h
theorem au0 {p:Prop} (h:p:=by first | decide | omega | exact Lg (by first | omega | (simp only [Bx];omega)) (by omega) | (simp only [Bx];omega) | (constructor <;> omega) | (simp only [List.length_append,List.length_cons,List.length_nil];omega) | (simp only [List.length_append,List.length_cons,List.length_nil,List.length_drop,List.length_take] at *;omega)):p:=h
theorem Bf  (d:AD) (n:Int) (hd:Bo d) (hn:n≠0):Wr Tryz.prog 42 1000 [.one (.ptr 1000 0),.one (.i n)] (.cells (AD.c d) 117) (tO (.i ((AA d n).1))) (.cells (AD.c ((AA d n).2)) 117):=by
 refine Hp Tryz.func42 rfl kr kr kr kr fun W0 M0 X hX => ?_
 obtain ⟨a1,a2,a3⟩:=hd
 refine AC<|rn ⟨[(0,tP 1000 0),(1,tI n)],[(1000,.cells (AD.c d) 117)]⟩ ?_
 refine AC<|AC ?_
 refine dw [] [] [] ⟨[(0,tP 1000 0),(1,tI n),(14,tB (decide ((((d.L.length:Int)):Int)<=d.At)))],[(1000,.cells (AD.c d) 117)]⟩ .nil .nil<|AJ ?_
 refine Ab _ rfl (fun h1 => ?_) (fun h1 => ?_)
 ·have g1:=oT h1
  refine AC<|rn ⟨[(4,tI 0)],[(1000,.cells (AD.c d) 117)]⟩ ?_
  refine Ag<|Bd ?_
  exact ⟨_,Cv.refl _,.inl rfl,tO (.i 0),by kernel_rfl,⟨Al (by first | (simp only [AA,h1,cond_true,cond_false] <;> rfl)),.cells (AD.c d) 117,by kernel_rfl,Dh (by first | (simp only [AA,h1,cond_true,cond_false];done) | (simp only [AA,h1,cond_true,cond_false];kernel_rfl))⟩⟩
 ·have g1:=oF h1
  refine Af<|AJ<|AC ?_
  refine rn ⟨[(0,tP 1000 0),(1,tI n)],[(1000,.cells [lst 1 (fun x=>[.i x]) d.L,.i (W64 (d.At+1))] 117)]⟩<|AC ?_
  refine dw [] [(34,Yj (d.L.getD ((W64 ((W64 (d.At+1))-1)).toNat) default) n)] [0<=(W64 ((W64 (d.At+1))-1):Int)/\(W64 ((W64 (d.At+1))-1):Int)<((d.L.length:Nat):Int),Ak (Yj (d.L.getD ((W64 ((W64 (d.At+1))-1)).toNat) default) n).2.1] ⟨[(4,tI (Sw (d.L.getD ((W64 ((W64 (d.At+1))-1)).toNat) default) n))],[(1000,.cells [lst 1 (fun x=>[.i x]) d.L,.i (W64 (d.At+1))] 117)]⟩ (.cons (okMod (d.L.getD ((W64 ((W64 (d.At+1))-1)).toNat) default) n au10) .nil) (.cons au0 (.cons rfl .nil))<|AJ<|Ag ?_
  exact ⟨_,Cv.refl _,.inl rfl,tO (.i (Sw (d.L.getD ((W64 ((W64 (d.At+1))-1)).toNat) default) n)),by kernel_rfl,⟨Al (by first | (simp only [AA,h1,cond_true,cond_false] <;> rfl)),.cells [lst 1 (fun x=>[.i x]) d.L,.i (W64 (d.At+1))] 117,by kernel_rfl,Dh (by first | (simp only [AA,h1,cond_true,cond_false];done) | (simp only [AA,h1,cond_true,cond_false];kernel_rfl))⟩⟩
theorem Cn {l:List Int} (h:(l.length:Int)<=9223372036854775807):Bo (AD.mk l 0):=⟨Int.le_refl _,by show (0:Int)<=(l.length:Int);omega,h⟩
theorem Bc {d:AD} {n:Int} (h:Bo d):Bo (AA d n).2:=by
 obtain ⟨h1,h2,h3⟩:=h
 unfold AA
 by_cases hc:(d.L.length:Int)<=d.At
 ·simp only [hc,decide_true,cond_true];exact ⟨h1,h2,h3⟩
 ·simp only [hc,decide_false,cond_false]
  rw [An (by omega) (by omega)]
  exact ⟨by show 0<=d.At+1;omega,by show d.At+1<=(d.L.length:Int);omega,h3⟩
theorem mod_b (n m:Int) (h0:0<m) (h1:m<=4611686018427387904):0<=Sw n m/\Sw n m<m:=by
 have e:Sw n m=n % m:=by
  unfold Sw W64
  rcases Int.lt_or_le n 0 with h | h
  ·have b1:=Int.emod_nonneg (-n) (show m≠0 by omega)
   have b2:=Int.emod_lt_of_pos (-n) h0
   rw [show n.tmod m = -((-n) % m) by rw [<- Int.tmod_eq_emod_of_nonneg (by omega),Int.neg_tmod,Int.neg_neg]]
   rw [IntKind.wrap_i64]
   rw [show (-((-n) % m)+m+9223372036854775808) % 18446744073709551616-9223372036854775808 = -((-n) % m)+m by omega]
   rw [Int.tmod_eq_emod_of_nonneg (by omega)]
   have e1:=Int.emod_add_mul_ediv (-n) m
   have e2 : -((-n) % m)+m=n+m*((-n)/m+1):=by grind
   rw [e2,Int.add_mul_emod_self_left]
  ·have b1:=Int.emod_nonneg n (show m≠0 by omega)
   have b2:=Int.emod_lt_of_pos n h0
   rw [Int.tmod_eq_emod_of_nonneg h,IntKind.wrap_i64]
   rw [show (n % m+m+9223372036854775808) % 18446744073709551616-9223372036854775808=n % m+m by omega]
   rw [Int.tmod_eq_emod_of_nonneg (by omega),Int.add_emod_right,Int.emod_emod_of_dvd _ (Int.dvd_refl m)]
 rw [e]
 exact ⟨Int.emod_nonneg n (by omega),Int.emod_lt_of_pos n h0⟩
theorem C7 (d:AD) (n:Int) (h0:0<n) (h1:n<=4611686018427387904):0<=(AA d n).1/\(AA d n).1<n:=by
 unfold AA
 by_cases hc:(d.L.length:Int)<=d.At
 ·simp only [hc,decide_true,cond_true];omega
 ·simp only [hc,decide_false,cond_false]
  exact mod_b _ n h0 h1
theorem SR {v a:Int} {d:AD} {n:Int} (h:v<W64 (a+(AA d n).1)) (h0:0<n) (h1:n<=1000000) (ha:0<=a) (hb:a<=1000000):v<a+n:=by
 have:=C7 d n h0 (by omega)
 rw [An (by omega) (by omega)] at h
 omega
theorem SZ {v a:Int} {d:AD} {n:Int} (h:¬ v<W64 (a+(AA d n).1)) (h0:0<n) (h1:n<=1000000) (ha:0<=a) (hb:a<=1000000):W64 (a+(AA d n).1)<a+n:=by
 have:=C7 d n h0 (by omega)
 rw [An (by omega) (by omega)]
 omega
theorem OA {p q:Prop} [Decidable p] [Decidable q] (h:(bif decide p then decide q else false)=true):p/\q:=by
 by_cases hp:p
 ·rw [decide_eq_true hp] at h;exact ⟨hp,of_decide_eq_true h⟩
 ·rw [decide_eq_false hp] at h;cases h
theorem Cu {c:Bool} {a b:AD} (ha:Bo a) (hb:Bo b):Bo (bif c then a else b):=by cases c <;> assumption
theorem J0 (d:AD) (n k:Int) (h0:0<n) (h1:n<=4611686018427387904) (h2:n<=k):0<=(AA d n).1/\(AA d n).1<k:=⟨(C7 d n h0 h1).1,by have:=(C7 d n h0 h1).2;omega⟩
end
section
open Go.RowKit
abbrev IF:List (Nat×Tv):=[(2,tP 2 0),(3,tP 3 0)]
theorem fQ  (l:(List AG)) (closed:Bool):Bk Tryz.prog 80 [.one (lst 7 AG.c l),.one (.b closed)] (.av (.one (.clo 132 2 (A6 [.eptr 1 1 (gD [lst 7 AG.c l]) 0 0,.eptr 1 1 (gD [.b closed]) 0 0])))):=by
 refine AV Tryz.func80 rfl kr kr fun W0 M0 => ?_
 refine AC<|rn ⟨IF,[(2,.cells [lst 7 AG.c l] 26),(3,.cells [.b closed] 4)]⟩<|AC ?_
 refine rn ⟨[(4,tO (.clo 132 2 (A6 [.ptr 2 0,.ptr 3 0])))],[(2,.cells [lst 7 AG.c l] 26),(3,.cells [.b closed] 4)]⟩<|Ag ?_
 exact ⟨_,Cv.trans (GI (⟨[(4,.av (.one (.clo 132 2 (A6 [.eptr 1 1 (gD [lst 7 AG.c l]) 0 0,.ptr 3 0]))))],[(3,.cells [.b closed] 4)]⟩) 2 [lst 7 AG.c l] 26 (K:=[]) (fun k x h=>by cases h) kr kr kr kr) (Cv.trans (GI (⟨[(4,.av (.one (.clo 132 2 (A6 [.eptr 1 1 (gD [lst 7 AG.c l]) 0 0,.eptr 1 1 (gD [.b closed]) 0 0]))))],[]⟩) 3 [.b closed] 4 (K:=[]) (fun k x h=>by cases h) kr kr kr kr) (Cv.refl _)),.inl rfl,.av (.one (.clo 132 2 (A6 [.eptr 1 1 (gD [lst 7 AG.c l]) 0 0,.eptr 1 1 (gD [.b closed]) 0 0]))),by kernel_rfl,Al rfl⟩
end
section
open Go.RowKit
def jnN (l:List AG) (closed:Bool):Nat:=(l.length-1)+(bif closed then 1 else 0)
def jnA (l:List AG) (x:Nat):AG:=if x+1<l.length then l.getD x default else l.getD (l.length-1) default
def jnB (l:List AG) (x:Nat):AG:=if x+1<l.length then l.getD (x+1) default else l.getD 0 default
abbrev Nz (l:List AG):Cl:=.eptr 1 1 (fun _ j=>([lst 7 AG.c l]:List Cl).getD j default) 0 0
abbrev N0 (c:Bool):Cl:=.eptr 1 1 (fun _ j=>([.b c]:List Cl).getD j default) 0 0
abbrev ylV (ly:Nat):Tv:=.av (.one (.val (.func (.yield ly) #[] #[])))
abbrev tOj (c:Cl):Tv:=.av (.one c)
theorem LV:∀ x:AG,∀ y∈AG.c x,NM y:=by
 intro x y hy
 simp only [AG.c,List.mem_cons,List.not_mem_nil,or_false] at hy
 rcases hy with rfl | rfl | rfl | rfl | rfl | rfl | rfl <;> exact .val _
theorem SH (l:List AG):NM (Nz l):=De fun y hy=>by rw [List.mem_singleton.1 hy];exact CG LV
theorem SJ (c:Bool):NM (N0 c):=De fun y hy=>by rw [List.mem_singleton.1 hy];exact .val _
theorem cL (x:AG):(AG.c x).all Cl.isV=true:=rfl
section
variable (l:List AG) (closed:Bool)
theorem YR (h:closed=true->1<=l.length) (hl:(l.length:Int)<=1000000):Su Tryz.prog 132 2 (A6 [Nz l,N0 closed]) (jnN l closed) (fun x=>[.agg (AG.c (jnA l x.val)),.agg (AG.c (jnB l x.val))]):=by
 refine iX Tryz.func132 rfl rfl (fun x=>rfl) (fun x e he c hc => ?_) kr (fun i hi => ?_) ?_
 ·have:c.isV=true:=by
   simp only [List.mem_cons,List.not_mem_nil,or_false] at he
   rcases he with rfl | rfl
   ·exact List.all_eq_true.1 (cL _) c hc
   ·exact List.all_eq_true.1 (cL _) c hc
  simp only [List.mem_cons,List.not_mem_nil,or_false] at he
  rcases he with rfl | rfl <;> (simp only [Av.cells,AG.c,List.mem_cons,List.not_mem_nil,or_false] at hc;rcases hc with rfl | rfl | rfl | rfl | rfl | rfl | rfl <;> rfl)
 ·match i,hi with
  | 0,_=>rfl
  | 1,_=>rfl
 intro Ow n0 ly JJ Jx hO hJg hY
 have hT:∀ (v:Int) i u,get [(0,ylV ly),(1,tOj (Nz l)),(2,tOj (N0 closed)),(4,tI v)] i=some u->u.dv=true/\TvM u:=fun v=>BX (p:=fun u=>Tv.dv u=true/\TvM u) (by
  simp only [List.forall_mem_cons]
  exact ⟨⟨rfl,A8 (.val _)⟩,⟨rfl,A8 (SH l)⟩,⟨rfl,A8 (SJ closed)⟩,⟨rfl,A8 (.val _)⟩,fun x hx=>by cases hx⟩)
 have hd0:∀ (v:Int) i u,get [(0,ylV ly),(1,tOj (Nz l)),(2,tOj (N0 closed)),(4,tI v)] i=some u->u.dv=true:=fun v i u h=>(hT v i u h).1
 refine CX ?_
 refine CX ?_
 refine Cj hO (BX (p:=fun u=>Tv.dv u=true) (by simp [D5,CD,Tv.dv,Av.dv,Cl.dv,List.range,List.range.loop,A6])) rfl fun W0 X1 M1 => ?_
 refine Cz C4 [] [] [] [0,1,2,4] [] [] ⟨[(0,ylV ly),(1,tOj (Nz l)),(2,tOj (N0 closed)),(4,tI 1)],[]⟩ .nil kr .nil ?_
 refine CV ?_
 refine Em ?_
 have eA:∀ k:Nat,k+1<l.length->[Av.agg (AG.c (l.getD ((W64 (((k:Int)+1)-1)).toNat) default)),Av.agg (AG.c (l.getD ((k:Int)+1).toNat default))]=[.agg (AG.c (jnA l k)),.agg (AG.c (jnB l k))]:=fun k hk=>by
  have e1:W64 (((k:Int)+1)-1)=(k:Int):=by rw [An (by omega) (by omega)];omega
  have e2:((k:Int)+1).toNat=k+1:=by omega
  rw [e1,e2,Int.toNat_natCast]
  unfold jnA jnB
  rw [if_pos hk,if_pos hk]
 refine Lc (ι:=Nat) (fun k=>⟨[(0,ylV ly),(1,tOj (Nz l)),(2,tOj (N0 closed)),(4,tI ((k:Int)+1))],[]⟩) (fun k=>JJ k) (fun k=>k<=l.length-1) (fun k=>l.length-k) (fun k hk => ?_) 0 (Nat.zero_le _)
 refine CX ?_
 refine CX ?_
 refine Cj hO (hd0 _) rfl fun W0 X1 M1 => ?_
 refine Cz C4 [] [] [] [0,1,2,4,8] [] [] ⟨[(0,ylV ly),(1,tOj (Nz l)),(2,tOj (N0 closed)),(4,tI ((k:Int)+1)),(8,tB (decide ((((k:Int)+1):Int)<((l.length:Int)))))],[]⟩ .nil kr .nil ?_
 refine CV ?_
 refine EI (decide ((((k:Int)+1):Int)<((l.length:Int)))) kr (fun hc => ?_) (fun hc => ?_)
 ·have hlt:k+1<l.length:=by have:=of_decide_eq_true hc;omega
  refine FA ?_
  refine CV ?_
  refine CX ?_
  refine Em ?_
  refine CX ?_
  refine QY (ly:=ly) hO Tm C4 10 rfl [] [] [0,1,2,4,11,16,20] [0,1,2,4,22] [0<=(W64 (((k:Int)+1)-1):Int)/\(W64 (((k:Int)+1)-1):Int)<((l.length:Nat):Int),0<=(((k:Int)+1):Int)/\(((k:Int)+1):Int)<((l.length:Nat):Int)]
   [(0,ylV ly),(1,tOj (Nz l)),(2,tOj (N0 closed)),(4,tI ((k:Int)+1)),(11,ylV ly),(16,.av (.agg (AG.c (l.getD ((W64 (((k:Int)+1)-1)).toNat) default)))),(20,.av (.agg (AG.c (l.getD ((k:Int)+1).toNat default))))] kr kr ?conds kr kr [Av.agg (AG.c (l.getD ((W64 (((k:Int)+1)-1)).toNat) default)),Av.agg (AG.c (l.getD ((k:Int)+1).toNat default))] rfl rfl kr kr kr rfl kr ?hT1 (hJg k) (JJ (k+1)) (Jx (k+1)) ?hY [] [] ⟨[(0,ylV ly),(1,tOj (Nz l)),(2,tOj (N0 closed)),(4,tI ((k:Int)+1)),(22,tB (!true))],[]⟩ ⟨[(22,tB (!false))],[]⟩ kr .nil kr .nil ?hQt ?hQf ?hdv rfl
  case conds =>
   have e1:W64 (((k:Int)+1)-1)=(k:Int):=by rw [An (by omega) (by omega)];omega
   exact .cons ⟨by rw [e1];omega,by rw [e1];omega⟩ (.cons ⟨by omega,by omega⟩ .nil)
  case hT1=>exact BX (p:=fun u=>Tv.dv u=true/\TvM u) (by
   simp only [List.forall_mem_cons]
   exact ⟨⟨rfl,A8 (.val _)⟩,⟨rfl,A8 (SH l)⟩,⟨rfl,A8 (SJ closed)⟩,⟨rfl,A8 (.val _)⟩,⟨rfl,A8 (.val _)⟩,⟨rfl,LV _⟩,⟨rfl,LV _⟩,fun x hx=>by cases hx⟩)
  case hY =>
   intro W hW
   have hk2:k<jnN l closed:=by unfold jnN;omega
   rw [eA k hlt]
   exact hY k hk2 W hW
  case hQt =>
   refine CV ?_
   refine EI false kr (fun h=>by cases h) (fun _ => ?_)
   refine FA ?_
   refine Qb ?_
   refine CV ?_
   refine Cj hO (fun i u h => ?_) rfl fun W0 X1 M1 => ?_
   ·exact BX (p:=fun u=>Tv.dv u=true) (by simp only [List.forall_mem_cons];exact ⟨rfl,rfl,rfl,rfl,rfl,fun x hx=>by cases hx⟩) i u h
   refine Cz C4 [] [] [] [0,1,2,4] [] [] ⟨[(0,ylV ly),(1,tOj (Nz l)),(2,tOj (N0 closed)),(4,tI (W64 (((k:Int)+1)+1)))],[]⟩ .nil kr .nil ?_
   refine CV ?_
   refine ⟨k+1,by omega,by omega,?_,rfl,rfl⟩
   have e3:W64 (((k:Int)+1)+1)=((k+1:Nat):Int)+1:=by rw [An (by omega) (by omega)];omega
   rw [e3]
  case hQf =>
   refine CV ?_
   refine EI true kr (fun _ => ?_) (fun h=>by cases h)
   refine Vy ?_
   exact ⟨.inl rfl,.inr ⟨k,by unfold jnN;omega,rfl⟩⟩
  case hdv=>exact BX (p:=fun u=>Tv.dv u=true) (by simp only [List.forall_mem_cons];exact ⟨rfl,rfl,rfl,rfl,rfl,fun x hx=>by cases hx⟩)
 ·have hge:¬ k+1<l.length:=by have:=of_decide_eq_false hc;omega
  refine Ld ?_
  refine KQ ?_
  refine KQ ?_
  refine Lh ?_
  refine CV ?_
  refine CX ?_
  refine Cj hO (fun i u h => ?_) rfl fun W0 X1 M1 => ?_
  ·exact BX (p:=fun u=>Tv.dv u=true) (by simp only [List.forall_mem_cons];exact ⟨rfl,rfl,rfl,rfl,rfl,fun x hx=>by cases hx⟩) i u h
  refine Cz C4 [] [] [] [0,1,2,23] [] [] ⟨[(0,ylV ly),(1,tOj (Nz l)),(2,tOj (N0 closed)),(23,tB closed)],[]⟩ .nil kr .nil ?_
  refine CV ?_
  refine EI closed kr (fun hcl => ?_) (fun hcl => ?_)
  ·have h1:=h hcl
   have hkl:k=l.length-1:=by omega
   have hk2:k<jnN l closed:=by unfold jnN;rw [hcl];show k<l.length-1+1;omega
   have hn:k+1=jnN l closed:=by unfold jnN;rw [hcl];show k+1=l.length-1+1;omega
   have e1:W64 (((l.length:Int))-1)=((l.length-1:Nat):Int):=by rw [An (by omega) (by omega)];omega
   refine QY (ly:=ly) hO Tm C4 10 rfl [] [] [0,1,2,24,30,33] [0] [0<=(W64 (((l.length:Int))-1):Int)/\(W64 (((l.length:Int))-1):Int)<((l.length:Nat):Int),0<=(0:Int)/\(0:Int)<((l.length:Nat):Int)]
    [(0,ylV ly),(1,tOj (Nz l)),(2,tOj (N0 closed)),(24,ylV ly),(30,.av (.agg (AG.c (l.getD ((W64 (((l.length:Int))-1)).toNat) default)))),(33,.av (.agg (AG.c (l.getD 0 default))))] kr kr ?conds kr kr [Av.agg (AG.c (l.getD ((W64 (((l.length:Int))-1)).toNat) default)),Av.agg (AG.c (l.getD 0 default))] rfl rfl kr kr kr rfl kr ?hT1 (hJg k) (JJ (k+1)) (Jx (k+1)) ?hY [] [] ⟨[(0,ylV ly)],[]⟩ ⟨[],[]⟩ kr .nil kr .nil ?hQt ?hQf ?hdv rfl
   case conds=>exact .cons ⟨by rw [e1];omega,by rw [e1];omega⟩ (.cons ⟨by omega,by omega⟩ .nil)
   case hT1=>exact BX (p:=fun u=>Tv.dv u=true/\TvM u) (by
    simp only [List.forall_mem_cons]
    exact ⟨⟨rfl,A8 (.val _)⟩,⟨rfl,A8 (SH l)⟩,⟨rfl,A8 (SJ closed)⟩,⟨rfl,A8 (.val _)⟩,⟨rfl,LV _⟩,⟨rfl,LV _⟩,fun x hx=>by cases hx⟩)
   case hY =>
    intro W hW
    have:=hY k hk2 W hW
    have eL:[Av.agg (AG.c (l.getD ((W64 (((l.length:Int))-1)).toNat) default)),Av.agg (AG.c (l.getD 0 default))]=[.agg (AG.c (jnA l k)),.agg (AG.c (jnB l k))]:=by
     unfold jnA jnB
     rw [if_neg hge,if_neg hge,e1,Int.toNat_natCast]
    rw [eL]
    exact this
   case hQt =>
    refine ⟨.inr rfl,.inl ?_⟩
    rw [hn]
   case hQf=>exact ⟨.inr rfl,.inr ⟨k,hk2,rfl⟩⟩
   case hdv=>exact BX (p:=fun u=>Tv.dv u=true) (by simp only [List.forall_mem_cons];exact ⟨rfl,rfl,rfl,rfl,fun x hx=>by cases hx⟩)
  ·refine FA ?_
   refine ⟨.inr rfl,.inl ?_⟩
   have:k=jnN l closed:=by unfold jnN;rw [hcl];show k=l.length-1+0;omega
   rw [<- this]
end
end
section
open Go.RowKit
theorem qR  (l:(List AZ)) (layer:Int):Bk Tryz.prog 69 [.one (lst 9 AZ.c l),.one (.i layer)] (.av (.one (.clo 126 2 (A6 [.eptr 1 1 (fun _ j_=>([lst 9 AZ.c l]:List Cl).getD j_ default) 0 0,.eptr 1 1 (fun _ j_=>([.i layer]:List Cl).getD j_ default) 0 0])))):=by
 refine AV Tryz.func69 rfl kr kr fun W0 M0 => ?_
 refine AC ?_
 refine Cz C4 [] [] [] [2,3] [2,3] [] ⟨[(2,tP 2 0),(3,tP 3 0)],[(2,.cells [lst 9 AZ.c l] 50),(3,.cells [.i layer] 3)]⟩ .nil kr .nil<|AJ<|AC ?_
 refine Cz C4 [] [] [] [4] [2,3] [] ⟨[(4,.av (.one (.clo 126 2 (A6 [.ptr 2 0,.ptr 3 0]))))],[(2,.cells [lst 9 AZ.c l] 50),(3,.cells [.i layer] 3)]⟩ .nil kr .nil<|AJ<|Ag ?_
 exact ⟨_,Cv.trans (GI (⟨[(4,.av (.one (.clo 126 2 (A6 [.eptr 1 1 (fun _ j_=>([lst 9 AZ.c l]:List Cl).getD j_ default) 0 0,.ptr 3 0]))))],[(3,.cells [.i layer] 3)]⟩) 2 [lst 9 AZ.c l] 50 (K:=[]) (fun k x h=>by cases h) kr kr kr kr) (Cv.trans (GI (⟨[(4,.av (.one (.clo 126 2 (A6 [.eptr 1 1 (fun _ j_=>([lst 9 AZ.c l]:List Cl).getD j_ default) 0 0,.eptr 1 1 (fun _ j_=>([.i layer]:List Cl).getD j_ default) 0 0]))))],[]⟩) 3 [.i layer] 3 (K:=[]) (fun k x h=>by cases h) kr kr kr kr) (Cv.refl _)),.inl rfl,.av (.one (.clo 126 2 (A6 [.eptr 1 1 (fun _ j_=>([lst 9 AZ.c l]:List Cl).getD j_ default) 0 0,.eptr 1 1 (fun _ j_=>([.i layer]:List Cl).getD j_ default) 0 0]))),by kernel_rfl,Al rfl⟩
end
section
open Go.RowKit
def IWL (P:Program) (N:Nat) (Ow:World->Nat->Prop) (n0:Nat) (ops:Array Oper) (l:List Oper) (Q:IQ) (s:AS) (J:World->Prop) (al:Bool):Prop :=
 ∀ W0 M σ a w,(J W0/\a.defers=[]/\IOk Ow n0 al M W0)->Sim N W0 noX M M σ (get s.t) (get s.h) a w->wpListIn (FW none) 0 P ops (fun e a' w'=>∃ s' J' al' W0' M' σ',Q e s' J' al'/\(J' W0'/\a'.defers=[]/\IOk Ow n0 al' M' W0')/\Sim N W0' noX M' M' σ' (get s'.t) (get s'.h) a' w') l a w
section
variable {P:Program} {N:Nat} {Ow:World→Nat→Prop} {n0:Nat} {Q:IQ} {s:AS} {J:World→Prop} {al:Bool} {ops:Array Oper} {l:List Oper} {o:Oper}
theorem Ky {id:Nat} (h:IWL P N Ow n0 l.toArray l Q s J al):IWp P N Ow n0 (.region id l.toArray false) Q s J al:=fun W0 M σ a w hJ hs=>wpIn_region_lit (h W0 M σ a w hJ hs)
theorem HC (hO:OwS Ow n0) {E:TypeId->Option (List Kd)} (hE:IC P ⟨fun _=>none,E,fun _=>false,fun _=>none⟩) (k:Nat) (ts:List Nat) (cs:List Prop) (T:List (Nat×Tv)) (hr:QH P ⟨ER [],E,A2 [],get []⟩ N ops (l.take k) ts [] s=some (cs,⟨T,[]⟩)) (hc:B2 cs)
  (hdv:∀ i v,get s.t i=some v->v.dv=true) (hh:s.h=[]) (h:IWL P N Ow n0 ops (l.drop k) Q ⟨T,[]⟩ J al):IWL P N Ow n0 ops l Q s J al:=by
 have hV:JB P ⟨ER [],E,A2 [],get []⟩:=(GP.nil (P:=P)).env (O:=A2 []) (q:=get []) hE
 intro W0 M σ a w hJ hs
 unfold QH at hr
 split at hr
 ·rename_i cs1 s1 h1
  simp only [Option.some.injEq,Prod.mk.injEq] at hr
  obtain ⟨rfl,hS⟩:=hr
  have key:=Om (rd:=none) (ops:=ops) (Q':=fun e a' w'=>∃ s' J' al' W0' M' σ',Q e s' J' al'/\(J' W0'/\a'.defers=[]/\IOk Ow n0 al' M' W0')/\Sim N W0' noX M' M' σ' (get s'.t) (get s'.h) a' w') hV (l.drop k) (l.take k) s s1 cs1 h1 hc M _ a w (Hq hdv hh hJ.2.1 hs) fun M' σ' a' w' hs'=>by
   have hs2:=D8 hs' ts []
   rw [hS] at hs2
   obtain ⟨hd,hs3⟩:=FV hs2
   exact h W0 M' σ' a' w' ⟨hJ.1,hd,HD hJ.2.2 hO hs2⟩ hs3
  rw [List.take_append_drop] at key
  exact key
 ·cases hr
theorem Lb (h:Q .normal s J al):IWL P N Ow n0 ops [] Q s J al:=fun W0 M σ a w hJ hs=>⟨s,J,al,W0,M,σ,h,hJ,hs⟩
theorem Jj (ts:List Nat) (S:AS) (hS:NY ts [] s=S) (h:IWL P N Ow n0 ops l Q S J al):IWL P N Ow n0 ops l Q s J al:=by
 subst hS
 exact fun W0 M σ a w hJ hs=>h W0 M σ a w hJ (D8 hs ts [])
theorem La (hO:OwS Ow n0) {E:TypeId->Option (List Kd)} (hE:IC P ⟨fun _=>none,E,fun _=>false,fun _=>none⟩) (j:Nat) (want:Bool) (G:Prop) (cs:List Prop) (T:List (Nat×Tv)) (hg:o.guard=some (j,want)) (hG:GH (get s.t) ops j want=some G) (hGp:G)
  (hst:We P ⟨ER [],E,A2 [],get []⟩ N o G s=some (cs,⟨T,[]⟩)) (hc:B2 cs) (hdv:∀ i v,get s.t i=some v->v.dv=true) (hh:s.h=[]) (h:IWL P N Ow n0 ops l Q ⟨T,[]⟩ J al):IWL P N Ow n0 ops (o::l) Q s J al:=by
 have hV:JB P ⟨ER [],E,A2 [],get []⟩:=(GP.nil (P:=P)).env (O:=A2 []) (q:=get []) hE
 intro W0 M σ a w hJ hs0
 have hs:=Hq hdv hh hJ.2.1 hs0
 refine wpListIn_step fun K0 hK' => ?_
 rw [if_pos ((EW hs.tmps hs.room hg hG).2 hGp)]
 unfold We at hst
 split at hst
 ·rename_i e he
  split at hst
  ·rename_i cs' g hr
   cases hok:Hy N s o.dst g with
   | false=>rw [hok] at hst;cases hst
   | true =>
    rw [hok] at hst
    simp only [cond_true,Option.some.injEq,Prod.mk.injEq] at hst
    obtain ⟨rfl,hS⟩:=hst
    obtain ⟨hc1,hc2⟩:=hc.append
    have hgo0:=J3 hok (fun n v b hg=>by subst hg;exact Rx hr) (fun l v hg=>by subst hg;exact N2 hr) (fun n q v b bq hg=>by subst hg;exact Ry hr) (fun n b v hg=>by subst hg;exact N3 hr)
    refine (Se hV (fun x v hv=>V9 hGp hc1 hs.tmps hv) he hs.std hr hc2 (SY hgo0)).wp ?_ (fun c hc=>by rw [hc] at he;cases he)
    rintro U w' ⟨M',σ',ho⟩
    have hsim:=Mk hs ho hgo0
    rw [<- (FC s o.dst g).1,<- (FC s o.dst g).2,hS] at hsim
    obtain ⟨hd,hs3⟩:=FV hsim
    exact hK' _ _ (h W0 M' σ' _ w' ⟨hJ.1,hd,HD hJ.2.2 hO hsim⟩ hs3)
  ·cases hst
 ·cases hst
theorem PE (hO:OwS Ow n0) (hwant:∀ (M:Nat->Option Obj) (σ:Nat->Loc) (a:Act),(∀ i v,get s.t i=some v->RT M σ v (a.tmps.getD i undef))->a.tmps.size=N->Region.wanted o (yielded ops a.tmps)=true) {c:Call} {f:Operand} {ly d:Nat} (xs:List Av) (ho:o.op=.call c) (hcf:c.callee=.value f)
  (hf:evT (get s.t) f=some (.av (.one (.val (.func (.yield ly) #[] #[]))))) (hxs:EA (evT (get s.t)) c.args.toList=some xs) (hv:xs.all Av.isV=true) (hod:o.dst=some d) (hdN:Nat.blt d N=true) (hT1:∀ i v,get s.t i=some v->v.dv=true/\TvM v)
  (hJg:∀ A B,J A->A.grownBy B none->J B) (Jt Jf:World->Prop)
  (hY:∀ W,J W->YieldAt (FW none) 0 P ly (xs.map Av.toV).toArray W (fun e W'=>(e=.returned (.bool true)/\Jt W'/\KpS Ow W W')\/(e=.returned (.bool false)/\Jf W')))
  (tf:List Nat) (htf:∀ i v,get (Hw s.t tf) i=some v->∃ u,v=.av (.one (.val u))) (hh:s.h=[])
  (ht:IWL P N Ow n0 ops l Q ⟨(d,tB true)::s.t,[]⟩ Jt true) (hff:IWL P N Ow n0 ops l Q ⟨(d,tB false)::Hw s.t tf,[]⟩ Jf false):IWL P N Ow n0 ops (o::l) Q s J true:=by
 intro W0 M σ a w hJ hs
 refine wpListIn_step fun K0 hK' => ?_
 rw [if_pos (hwant M σ a hs.tmps hs.room)]
 have hgrow:W0.grownBy w none:={ os:=hs.os,tape:=hs.tape,output:=hs.output,size:=hs.size,block:=fun b hb _=>hs.old b hb (EY b) }
 have hiok:=hJ.2.2
 have hdN':d<N:=by have:=Nat.le_of_ble_eq_true hdN;omega
 have hput:∀ (b:Bool) (T:List (Nat×Tv)) (M':Nat->Option Obj) (σ':Nat->Loc),(∀ i v,get T i=some v->RT M' σ' v (a.tmps.getD i undef))->∀ i v,get ((d,tB b)::T) i=some v->RT M' σ' v ((a.put o.dst (.bool b)).tmps.getD i undef):=fun b T M' σ' hT i v hv=>by
  have hds:d<a.tmps.size:=by rw [hs.room];exact hdN'
  simp only [get,CT] at hv
  rw [hod]
  by_cases hi:d=i
  ·subst hi
   simp at hv;subst hv
   have:(a.put (some d) (.bool b)).tmps.getD d undef=.bool b:=by simp [Act.put,Array.getD_eq_getD_getElem?,hds]
   rw [this]
   exact ⟨rfl,rfl⟩
  ·simp [hi] at hv
   have:(a.put (some d) (.bool b)).tmps.getD i undef=a.tmps.getD i undef:=by simp [Act.put,Array.getD_eq_getD_getElem?,Array.getElem?_setIfInBounds,hi]
   rw [this];exact hT i v hv
 have hsize:∀ b:Bool,(a.put o.dst (.bool b)).tmps.size=N:=fun b=>by rw [hod];simpa [Act.put] using hs.room
 have hdef:∀ b:Bool,(a.put o.dst (.bool b)).defers=[]:=fun b=>by rw [hod];simpa [Act.put] using hJ.2.1
 have hnew:∀ (b:Bool) (w2:World) (T:List (Nat×Tv)) (Mn:Nat->Option Obj),(∀ i v,get T i=some v->RT Mn σ v (a.tmps.getD i undef))->(∀ b o,Mn b=some o->w2.heap[b]? = some o)->Sim N w2 noX Mn Mn σ (get ((d,tB b)::T)) (get []) (a.put o.dst (.bool b)) w2:=fun b w2 T Mn hT himm =>
  ⟨rfl,rfl,rfl,Nat.le_refl _,fun _ _ _=>rfl,fun _ _ h=>h,fun b o h h'=>(by rw [h] at h';cases h'),fun m x hx=>(by cases hx),⟨by rw [hdef b];trivial,fun _=>hdef b⟩,hsize b,hput b T Mn σ hT,himm,fun n b hb=>(by cases hb),fun n b hb=>(by cases hb),fun n m b c hb=>(by cases hb)⟩
 refine S6 hs.tmps ho hcf hf hxs hv (hY w (hJg W0 w hJ.1 hgrow)) fun e w2 he => ?_
 rcases he with ⟨rfl,h5,h6⟩ | ⟨rfl,h5⟩
 ·have hst:∀ b,Ow w b->Ow W0 b:=hO.st W0 w (hiok rfl).1 fun b hb=>hs.old b hb (EY b)
  refine ⟨_,rfl,hK' _ _ (ht w2 (P4 M) σ _ w2 ⟨h5,hdef true,fun _=>⟨Nat.le_trans (hiok rfl).1 (Nat.le_trans hs.size h6.1),fun b h=>(h6.2.2 b h).elim (fun h7=>Nat.lt_of_lt_of_le ((hiok rfl).2.1 b (hst b h7)) (Nat.le_trans hs.size h6.1)) And.right,fun b o' h hw2 => ?_⟩⟩ (hnew true w2 s.t (P4 M) (fun i v hv=>Ph Iu (hs.tmps i v hv) (hT1 i v hv).2) fun b o' h => ?_))⟩
  ·rcases h6.2.2 b hw2 with h7 | h7
   ·exact (hiok rfl).2.2 b o' (DO h).1 (hst b h7)
   ·have:=(Array.getElem?_eq_some_iff.1 (hs.imm b o' (DO h).1)).1;omega
  ·exact h6.2.1 b o' (hs.imm b o' (DO h).1) (DO h).2 fun h7=>(hiok rfl).2.2 b o' (DO h).1 (hst b h7)
 ·refine ⟨_,rfl,hK' _ _ (hff w2 noM σ _ w2 ⟨h5,hdef false,fun h=>by cases h⟩ (hnew false w2 (Hw s.t tf) noM (fun i v hv => ?_) fun b o' h=>by cases h))⟩
  obtain ⟨u,rfl⟩:=htf i v hv
  exact hs.tmps i _ (H0 _ _ _ _ hv)
theorem YS (hO:OwS Ow n0) (j:Nat) (want:Bool) (G:Prop) (hg:o.guard=some (j,want)) (hG:GH (get s.t) ops j want=some G) (hGp:G) {c:Call} {f:Operand} {ly d:Nat} (xs:List Av) (ho:o.op=.call c) (hcf:c.callee=.value f)
  (hf:evT (get s.t) f=some (.av (.one (.val (.func (.yield ly) #[] #[]))))) (hxs:EA (evT (get s.t)) c.args.toList=some xs) (hv:xs.all Av.isV=true) (hod:o.dst=some d) (hdN:Nat.blt d N=true) (hT1:∀ i v,get s.t i=some v->v.dv=true/\TvM v)
  (hJg:∀ A B,J A->A.grownBy B none->J B) (Jt Jf:World->Prop)
  (hY:∀ W,J W->YieldAt (FW none) 0 P ly (xs.map Av.toV).toArray W (fun e W'=>(e=.returned (.bool true)/\Jt W'/\KpS Ow W W')\/(e=.returned (.bool false)/\Jf W')))
  (tf:List Nat) (htf:∀ i v,get (Hw s.t tf) i=some v->∃ u,v=.av (.one (.val u))) (hh:s.h=[])
  (ht:IWL P N Ow n0 ops l Q ⟨(d,tB true)::s.t,[]⟩ Jt true) (hff:IWL P N Ow n0 ops l Q ⟨(d,tB false)::Hw s.t tf,[]⟩ Jf false):IWL P N Ow n0 ops (o::l) Q s J true :=
 PE hO (fun M σ a h1 h2=>(EW h1 h2 hg hG).2 hGp) xs ho hcf hf hxs hv hod hdN hT1 hJg Jt Jf hY tf htf hh ht hff
theorem Vx (hO:OwS Ow n0) (hgn:o.guard=none) {c:Call} {f:Operand} {ly d:Nat} (xs:List Av) (ho:o.op=.call c) (hcf:c.callee=.value f)
  (hf:evT (get s.t) f=some (.av (.one (.val (.func (.yield ly) #[] #[]))))) (hxs:EA (evT (get s.t)) c.args.toList=some xs) (hv:xs.all Av.isV=true) (hod:o.dst=some d) (hdN:Nat.blt d N=true) (hT1:∀ i v,get s.t i=some v->v.dv=true/\TvM v)
  (hJg:∀ A B,J A->A.grownBy B none->J B) (Jt Jf:World->Prop)
  (hY:∀ W,J W->YieldAt (FW none) 0 P ly (xs.map Av.toV).toArray W (fun e W'=>(e=.returned (.bool true)/\Jt W'/\KpS Ow W W')\/(e=.returned (.bool false)/\Jf W')))
  (tf:List Nat) (htf:∀ i v,get (Hw s.t tf) i=some v->∃ u,v=.av (.one (.val u))) (hh:s.h=[])
  (ht:IWL P N Ow n0 ops l Q ⟨(d,tB true)::s.t,[]⟩ Jt true) (hff:IWL P N Ow n0 ops l Q ⟨(d,tB false)::Hw s.t tf,[]⟩ Jf false):IWL P N Ow n0 ops (o::l) Q s J true :=
 PE hO (fun M σ a h1 h2=>by simp [Region.wanted,hgn]) xs ho hcf hf hxs hv hod hdN hT1 hJg Jt Jf hY tf htf hh ht hff
theorem TB {W0 w:World} {M0 M:Nat->Option Obj} {σ:Nat->Loc} {T:Nat->Option Tv} {H:Nat->Option Blk} {a:Act} (h:Sim N W0 noX M0 M σ T H a w) (hd:a.defers=[]):Sim N W0 noX M M σ T H a w :=
 ⟨h.os,h.tape,h.output,h.size,h.old,fun _ _ h=>h,fun b o h h'=>(by rw [h] at h';cases h'),h.pin,⟨by rw [hd];trivial,fun _=>hd⟩,h.room,h.tmps,h.imm,h.blk,h.loc,h.inj⟩
theorem XO {c:Code} {S:AS} (hO:OwS Ow n0) (h:∀ W0 M1,Cv N W0 noX M1 s S) (k:IWp P N Ow n0 c Q S J al):IWp P N Ow n0 c Q s J al:=by
 intro W0 M σ a w hJ hs
 obtain ⟨M',σ',h2⟩:=h W0 M M σ a w hs
 exact k W0 M' σ' a w ⟨hJ.1,hJ.2.1,HD hJ.2.2 hO h2⟩ (TB h2 hJ.2.1)
end
end
section
open Go.RowKit
theorem dU {M:Nat->Option Obj} {c:Cl} {V:Value} (h:RC M c V):V.oneCell'=true:=by
 cases h with
 | val v h=>exact h
 | any V h=>exact h
 | _=>rfl
abbrev dD (t:Bool) (sz len:Nat) (f:Nat->Nat->Cl):Cl:=.eptr 1 1 (fun _ j=>([.list t sz len f]:List Cl).getD j default) 0 0
theorem fH {M:Nat->Option Obj} {t:Bool} {sz len:Nat} {f:Nat->Nat->Cl} {v:Value} (h:RC M (.list t sz len f) v):∃ g:Nat->Nat->Value,RC M (.list t sz len (fun i j=>.val (g i j))) v/\∀ i j,i<len->j<sz->RC M (f i j) (g i j):=by
 cases h with
 | nil _ _ _ h0=>exact ⟨fun _ _=>undef,.nil _ _ _ h0,fun i j hi=>by omega⟩
 | mt _ _ _ a cap h5=>exact ⟨fun _ _=>undef,.mt _ _ _ a cap h5,fun i j hi=>by omega⟩
 | list _ _ _ _ b off cap g h1 h2 h4 h5=>exact ⟨g,.list _ _ _ _ b off cap g h1 (fun i j hi hj=>.val _ (dU (h2 i j hi hj))) h4 h5,h2⟩
theorem VU {M:Nat->Option Obj} {t:Bool} {sz len:Nat} {f:Nat->Nat->Cl} {V:Value} (h:RC M (dD t sz len f) V):∃ g:Nat->Nat->Value,RC M (dD t sz len (fun i j=>.val (g i j))) V/\∀ i j,i<len->j<sz->RC M (f i j) (g i j):=by
 cases h with
 | eptr _ _ _ _ _ b base g0 h1 h2 =>
  obtain ⟨g,hg1,hg2⟩:=fH (h2 0 (by decide))
  exact ⟨g,.eptr _ _ _ _ _ _ _ g0 h1 (fun j hj=>by
   have:j=0:=by omega
   subst this;exact hg1),hg2⟩
end
section
open Go.RowKit
section
variable {P:Program}
def WrR (P:Program) (f:FuncId) (K:Nat) (xs:List Av) (sz len:Nat) (F0:Nat->Nat->Cl) (ty:TypeId) (r:Tv) (F1:Nat->Nat->Cl):Prop:=∀ (M:Nat->Option Obj) (σ:Nat->Loc) (w:World) (args:List Value),(∀ b o,M b=some o->w.heap[b]? = some o)->Bj M σ w (σ K) (.row sz len F0 ty)->((σ K).nil=true\/M (σ K).b=none)->L2 (RA M σ) xs args ->
 Calls P f args.toArray w fun en w'=>∃ U,en=.returned U/\∃ M',GL w w' M M' (only (σ K))/\(∀ σ',RT M' σ' r U)/\∀ σ',Bj M' σ' w' (σ K) (.row sz len F1 ty)
theorem FT {f:FuncId} {fn:Func} {c:Code} (hf:P.funcs[f]? = some fn) (hb:fn.body=some c) {K:Nat} {xs:List Av} {sz len:Nat} {F0 F1:Nat->Nat->Cl} {ty:TypeId} {r:Tv} (hN:Nat.ble xs.length fn.ntmps=true) (hK:Nat.ble fn.ntmps K=true) (hd:r.dv=true)
  (h:∀ (W0:World) (M0:Nat->Option Obj) (X:Nat->Option Loc),(∀ k x,X k=some x->A2 [K] k=true)->AWp P none fn.ntmps W0 X M0 c (Yx P fn.ntmps W0 X M0 fn fun r' s'=>TvE r' r/\∃ b,get s'.h K=some b/\Hj b (.row sz len F1 ty)) ⟨D5 0 xs,[(K,.row sz len F0 ty)]⟩):WrR P f K xs sz len F0 ty r F1:=by
 intro M σ w args himm hblk hM hargs
 have one:∀ n b,get [(K,Blk.row sz len F0 ty)] n=some b->n=K/\b=.row sz len F0 ty:=fun n b hn=>by
  simp only [get,CT] at hn
  by_cases hk:K=n
  ·simp [hk] at hn;exact ⟨hk.symm,hn.symm⟩
  ·simp [hk] at hn
 by_cases hnil:(σ K).nil=true
 ·have hlen:len=0:=by
   rcases hblk with h0 | ⟨h0,_⟩
   ·exact h0.2
   ·rw [hnil] at h0;cases h0
  refine ET (X:=noX) (σ:=σ) (h0:=[(K,.row sz len F0 ty)]) hf hb (Nat.le_of_ble_eq_true hN) himm hargs (fun n b hn => ?_) (fun n b hn => ?_) (fun n x hx=>by cases hx) (fun n m b c hn hm hne => ?_) (DH (h w M noX (fun k x hk=>by cases hk))) ?_
  ·obtain ⟨rfl,rfl⟩:=one n b hn;exact hblk
  ·obtain ⟨rfl,rfl⟩:=one n b hn;exact .inl hnil
  ·exact absurd ((one n b hn).1.trans (one m c hm).1.symm) hne
  ·rintro r' s' M' σ' a' w' U ⟨he,b,hb1,hbe⟩ hs hR
   exact ⟨U,rfl,M',⟨hs.os,hs.tape,hs.output,hs.size,fun b hb hne=>hs.old b hb (EY b),hs.sub,hs.new,hs.imm⟩,fun σ''=>G4 hd (LC he hR),fun σ''=>.inl ⟨hnil,hlen⟩⟩
 ·have hnil:(σ K).nil=false:=by simpa using hnil
  have hMK:M (σ K).b=none:=by
   rcases hM with h1 | h1
   ·rw [hnil] at h1;cases h1
   ·exact h1
  let X:Nat->Option Loc:=upd noX K (some (σ K))
  have hX:X K=some (σ K):=BK _ _ _
  have pins:∀ n x,X n=some x->n=K/\x=σ K:=fun n x hx=>by
   by_cases hk:n=K
   ·subst hk;rw [hX] at hx;injection hx with hx;exact ⟨rfl,hx.symm⟩
   ·simp only [X] at hx;rw [CN _ _ hk] at hx;cases hx
  have hXK:∀ k x,X k=some x->A2 [K] k=true:=fun k x hk=>by rw [(pins k x hk).1];exact LW _
  refine ET (X:=X) (σ:=σ) (h0:=[(K,.row sz len F0 ty)]) hf hb (Nat.le_of_ble_eq_true hN) himm hargs (fun n b hn => ?_) (fun n b hn => ?_) (fun n x hx => ?_) (fun n m b c hn hm hne => ?_) (DH (h w M X hXK)) ?_
  ·obtain ⟨rfl,rfl⟩:=one n b hn;exact hblk
  ·obtain ⟨rfl,rfl⟩:=one n b hn;exact .inr ⟨hMK,n,σ n,hX,rfl⟩
  ·obtain ⟨rfl,rfl⟩:=pins n x hx;exact ⟨Nat.le_of_ble_eq_true hK,rfl⟩
  ·exact absurd ((one n b hn).1.trans (one m c hm).1.symm) hne
  ·rintro r' s' M' σ' a' w' U ⟨he,b,hb1,hbe⟩ hs hR
   have hpin:=(hs.pin K _ hX).2
   have hbk:=hs.blk K _ hb1
   rw [hpin] at hbk
   refine ⟨U,rfl,M',⟨hs.os,hs.tape,hs.output,hs.size,fun b hb hne=>hs.old b hb ?_,hs.sub,hs.new,hs.imm⟩,fun σ''=>G4 hd (LC he hR),fun σ''=>(I2 hbe hbk:Bj M' σ' w' (σ K) (.row sz len F1 ty))⟩
   rintro ⟨n,x,hx,rfl⟩
   obtain ⟨rfl,rfl⟩:=pins n x hx
   exact hne ⟨hnil,rfl⟩
theorem Ff {α:Type} [Inhabited α] {c:α->List Cl} {xs ys:List α} {sz n:Nat} {ty:TypeId} (h:xs=ys) (hl:xs.length=n):Hj (.row sz xs.length (AP c xs) ty) (.row sz n (AP c ys) ty):=by
 subst h hl
 exact .refl _
def Hd (K n:Nat):Av->Av
 | .one (.own m sz len)=>bif Nat.beq m K then .one (.own n sz len) else .one (.own m sz len)
 | x=>x
def Zq (K:Nat):Av->Bool
 | .one (.own m _ _)=>Nat.beq m K
 | x=>x.dv
theorem Fd {f:FuncId} {K n:Nat} {xs:List Av} {sz len:Nat} {F0 F1:Nat->Nat->Cl} {ty:TypeId} {r:Tv} (h1:∀ args w,(callFunc f args).run P w=.ok (.enter f args) w) (hx:xs.all (Zq K)=true) (h:WrR P f K xs sz len F0 ty r F1):Az P f (xs.map (Hd K n)) (wrI n (.row sz len F0 ty) r (.row sz len F1 ty)):=by
 refine .inl ⟨h1,fun M σ w hh args cs' g hs hargs hres hc => ?_⟩
 simp only [wrI,res,Hf] at hres
 cases hn:hh n with
 | none=>rw [hn] at hres;cases hres
 | some b =>
  rw [hn] at hres
  simp only [Option.some.injEq,Prod.mk.injEq] at hres
  obtain ⟨rfl,rfl⟩:=hres
  have:=hc.head
  subst this
  have hblk:=hs.blk n _ hn
  let σ2:Nat->Loc:=upd σ K (σ n)
  have hK:σ2 K=σ n:=BK _ _ _
  have hargs2:L2 (RA M σ2) xs args:=by
   refine L2.of (by have:=hargs.length;simpa using this) fun i x V hxi hV => ?_
   obtain ⟨V',hV',hR⟩:=hargs.get i (Hd K n x) (by rw [List.getElem?_map,hxi];rfl)
   rw [hV] at hV';injection hV' with hV';subst hV'
   have hok:=(List.all_eq_true.1 hx) x (List.mem_of_getElem? hxi)
   unfold Zq at hok
   split at hok
   ·rename_i m sz' len'
    simp only [Hd,hok,cond_true] at hR
    have:=Nat.eq_of_beq_eq_true hok
    subst this
    have hR':R M σ (.own n sz' len') V:=hR
    show R M σ2 (.own m sz' len') V
    unfold R at hR' ⊢
    rw [hK];exact hR'
   ·rename_i hne
    have:Hd K n x=x:=by
     unfold Hd
     split
     ·rename_i m a b;exact (hne m a b rfl).elim
     ·rfl
    rw [this] at hR
    exact G4 (σ':=σ2) (r:=.av x) hok hR
  refine (h M σ2 w args hs.imm (by rw [hK];exact hblk) (by rw [hK];exact hs.loc n _ hn) hargs2).mono ?_
  rintro en w' ⟨U,hU,M',hk,hR,hb⟩
  rw [hK] at hk
  refine ⟨U,hU,fun dst _=>⟨M',σ,hk,rfl,hR σ,?_⟩⟩
  have:=hb σ
  rw [hK] at this
  exact this
end
end
section
section
variable {α:Type} [Inhabited α]
def Ie (lt:α->Bool) (out:List α):Nat->Nat
 | 0=>0
 | k+1=>bif lt (out.getD k default) then Ie lt out k else k+1
def T6 (lt:α->α->Bool) (out:List α) (x:α):List α:=out.take (Ie (lt x) out out.length)++x::out.drop (Ie (lt x) out out.length)
def Ci (lt:α->α->Bool) (l:List α):List α:=l.foldl (T6 lt) []
theorem YT (lt:α->α->Bool) (out:List α) (x:α):(T6 lt out x).Perm (x::out):=by
 unfold T6
 refine List.perm_middle.trans ?_
 rw [List.take_append_drop]
theorem NZ (lt:α->α->Bool) (l:List α) (x:α):Ci lt (l++[x])=T6 lt (Ci lt l) x:=by
 unfold Ci
 rw [List.foldl_append];rfl
theorem Na (lt:α->α->Bool) (l:List α):(Ci lt l).Perm l:=by
 have key:∀ (l out:List α),(l.foldl (T6 lt) out).Perm (out++l):=by
  intro l
  induction l with
  | nil=>intro out;simp
  | cons x l ih =>
   intro out
   rw [List.foldl_cons]
   refine (ih _).trans ?_
   refine ((YT lt out x).append_right l).trans ?_
   exact List.perm_middle.symm
 exact key l []
theorem Dg (lt:α->α->Bool) (l:List α):(Ci lt l).length=l.length:=(Na lt l).length_eq
theorem PH (lt:α->α->Bool) (l:List α) (x:α):x∈Ci lt l↔x∈l:=(Na lt l).mem_iff
theorem Xo (A:List α) (x y:α) (R:List α) :
  (A++y::x::R).getD A.length default=y/\(A++y::x::R).getD (A.length+1) default=x/\((A++y::x::R).set (A.length+1) y).set A.length x=A++x::y::R:=by
 refine ⟨?_,?_,?_⟩
 ·rw [List.getD_eq_getElem?_getD,List.getElem?_append_right (by omega)];simp
 ·rw [List.getD_eq_getElem?_getD,List.getElem?_append_right (by omega)];simp
 ·rw [List.set_append_right _ _ (by omega),List.set_append_right _ _ (by omega)];simp
theorem EO (out:List α) (j:Nat) (h:j<out.length):out.take (j+1)=out.take j++[out.getD j default]/\out.drop j=out.getD j default::out.drop (j+1):=by
 constructor
 ·rw [List.take_add_one,List.getElem?_eq_getElem h,List.getD_eq_getElem?_getD,List.getElem?_eq_getElem h];rfl
 ·rw [List.drop_eq_getElem_cons h,List.getD_eq_getElem?_getD,List.getElem?_eq_getElem h];rfl
theorem sI {β:Type} (lt:α->α->Bool) (f:Nat->List α->Int->β) (K:List α->β)
  (hf:∀ m d (j:Nat),f (m+1) d j=bif (bif decide ((0:Int)<j) then lt (d.getD j default) (d.getD (j-1) default) else false) then f m ((d.set j (d.getD (j-1) default)).set (j-1) (d.getD j default)) ((j:Int)-1) else K d)
  (out rest:List α) (x:α):∀ (j m:Nat),j<=out.length->j<m->f m (out.take j++x::(out.drop j++rest)) j=K (out.take (Ie (lt x) out j)++x::(out.drop (Ie (lt x) out j)++rest)):=by
 intro j
 induction j with
 | zero =>
  intro m hj hm
  obtain ⟨m,rfl⟩:∃ k,m=k+1:=⟨m-1,by omega⟩
  rw [hf]
  simp [Ie]
 | succ j ih =>
  intro m hj hm
  obtain ⟨m,rfl⟩:∃ k,m=k+1:=⟨m-1,by omega⟩
  obtain ⟨e1,e2⟩:=EO out j (by omega)
  have hl:(out.take j).length=j:=by rw [List.length_take];omega
  obtain ⟨s1,s2,s3⟩:=Xo (out.take j) x (out.getD j default) (out.drop (j+1)++rest)
  rw [hl] at s1 s2 s3
  have hd:out.take (j+1)++x::(out.drop (j+1)++rest)=out.take j++out.getD j default::x::(out.drop (j+1)++rest):=by rw [e1];simp
  rw [hf,hd,Nat.add_sub_cancel,s1,s2,s3]
  have h0:decide ((0:Int)<((j+1:Nat):Int))=true:=decide_eq_true (by omega)
  rw [h0,cond_true]
  conv=>rhs;unfold Ie
  cases hlt:lt x (out.getD j default) with
  | true =>
   rw [cond_true,cond_true]
   have:=ih m (by omega) (by omega)
   rw [e2] at this
   rw [show ((j+1:Nat):Int)-1=(j:Int) by omega,<- this]
   rfl
  | false =>
   rw [cond_false,cond_false,hd]
theorem sJ {β:Type} (lt:α->α->Bool) (l:List α) (g:Nat->List α->Int->β) (K:List α->β) (hK:∀ m d (i:Nat),l.length<=i->g (m+1) d i=K d)
  (hg:∀ m (i:Nat) (out rest:List α) x,i<l.length->out.length=i->g (m+1) (out++x::rest) i=g m (T6 lt out x++rest) ((i:Int)+1)) :
  ∀ (k m i:Nat),l.length-i=k->i<=l.length->k<m->g m (Ci lt (l.take i)++l.drop i) i=K (Ci lt l):=by
 intro k
 induction k with
 | zero =>
  intro m i hk hi hm
  obtain ⟨m,rfl⟩:∃ k,m=k+1:=⟨m-1,by omega⟩
  rw [hK m _ i (by omega),List.drop_eq_nil_of_le (by omega),List.take_of_length_le (by omega),List.append_nil]
 | succ k ih =>
  intro m i hk hi hm
  obtain ⟨m,rfl⟩:∃ k,m=k+1:=⟨m-1,by omega⟩
  obtain ⟨e1,e2⟩:=EO l i (by omega)
  rw [e2,hg m i _ _ _ (by omega) (by rw [Dg,List.length_take];omega),<- NZ,<- e1]
  have:=ih m (i+1) (by omega) (by omega) (by omega)
  rw [show ((i+1:Nat):Int)=(i:Int)+1 by omega] at this
  exact this
theorem Yc {β:Type} (xs:List α) (g:Nat->List α->Int->β) (K:List α->Int->β) (h:∀ m acc (v:Nat),g (m+1) acc v=bif decide ((v:Int)<(xs.length:Int)) then g m (acc++[xs.getD v default]) ((v:Int)+1) else K acc v) :
  ∀ (k v m:Nat) (acc:List α),xs.length-v=k->v<=xs.length->k<m->g m acc v=K (acc++xs.drop v) (xs.length:Int):=by
 intro k
 induction k with
 | zero =>
  intro v m acc hk hv hm
  obtain ⟨m,rfl⟩:∃ k,m=k+1:=⟨m-1,by omega⟩
  rw [h,decide_eq_false (by omega),cond_false,List.drop_eq_nil_of_le (by omega),List.append_nil,show v=xs.length by omega]
 | succ k ih =>
  intro v m acc hk hv hm
  obtain ⟨m,rfl⟩:∃ k,m=k+1:=⟨m-1,by omega⟩
  obtain ⟨_,e2⟩:=EO xs v (by omega)
  rw [h,decide_eq_true (by omega),cond_true,e2]
  have:=ih (v+1) m (acc++[xs.getD v default]) (by omega) (by omega) (by omega)
  rw [show ((v+1:Nat):Int)=(v:Int)+1 by omega] at this
  rw [this,List.append_assoc];rfl
theorem V6 {β γ:Type} (xs:List α) (step:γ->α->γ) (g:Nat->γ->Int->β) (K:γ->Int->β) (h:∀ m acc (v:Nat),g (m+1) acc v=bif decide ((v:Int)<(xs.length:Int)) then g m (step acc (xs.getD v default)) ((v:Int)+1) else K acc v) :
  ∀ (k v m:Nat) (acc:γ),xs.length-v=k->v<=xs.length->k<m->g m acc v=K ((xs.drop v).foldl step acc) (xs.length:Int):=by
 intro k
 induction k with
 | zero =>
  intro v m acc hk hv hm
  obtain ⟨m,rfl⟩:∃ k,m=k+1:=⟨m-1,by omega⟩
  rw [h,decide_eq_false (by omega),cond_false,List.drop_eq_nil_of_le (by omega),show v=xs.length by omega];rfl
 | succ k ih =>
  intro v m acc hk hv hm
  obtain ⟨m,rfl⟩:∃ k,m=k+1:=⟨m-1,by omega⟩
  obtain ⟨_,e2⟩:=EO xs v (by omega)
  rw [h,decide_eq_true (by omega),cond_true,e2]
  have:=ih (v+1) m (step acc (xs.getD v default)) (by omega) (by omega) (by omega)
  rw [show ((v+1:Nat):Int)=(v:Int)+1 by omega] at this
  rw [this,List.foldl_cons]
theorem cD {β γ:Type} (xs:List α) (step:γ->α->γ) (g:Nat->Nat->γ->β) (K:γ->β) (h0:∀ x acc,g 0 x acc=K acc) (h:∀ m x acc,x<xs.length->g (m+1) x acc=g m (x+1) (step acc (xs.getD x default))) :
  ∀ (m x:Nat) (acc:γ),m+x=xs.length->g m x acc=K ((xs.drop x).foldl step acc):=by
 intro m
 induction m with
 | zero =>
  intro x acc hx
  rw [h0,List.drop_eq_nil_of_le (by omega)];rfl
 | succ m ih =>
  intro x acc hx
  obtain ⟨_,e2⟩:=EO xs x (by omega)
  rw [h m x acc (by omega),ih (x+1) _ (by omega),e2,List.foldl_cons]
omit [Inhabited α] in
theorem J7 {γ:Type} (f:α->γ):∀ (xs:List α) (acc:List γ),xs.foldl (fun acc x=>acc++[f x]) acc=acc++xs.map f
 | [],acc=>by simp
 | x::xs,acc=>by rw [List.foldl_cons,J7 f xs,List.map_cons,List.append_assoc];rfl
def ixI (f:α->Bool) (xs:List α):Int:=match xs.findIdx? f with
 | some i=>(i:Int)
 | none => -1
omit [Inhabited α] in
theorem ixI_b {f:α->Bool} {xs:List α} (h:¬ ixI f xs<0):0<=ixI f xs/\ixI f xs<(xs.length:Int):=by
 unfold ixI at *
 cases hk:xs.findIdx? f with
 | none=>rw [hk] at h;exact absurd (by decide) h
 | some i =>
  rw [hk] at h
  have:=(List.findIdx?_eq_some_iff_getElem.1 hk).1
  simp only
  omega
theorem bI {f:α->Bool} {xs:List α} (h:¬ ixI f xs<0):f (xs.getD (ixI f xs).toNat default)=true/\xs.find? f=some (xs.getD (ixI f xs).toNat default):=by
 unfold ixI at *
 cases hk:xs.findIdx? f with
 | none=>rw [hk] at h;exact absurd (by decide) h
 | some i =>
  obtain ⟨h1,h2,h3⟩:=List.findIdx?_eq_some_iff_getElem.1 hk
  have e:xs.getD ((i:Int)).toNat default=xs[i]:=by rw [Int.toNat_natCast,List.getD_eq_getElem?_getD,List.getElem?_eq_getElem h1];rfl
  simp only [e]
  refine ⟨h2,?_⟩
  rw [List.find?_eq_some_iff_getElem]
  exact ⟨h2,i,h1,rfl,fun j hj=>by have:=h3 j hj;simpa using this⟩
omit [Inhabited α] in
theorem bJ {f:α->Bool} {xs:List α} (h:ixI f xs<0):xs.find? f=none:=by
 unfold ixI at h
 cases hk:xs.findIdx? f with
 | some i=>rw [hk] at h;exact absurd h (by simp only;omega)
 | none =>
  rw [List.find?_eq_none]
  rw [List.findIdx?_eq_none_iff] at hk
  intro x hx;rw [hk x hx];decide
theorem ix_l0 (f:α->Bool) (xs:List α) (g:Nat->Int->Int) (hg:∀ m (v:Nat),g (m+1) v=bif decide ((v:Int)<(xs.length:Int)) then (bif f (xs.getD v default) then (v:Int) else g m ((v:Int)+1)) else -1) :
  ∀ (k v m:Nat),xs.length-v=k->v<=xs.length->k<m->g m v=match (xs.drop v).findIdx? f with | some i=>((v+i:Nat):Int) | none => -1:=by
 intro k
 induction k with
 | zero =>
  intro v m hk hv hm
  obtain ⟨m,rfl⟩:∃ k,m=k+1:=⟨m-1,by omega⟩
  rw [hg,decide_eq_false (by omega),cond_false,List.drop_eq_nil_of_le (by omega)]
  rfl
 | succ k ih =>
  intro v m hk hv hm
  obtain ⟨m,rfl⟩:∃ k,m=k+1:=⟨m-1,by omega⟩
  obtain ⟨_,e2⟩:=EO xs v (by omega)
  rw [hg,decide_eq_true (by omega),cond_true,e2,List.findIdx?_cons]
  cases hf:f (xs.getD v default) with
  | true=>simp
  | false =>
   have:=ih (v+1) m (by omega) (by omega) (by omega)
   rw [show ((v+1:Nat):Int)=(v:Int)+1 by omega] at this
   rw [cond_false,this]
   cases (xs.drop (v+1)).findIdx? f with
   | none=>simp
   | some i =>
    simp only [Option.map_some]
    rw [show v+1+i=v+(i+1) by omega]
    rfl
end
end
section
open Go.RowKit
def SeqV (P:Program) (gf:Nat) (lb:Array Value) (V:Nat->Array Value->World->Prop) (Kp:World->World->Prop) (n:Nat) (w:World):Prop :=
 ∀ (l:Nat) (J:Nat->World->Prop) (W:World),Below w.heap.size w W->(∀ j A B,J j A->A.grownBy B none->J j B) ->
  (∀ j v A,j<n->J j A->V j v A->YieldAt (FW none) 0 P l v A fun e B=>e=.returned (.bool true)/\J (j+1) B/\Kp A B)->J 0 W ->
  CallsIn (FW none) 1 P gf (#[.func (.yield l) #[] #[]]++lb) W fun e B=>(∃ u,e=.returned u)/\J n B
theorem Xl {P:Program} {g:Operand} {ps:Array Tmp} {assign body:Code} {Q:Exit->Act->World->Prop} {a:Act} {w:World} {gf:Nat} {lb:Array Value} (hg:a.eval g=.func (.func gf) #[] lb) (eg:∀ args w,(callFunc gf args).run P w=.ok (.enter gf args) w)
  {V:Nat->Array Value->World->Prop} {Kp:World->World->Prop} {n:Nat} (hseq:SeqV P gf lb V Kp n w) (hKt:∀ {A B C:World},Kp A B->Kp B C->Kp A C)
  (hKb:∀ (W:World) (l:Nat) (o o':Obj),w.heap.size<=l->W.heap[l]? = some o->o.isCells=false->Kp W (W.putObj l o')) (hsz:∀ j v W,V j v W->v.size=ps.size)
  (I:Nat->World->Prop) (hI:OwnFrom w.heap.size I) (h0:I 0 w) (Ax:Nat->Act->World->Prop) (hAx:∀ j a',OwnFrom w.heap.size fun (_:Unit) W=>Ax j a' W)
  (hassign:∀ (l j:Nat) (v:Array Value) (W:World) (K:Act->World->Prop),j<n->I j W->V j v W->(∀ a' W',KeepsFrom w.heap.size W W'->Kp W W'->I j W'->Ax j a' W'->K a' W') ->
   assign.wpIn ((FW none).inRound l) 0 P (Exit.then K fun _ _ _=>False) { tmps:=(ps.zip v).foldl (fun t (p,u)=>t.setIfInBounds p u) a.tmps,defers:=[] } W)
  (hbody:∀ (l j:Nat) (a':Act) (W:World),j<n->I j W->Ax j a' W->body.wpIn ((FW none).inRound l) 0 P (fun e _ W'=>e=.normal/\KeepsFrom w.heap.size W W'/\Kp W W'/\I (j+1) W') a' W)
  (hdone:∀ (D:Nat) (W:World),w.heap.size<=D->I n W->W.heap[D]? = some (.deferred (some []))->Q .normal { a with defers:={ target:=.collected D,args := #[] }::a.defers } W):(Code.rangeFunc g ps assign body).wpIn (FW none) 2 P Q a w:=by
 refine wpIn_rangeFunc fun fn hfn => ?_
 -- the two blocks of the statement: the mark's and the record's
 generalize hD:w.heap.size=D at *
 let rc:LoopState->Obj:=fun st=>.loop { state:=st,pending:=none,fn:=fn,tmps:=a.tmps,params:=ps,assign:=assign,body:=body,defers:=D }
 have hcell:∀ st,(rc st).isCells=false:=fun _=>rfl
 let U:=w.alloc (.deferred (some []))
 let Z:=U.alloc (rc .ready)
 have sU:U.heap.size=D+1:=by show (w.alloc _).heap.size=_;rw [World.size_alloc,hD]
 have zL:Z.heap[D+1]? = some (rc .ready):=by rw [<- sU];exact World.alloc_heap_new U _
 have zD:Z.heap[D]? = some (.deferred (some [])):=(Below.heap_alloc U _ _ (by omega)).trans (by rw [<- hD];exact World.alloc_heap_new w _)
 have hIa:∀ {j:Nat} {W:World} (o:Obj),I j W->I j (W.alloc o):=fun o h=>hI.alloc o h
 let J:Nat->World->Prop:=fun j W=>I j W/\W.heap[D+1]? = some (rc .ready)/\W.heap[D]? = some (.deferred (some []))
 refine ⟨D+1,[{ target:=.collected D,args := #[] }],Z,{ target:=.fn (.func gf) lb,args := #[.func (.yield (D+1)) #[] #[]] },Z,gf,#[.func (.yield (D+1)) #[] #[]]++lb,Z,?_,?_,?_,?_,fun _=>by decide,?_⟩
 ·have:=run_enterLoop_outer (P:=P) (w:=w) fn a.tmps ps assign body
  rw [hD] at this
  exact this
 ·simp only [resolve,hg]
  simp [go_sem]
 ·intro f' _;trivial
 ·simp [invoke,go_sem,eg]
 ·refine (hseq (D+1) J Z ?_ ?_ ?_ ⟨hIa _ (hIa _ h0),zL,zD⟩).mono ?_
  ·rw [hD]
   exact (((Below.refl D w).alloc (by omega) _).alloc (by rw [show (w.alloc (.deferred (some []))).heap.size=D+1 from sU];omega) _)
  ·rintro j A B ⟨h1,h2,h3⟩ hgr
   have keep:∀ b (o:Obj),A.heap[b]? = some o->B.heap[b]? = some o:=fun b o h=>(hgr.block b (Array.getElem?_eq_some_iff.1 h).1 (fun e=>by cases e)).trans h
   exact ⟨hI j A B none h1 hgr (fun r e=>by cases e),keep _ _ h2,keep _ _ h3⟩
  ·rintro j v A hj ⟨h1,h2,h3⟩ hv
   refine ⟨fn,_,assign,body,run_yield h2 (hsz j v A hv),roundIn_of_wpIn hfn (hassign (D+1) j v A _ hj h1 hv ?_)⟩
   intro a' B kf kp i1 ax
   have l1:B.heap[D+1]? = some (rc .ready):=kf.same _ _ (by omega) h2 rfl
   have d1:B.heap[D]? = some (.deferred (some [])):=kf.same _ _ (Nat.le_refl _) h3 rfl
   have hlt:D+1<B.heap.size:=(Array.getElem?_eq_some_iff.1 l1).1
   refine ⟨_,run_beginRound l1 rfl,?_⟩
   generalize hC:B.putObj (D+1) (.loop { state:=.busy,pending:=none,fn:=fn,tmps:=a.tmps,params:=ps,assign:=assign,body:=body,defers:=D })=C
   have l2:C.heap[D+1]? = some (rc .busy):=by rw [<- hC];exact World.putObj_heap_same hlt
   have d2:C.heap[D]? = some (.deferred (some [])):=by rw [<- hC];exact (World.putObj_heap_other (by omega)).trans d1
   have kp2:Kp B C:=by rw [<- hC];exact hKb _ _ _ _ (by omega) l1 rfl
   have i2:I j C:=by rw [<- hC];exact hI.putObj _ i1 (by omega) l1 rfl
   have ax2:Ax j a' C:=by rw [<- hC];exact (hAx j a').putObj (s:=()) _ ax (by omega) l1 rfl
   refine wpIn_mono (hbody (D+1) j a' C hj i2 ax2) ?_
   rintro e a3 G ⟨rfl,kf3,kp3,i3⟩
   have l3:G.heap[D+1]? = some (rc .busy):=kf3.same _ _ (by omega) l2 rfl
   have d3:G.heap[D]? = some (.deferred (some [])):=kf3.same _ _ (Nat.le_refl _) d2 rfl
   have kp4:=hKb G (D+1) _ (rc .ready) (by omega) l3 rfl
   exact ⟨_,_,run_endRound none l3,rfl,⟨hI.putObj _ i3 (by omega) l3 rfl,World.putObj_heap_same (Array.getElem?_eq_some_iff.1 l3).1,(World.putObj_heap_other (by omega)).trans d3⟩,hKt kp (hKt (hKt kp2 kp3) kp4)⟩
  ·rintro e B ⟨⟨u,rfl⟩,h1,h2,h3⟩
   exact ⟨none,_,run_endLoop h2 (fun e=>by cases e),hdone D _ (Nat.le_refl _) (hI.putObj _ h1 (by omega) h2 rfl) ((World.putObj_heap_other (by omega)).trans h3)⟩
end
section
open Go.RowKit
def jU (M:Nat->Option Obj) (Ow:World->Nat->Prop) (E:List Av) (v:Array Value) (W:World):Prop:=∃ Mj:Nat->Option Obj,E.length=v.size/\(∀ b o,Mj b=some o->W.heap[b]? = some o/\o.isCells=true/\¬ Ow W b) /\
 ∀ MM:Nat->Option Obj,(∀ b o,M b=some o->MM b=some o)->(∀ b o,Mj b=some o->MM b=some o)->L2 (fun e u=>∀ σ,RA MM σ e u) E v.toList
def I9 (P:Program) (gf:FuncId) (k:Nat) (caps:Nat->Cl) (n:Nat) (E:Fin n->List Av):Prop :=
 ∀ (M:Nat->Option Obj) (w:World) (cs:Array Value) (Ow:World->Nat->Prop),(∀ b o,M b=some o->w.heap[b]? = some o)->OwS Ow w.heap.size->(∀ b,Ow w b->b<w.heap.size/\M b=none)->cs.size=k->(∀ i,i<k->RC M (caps i) (cs.getD i undef)) ->
  SeqV P gf cs (fun j v W=>∃ hj:j<n,jU M Ow (E ⟨j,hj⟩) v W) (KpS Ow) n w
section
variable {P:Program} {N:Nat} {W0:World} {X:Nat→Option Loc} {M0:Nat→Option Obj}
theorem Ym {ι:Type} {Q:Exit->AS->Prop} {g:Operand} {ps:Array Tmp} {assign body:Code} {t0:List (Nat×Tv)} (pids:List Nat) (fid q off r:Nat) {gf:FuncId} {k:Nat} {caps:Nat->Cl} {n:Nat} {E:Fin n->List Av} (H:ι->List (Nat×Blk)) (t1:Fin n->List (Nat×Tv)) (Inv Fm:Nat->ι->Prop) (x0:ι)
  (hX0:∀ m,X m=none) (hg:evT (get t0) g=some (.av (.one (.clo gf k caps)))) (hcd:(Cl.clo gf k caps).dv=true) (eg:∀ args w,(callFunc gf args).run P w=.ok (.enter gf args) w)
  (It:I9 P gf k caps n E) (hE:∀ x,(E x).length=ps.size) (hps:∀ p∈ps.toList,p<N)
  (hpv:∀ i v,get t0 i=some v->pvT pids v=true) (hh:∀ x m b,get (H x) m=some b->((A2 pids m=true/\b.isP=true)\/(m=r/\b.isR=true))/\b.no fid=true)
  (hpc:∀ x m,A2 pids m=true->∃ b,get (H x) m=some b) (hfp:A2 pids fid=false) (hrp:A2 pids r=false) (hrf:r≠fid) (hfN:N<=fid) (hrN:N<=r) (hpN:∀ m∈pids,N<=m) (hmem:∀ m∈pids,A2 pids m=true) (hq:A2 pids q=true)
  (hEd:∀ x i v,get (KL t0 ps.toList (E x)) i=some v->v.no fid=true)
  (hheld:∀ x,PI q off r (H x)=true) (hm:∀ x m b,get (H x) m=some b->BkN b)
  (ht1:∀ x,TsM (t1 x)) (ht1p:∀ x i v,get (t1 x) i=some v->pvT pids v=true)
  (hI0:Inv 0 x0) (hF0:Fm 0 x0)
  (hassign:∀ l W1 M1 X1 k j x,Inv j x->PXr pids r (∃ bb,get (H x) r=some bb) X1->AWp P (some l) N W1 X1 M1 assign (fun e s'=>e=.normal/\s'=⟨t1 k,H x⟩) ⟨KL t0 ps.toList (E k),H x⟩)
  (hbody:∀ l W1 M1 X1 (k:Fin n) j x,(∀ m z,X1 m=some z->A2 (fid::pids) m=true)->j<n->Inv j x->AWp P (some l) N W1 X1 M1 body (fun e s'=>e=.normal/\∃ y,Inv (j+1) y/\(k.val=j->Fm j x->Fm (j+1) y)/\∀ m b,get (H y) m=some b->get s'.h m=some b) ⟨t1 k,H x⟩)
  (hdone:∀ x,Inv n x->Fm n x->Q .normal ⟨t0,H x⟩):AWp P none N W0 X M0 (.rangeFunc g ps assign body) Q ⟨t0,H x0⟩:=by
 intro M σ a w hs
 have hnof:∀ v:Tv,pvT pids v=true->v.no fid=true:=fun v h=>by
  cases hn:v.no fid with
  | true=>rfl
  | false=>have:=hmem fid (Ks h hn);rw [hfp] at this;cases this
 have hpne:∀ m,A2 pids m=true->m≠fid/\m≠r:=fun m h=>⟨fun e=>(by rw [e,hfp] at h;cases h),fun e=>(by rw [e,hrp] at h;cases h)⟩
 have hPb:∀ x m,A2 pids m=true->∃ b,get (H x) m=some b/\b.isP=true:=fun x m h=>by
  obtain ⟨b,hb⟩:=hpc x m h
  rcases (hh x m b hb).1 with h1 | h1
  ·exact ⟨b,hb,h1.2⟩
  ·exact absurd h1.1 (hpne m h).2
 have hPn:∀ {X':Nat->Option Loc} {W1:World} {Mb M1:Nat->Option Obj} {σ1:Nat->Loc} {T:Nat->Option Tv} {b:Act} {A:World} {x:ι},Sim N W1 X' Mb M1 σ1 T (get (H x)) b A->∀ m,A2 pids m=true->(σ1 m).nil=false/\(σ1 m).b<A.heap.size/\M1 (σ1 m).b=none:=fun {X' W1 Mb M1 σ1 T b A x} h1 m hmm=>by
  obtain ⟨bk,hbk,hp⟩:=hPb x m hmm
  have h2:=h1.blk m bk hbk
  have hn:(σ1 m).nil=false:=by
   cases bk with
   | cells l ty=>exact h2.1
   | omap=>exact h2.1
   | row=>cases hp
   | rowx=>cases hp
  refine ⟨hn,h2.lt hn,?_⟩
  rcases h1.loc m bk hbk with h | h
  ·rw [hn] at h;cases h
  ·exact h.1
 have hplt:∀ m,A2 pids m=true->(σ m).b<w.heap.size:=fun m hmm=>(hPn hs m hmm).2.1
 -- the iterator's value
 obtain ⟨cs,hgv1,hgv2,hgv3⟩:=Fa hs.tmps hg
 have hcaps:∀ i,i<k->RC M (caps i) (cs.getD i undef):=fun i hi=>(JC (List.all_eq_true.1 hcd i (List.mem_range.2 hi))).1 (hgv3 i hi)
 obtain ⟨Ow,hOw⟩:∃ Ow:World->Nat->Prop,Ow=fun W b=>((∃ m,A2 pids m=true/\(σ m).b=b)\/JA (σ q).b off W b)\/(b<w.heap.size/\M b=none):=⟨_,rfl⟩
 have hOi:∀ {W b},Ow W b->((∃ m,A2 pids m=true/\(σ m).b=b)\/JA (σ q).b off W b)\/(b<w.heap.size/\M b=none):=fun h=>by rw [hOw] at h;exact h
 have hOr:∀ {W b},((∃ m,A2 pids m=true/\(σ m).b=b)\/JA (σ q).b off W b)\/(b<w.heap.size/\M b=none)->Ow W b:=fun h=>by rw [hOw];exact h
 have hOo:∀ {W b},(∃ m,A2 pids m=true/\(σ m).b=b)\/JA (σ q).b off W b->Ow W b:=fun h=>by rw [hOw];exact .inl h
 have hHeldSame:∀ {A B:World},B.heap[(σ q).b]? = A.heap[(σ q).b]? -> ∀ b,JA (σ q).b off B b->JA (σ q).b off A b:=fun h b ⟨o,len,cap,h1,h2⟩=>⟨o,len,cap,by rw [<- h];exact h1,h2⟩
 have hOg:∀ {A B:World},w.heap.size<=A.heap.size->B.heap[(σ q).b]? = A.heap[(σ q).b]? -> ∀ b,Ow B b->Ow A b:=fun _ hB b hb=>hOr ((hOi hb).imp (Or.imp id (hHeldSame hB b)) id)
 have hseq:=It M w cs Ow hs.imm ⟨fun A B hA hB b hb=>hOg hA (hB _ (Nat.lt_of_lt_of_le (hplt q hq) hA)) b hb⟩ (fun b hb=>by
  rcases hOi hb with (⟨m,hmm,rfl⟩ | hb) | hb
  ·exact ⟨hplt m hmm,(hPn hs m hmm).2.2⟩
  ·obtain ⟨⟨bk,hbk⟩,hn,rfl⟩:=SW hs (hheld x0) hb
   refine ⟨(hs.blk r bk hbk).lt hn,?_⟩
   rcases hs.loc r bk hbk with h | h
   ·rw [hn] at h;cases h
   ·exact h.1
  ·exact hb) hgv2 hcaps
 -- names
 have hXPm:∀ m x,Cx pids σ X m=some x->A2 pids m=true/\x=σ m:=fun m x hx=>by
  unfold Cx at hx
  cases hmm:A2 pids m with
  | true=>rw [hmm] at hx;injection hx with hx;exact ⟨rfl,hx.symm⟩
  | false=>rw [hmm] at hx;have:X m=some x:=hx;rw [hX0] at this;cases this
 have hPp:∀ m,A2 pids m=true->Cx pids σ X m=some (σ m):=fun m h=>by unfold Cx;rw [h];rfl
 obtain ⟨XP,hXPd⟩:∃ XP,XP=Cx pids σ X:=⟨_,rfl⟩
 have hXPi:∀ b,inX XP b↔∃ m,A2 pids m=true/\(σ m).b=b:=fun b=>by
  rw [hXPd]
  constructor
  ·rintro ⟨m,x,h1,h2⟩
   obtain ⟨h3,rfl⟩:=hXPm m x h1
   exact ⟨m,h3,h2⟩
  ·rintro ⟨m,h1,h2⟩
   exact ⟨m,_,hPp m h1,h2⟩
 have hnfP:∀ l M4,(∀ b o,M b=some o->M4 b=some o)->l=a.defers->HR XP M0 M4 l:=fun l M4 h4 e=>⟨by rw [e];exact GM.mono h4 hs.defers.1,fun ⟨m,x,h1,h2,_⟩=>by
  rw [hXPd] at h1
  obtain ⟨h3,rfl⟩:=hXPm m x h1
  rw [(hPn hs m h3).1] at h2;cases h2⟩
 have hT0:∀ (M4:Nat->Option Obj) (σ4:Nat->Loc),(∀ b o,M b=some o->M4 b=some o)->(∀ m,A2 pids m=true->σ4 m=σ m)->∀ i v,get t0 i=some v->RT M4 σ4 v (a.tmps.getD i undef):=fun M4 σ4 h4 hσ i v hv =>
  DY h4 (fun d hd=>hσ d (hmem d (Ks (hpv i v hv) hd))) (hs.tmps i v hv)
 have hs0:Sim N W0 XP M0 M σ (get t0) (get (H x0)) a w:=⟨hs.os,hs.tape,hs.output,hs.size,fun b hb hx=>hs.old b hb fun ⟨m,x,h1,h2⟩=>(by rw [hX0] at h1;cases h1),hs.sub,hs.new,fun m x hx=>by
   rw [hXPd] at hx
   obtain ⟨h3,rfl⟩:=hXPm m x hx
   exact ⟨hpN m (DF h3),rfl⟩,hnfP _ M (fun _ _ h=>h) rfl,hs.room,hs.tmps,hs.imm,hs.blk,fun m b hb=>(hs.loc m b hb).imp id fun h=>⟨h.1,.inl (h.2.elim id fun ⟨m,x,h1,_⟩=>by rw [hX0] at h1;cases h1)⟩,hs.inj⟩
 have hlt:∀ b o,M b=some o->b<w.heap.size:=fun b o h=>(Array.getElem?_eq_some_iff.1 (hs.imm b o h)).1
 have hσP:∀ {X':Nat->Option Loc} {M1:Nat->Option Obj} {σ1:Nat->Loc} {T:Nat->Option Tv} {HH:Nat->Option Blk} {b:Act} {A W1:World} {Mb:Nat->Option Obj},Sim N W1 X' Mb M1 σ1 T HH b A->(∀ m,A2 pids m=true->X' m=some (σ m))->∀ m,A2 pids m=true->σ1 m=σ m:=fun h1 h2 m hmm=>(h1.pin m _ (h2 m hmm)).2
 have hXPp:∀ m,A2 pids m=true->XP m=some (σ m):=fun m h=>by rw [hXPd];exact hPp m h
 let SI:Nat->World->Prop:=fun j W=>∃ x M' σ',Sim N W0 XP M0 M' σ' (get t0) (get (H x)) a W/\Cln M M'/\Inv j x/\Fm j x/\w.heap.size<=W.heap.size
 let Ax:Nat->Act->World->Prop:=fun j a' W=>∃ (hj:j<n) (Mn:Nat->Option Obj),w.heap.size<=W.heap.size/\a'.tmps.size=N/\a'.defers=[]/\(∀ i v,get (t1 ⟨j,hj⟩) i=some v->RT Mn σ v (a'.tmps.getD i undef))/\∀ b o,Mn b=some o->W.heap[b]? = some o/\(o.isCells=true\/M b=some o)/\(M b=none->W0.heap.size<=b)/\¬ ((∃ m,A2 pids m=true/\(σ m).b=b)\/JA (σ q).b off W b)
 -- one piece of a round
 have step:∀ {XA:Nat->Option Loc} {M' M3:Nat->Option Obj} {σ' σ3:Nat->Loc} {W W':World} {x y:ι} {T':Nat->Option Tv} {h':List (Nat×Blk)} {a':Act},Sim N W0 XP M0 M' σ' (get t0) (get (H x)) a W->Cln M M'->Sim N W XA M' M3 σ3 T' (get h') a' W'->(∀ m b,get (H y) m=some b->get h' m=some b) ->
   (∀ b,inX XA b->(∃ m,A2 pids m=true/\(σ m).b=b)\/((∃ bb,get (H x) r=some bb)/\(σ' r).nil=false/\(σ' r).b=b))->(∀ m,A2 pids m=true->σ3 m=σ m) ->
   KeepsFrom w.heap.size W W'/\KpS Ow W W'/\Sim N W0 XP M0 (Iq M' M3) σ3 (get t0) (get (H y)) a W'/\Cln M (Iq M' M3):=by
  intro XA M' M3 σ' σ3 W W' x y T' h' a' h1 h2 hr hy hX hσ3
  have hσ':=hσP h1 hXPp
  have hC:=PW h2 hr.sub
  have hXO:∀ b,inX XA b->Ow W b:=fun b hb=>by
   rcases hX b hb with h | ⟨⟨bb,hbb⟩,hn,rfl⟩
   ·exact hOo (.inl h)
   ·have:=T8 h1 (hheld x) hbb hn
    rw [hσ' q hq] at this
    exact hOo (.inr this)
  have hsim:Sim N W0 XP M0 (Iq M' M3) σ3 (get t0) (get (H y)) a W':=by
   refine Zl h1 hr (fun b hb => ?_) hy (hm y) hs.room (hT0 _ σ3 hC.1 hσ3) (fun m z hz => ?_) (fun b=>Iff.rfl) (hnfP _ _ hC.1 rfl)
   ·rcases hX b hb with h | ⟨⟨bb,hbb⟩,hn,rfl⟩
    ·exact .inl ((hXPi b).2 h)
    ·rcases h1.loc r bb hbb with h3 | h3
     ·rw [hn] at h3;cases h3
     ·exact h3.2.symm
   ·rw [hXPd] at hz
    obtain ⟨h3,rfl⟩:=hXPm m z hz
    exact ⟨hpN m (DF h3),hσ3 m h3⟩
  refine ⟨⟨hr.size,fun b o hb ho hoc => ?_⟩,⟨hr.size,fun b o hb hc ho=>(hr.old b (Array.getElem?_eq_some_iff.1 hb).1 fun h=>ho (hXO b h)).trans hb,fun b hb => ?_⟩,hsim,hC⟩
  ·refine (hr.old b (Array.getElem?_eq_some_iff.1 ho).1 fun hX' => ?_).trans ho
   rcases hX b hX' with ⟨m,hmm,rfl⟩ | ⟨⟨bb,hbb⟩,hn,rfl⟩
   ·have:=hplt m hmm;omega
   ·have h3:=h1.blk r bb hbb
    have h4:=(hh x r bb hbb).1
    cases bb with
    | row sz len f ty =>
     rcases h3 with ⟨h5,_⟩ | ⟨_,c,hc,_⟩
     ·rw [hn] at h5;cases h5
     ·rw [ho] at hc;injection hc with hc;subst hc;cases hoc
    | cells=>rcases h4 with h4 | h4 <;> first | (rw [hrp] at h4;cases h4.1) | cases h4.2
    | omap=>rcases h4 with h4 | h4 <;> first | (rw [hrp] at h4;cases h4.1) | cases h4.2
    | rowx=>rcases h4 with h4 | h4 <;> first | cases h4.2 | (rw [hrp] at h4;cases h4.1)
  ·rcases hOi hb with (h | h) | h
   ·exact .inl (hOo (.inl h))
   rotate_left
   ·exact .inl (hOr (.inr h))
   ·rw [<- hσ3 q hq] at h
    obtain ⟨⟨bk,hbk⟩,hn,rfl⟩:=SW hsim (hheld y) h
    rcases hr.loc r bk (hy r bk hbk) with h3 | ⟨_,h3 | h3⟩
    ·rw [hn] at h3;cases h3
    ·exact .inr ⟨h3,(hr.blk r bk (hy r bk hbk)).lt hn⟩
    ·exact .inl (hXO _ h3)
 -- what else is known to lie in the world
 have merge:∀ {M' Mn:Nat->Option Obj} {σ':Nat->Loc} {W:World} {x:ι},Sim N W0 XP M0 M' σ' (get t0) (get (H x)) a W->Cln M M'->(∀ b o,Mn b=some o->W.heap[b]? = some o/\(o.isCells=true\/M b=some o)/\(M b=none->W0.heap.size<=b)/\¬ ((∃ m,A2 pids m=true/\(σ m).b=b)\/JA (σ q).b off W b)) ->
   ∃ MM:Nat->Option Obj,(∀ b o,M' b=some o->MM b=some o)/\(∀ b o,Mn b=some o->MM b=some o)/\Cln M MM/\Sim N W0 XP M0 MM σ' (get t0) (get (H x)) a W:=by
  intro M' Mn σ' W x h1 h2 hA4
  have hσ':=hσP h1 hXPp
  obtain ⟨MM,hMM⟩:∃ MM:Nat->Option Obj,MM=fun b=>match M' b with | some o=>some o | none=>Mn b:=⟨_,rfl⟩
  have hM1:∀ b o,M' b=some o->MM b=some o:=fun b o h=>by rw [hMM];simp only [h]
  have hM3:∀ b o,MM b=some o->M' b=some o\/Mn b=some o:=fun b o h=>by
   rw [hMM] at h
   cases h3:M' b with
   | some o'=>simp only [h3] at h;exact .inl h
   | none=>simp only [h3] at h;exact .inr h
  have hM2:∀ b o,Mn b=some o->MM b=some o:=fun b o h=>by
   cases h3:M' b with
   | some o' =>
    have h4:=h1.imm b o' h3
    rw [(hA4 b o h).1] at h4
    rw [h4];exact hM1 b o' h3
   | none=>rw [hMM];simp only [h3];exact h
  have hCM:Cln M MM:=⟨fun b o h=>hM1 b o (h2.1 b o h),fun b o h ho=>(hM3 b o h).elim (fun h'=>h2.2 b o h' ho) fun h'=>(hA4 b o h').2.1.elim (fun hc=>by rw [ho] at hc;cases hc) id⟩
  have h1M:Sim N W0 XP M0 MM σ' (get t0) (get (H x)) a W:=by
   refine ⟨h1.os,h1.tape,h1.output,h1.size,h1.old,fun b o h=>hM1 b o (h1.sub b o h),fun b o h h0 => ?_,h1.pin,hnfP _ MM hCM.1 rfl,h1.room,fun i v hv=>DY hM1 (fun _ _=>rfl) (h1.tmps i v hv),fun b o h=>(hM3 b o h).elim (h1.imm b o) fun h'=>(hA4 b o h').1,fun m b hb=>(h1.blk m b hb).mono hM1 (fun _ _=>rfl) (fun _=>rfl),fun m b hb => ?_,h1.inj⟩
   ·rcases hM3 b o h with h | h
    ·exact h1.new b o h h0
    ·cases hMb:M b with
     | none=>exact (hA4 b o h).2.2.1 hMb
     | some o'=>exact hs.new b o' hMb h0
   ·cases hn:(σ' m).nil with
    | true=>exact .inl rfl
    | false =>
     rcases h1.loc m b hb with h | h
     ·rw [hn] at h;cases h
     ·refine .inr ⟨?_,h.2⟩
      cases hc:MM (σ' m).b with
      | none=>rfl
      | some o =>
       rcases hM3 _ o hc with h3 | h3
       ·rw [h.1] at h3;cases h3
       ·refine absurd ?_ (hA4 _ o h3).2.2.2
        rcases (hh x m b hb).1 with h4 | ⟨rfl,h4⟩
        ·exact .inl ⟨m,h4.1,by rw [hσ' m h4.1]⟩
        ·have:=T8 h1 (hheld x) hb hn
         rw [hσ' q hq] at this
         exact .inr this
  exact ⟨MM,hM1,hM2,hCM,h1M⟩
 have hgr:∀ {A B:World} {row:Option Nat},A.grownBy B row->(∀ r,row=some r->w.heap.size<=r/\∃ o:Obj,A.heap[r]? = some o/\o.isCells=false)->w.heap.size<=A.heap.size->∀ b,((∃ m,A2 pids m=true/\(σ m).b=b)\/JA (σ q).b off B b)->((∃ m,A2 pids m=true/\(σ m).b=b)\/JA (σ q).b off A b):=fun {A B row} hg' hr hA b hb=>hb.imp id (hHeldSame (hg'.block _ (Nat.lt_of_lt_of_le (hplt q hq) hA) fun e=>by
  have:=(hr _ e.symm).1
  have:=hplt q hq
  omega) b)
 refine wpIn_wide.2 ((wpIn_wide (n:=2)).1 ?_)
 refine Xl hgv1 eg hseq KpS.trans (fun W l o o' hl ho hoc=>⟨by simp,fun b o2 hb hb2 _ => ?_,fun b hb => ?_⟩) (fun j v W hv => ?hsz)
  SI ?hI ⟨x0,M,σ,hs0,⟨fun _ _ h=>h,fun _ _ h _=>h⟩,hI0,hF0,Nat.le_refl _⟩ Ax ?hAx ?assign ?body ?done
 ·rw [World.putObj_heap_other (fun e=>by subst e;rw [ho] at hb;injection hb with hb;subst hb;rw [hoc] at hb2;cases hb2)]
  exact hb
 ·refine .inl (hOr ((hOi hb).imp (Or.imp id (hHeldSame (World.putObj_heap_other (fun e => ?_)) b)) id))
  have:=hplt q hq
  omega
 case hsz =>
  obtain ⟨hj,Mj,hL,_⟩:=hv
  rw [hE] at hL
  exact hL.symm
 case hI =>
  rintro j A B row ⟨x,M',σ',h1,h2,h3,h4,h5⟩ hg' hr
  refine ⟨x,M',σ',VN h1 (fun m b hb hbm rr e => ?_) hg' (fun rr e => ?_),h2,h3,h4,Nat.le_trans h5 hg'.size⟩
  ·have h6:=(hr rr e).1
   have hmm:A2 pids m=true:=by
    rcases (hh x m b hb).1 with h | h
    ·exact h.1
    ·cases b <;> first | (exfalso;cases hbm;done) | (exfalso;exact absurd h.2 (by simp [Blk.isR])) | exact absurd hbm (by simp [Blk.isM])
   rw [hσP h1 hXPp m hmm]
   have:=hplt m hmm
   omega
  ·obtain ⟨h6,o,h7,h8⟩:=hr rr e
   refine ⟨Nat.le_trans hs.size h6,⟨o,h7,h8⟩,?_⟩
   cases hM1:M' rr with
   | none=>rfl
   | some o' =>
    have h9:=h1.imm rr o' hM1
    rw [h7] at h9;injection h9 with h9;subst h9
    have:=hlt rr _ (h2.2 rr _ hM1 h8)
    omega
 case hAx =>
  rintro j a' _ A B row ⟨hj,Mn,h1,h2,h3,h4,h5⟩ hg' hr
  refine ⟨hj,Mn,Nat.le_trans h1 hg'.size,h2,h3,h4,fun b o hb => ?_⟩
  obtain ⟨h6,h7,h8,h9⟩:=h5 b o hb
  refine ⟨(hg'.block b (Array.getElem?_eq_some_iff.1 h6).1 fun e => ?_).trans h6,h7,h8,fun h=>h9 (hgr hg' hr h1 b h)⟩
  obtain ⟨h10,o',h11,h12⟩:=hr b e.symm
  rw [h6] at h11;injection h11 with h11;subst h11
  rcases h7 with h7 | h7
  ·rw [h12] at h7;cases h7
  ·have:=hlt b _ h7;omega
 case assign =>
  rintro l j vals W K hjn ⟨x,M'',σ',h1',h2',hinv,hfm,hws⟩ ⟨hj,Mj,_,hMj,hL⟩ hK
  obtain ⟨M',_,hMjM,h2,h1⟩:=merge h1' h2' (fun b o hb=>⟨(hMj b o hb).1,.inl (hMj b o hb).2.1,fun hMb=>by
   have h3:=(hMj b o hb).2.2
   have:¬ b<w.heap.size:=fun h=>h3 (hOr (.inr ⟨h,hMb⟩))
   have:=hs.size
   omega,fun h=>(hMj b o hb).2.2 (hOo h)⟩)
  obtain ⟨kx,hkx⟩:∃ kx:Fin n,kx=⟨j,hj⟩:=⟨_,rfl⟩
  rw [<- hkx] at hL
  have hσ':=hσP h1 hXPp
  obtain ⟨hfs,hft⟩:=Sa ps.toList (E kx) vals.toList t0 a.tmps (hT0 M' σ' h2.1 hσ') hs.room ((hL M' h2.1 hMjM).mono fun e _ v hv=>hv σ') (by simpa using (hE kx).symm) hps
  have efold:(ps.zip vals).foldl (fun t (p,v)=>t.setIfInBounds p v) a.tmps=(ps.toList.zip vals.toList).foldl (fun t (y:Tmp×Value)=>t.setIfInBounds y.1 y.2) a.tmps:=by
   rw [<- Array.foldl_toList,Array.toList_zip]
  rw [efold]
  obtain ⟨pr,hpr1,hpr2,hpr3⟩:∃ pr:List Nat,(∀ m,A2 pr m=true->A2 pids m=true\/(m=r/\(∃ bb,get (H x) r=some bb)/\(σ' r).nil=false))/\(∀ m,A2 pids m=true->A2 pr m=true)/\((∃ bb,get (H x) r=some bb)/\(σ' r).nil=false->A2 pr r=true):=by
   by_cases hrow:(∃ bb,get (H x) r=some bb)/\(σ' r).nil=false
   ·refine ⟨r::pids,fun m h => ?_,fun m h => ?_,fun _ => ?_⟩
    ·rcases List.mem_cons.1 (DF h) with e | e
     ·exact .inr ⟨e,hrow⟩
     ·exact .inl (hmem m e)
    ·exact F2 (List.mem_cons_of_mem _ (DF h))
    ·exact F2 (List.mem_cons_self ..)
   ·exact ⟨pids,fun m h=>.inl h,fun m h=>h,fun h=>absurd h hrow⟩
  obtain ⟨XA,hXA⟩:∃ XA,XA=DR fid ⟨(σ q).b,424242,true⟩ (Cx pr σ' X):=⟨_,rfl⟩
  have hprf:∀ m,A2 pr m=true->m≠fid:=fun m h=>(hpr1 m h).elim (fun h=>(hpne m h).1) fun h=>by rw [h.1];exact hrf
  have hXAf:∀ m z,XA m=some z->(m=fid/\z=⟨(σ q).b,424242,true⟩)\/(m≠fid/\A2 pr m=true/\z=σ' m):=fun m z hz=>by
   rw [hXA] at hz
   unfold DR at hz
   cases hb:Nat.beq m fid with
   | true=>rw [hb] at hz;injection hz with hz;exact .inl ⟨Nat.eq_of_beq_eq_true hb,hz.symm⟩
   | false =>
    rw [hb] at hz
    have hz:Cx pr σ' X m=some z:=hz
    unfold Cx at hz
    cases hp:A2 pr m with
    | true=>rw [hp] at hz;injection hz with hz;exact .inr ⟨hprf m hp,rfl,hz.symm⟩
    | false=>rw [hp] at hz;have hz:X m=some z:=hz;rw [hX0] at hz;cases hz
  have hXAp:∀ m,A2 pr m=true->XA m=some (σ' m):=fun m h=>by
   rw [hXA]
   unfold DR
   rw [show Nat.beq m fid=false by rw [CT];simp [hprf m h]]
   show Cx pr σ' X m=_
   unfold Cx
   rw [h];rfl
  have hflat:Yr XA:=⟨fid,⟨(σ q).b,424242,true⟩,by rw [hXA];unfold DR;rw [Nat.beq_refl];rfl,rfl,rfl⟩
  have hin:=QG (fid:=fid) (XB:=XA) (σ2:=upd σ' fid ⟨(σ q).b,424242,true⟩) h1 (a2:={ tmps:=_,defers:=[] }) rfl hfs (fun m z hz=>by
   rcases hXAf m z hz with ⟨rfl,rfl⟩ | ⟨h3,h4,rfl⟩
   ·exact ⟨hfN,BK _ _ _⟩
   ·refine ⟨(hpr1 m h4).elim (fun h=>hpN m (DF h)) fun h=>by rw [h.1];exact hrN,CN _ _ h3⟩) (fun m h=>CN _ _ h) (fun i v hv=>⟨hft i v hv,hEd kx i v hv⟩) (fun m b hb=>by
   obtain ⟨h3,h4⟩:=hh x m b hb
   rcases h3 with h3 | ⟨rfl,h3⟩
   ·exact ⟨(hpne m h3.1).1,h4,.inr ⟨m,_,hXAp m (hpr2 m h3.1),rfl⟩⟩
   ·refine ⟨hrf,h4,?_⟩
    cases hn:(σ' m).nil with
    | true=>exact .inl rfl
    | false=>exact .inr ⟨m,_,hXAp m (hpr3 ⟨⟨b,hb⟩,hn⟩),rfl⟩)
  refine wpIn_mono (hassign l W M' XA kx j x hinv (fun m z hz=>by
   rcases hXAf m z hz with ⟨rfl,rfl⟩ | ⟨h3,h4,rfl⟩
   ·exact .inl ⟨q,hq,_,hXAp q (hpr2 q hq),by rw [hσ' q hq]⟩
   ·rcases hpr1 m h4 with h5 | ⟨rfl,h6,h5⟩
    ·exact .inl ⟨m,h5,_,hXAp m h4,rfl⟩
    ·exact .inr ⟨rfl,h6,h5⟩) M' _ _ W hin) ?_
  rintro e a' W' ⟨s',M3,σ3,⟨rfl,rfl⟩,hr⟩
  have hσ3:∀ m,A2 pids m=true->σ3 m=σ m:=fun m hmm=>(hr.pin m _ (hXAp m (hpr2 m hmm))).2.trans (hσ' m hmm)
  obtain ⟨k1,k2,k3,k4⟩:=step h1 h2 hr (y:=x) (fun _ _ h=>h) (fun b hb=>by
   obtain ⟨m,z,hz,hzb⟩:=hb
   rcases hXAf m z hz with ⟨rfl,rfl⟩ | ⟨h3,h4,rfl⟩
   ·exact .inl ⟨q,hq,hzb⟩
   ·rcases hpr1 m h4 with h5 | ⟨rfl,h5,h6⟩
    ·exact .inl ⟨m,h5,by rw [<- hσ' m h5];exact hzb⟩
    ·exact .inr ⟨h5,h6,hzb⟩) hσ3
  refine hK a' W' k1 k2 ⟨x,_,σ3,k3,k4,hinv,hfm,Nat.le_trans hws hr.size⟩ ⟨hj,Iq M' M3,Nat.le_trans hws hr.size,hr.room,hr.defers.2 hflat,fun i v hv => ?_,fun b o hb=>⟨hr.imm b o (H4 hr.sub hb),?_,fun hMb => ?_,fun ho => ?_⟩⟩
  ·rw [<- hkx] at hv
   exact DY (fun _ _ h=>h) (fun d hd=>(hσ3 d (hmem d (Ks (ht1p kx i v hv) hd))).symm) (Ph (K7 hr.sub) (hr.tmps i v hv) (ht1 kx i v hv))
  ·cases hc:o.isCells with
   | true=>exact .inl rfl
   | false=>exact .inr (k4.2 b o hb hc)
  ·cases h3:M' b with
   | some o' =>
    refine h1.new b o' h3 ?_
    cases h0:M0 b with
    | none=>rfl
    | some o2=>rw [hs.sub b o2 h0] at hMb;cases hMb
   | none=>exact Nat.le_trans h1.size (hr.new b o (H4 hr.sub hb) h3)
  ·have h3:=H4 hr.sub hb
   rcases ho with ⟨m,hmm,rfl⟩ | ho
   ·have:=(hPn hr m hmm).2.2
    rw [hσ3 m hmm,h3] at this;cases this
   ·rw [<- hσ3 q hq] at ho
    obtain ⟨⟨bk,hbk⟩,hn,rfl⟩:=SW hr (hheld x) ho
    rcases hr.loc r bk hbk with h | h
    ·rw [hn] at h;cases h
    ·rw [h.1] at h3;cases h3
 case body =>
  rintro l j a' W hjn ⟨x,M',σ',h1,h2,hinv,hfm,hws⟩ ⟨hj,Mn,_,hA1,hA2,hA3,hA4⟩
  obtain ⟨kx,hkx⟩:∃ kx:Fin n,kx=⟨j,hj⟩:=⟨_,rfl⟩
  rw [<- hkx] at hA3
  have hσ':=hσP h1 hXPp
  obtain ⟨MM,hM1,hM2,hCM,h1M⟩:=merge h1 h2 hA4
  obtain ⟨fl,hfl1,hfl2,hfl3,hfl4⟩:∃ fl:Loc,fl.nil=true/\fl.cap=424242/\(fl.b=(σ q).b\/(((∃ bb,get (H x) r=some bb)/\(σ' r).nil=false)/\fl.b=(σ' r).b))/\((∃ bb,get (H x) r=some bb)/\(σ' r).nil=false->fl.b=(σ' r).b):=by
   by_cases hrow:(∃ bb,get (H x) r=some bb)/\(σ' r).nil=false
   ·exact ⟨⟨(σ' r).b,424242,true⟩,rfl,rfl,.inr ⟨hrow,rfl⟩,fun _=>rfl⟩
   ·exact ⟨⟨(σ q).b,424242,true⟩,rfl,rfl,.inl rfl,fun h=>absurd h hrow⟩
  obtain ⟨XB,hXB⟩:∃ XB,XB=DR fid fl XP:=⟨_,rfl⟩
  have hXBf:∀ m z,XB m=some z->(m=fid/\z=fl)\/(m≠fid/\A2 pids m=true/\z=σ m):=fun m z hz=>by
   rw [hXB] at hz
   unfold DR at hz
   cases hb:Nat.beq m fid with
   | true=>rw [hb] at hz;injection hz with hz;exact .inl ⟨Nat.eq_of_beq_eq_true hb,hz.symm⟩
   | false =>
    rw [hb] at hz
    have hz:XP m=some z:=hz
    rw [hXPd] at hz
    obtain ⟨h3,h4⟩:=hXPm m z hz
    exact .inr ⟨(hpne m h3).1,h3,h4⟩
  have hXBp:∀ m,A2 pids m=true->XB m=some (σ m):=fun m h=>by
   rw [hXB]
   unfold DR
   rw [show Nat.beq m fid=false by rw [CT];simp [(hpne m h).1]]
   exact hXPp m h
  have hXBfid:XB fid=some fl:=by rw [hXB];unfold DR;rw [Nat.beq_refl];rfl
  have hin:=QG (fid:=fid) (XB:=XB) (σ2:=upd σ' fid fl) h1M (a2:=a') hA2 hA1 (fun m z hz=>by
   rcases hXBf m z hz with ⟨rfl,rfl⟩ | ⟨h3,h4,rfl⟩
   ·exact ⟨hfN,BK _ _ _⟩
   ·exact ⟨hpN m (DF h4),(CN _ _ h3).trans (hσ' m h4)⟩) (fun m h=>CN _ _ h) (fun i v hv=>⟨DY hM2 (fun d hd=>hσ' d (hmem d (Ks (ht1p kx i v hv) hd))) (hA3 i v hv),hnof v (ht1p kx i v hv)⟩) (fun m b hb=>by
   obtain ⟨h3,h4⟩:=hh x m b hb
   rcases h3 with h3 | ⟨rfl,h3⟩
   ·exact ⟨(hpne m h3.1).1,h4,.inr ⟨m,_,hXBp m h3.1,by rw [hσ' m h3.1]⟩⟩
   ·refine ⟨hrf,h4,?_⟩
    cases hn:(σ' m).nil with
    | true=>exact .inl rfl
    | false=>exact .inr ⟨fid,fl,hXBfid,hfl4 ⟨⟨b,hb⟩,hn⟩⟩)
  refine wpIn_mono (hbody l W MM XB kx j x (fun m z hz=>F2 ((hXBf m z hz).elim (fun h=>by rw [h.1];exact List.mem_cons_self ..) fun h=>List.mem_cons_of_mem _ (DF h.2.1))) hjn hinv MM _ a' W hin) ?_
  rintro e a2 W' ⟨s',M3,σ3,⟨rfl,y,hy1,hy2,hy3⟩,hr⟩
  have hσ3:∀ m,A2 pids m=true->σ3 m=σ m:=fun m hmm=>(hr.pin m _ (hXBp m hmm)).2
  obtain ⟨k1,k2,k3,k4⟩:=step h1M hCM hr hy3 (fun b hb=>by
   obtain ⟨m,z,hz,hzb⟩:=hb
   rcases hXBf m z hz with ⟨rfl,rfl⟩ | ⟨h3,h4,rfl⟩
   ·rcases hfl3 with h5 | ⟨h5,h6⟩
    ·exact .inl ⟨q,hq,by rw [<- h5];exact hzb⟩
    ·exact .inr ⟨h5.1,h5.2,by rw [<- h6];exact hzb⟩
   ·exact .inl ⟨m,h4,hzb⟩) hσ3
  exact ⟨rfl,k1,k2,y,_,σ3,k3,k4,hy1,hy2 (by rw [hkx]) hfm,Nat.le_trans hws hr.size⟩
 case done =>
  rintro D W hD ⟨x,M',σ',h1,h2,hinv,hfm,hws⟩ hK
  refine ⟨⟨t0,H x⟩,_,σ',hdone x hinv hfm,TC h1 hK ?_ (Nat.le_trans hs.size hD) (fun d' hd' e => ?_) (fun m x hx=>by rw [hX0] at hx;cases hx) (fun b hb => ?_) (fun ⟨m,x,h3,_⟩=>by rw [hX0] at h3;cases h3)⟩
  ·cases h0D:M0 D with
   | none=>rfl
   | some o=>have:=hlt D o (hs.sub D o h0D);omega
  ·obtain ⟨D',h3,h4⟩:=Sh hs.defers.1 hd'
   rw [h3] at e
   injection e with e1 _
   injection e1 with e1
   subst e1
   have:=hlt _ _ h4
   omega
  ·obtain ⟨m,hmm,rfl⟩:=(hXPi b).1 hb
   obtain ⟨bk,hbk,_⟩:=hPb x0 m hmm
   rcases hs.loc m bk hbk with h | ⟨_,h⟩
   ·rw [(hPn hs m hmm).1] at h;cases h
   ·exact h
end
end
section
open Go.RowKit
section
variable {P:Program} {N:Nat} {W0:World} {X:Nat→Option Loc} {M0:Nat→Option Obj}
theorem K8 {ι:Type} {Q:Exit->AS->Prop} {g:Operand} {ps:Array Tmp} {assign body:Code} {t0:List (Nat×Tv)} (pids:List Nat) (fid q off r:Nat) {gf:FuncId} {k:Nat} {caps:Nat->Cl} {n:Nat} {E:Fin n->List Av} (H:ι->List (Nat×Blk)) (t1:Fin n->List (Nat×Tv)) (Inv Fm:Nat->ι->Prop) (x0:ι)
  (hX0:∀ m,X m=none) (hg:evT (get t0) g=some (.av (.one (.clo gf k caps)))) (hcd:(Cl.clo gf k caps).dv=true) (eg:∀ args w,(callFunc gf args).run P w=.ok (.enter gf args) w)
  (It:I9 P gf k caps n E) (hck:Wi N pids fid q r t0 ps=true) (hfam:∀ x,famB pids fid q off r (H x)=true) (hE:∀ x,(E x).length=ps.size) (hEd:∀ x,(E x).all Av.dv=true) (hm:∀ x,HsN (H x))
  (ht1:∀ x,TsM (t1 x)) (ht1p:∀ x,(t1 x).all (fun p=>pvT pids p.2)=true) (hI0:Inv 0 x0) (hF0:Fm 0 x0)
  (hassign:∀ l W1 M1 X1 k j x,Inv j x->PXr pids r (∃ bb,get (H x) r=some bb) X1->AWp P (some l) N W1 X1 M1 assign (fun e s'=>e=.normal/\s'=⟨t1 k,H x⟩) ⟨KL t0 ps.toList (E k),H x⟩)
  (hbody:∀ l W1 M1 X1 (k:Fin n) j x,(∀ m z,X1 m=some z->A2 (fid::pids) m=true)->j<n->Inv j x->AWp P (some l) N W1 X1 M1 body (fun e s'=>e=.normal/\∃ y,Inv (j+1) y/\(k.val=j->Fm j x->Fm (j+1) y)/\∀ m b,get (H y) m=some b->get s'.h m=some b) ⟨t1 k,H x⟩)
  (hdone:∀ x,Inv n x->Fm n x->Q .normal ⟨t0,H x⟩):AWp P none N W0 X M0 (.rangeFunc g ps assign body) Q ⟨t0,H x0⟩:=by
 unfold Wi at hck
 simp only [Bool.and_eq_true,Bool.not_eq_true'] at hck
 obtain ⟨c1,c2,c3,c4,c5,c6,c7,c8,c9⟩:=hck
 have hpv:∀ i v,get t0 i=some v->pvT pids v=true:=fun i v hv=>List.all_eq_true.1 c1 (i,v) (C8 hv)
 have hno:∀ v:Tv,pvT pids v=true->v.no fid=true:=fun v h=>by
  cases hn:v.no fid with
  | true=>rfl
  | false=>have:=F2 (Ks h hn);rw [c3] at this;cases this
 have hf:∀ x,(∀ m b,get (H x) m=some b->((A2 pids m=true/\b.isP=true)\/(m=r/\b.isR=true))/\b.no fid=true)/\(∀ m,A2 pids m=true->∃ b,get (H x) m=some b)/\PI q off r (H x)=true:=fun x=>by
  have h:=hfam x
  unfold famB at h
  simp only [Bool.and_eq_true] at h
  obtain ⟨h1,h2,h3⟩:=h
  refine ⟨fun m b hb => ?_,fun m hmm=>Option.isSome_iff_exists.1 (List.all_eq_true.1 h2 m (DF hmm)),h3⟩
  have:=List.all_eq_true.1 h1 (m,b) (C8 hb)
  simp only [Bool.and_eq_true,Bool.or_eq_true] at this
  exact ⟨this.1.imp id fun h=>⟨Nat.eq_of_beq_eq_true h.1,h.2⟩,this.2⟩
 exact Ym pids fid q off r H t1 Inv Fm x0 hX0 hg hcd eg It hE (fun p hp=>Nat.le_of_ble_eq_true (List.all_eq_true.1 c9 p hp)) hpv (fun x=>(hf x).1) (fun x=>(hf x).2.1) c3 c4 (fun e=>by rw [e,Nat.beq_refl] at c5;cases c5) (Nat.le_of_ble_eq_true c6) (Nat.le_of_ble_eq_true c7) (fun m hmm=>Nat.le_of_ble_eq_true (List.all_eq_true.1 c2 m hmm)) (fun m hmm=>F2 hmm) c8 (fun x i v hv=>Ok _ _ _ (fun j u hu=>hno u (hpv j u hu)) (hEd x) i v hv) (fun x=>(hf x).2.2) hm ht1 (fun x i v hv=>List.all_eq_true.1 (ht1p x) (i,v) (C8 hv)) hI0 hF0 hassign hbody hdone
end
section
variable {P:Program} {N:Nat} {Ow:World→Nat→Prop} {n0:Nat} {Q:IQ} {s:AS} {J:World→Prop} {al:Bool} {ops:Array Oper} {l:List Oper} {o:Oper}
theorem Xk {M:Nat->Option Obj} {σ:Nat->Loc} {w:World} {a:Act} {o:Oper} {c:Call} {f:Operand} {ly:Nat} {xs:List Av} {T:Nat->Option Tv} (hT:∀ i v,T i=some v->RT M σ v (a.tmps.getD i undef)) (ho:o.op=.call c) (hcf:c.callee=.value f) (hf:evT T f=some (.av (.one (.val (.func (.yield ly) #[] #[]))))) (hxs:EA (evT T) c.args.toList=some xs)
  {R:Ending->World->Prop} (hY:∀ v:Array Value,L2 (RA M σ) xs v.toList->YieldAt (FW none) 0 P ly v w R) {K:Act->World->Prop} {Q:Exit->Act->World->Prop} (hK:∀ e w',R e w'->∃ V,e=.returned V/\K (a.put o.dst V) w'):o.wpIn (FW none) 0 P a w K Q:=by
 have hargs:=Iy (fun x v=>Fa hT) _ _ hxs
 obtain ⟨fn,tmps,assign,body,hy,hR⟩:=hY (c.args.map a.eval) (by simpa using hargs)
 refine ⟨fun _ _=>trivial,?_⟩
 rw [Oper.semAt_eq _ _ _ (fun d h=>by rw [ho] at h;cases h)]
 have hfv:=(Fa hT hf).1
 have hres:(execOp a.eval o).run P w=.ok (.round ly fn tmps assign body) w:=by
  simp only [execOp,ho,Sem.run_bind,resolve,hcf,hfv,Deferred.ofValue]
  simpa [invoke] using hy
 rw [hres,Oper.uponIn_round]
 refine ⟨fun h=>(by cases h),?_⟩
 have h1:RoundIn (FW none) (0-1) P ly fn tmps assign body w R:=hR
 refine h1.mono ?_
 rintro e w' he
 obtain ⟨V,rfl,hk⟩:=hK e w' he
 exact hk
theorem Vw (hO:OwS Ow n0) (hgn:o.guard=none) {c:Call} {f:Operand} {ly d:Nat} (xs:List Av) (ho:o.op=.call c) (hcf:c.callee=.value f)
  (hf:evT (get s.t) f=some (.av (.one (.val (.func (.yield ly) #[] #[]))))) (hxs:EA (evT (get s.t)) c.args.toList=some xs) (hv:xs.all Av.dv=true) (hvm:∀ x∈xs,AvM x) (hod:o.dst=some d) (hdN:Nat.blt d N=true) (hT1:∀ i v,get s.t i=some v->v.dv=true/\TvM v)
  (hJg:∀ A B,J A->A.grownBy B none->J B) (Jt:World->Prop)
  (hY:∀ W v,J W->jU (fun _=>none) Ow xs v W->YieldAt (FW none) 0 P ly v W (fun e W'=>e=.returned (.bool true)/\Jt W'/\KpS Ow W W')) (hh:s.h=[])
  (ht:IWL P N Ow n0 ops l Q ⟨(d,tB true)::s.t,[]⟩ Jt true):IWL P N Ow n0 ops (o::l) Q s J true:=by
 intro W0 M σ a w hJ hs
 refine wpListIn_step fun K0 hK' => ?_
 rw [if_pos (by simp [Region.wanted,hgn])]
 have hgrow:W0.grownBy w none:={ os:=hs.os,tape:=hs.tape,output:=hs.output,size:=hs.size,block:=fun b hb _=>hs.old b hb (EY b) }
 have hiok:=hJ.2.2
 have hdN':d<N:=by have:=Nat.le_of_ble_eq_true hdN;omega
 have hst:∀ b,Ow w b->Ow W0 b:=hO.st W0 w (hiok rfl).1 fun b hb=>hs.old b hb (EY b)
 have hput:∀ (b:Bool) (T:List (Nat×Tv)) (M':Nat->Option Obj) (σ':Nat->Loc),(∀ i v,get T i=some v->RT M' σ' v (a.tmps.getD i undef))->∀ i v,get ((d,tB b)::T) i=some v->RT M' σ' v ((a.put o.dst (.bool b)).tmps.getD i undef):=fun b T M' σ' hT i v hv=>by
  have hds:d<a.tmps.size:=by rw [hs.room];exact hdN'
  simp only [get,CT] at hv
  rw [hod]
  by_cases hi:d=i
  ·subst hi
   simp at hv;subst hv
   have:(a.put (some d) (.bool b)).tmps.getD d undef=.bool b:=by simp [Act.put,Array.getD_eq_getD_getElem?,hds]
   rw [this]
   exact ⟨rfl,rfl⟩
  ·simp [hi] at hv
   have:(a.put (some d) (.bool b)).tmps.getD i undef=a.tmps.getD i undef:=by simp [Act.put,Array.getD_eq_getD_getElem?,Array.getElem?_setIfInBounds,hi]
   rw [this];exact hT i v hv
 have hsize:∀ b:Bool,(a.put o.dst (.bool b)).tmps.size=N:=fun b=>by rw [hod];simpa [Act.put] using hs.room
 have hdef:∀ b:Bool,(a.put o.dst (.bool b)).defers=[]:=fun b=>by rw [hod];simpa [Act.put] using hJ.2.1
 refine Xk hs.tmps ho hcf hf hxs (fun v hL=>hY w v (hJg W0 w hJ.1 hgrow) ⟨P4 M,by have:=hL.length;simpa using this,fun b o' hb=>⟨hs.imm b o' (DO hb).1,(DO hb).2,fun h=>(hiok rfl).2.2 b o' (DO hb).1 (hst b h)⟩,fun MM _ hMM => ?_⟩) fun e w2 he => ?_
 ·refine hL.mono fun x hx u hu σ' => ?_
  have h1:RA M σ' x u:=G4 (r:=.av x) (List.all_eq_true.1 hv x hx) hu
  exact Ls hMM (fun _ _=>rfl) (Sq Iu h1 (hvm x hx))
 ·obtain ⟨rfl,h5,h6⟩:=he
  refine ⟨_,rfl,hK' _ _ (ht w2 (P4 M) σ _ w2 ⟨h5,hdef true,fun _=>⟨Nat.le_trans (hiok rfl).1 (Nat.le_trans hs.size h6.1),fun b h=>(h6.2.2 b h).elim (fun h7=>Nat.lt_of_lt_of_le ((hiok rfl).2.1 b (hst b h7)) (Nat.le_trans hs.size h6.1)) And.right,fun b o' h hw2 => ?_⟩⟩ ?_)⟩
  ·rcases h6.2.2 b hw2 with h7 | h7
   ·exact (hiok rfl).2.2 b o' (DO h).1 (hst b h7)
   ·have:=(Array.getElem?_eq_some_iff.1 (hs.imm b o' (DO h).1)).1;omega
  ·exact ⟨rfl,rfl,rfl,Nat.le_refl _,fun _ _ _=>rfl,fun _ _ h=>h,fun b o h h'=>(by rw [h] at h';cases h'),fun m x hx=>(by cases hx),⟨by rw [hdef true];trivial,fun _=>hdef true⟩,hsize true,hput true s.t (P4 M) σ (fun i v hv=>Ph Iu (hs.tmps i v hv) (hT1 i v hv).2),fun b o' h=>h6.2.1 b o' (hs.imm b o' (DO h).1) (DO h).2 fun h7=>(hiok rfl).2.2 b o' (DO h).1 (hst b h7),fun n b hb=>(by cases hb),fun n b hb=>(by cases hb),fun n m b c hb=>(by cases hb)⟩
end
def IEndV (n:Nat) (JJ:Nat->World->Prop):IQ:=fun e s' J' al'=>(e=.ret\/e=.normal)/\J'=JJ n
theorem T4 {P:Program} {gf:FuncId} {fn:Func} {c:Code} (hf:P.funcs[gf]? = some fn) (hb:fn.body=some c) (hnr:fn.results.toList=[]) {k:Nat} {caps:Nat->Cl} {n:Nat} {E:Fin n->List Av} (hN:Nat.ble (k+1) fn.ntmps=true) (hcd:∀ i,i<k->(caps i).dv=true)
  (h:∀ (Ow:World->Nat->Prop) (n0 ly:Nat) (JJ:Nat->World->Prop),OwS Ow n0->(∀ j A B,JJ j A->A.grownBy B none->JJ j B) ->
   (∀ j (hj:j<n) W v,JJ j W->jU (fun _=>none) Ow (E ⟨j,hj⟩) v W->YieldAt (FW none) 0 P ly v W (fun e W'=>e=.returned (.bool true)/\JJ (j+1) W'/\KpS Ow W W')) ->
   IWp P fn.ntmps Ow n0 c (IEndV n JJ) ⟨D5 0 (.one (.val (.func (.yield ly) #[] #[]))::CD k caps),[]⟩ (JJ 0) true):I9 P gf k caps n E:=by
 intro M w cs Ow himm hOs hOw hcs hcaps l J W hB hJ hY h0
 have hlt:∀ b o,M b=some o->b<w.heap.size:=fun b o hb=>(Array.getElem?_eq_some_iff.1 (himm b o hb)).1
 have himmW:∀ b o,M b=some o->W.heap[b]? = some o:=fun b o hb=>(hB.block b (hlt b o hb)).trans (himm b o hb)
 have hst:∀ b,Ow W b->Ow w b:=hOs.st w W (Nat.le_refl _) fun b hb=>hB.block b hb
 have hbody:=h Ow w.heap.size l J hOs hJ (fun j hj W1 v h1 ⟨Mj,e1,e2,e3⟩=>hY j v W1 hj h1 ⟨hj,Mj,e1,e2,fun MM _ h3=>e3 MM (fun _ _ h=>by cases h) h3⟩)
 obtain ⟨a0,ha0⟩:∃ a0:Act,a0={ tmps:=(#[Value.func (.yield l) #[] #[]]++cs)++Array.replicate (fn.ntmps-(#[Value.func (.yield l) #[] #[]]++cs).size) undef,defers:=[] }:=⟨_,rfl⟩
 have hs0:Sim fn.ntmps W noX M M (fun _=>⟨0,0,false⟩) (get (D5 0 (.one (.val (.func (.yield l) #[] #[]))::CD k caps))) (get []) a0 W := ?hs0
 ·have hbod:=hbody W M (fun _=>⟨0,0,false⟩) a0 W ⟨h0,by rw [ha0],fun _=>⟨hB.size,fun b hb=>Nat.lt_of_lt_of_le (hOw b (hst b hb)).1 hB.size,fun b o hb ho=>by rw [(hOw b (hst b ho)).2] at hb;cases hb⟩⟩ hs0
  rw [ha0] at hbod
  refine callsIn_wide.2 (callsIn_wide.1 (callsIn_of_wp_marks (F:=FW none) (n:=0) hf hb trivial (wpIn_mono hbod ?_)))
  clear hbod hs0
  rintro e a' w' ⟨s',J',al',W0',M',σ',⟨he,rfl⟩,⟨hJ',hd,_⟩,hs'⟩
  have hgrow:W0'.grownBy w' none:={ os:=hs'.os,tape:=hs'.tape,output:=hs'.output,size:=hs'.size,block:=fun b hb _=>hs'.old b hb (EY b) }
  obtain ⟨U,hU,_⟩:=Rz (P:=P) (fn:=fn) (r:=.tup []) hs' (by rw [hnr];rfl)
  have key:LeavesInM (FW none) 0 P fn a'.tmps (fun e W'=>(∃ v,e=.returned v)/\J n W') a'.defers .returning w':=by
   rw [hd]
   exact ⟨U,hU,⟨U,rfl⟩,hJ n W0' w' hJ' hgrow⟩
  rcases he with rfl | rfl
  ·exact key
  ·exact key
 case hs0 =>
  subst ha0
  have hsz:(#[Value.func (.yield l) #[] #[]]++cs).size=k+1:=by simp [hcs];omega
  have hNk:=Nat.le_of_ble_eq_true hN
  refine ⟨rfl,rfl,rfl,Nat.le_refl _,fun _ _ _=>rfl,fun _ _ h=>h,fun b o h h'=>(by rw [h] at h';cases h'),fun m x hx=>(by cases hx),HR.nil,?_,fun i v hv => ?_,himmW,fun m b hb=>(by cases hb),fun m b hb=>(by cases hb),fun m m' b c hb=>(by cases hb)⟩
  ·simp only [Array.size_append,Array.size_replicate] at hsz ⊢
   omega
  ·obtain ⟨_,x,hx,rfl⟩:=Ii _ _ _ _ hv
   rw [Nat.sub_zero] at hx
   have hargs:L2 (RA M fun _=>⟨0,0,false⟩) (.one (.val (.func (.yield l) #[] #[]))::CD k caps) (.func (.yield l) #[] #[]::cs.toList):=by
    refine .cons ⟨rfl,rfl⟩ (L2.of (by simp [CD,hcs]) fun i x y hx hy => ?_)
    have hi:i<k:=by have:=(List.getElem?_eq_some_iff.1 hx).1;simpa [CD] using this
    have:=(JC (σ:=fun _=>⟨0,0,false⟩) (hcd i hi)).2 (hcaps i hi)
    simp only [CD,List.getElem?_map,List.getElem?_range hi,Option.map_some,Option.some.injEq] at hx
    subst hx
    have hy':cs.getD i undef=y:=by
     simp only [Array.getD_eq_getD_getElem?]
     rw [<- Array.getElem?_toList,hy];rfl
    rw [hy'] at this
    exact this
   obtain ⟨u,hu,hRu⟩:=hargs.get i x hx
   have:((#[Value.func (.yield l) #[] #[]]++cs)++Array.replicate (fn.ntmps-(#[Value.func (.yield l) #[] #[]]++cs).size) undef).getD i undef=u:=by
    have hu2:(#[Value.func (.yield l) #[] #[]]++cs)[i]? = some u:=by
     rw [<- Array.getElem?_toList]
     simpa using hu
    have hi:i<(#[Value.func (.yield l) #[] #[]]++cs).size:=(Array.getElem?_eq_some_iff.1 hu2).1
    rw [Array.getD_eq_getD_getElem?,Array.getElem?_append_left hi,hu2];rfl
   show RA M _ x _
   rw [this]
   exact hRu
theorem PF {P:Program} {N:Nat} {Ow:World->Nat->Prop} {n0:Nat} {Q:IQ} {s:AS} {J:World->Prop} {al:Bool} {c:Code} (ts:List Nat) (S:AS) (hS:NY ts [] s=S) (h:IWp P N Ow n0 c Q S J al):IWp P N Ow n0 c Q s J al:=by
 subst hS
 exact fun W0 M σ a w hJ hs=>h W0 M σ a w hJ (D8 hs ts [])
theorem Kt {P:Program} {f:FuncId} {xs:List Av} {sz len:Nat} {F:Nat->Nat->Cl} {ty:TypeId} (h:Fr P f xs (.row sz len F ty) (fun d=>.av (.one (.own d sz len)))):Bk P f xs (.av (.one (.list false sz len F))):=by
 intro M σ w args himm hargs
 refine (h M σ w args himm hargs).mono ?_
 rintro en w' ⟨U,hU,M',x,hk,hx,hb,hR⟩
 refine ⟨U,hU,?_⟩
 have hV:R M' (fun _=>x) (.own 0 sz len) U:=hR (fun _=>x) 0 rfl
 unfold R at hV
 cases hn:x.nil with
 | true =>
  rw [hn] at hV
  obtain ⟨rfl,rfl⟩:len=0/\U=.slice none 0 0:=hV
  exact ⟨M',hk,fun σ'=>RC.nil _ _ _ rfl⟩
 | false =>
  rw [hn] at hV
  have hV:U=.slice (some ⟨x.b,0,none⟩) len x.cap:=hV
  subst hV
  obtain ⟨hx1,hx2⟩:w.heap.size<=x.b/\M' x.b=none:=by
   rcases hx with h0 | h0
   ·rw [hn] at h0;cases h0
   ·exact h0
  rcases hb (fun _=>x) with ⟨h0,_⟩ | ⟨_,c,hc,h1,h2,h3,g,hg⟩
  ·rw [hn] at h0;cases h0
  ·have key:∀ b o,M' b=some o->b≠x.b:=fun b o ho e=>by rw [e,hx2] at ho;cases ho
   refine ⟨fun b=>if b=x.b then some (.cells c ty) else M' b,⟨hk.os,hk.tape,hk.output,hk.size,hk.old,fun b o ho => ?_,fun b o ho h0 => ?_,fun b o ho => ?_⟩,fun σ' => ?_⟩
   ·have:=hk.sub b o ho
    simp only [if_neg (key b o this)];exact this
   ·by_cases e:b=x.b
    ·rw [e];exact hx1
    ·simp only [if_neg e] at ho;exact hk.new b o ho h0
   ·by_cases e:b=x.b
    ·simp only [if_pos e,Option.some.injEq] at ho;rw [e,<- ho];exact hc
    ·simp only [if_neg e] at ho;exact hk.imm b o ho
   ·show RC _ (.list false sz len F) _
    refine .list false sz len F x.b 0 x.cap g (fun i j hi hj => ?_) (fun i j hi hj=>EJ (fun b o ho => ?_) (hg i j hi hj).2) h2 (fun h=>by cases h)
    ·simp only [Eb,if_pos]
     rw [Nat.zero_add]
     exact (hg i j hi hj).1
    ·simp only [if_neg (key b o ho)];exact ho
theorem QZ {P:Program} {gf:FuncId} {fn:Func} {c:Code} (hf:P.funcs[gf]? = some fn) (hb:fn.body=some c) (hnr:fn.results.toList=[]) {k:Nat} {caps:Nat->Cl} {n:Nat} {E:Fin n->List Av} (hE:∀ x,(E x).all Av.isV=true) (hE1:∀ x,∀ e∈E x,∀ c∈e.cells,c.toV.oneCell'=true) (hN:Nat.ble (k+1) fn.ntmps=true) (hcd:∀ i,i<k->(caps i).dv=true)
  (h:∀ (Ow:World->Nat->Prop) (n0 ly:Nat) (JJ Jx:Nat->World->Prop),OwS Ow n0->(∀ j A B,JJ j A->A.grownBy B none->JJ j B) ->
   (∀ j (hj:j<n) W,JJ j W->YieldAt (FW none) 0 P ly ((E ⟨j,hj⟩).map Av.toV).toArray W (fun e W'=>(e=.returned (.bool true)/\JJ (j+1) W'/\KpS Ow W W')\/(e=.returned (.bool false)/\Jx (j+1) W'))) ->
   IWp P fn.ntmps Ow n0 c (IEnd n JJ Jx) ⟨D5 0 (.one (.val (.func (.yield ly) #[] #[]))::CD k caps),[]⟩ (JJ 0) true):I9 P gf k caps n E :=
 T4 hf hb hnr hN hcd fun Ow n0 ly JJ hO hJ hY=>by
  have h1:=h Ow n0 ly JJ (fun _ _=>False) hO hJ (fun j hj W hW=>by
   obtain ⟨fn',tm,as',bd,hy,hR⟩:=hY j hj W ((E ⟨j,hj⟩).map Av.toV).toArray hW ⟨fun _=>none,by simp,(fun b o hb=>by cases hb),fun MM _ _=>by
    have e1:=hE ⟨j,hj⟩
    have e2:=hE1 ⟨j,hj⟩
    show L2 _ (E ⟨j,hj⟩) ((E ⟨j,hj⟩).map Av.toV)
    generalize E ⟨j,hj⟩=l at e1 e2 ⊢
    induction l with
    | nil=>exact .nil
    | cons e l ih =>
     simp only [List.all_cons,Bool.and_eq_true] at e1
     exact .cons (fun σ=>Zf e1.1 (e2 e (List.mem_cons_self ..))) (ih e1.2 fun e he=>e2 e (List.mem_cons_of_mem _ he))⟩
   exact ⟨fn',tm,as',bd,hy,hR.mono fun e W' he=>.inl he⟩)
  intro W0 M σ a w hJ0 hs
  refine wpIn_mono (h1 W0 M σ a w hJ0 hs) ?_
  rintro e a' w' ⟨s',J',al',W0',M',σ',⟨he,hend⟩,hJ',hs'⟩
  rcases hend with rfl | ⟨j,hj,rfl⟩
  ·exact ⟨s',_,al',W0',M',σ',⟨he,rfl⟩,hJ',hs'⟩
  ·exact hJ'.1.elim
theorem Vz {P:Program} {gf:FuncId} {t:Bool} {sz len:Nat} {f:Nat->Nat->Cl} {k:Nat} {caps:Nat->Cl} {n:Nat} {E:Fin n->List Av} (E':(Nat->Nat->Value)->Fin n->List Av) (h0:caps 0=dD t sz len f) (hk:0<k)
  (hI:∀ g:Nat->Nat->Value,(∀ i j,i<len->j<sz->(g i j).oneCell'=true)->I9 P gf k (fun i=>match i with | 0=>dD t sz len (fun i j=>.val (g i j)) | i+1=>caps (i+1)) n (E' g)) (hlen:∀ g x,(E' g x).length=(E x).length)
  (hE:∀ M g x (vs:List Value),(∀ i j,i<len->j<sz->RC M (f i j) (g i j))->L2 (fun e v=>∀ σ,RA M σ e v) (E' g x) vs->L2 (fun e v=>∀ σ,RA M σ e v) (E x) vs):I9 P gf k caps n E:=by
 intro M w cs Ow himm hOs hOw hcs hcaps
 have h:=hcaps 0 hk
 rw [h0] at h
 obtain ⟨g,h1,h2⟩:=VU h
 have h3:=hI g (fun i j hi hj=>dU (h2 i j hi hj)) M w cs Ow himm hOs hOw hcs (fun i hi=>by
  cases i with
  | zero=>exact h1
  | succ i=>exact hcaps _ hi)
 intro l J W hB hJ hY hJ0
 exact h3 l J W hB hJ (fun j v A hj hJA ⟨hj',Mj,e1,e2,e3⟩=>hY j v A hj hJA ⟨hj',Mj,(hlen g _).symm.trans e1,e2,fun MM m1 m2=>hE MM g _ _ (fun i j hi hj=>EJ m1 (h2 i j hi hj)) (e3 MM m1 m2)⟩) hJ0
theorem V1 {P:Program} {gf:FuncId} {k:Nat} {caps caps':Nat->Cl} {n:Nat} {E:Fin n->List Av} (h:∀ i,i<k->caps' i=caps i) (H:I9 P gf k caps n E):I9 P gf k caps' n E :=
 fun M w cs Ow a b c d e=>H M w cs Ow a b c d fun i hi=>by rw [<- h i hi];exact e i hi
theorem bL {P:Program} {N:Nat} {Ow:World->Nat->Prop} {n0:Nat} {Q:IQ} {s:AS} {J:World->Prop} {al:Bool} (hO:OwS Ow n0) {x y z:Code} (hdv:∀ i v,get s.t i=some v->v.dv=true) (hh:s.h=[])
  (h:∀ W0 X1 M1,(∀ k u,X1 k=some u->A2 [N] k=true)->AWp P none N W0 X1 M1 x (ATh (AWp P none N W0 X1 M1 y (fun e s'=>e=.normal/\∃ S,(∀ W2 M2,Cv N W2 noX M2 s' S)/\IWp P N Ow n0 z Q S J al)) (fun _ _=>False)) s):IWp P N Ow n0 (.seq x (.seq y z)) Q s J al:=by
 intro W0 M σ a w hJ hs
 have hX:∀ k u,KS N W0.heap.size k=some u->A2 [N] k=true:=fun k u hk=>by rw [(PM hk).1];exact LW _
 refine wpIn_seq (wpIn_mono (h W0 _ M hX M _ a w (Hq hdv hh hJ.2.1 hs)) ?_)
 rintro e a' w' ⟨s',M',σ',h1,h2⟩
 cases e with
 | normal =>
  refine wpIn_seq (wpIn_mono (h1 M' σ' a' w' h2) ?_)
  rintro e a2 w2 ⟨s2,M2,σ2,⟨rfl,S,h3,h4⟩,h5⟩
  have h6:=HD hJ.2.2 hO h5
  obtain ⟨hd,h7⟩:=FV h5
  obtain ⟨M3,σ3,h8⟩:=h3 W0 M2 M2 σ2 a2 w2 h7
  exact h4 W0 M3 σ3 a2 w2 ⟨hJ.1,hd,HD h6 hO h8⟩ (TB h8 hd)
 | _=>exact h1.elim
end
section
open Go.RowKit
def Fh (x:Int):Bool := !decide ((x:Int)=x)
def Jn (x:Int):FuncId×List Av×Ef:=(167,[.one (.i x)],.val [] (.av (.one (.b (Fh x)))))
theorem qS (x:Int):Bk Tryz.prog 167 (Jn x).2.1 (tO (.b (Fh x))):=by
 refine AV Tryz.func167 rfl kr kr fun W0 M0 => ?_
 refine AC<|rn ⟨[(0,tI x)],[]⟩<|AC ?_
 refine rn ⟨[(2,tB (!decide ((x:Int)=x)))],[]⟩<|Ag ?_
 exact ⟨_,Cv.refl _,.inl rfl,tO (.b (!decide ((x:Int)=x))),by kernel_rfl,Al (by rfl)⟩
theorem Wp (x:Int):Az Tryz.prog (Jn x).1 (Jn x).2.1 (Jn x).2.2:=AW (fun _ _=>kr) fun _=>qS x
def CS (x:Int) (y:Int):Int:=bif Fh x then (bif Fh y then 0 else (-1)) else (bif Fh y then 1 else (bif decide ((x:Int)<y) then (-1) else (bif decide ((y:Int)<x) then 1 else 0)))
def F5 (x:Int) (y:Int):FuncId×List Av×Ef:=(151,[.one (.i x),.one (.i y)],.val [] (.av (.one (.i (CS x y)))))
theorem aA (x:Int) (y:Int):Bk Tryz.prog 151 (F5 x y).2.1 (tO (.i (CS x y))):=by
 refine AV Tryz.func151 rfl kr kr fun W0 M0 => ?_
 refine AC<|rn ⟨[(0,tI x),(1,tI y)],[]⟩<|AC ?_
 refine rc [(8,Jn x)] [Ak (Jn x).2.1] ⟨[(0,tI x),(1,tI y),(5,tB (Fh x))],[]⟩ (.cons (Wp x) .nil) (.cons rfl .nil)<|AJ<|AC ?_
 refine rc [(10,Jn y)] [Ak (Jn y).2.1] ⟨[(0,tI x),(1,tI y),(5,tB (Fh x)),(6,tB (Fh y))],[]⟩ (.cons (Wp y) .nil) (.cons rfl .nil)<|AJ ?_
 refine AC<|AC ?_
 refine rn ⟨[(0,tI x),(1,tI y),(6,tB (Fh y)),(11,tB (Fh x))],[]⟩ ?_
 refine Ab _ rfl (fun h1 => ?_) (fun h1 => ?_)
 ·refine AC<|AC ?_
  refine rn ⟨[(12,tB (Fh y))],[]⟩ ?_
  refine Ab _ rfl (fun h2 => ?_) (fun h2 => ?_)
  ·refine AC<|rn ⟨[(4,tI 0)],[]⟩ ?_
   refine Ag<|Bd<|Bd ?_
   exact ⟨_,Cv.refl _,.inl rfl,tO (.i 0),by kernel_rfl,Al (by first | (simp only [CS,h1,h2,cond_true,cond_false] <;> rfl))⟩
  ·refine Af<|AJ<|AC ?_
   refine rn ⟨[(4,tI (-1))],[]⟩ ?_
   refine Ag<|Bd ?_
   exact ⟨_,Cv.refl _,.inl rfl,tO (.i (-1)),by kernel_rfl,Al (by first | (simp only [CS,h1,h2,cond_true,cond_false] <;> rfl))⟩
 ·refine Af<|AJ ?_
  refine AC<|AC ?_
  refine rn ⟨[(0,tI x),(1,tI y),(13,tB (Fh y))],[]⟩ ?_
  refine Ab _ rfl (fun h2 => ?_) (fun h2 => ?_)
  ·refine AC<|rn ⟨[(4,tI 1)],[]⟩ ?_
   refine Ag<|Bd ?_
   exact ⟨_,Cv.refl _,.inl rfl,tO (.i 1),by kernel_rfl,Al (by first | (simp only [CS,h1,h2,cond_true,cond_false] <;> rfl))⟩
  ·refine Af<|AJ ?_
   refine AC<|AC ?_
   refine rn ⟨[(0,tI x),(1,tI y),(16,tB (decide ((x:Int)<y)))],[]⟩ ?_
   refine Ab _ rfl (fun h3 => ?_) (fun h3 => ?_)
   ·have g3:=oT h3
    refine AC<|rn ⟨[(4,tI (-1))],[]⟩ ?_
    refine Ag<|Bd ?_
    exact ⟨_,Cv.refl _,.inl rfl,tO (.i (-1)),by kernel_rfl,Al (by first | (simp only [CS,h1,h2,h3,cond_true,cond_false] <;> rfl))⟩
   ·have g3:=oF h3
    refine Af<|AJ ?_
    refine AC<|AC ?_
    refine rn ⟨[(19,tB (decide ((y:Int)<x)))],[]⟩ ?_
    refine Ab _ rfl (fun h4 => ?_) (fun h4 => ?_)
    ·have g4:=oT h4
     refine AC<|rn ⟨[(4,tI 1)],[]⟩ ?_
     refine Ag<|Bd ?_
     exact ⟨_,Cv.refl _,.inl rfl,tO (.i 1),by kernel_rfl,Al (by first | (simp only [CS,h1,h2,h3,h4,cond_true,cond_false] <;> rfl))⟩
    ·have g4:=oF h4
     refine Af<|AJ<|AC ?_
     refine rn ⟨[(4,tI 0)],[]⟩<|Ag ?_
     exact ⟨_,Cv.refl _,.inl rfl,tO (.i 0),by kernel_rfl,Al (by first | (simp only [CS,h1,h2,h3,h4,cond_true,cond_false] <;> rfl))⟩
theorem QN (x:Int) (y:Int):Az Tryz.prog (F5 x y).1 (F5 x y).2.1 (F5 x y).2.2:=AW (fun _ _=>kr) fun _=>aA x y
def Pp (x:AE) (y:AE):Int:=CS x.Id y.Id
def Qw (x:AE) (y:AE):FuncId×List Av×Ef:=(150,[.agg (AE.c x),.agg (AE.c y)],.val [] (.av (.one (.i (Pp x y)))))
theorem pcmpP (x:AE) (y:AE):Bk Tryz.prog 150 (Qw x y).2.1 (tO (.i (Pp x y))):=by
 refine AV Tryz.func150 rfl kr kr fun W0 M0 => ?_
 refine AC<|rn ⟨IF,[(2,.cells (AE.c x) 78),(3,.cells (AE.c y) 78)]⟩<|AC ?_
 refine rc [(9,F5 x.Id y.Id)] [Ak (F5 x.Id y.Id).2.1] ⟨[(4,tI (CS x.Id y.Id))],[]⟩ (.cons (QN x.Id y.Id) .nil) (.cons rfl .nil)<|AJ<|Ag ?_
 exact ⟨_,Cv.refl _,.inl rfl,tO (.i (CS x.Id y.Id)),by kernel_rfl,Al (by rfl)⟩
theorem rQ (x:AE) (y:AE):Az Tryz.prog (Qw x y).1 (Qw x y).2.1 (Qw x y).2.2:=AW (fun _ _=>kr) fun _=>pcmpP x y
def H8 (l:(List AE)) (n:Int) (data:List AE) (i:Int) (K0:List AE->Int->(List AE)):Nat->List AE->Int->(List AE)
 | 0,_,_=>default
 | n1+1,data',j=>bif bif decide ((0:Int)<j) then decide (((Pp (data'.getD j.toNat default) (data'.getD (j-1).toNat default)):Int)<0) else false then ((H8 l n data i K0 n1) ((data'.set j.toNat (data'.getD (j-1).toNat default)).set (j-1).toNat (data'.getD j.toNat default)) (j-1)) else (K0 data' (i+1))
def G8 (l:(List AE)) (n:Int):Nat->List AE->Int->(List AE)
 | 0,_,_=>default
 | n0+1,data,i=>bif decide ((i:Int)<n) then (H8 l n data i (G8 l n n0) (i.toNat+1) data i) else data
def FF (l:(List AE)) (n:Int):(List AE):=G8 l n ((n-1).toNat+1) l 1
theorem au2 {p:Prop} (h:p:=by first | (simp;done) | (simp;omega)):p:=h
theorem lr {p:Prop} (h:p:=by repeat (first | exact .nil | refine .cons ⟨rfl,.refl _⟩ ?_)):p:=h
theorem au18 {p:Prop} (h:p:=by first | omega | (simp only [List.length_set];omega) | simp):p:=h
theorem pInsP (l:(List AE)) (n:Int) (hn:n=(l.length:Int)) (hl:l.length<20):WrR Tryz.prog 179 1000 [.one (.own 1000 7 l.length),.one (.i 0),.one (.i n),.one (.clo 150 0 (fun _=>default))] 7 l.length (AP AE.c l) 78 (.tup []) (AP AE.c (FF l n)):=by
 refine FT Tryz.func179 rfl kr kr kr fun W0 M0 X hX => ?_
 refine AC<|rn ⟨[(0,tO (.own 1000 7 l.length)),(1,tI 0),(2,tI n),(3,.av (.one (.clo 150 0 (fun _=>default)))),(8,tI 1)],[(1000,.row 7 l.length (AP AE.c l) 78)]⟩<|AY ?_
 refine BS (ι:=Nat×List AE×Int) (fun x=>⟨[(0,tO (.own 1000 7 x.2.1.length)),(1,tI 0),(2,tI n),(3,.av (.one (.clo 150 0 (fun _=>default)))),(8,tI x.2.2)],[(1000,.row 7 x.2.1.length (AP AE.c x.2.1) 78)]⟩) (fun x=>(n-x.2.2).toNat<x.1/\(1<=x.2.2/\x.2.1.length=l.length/\1<=x.2.2/\(x.2.2<=n\/x.2.2=1))/\G8 l n x.1 x.2.1 x.2.2=FF l n) (fun x=>x.1) ?_ ((n-1).toNat+1,l,1) ⟨Nat.lt_succ_self _,⟨ax0,ax0,ax0,ax0⟩,(by simp only [FF,cond_true,cond_false])⟩
 rintro ⟨n0,data,i⟩ ⟨hn,hinv,hF⟩
 have hm0:=hn;have hinv0:=hinv;have hF0:=hF;try dsimp only at hm0 hinv0 hF0
 clear hn hinv hF
 cases n0 with
 | zero=>exact absurd hm0 (Nat.not_lt_zero _)
 | succ n0 =>
  refine AC<|AC ?_
  refine rn ⟨[(0,tO (.own 1000 7 data.length)),(1,tI 0),(2,tI n),(3,.av (.one (.clo 150 0 (fun _=>default)))),(8,tI i),(14,tB (decide ((i:Int)<n)))],[(1000,.row 7 data.length (AP AE.c data) 78)]⟩ ?_
  refine Ab _ rfl (fun h1 => ?_) (fun h1 => ?_)
  ·have g1:=oT h1
   refine Af<|AJ ?_
   refine AC<|AY<|AC ?_
   refine rn ⟨[(0,tO (.own 1000 7 data.length)),(1,tI 0),(2,tI n),(3,.av (.one (.clo 150 0 (fun _=>default)))),(8,tI i),(9,tI i)],[(1000,.row 7 data.length (AP AE.c data) 78)]⟩<|AY ?_
   refine BS (ι:=Nat×List AE×Int) (fun x=>⟨[(0,tO (.own 1000 7 x.2.1.length)),(1,tI 0),(2,tI n),(3,.av (.one (.clo 150 0 (fun _=>default)))),(8,tI i),(9,tI x.2.2)],[(1000,.row 7 x.2.1.length (AP AE.c x.2.1) 78)]⟩) (fun x=>x.2.2.toNat<x.1/\(0<=x.2.2/\x.2.1.length=l.length/\x.2.2<n)/\H8 l n data i (G8 l n n0) x.1 x.2.1 x.2.2=FF l n) (fun x=>x.1) ?_ (i.toNat+1,data,i) ⟨Nat.lt_succ_self _,⟨ax0,ax0,ax0⟩,(by rw [<- hF0];simp only [G8,h1,cond_true,cond_false])⟩
   rintro ⟨n1,data',j⟩ ⟨hn,hinv,hF⟩
   have hm1:=hn;have hinv1:=hinv;have hF1:=hF;try dsimp only at hm1 hinv1 hF1
   clear hn hinv hF
   cases n1 with
   | zero=>exact absurd hm1 (Nat.not_lt_zero _)
   | succ n1 =>
    refine AC<|AC ?_
    refine dw [] [(32,Qw (data'.getD j.toNat default) (data'.getD (W64 (j-1)).toNat default))] [gt (decide ((0:Int)<j)),gt (decide ((0:Int)<j)),gk (decide ((0:Int)<j)) (0<=(j:Int)/\(j:Int)<((data'.length:Nat):Int)),gt (decide ((0:Int)<j)),gk (decide ((0:Int)<j)) (j.toNat<data'.length),gt (decide ((0:Int)<j)),gt (decide ((0:Int)<j)),gt (decide ((0:Int)<j)),gk (decide ((0:Int)<j)) (0<=(W64 (j-1):Int)/\(W64 (j-1):Int)<((data'.length:Nat):Int)),gt (decide ((0:Int)<j)),gk (decide ((0:Int)<j)) ((W64 (j-1)).toNat<data'.length),gt (decide ((0:Int)<j)),gt (decide ((0:Int)<j)),gt (decide ((0:Int)<j)),gk (decide ((0:Int)<j)) (Ak (Qw (data'.getD j.toNat default) (data'.getD (W64 (j-1)).toNat default)).2.1),gt (decide ((0:Int)<j)),gt (decide ((0:Int)<j))] ⟨[(0,tO (.own 1000 7 data'.length)),(1,tI 0),(2,tI n),(3,.av (.one (.clo 150 0 (fun _=>default)))),(8,tI i),(9,tI j),(34,tB (bif decide ((0:Int)<j) then decide (((Pp (data'.getD j.toNat default) (data'.getD (W64 (j-1)).toNat default)):Int)<0) else false))],[(1000,.row 7 data'.length (AP AE.c data') 78)]⟩ (.cons (rQ (data'.getD j.toNat default) (data'.getD (W64 (j-1)).toNat default)) .nil) (ci (ci (.cons (fun hG=>by first | exact au0 | (simp only [decide_eq_true_eq,decide_eq_false_iff_not,Bool.not_eq_true,Bool.and_eq_true] at hG <;> omega) | (simp at hG <;> omega) | (simp only [decide_eq_true_eq,decide_eq_false_iff_not] at hG;simp only [Bx];omega)) (ci (.cons (fun hG=>by first | exact au0 | (simp only [decide_eq_true_eq,decide_eq_false_iff_not,Bool.not_eq_true,Bool.and_eq_true] at hG <;> omega) | (simp at hG <;> omega) | (simp only [decide_eq_true_eq,decide_eq_false_iff_not] at hG;simp only [Bx];omega)) (ci (ci (ci (.cons (fun hG=>by first | exact au0 | (simp only [decide_eq_true_eq,decide_eq_false_iff_not,Bool.not_eq_true,Bool.and_eq_true] at hG <;> omega) | (simp at hG <;> omega) | (simp only [decide_eq_true_eq,decide_eq_false_iff_not] at hG;simp only [Bx];omega)) (ci (.cons (fun hG=>by first | exact au0 | (simp only [decide_eq_true_eq,decide_eq_false_iff_not,Bool.not_eq_true,Bool.and_eq_true] at hG <;> omega) | (simp at hG <;> omega) | (simp only [decide_eq_true_eq,decide_eq_false_iff_not] at hG;simp only [Bx];omega)) (ci (ci (ci (.cons (fun _=>rfl) (ci (ci .nil))))))))))))))))) ?_
    (try rw [(show W64 (j-1)=j-1 from An (by omega) (by omega))])
    refine AJ ?_
    refine Ab _ rfl (fun h2 => ?_) (fun h2 => ?_)
    ·have g2:=OA h2
     refine Af<|AJ ?_
     refine AC<|AY ?_
     refine dw [] [] [0<=(W64 (j-1):Int)/\(W64 (j-1):Int)<((data'.length:Nat):Int),(W64 (j-1)).toNat<data'.length,0<=(j:Int)/\(j:Int)<((data'.length:Nat):Int),j.toNat<data'.length,0<=(j:Int)/\(j:Int)<((data'.length:Nat):Int),j.toNat<data'.length,0<=(W64 (j-1):Int)/\(W64 (j-1):Int)<((data'.length:Nat):Int),(W64 (j-1)).toNat<data'.length] ⟨[(0,tO (.own 1000 7 data'.length)),(1,tI 0),(2,tI n),(3,.av (.one (.clo 150 0 (fun _=>default)))),(8,tI i),(9,tI j)],[(1000,.row 7 data'.length (fun i_ j_=>if i_=(W64 (j-1)).toNat/\0<=j_/\j_<0+7 then ((AE.c (data'.getD j.toNat default)):List Cl).getD (j_-0) default else (fun i_ j_=>if i_=j.toNat/\0<=j_/\j_<0+7 then ((AE.c (data'.getD (W64 (j-1)).toNat default)):List Cl).getD (j_-0) default else (AP AE.c data') i_ j_) i_ j_) 78)]⟩ .nil (.cons au0 (.cons au0 (.cons au0 (.cons au0 (.cons au0 (.cons au0 (.cons au0 (.cons au0 .nil)))))))) ?_
     (try rw [(show W64 (j-1)=j-1 from An (by omega) (by omega))])
     refine Be<|AJ ?_
     refine Ba (Cv.trans (BT (⟨[(0,tO (.own 1000 7 ((data'.set j.toNat (data'.getD (j-1).toNat default)).set (j-1).toNat (data'.getD j.toNat default)).length)),(1,tI 0),(2,tI n),(3,.av (.one (.clo 150 0 (fun _=>default)))),(8,tI i),(9,tI j)],[(1000,.row 7 ((data'.set j.toNat (data'.getD (j-1).toNat default)).set (j-1).toNat (data'.getD j.toNat default)).length (AP AE.c ((data'.set j.toNat (data'.getD (j-1).toNat default)).set (j-1).toNat (data'.getD j.toNat default))) 78)]⟩) (.cons ⟨rfl,.av (.one (.own _ _ au2))⟩ lr) (.cons ⟨rfl,Ap 78 (Ja (l:=(AE.c (data'.getD j.toNat default))) (off:=0) (q:=7) (k:=(j-1).toNat) (Ja (l:=(AE.c (data'.getD (j-1).toNat default))) (off:=0) (q:=7) (k:=j.toNat) (BM 7 AE.c data') au0 (data'.getD (j-1).toNat default) (IU kr)) au0 (data'.getD j.toNat default) (IU kr))⟩ .nil)) (Cv.refl _)) ?_
     refine rg ⟨[(0,tO (.own 1000 7 ((data'.set j.toNat (data'.getD (j-1).toNat default)).set (j-1).toNat (data'.getD j.toNat default)).length)),(1,tI 0),(2,tI n),(3,.av (.one (.clo 150 0 (fun _=>default)))),(8,tI i),(9,tI (W64 (j-1)))],[(1000,.row 7 ((data'.set j.toNat (data'.getD (j-1).toNat default)).set (j-1).toNat (data'.getD j.toNat default)).length (AP AE.c ((data'.set j.toNat (data'.getD (j-1).toNat default)).set (j-1).toNat (data'.getD j.toNat default))) 78)]⟩ ?_
     (try rw [(show W64 (j-1)=j-1 from An (by omega) (by omega))])
     refine AJ ?_
     refine ⟨(n1,(data'.set j.toNat (data'.getD (j-1).toNat default)).set (j-1).toNat (data'.getD j.toNat default),j-1),⟨?_,?_,(by rw [<- hF1];simp only [H8,h2,cond_true,cond_false])⟩,Nat.lt_succ_self _,BB kr⟩
     ·show (j-1).toNat<n1;omega
     ·exact ⟨ax0,ax0,ax0⟩
    ·refine BV<|BE ?_
     refine BE<|BW ?_
     refine Be<|AJ ?_
     refine rg ⟨[(0,tO (.own 1000 7 data'.length)),(1,tI 0),(2,tI n),(3,.av (.one (.clo 150 0 (fun _=>default)))),(8,tI (W64 (i+1)))],[(1000,.row 7 data'.length (AP AE.c data') 78)]⟩ ?_
     (try rw [(show W64 (i+1)=i+1 from An (by omega) (by omega))])
     refine AJ ?_
     refine ⟨(n0,data',i+1),⟨?_,?_,(by rw [<- hF1];simp only [H8,h2,cond_true,cond_false])⟩,Nat.lt_succ_self _,BB kr⟩
     ·show (n-(i+1)).toNat<n0;omega
     ·exact ⟨ax0,ax0,ax0,ax0⟩
  ·have g1:=oF h1
   refine BV<|BE ?_
   refine BE<|BW ?_
   exact ⟨_,Cv.refl _,.inr rfl,.tup [],by kernel_rfl,Al rfl,.row 7 data.length (AP AE.c data) 78,by kernel_rfl,Ff (c:=AE.c) (xs:=data) (by rw [<- hF0];first | (simp only [G8,h1,cond_true,cond_false] <;> rfl)) au18⟩
theorem bB {p:Prop} (h:p:=by
 unfold mp0
 cases l with
 | nil=>subst hn;rfl
 | cons a l =>
  have h:=sJ (fun x y=>decide (mp1 x y<0)) (a::l) (mp2 (a::l) n) id (fun m d i hi=>by
   rw [mp2,decide_eq_false (by omega),cond_false];rfl) (fun m i out rest x hi ho=>by
   rw [mp2,decide_eq_true (by omega),cond_true]
   have h1:=sI (fun x y=>decide (mp1 x y<0)) (mp3 (a::l) n (out++x::rest) i (mp2 (a::l) n m)) (fun d=>mp2 (a::l) n m d ((i:Int)+1)) (fun m d j=>by
    rw [mp3,Int.toNat_natCast,show ((j:Int)-1).toNat=j-1 by omega]) out rest x i ((i:Int).toNat+1) (by omega) (by omega)
   subst ho
   rw [List.take_length,List.drop_length,List.nil_append] at h1
   rw [h1]
   unfold T6
   rw [List.append_assoc];rfl) ((a::l).length-1) ((n-1).toNat+1) 1 rfl (by simp) (by omega)
  exact h):p:=h
section
 open Go.Proofs.YtheobjkgllmnmaaGreat renaming FF→mp0,Pp→mp1,G8→mp2,H8→mp3
theorem Un (l:List AE) (n:Int) (hn:n=(l.length:Int)):FF l n=Ci (fun x y=>decide (Pp x y<0)) l:=bB
end
theorem KG (l:List AE) (n:Int) (hn:n=(l.length:Int)) (hl:l.length<20):(FF l n).length=l.length:=by rw [Un l n hn,Dg]
abbrev JH (l:List AE):Cl:=.own 1000 7 l.length
abbrev OQ (l:List AE):Blk:=.row 7 l.length (AP AE.c l) 78
def Z0f (l:(List AE)) (n:Int):FuncId×List Av×Ef:=(179,([.one (JH l),.one (.i 0),.one (.i n),.one (.clo 150 0 (fun _=>default))]:List Av).map (Hd 1000 1000),wrI 1000 (OQ l) (.tup []) (.row 7 l.length (AP AE.c (FF l n)) 78))
def Nj (l:(List AE)) (n:Int):(List AE):=FF l n
theorem pStaP (l:(List AE)) (n:Int) (hn:n=(l.length:Int)) (hl:l.length<20):WrR Tryz.prog 166 1000 [.one (.own 1000 7 l.length),.one (.i n),.one (.clo 150 0 (fun _=>default))] 7 l.length (AP AE.c l) 78 (.tup []) (AP AE.c (Nj l n)):=by
 refine FT Tryz.func166 rfl kr kr kr fun W0 M0 X hX => ?_
 refine AC<|rn ⟨[(0,tO (JH l)),(1,tI n),(2,.av (.one (.clo 150 0 (fun _=>default)))),(6,tI 20)],[(1000,.row 7 l.length (AP AE.c l) 78)]⟩<|AC ?_
 refine rn ⟨[(0,tO (JH l)),(1,tI n),(2,.av (.one (.clo 150 0 (fun _=>default)))),(6,tI 20),(7,tI 0),(8,tI 20)],[(1000,.row 7 l.length (AP AE.c l) 78)]⟩ ?_
 refine AC<|AY ?_
 refine Gd 1 ?_
 refine DX<|AC<|AC ?_
 refine rn ⟨[(0,tO (JH l)),(1,tI n),(2,.av (.one (.clo 150 0 (fun _=>default)))),(6,tI 20),(7,tI 0),(8,tI 20),(13,tB (decide ((20:Int)<=n)))],[(1000,.row 7 l.length (AP AE.c l) 78)]⟩ ?_
 have h1:(decide ((20:Int)<=n))=false:=decide_eq_false (by omega)
 have g1:=oF h1
 refine Ab _ rfl (fun h=>absurd (h1.symm.trans h) (by decide)) (fun _ => ?_)
 refine BV<|BE ?_
 refine BE<|BW ?_
 refine AJ<|AC ?_
 refine rc [(27,(Z0f l n))] [Ak (Z0f l n).2.1,BJ (OQ l)] ⟨[(0,tO (JH l)),(1,tI n),(2,.av (.one (.clo 150 0 (fun _=>default)))),(6,tI 20)],[(1000,.row 7 l.length (AP AE.c (FF l n)) 78)]⟩ (.cons (Fd (fun _ _=>kr) kr (pInsP l n au10 au10)) .nil) (.cons rfl (.cons rfl .nil))<|AJ ?_
 refine Ba (Cv.trans (BT (⟨[(0,tO (.own 1000 7 (FF l n).length)),(1,tI n),(2,.av (.one (.clo 150 0 (fun _=>default)))),(6,tI 20)],[(1000,.row 7 (FF l n).length (AP AE.c (FF l n)) 78)]⟩) (.cons ⟨rfl,.av (.one (.own _ _ (KG l n au10 au10).symm))⟩ lr) (.cons ⟨rfl,Ap 78 (⟨(KG l n au10 au10).symm,fun _ _ _ _=>.refl _⟩)⟩ .nil)) (Cv.refl _))<|AY ?_
 refine Gd 1 ?_
 refine DX<|AC<|AC ?_
 refine rn ⟨[(0,tO (.own 1000 7 (FF l n).length)),(1,tI n),(2,.av (.one (.clo 150 0 (fun _=>default)))),(6,tI 20),(30,tB (decide ((20:Int)<n)))],[(1000,.row 7 (FF l n).length (AP AE.c (FF l n)) 78)]⟩ ?_
 have h2:(decide ((20:Int)<n))=false:=decide_eq_false (by omega)
 have g2:=oF h2
 refine Ab _ rfl (fun h=>absurd (h2.symm.trans h) (by decide)) (fun _ => ?_)
 refine BV<|BE ?_
 refine BE<|BW ?_
 exact ⟨_,Cv.refl _,.inr rfl,.tup [],by kernel_rfl,Al rfl,.row 7 (FF l n).length (AP AE.c (FF l n)) 78,by kernel_rfl,Ff (c:=AE.c) (xs:=FF l n) (by first | (simp only [Nj,h1,h2,cond_true,cond_false] <;> rfl)) (KG l n hn hl)⟩
theorem NI (l:List AE) (n:Int) (hn:n=(l.length:Int)) (hl:l.length<20):(Nj l n).length=l.length:=KG l n hn hl
abbrev RO (l:List AE):=(Nj l ((l.length:Nat):Int))
def Z0g (l:(List AE)):FuncId×List Av×Ef:=(166,([.one (JH l),.one (.i ((l.length:Nat):Int)),.one (.clo 150 0 (fun _=>default))]:List Av).map (Hd 1000 1000),wrI 1000 (OQ l) (.tup []) (.row 7 l.length (AP AE.c (RO l)) 78))
def CM (l:(List AE)):(List AE):=Nj l ((l.length:Nat):Int)
theorem pSrtP (l:(List AE)) (hl:l.length<20):WrR Tryz.prog 149 1000 [.one (.own 1000 7 l.length),.one (.clo 150 0 (fun _=>default))] 7 l.length (AP AE.c l) 78 (.tup []) (AP AE.c (CM l)):=by
 refine FT Tryz.func149 rfl kr kr kr fun W0 M0 X hX => ?_
 refine rc [(8,(Z0g l))] [Ak (Z0g l).2.1,BJ (OQ l)] ⟨[],[(1000,.row 7 l.length (AP AE.c (RO l)) 78)]⟩ (.cons (Fd (fun _ _=>kr) kr (pStaP l ((l.length:Nat):Int) au10 au10)) .nil) (.cons rfl (.cons rfl .nil)) ?_
 exact ⟨_,Cv.trans (BT (⟨[],[(1000,.row 7 (RO l).length (AP AE.c (RO l)) 78)]⟩) .nil (.cons ⟨rfl,Ap 78 (⟨(NI l ((l.length:Nat):Int) au10 au10).symm,fun _ _ _ _=>.refl _⟩)⟩ .nil)) (Cv.refl _),.inr rfl,.tup [],by kernel_rfl,Al rfl,.row 7 (Nj l ((l.length:Nat):Int)).length (AP AE.c (Nj l ((l.length:Nat):Int))) 78,by kernel_rfl,Ff (c:=AE.c) (xs:=Nj l ((l.length:Nat):Int)) (by rfl) (NI l _ rfl hl)⟩
theorem KF (l:List AE) (hl:l.length<20):(CM l).length=l.length:=NI l _ rfl hl
theorem eG (l:List AE):CM l=Ci (fun x y=>decide (Pp x y<0)) l:=Un l _ rfl
end
end Go.Proofs.YtheobjkgllmnmaaGreat
