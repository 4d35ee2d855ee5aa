/-
  No statement is proved in this text. It holds a part of what the proof of PlacePads needs.
-/
import Derived.Test.YtdbampcfmjbgmaaGreatPlacePadsQb
namespace Go.Proofs.YtdbampcfmjbgmaaGreat
set_option maxRecDepth 100000
set_option linter.unusedVariables false
set_option linter.unusedSimpArgs false
open Go.RowKit
section
open Go.RowKit Go.MapKept
section
variable {P:Program} {rd:Option Nat} {N:Nat} {W0:World} {X:Nat→Option Loc} {M0:Nat→Option Obj} {Q:Exit→AS→Prop} {s:AS}
theorem Nb {c:Code} (b:Bool) (h1:b=true->AWp P rd N W0 X M0 c Q s) (h2:b=false->AWp P rd N W0 X M0 c Q s):AWp P rd N W0 X M0 c Q s:=by
 cases hb:b with
 | true=>exact h1 hb
 | false=>exact h2 hb
def AWL (P:Program) (rd:Option Nat) (N:Nat) (W0:World) (X:Nat->Option Loc) (M0:Nat->Option Obj) (ops:Array Oper) (l:List Oper) (K:AS->Prop) (s:AS):Prop :=
 ∀ M σ a w,Sim N W0 X M0 M σ (get s.t) (get s.h) a w->∀ Q':Exit->Act->World->Prop,(∀ s' M' σ' a' w',K s'->Sim N W0 X M0 M' σ' (get s'.t) (get s'.h) a' w'->Q' .normal a' w')->wpListIn (FW rd) 0 P ops Q' l a w
theorem Dm {id:Nat} {l:List Oper} (h:AWL P rd N W0 X M0 l.toArray l (Q .normal) s):AWp P rd N W0 X M0 (.region id l.toArray false) Q s:=by
 intro M σ a w hs
 exact wpIn_region_lit (h M σ a w hs _ fun s' M' σ' a' w' hk hs'=>⟨s',M',σ',hk,hs'⟩)
theorem O1 {V:Env P} (hV:L8 P V) {ops:Array Oper} {Q':Exit->Act->World->Prop} (l2:List Oper):∀ (l:List Oper) (s s1:AS) (cs:List Prop),Kw P V N ops l s=some (cs,s1)->Ci cs->∀ M σ a w,Sim N W0 X M0 M σ (get s.t) (get s.h) a w->(∀ M' σ' a' w',Sim N W0 X M0 M' σ' (get s1.t) (get s1.h) a' w'->wpListIn (FW rd) 0 P ops Q' l2 a' w')->wpListIn (FW rd) 0 P ops Q' (l++l2) a w
 | [],s,s1,cs,hr,hc,M,σ,a,w,hs,hK=>by
  simp only [Kw,Option.some.injEq,Prod.mk.injEq] at hr
  obtain ⟨_,rfl⟩:=hr
  exact hK M σ a w hs
 | o::l,s,s1,cs,hr,hc,M,σ,a,w,hs,hK=>by
  simp only [Kw] at hr
  split at hr
  ·rename_i cs1 s2 h1
   split at hr
   ·rename_i ds s3 h2
    simp only [Option.some.injEq,Prod.mk.injEq] at hr
    obtain ⟨rfl,rfl⟩:=hr
    obtain ⟨hc1,hc2⟩:=hc.append
    refine wpListIn_step fun K hK' => ?_
    refine Oq hV h1 hc1 hs (fun _ _=>rfl) (fun _ _=>rfl) (fun hn d hd=>On h1 hn hd) fun M' σ' a' w' hs'=>hK' _ _ (O1 hV l2 l s2 s3 ds h2 hc2 M' σ' a' w' ?_ hK)
    rw [(Eh h1).1,(Eh h1).2]
    exact hs'
   cases hr
  cases hr
def QR (P:Program) (V:Env P) (N:Nat) (ops:Array Oper) (l:List Oper) (ts hs:List Nat) (s:AS):Option (List Prop×AS):=match Kw P V N ops l s with
 | some (cs,s1)=>some (cs,KT ts hs s1)
 | none=>none
theorem Fw {E:TypeId->Option (List Kd)} (hE:KH P ⟨fun _=>none,E,fun _=>false,fun _=>none⟩) {ops:Array Oper} {l:List Oper} {K:AS->Prop} (k:Nat) (ow:List Nat) (qs:List (Nat×(Bool×Nat))) (tbl:List (Nat×FuncId×List Av×Ef)) (ts ns:List Nat) (cs:List Prop) (S:AS) (htbl:HN P tbl)
  (hr:QR P ⟨FG tbl,E,A7 ow,get qs⟩ N ops (l.take k) ts ns s=some (cs,S)) (hc:Ci cs) (h:AWL P rd N W0 X M0 ops (l.drop k) K S):AWL P rd N W0 X M0 ops l K s:=by
 have hV:=htbl.env (O:=A7 ow) (q:=get qs) hE
 intro M σ a w hs Q' hQ'
 unfold QR at hr
 split at hr
 ·rename_i cs1 s1 h1
  simp only [Option.some.injEq,Prod.mk.injEq] at hr
  obtain ⟨rfl,rfl⟩:=hr
  have key:=O1 (Q':=Q') (rd:=rd) hV (l.drop k) (l.take k) s s1 cs1 h1 hc M σ a w hs fun M' σ' a' w' hs'=>h M' σ' a' w' (GV hs' ts ns) Q' hQ'
  rw [List.take_append_drop] at key
  exact key
 cases hr
theorem En {E:TypeId->Option (List Kd)} (hE:KH P ⟨fun _=>none,E,fun _=>false,fun _=>none⟩) {ops:Array Oper} {l:List Oper} {K:AS->Prop} (ow:List Nat) (qs:List (Nat×(Bool×Nat))) (tbl:List (Nat×FuncId×List Av×Ef)) (ts ns:List Nat) (cs:List Prop) (S:AS) (htbl:HN P tbl)
  (hr:QR P ⟨FG tbl,E,A7 ow,get qs⟩ N ops l ts ns s=some (cs,S)) (hc:Ci cs) (h:K S):AWL P rd N W0 X M0 ops l K s:=by
 have hV:=htbl.env (O:=A7 ow) (q:=get qs) hE
 intro M σ a w hs Q' hQ'
 unfold QR at hr
 split at hr
 ·rename_i cs1 s1 h1
  simp only [Option.some.injEq,Prod.mk.injEq] at hr
  obtain ⟨rfl,rfl⟩:=hr
  exact Nq (Q':=Q') (rd:=rd) hV l s s1 cs1 h1 hc M σ a w hs fun M' σ' a' w' hs'=>hQ' _ M' σ' a' w' h (GV hs' ts ns)
 cases hr
theorem gP (n:Nat) (b b':Blk) (hn:get s.h n=some b) (hb:∀ M σ w x,Bv M σ w x b->Bv M σ w x b'):Cv N W0 X M0 s ⟨s.t,put s.h n b'⟩:=by
 intro M σ a w hs
 have hk:∀ m c,get (put s.h n b') m=some c->∃ b0,get s.h m=some b0/\(Bv M σ w (σ m) b0->Bv M σ w (σ m) c):=fun m c hm=>by
  rw [J5] at hm
  split at hm
  ·rename_i e
   subst e
   injection hm with hm
   subst hm
   exact ⟨b,hn,hb M σ w _⟩
  exact ⟨c,hm,id⟩
 refine ⟨M,σ,hs.os,hs.tape,hs.output,hs.size,hs.old,hs.sub,hs.new,hs.pin,hs.defers,hs.room,hs.tmps,hs.imm,fun m c hm => ?_,fun m c hm => ?_,fun m k c c' hm hk' hne => ?_⟩
 ·obtain ⟨b0,e1,e2⟩:=hk m c hm;exact e2 (hs.blk m b0 e1)
 ·obtain ⟨b0,e1,_⟩:=hk m c hm;exact hs.loc m b0 e1
 obtain ⟨b0,e1,_⟩:=hk m c hm;obtain ⟨b0',e1',_⟩:=hk k c' hk';exact hs.inj m k b0 b0' e1 e1' hne
def Q3:Nat->List (List Cl)->List (Nat×List Cl)
 | _,[]=>[]
 | k,l::r=>(k,l)::Q3 (k+1) r
theorem J6:∀ (ls:List (List Cl)) (k i:Nat),get (Q3 k ls) i=if k<=i then ls[i-k]? else none
 | [],k,i=>by simp [Q3,get]
 | l::r,k,i=>by
  simp only [Q3,get,CR]
  by_cases h:k=i
  ·subst h;simp
  simp only [h,decide_false,cond_false]
  rw [J6 r (k+1) i]
  by_cases h2:k<=i
  ·rw [if_pos (by omega),if_pos h2,show i-k=(i-(k+1))+1 by omega,List.getElem?_cons_succ]
  rw [if_neg (by omega),if_neg h2]
theorem gO {s:AS} (S:AS) (n sz len:Nat) (f:Nat->Nat->Cl) (ty:TypeId) (hn:get s.h n=some (.row sz len f ty)) (hl:Nat.blt 0 len=true) (hS:(⟨s.t,put s.h n (.rowx sz len (fun _ _=>default) ty (Q3 0 ((List.range len).map fun i=>Gk f i 0 sz)))⟩:AS)=S):Cv N W0 X M0 s S:=by
 subst hS
 have h0:0<len:=by
  have h1:Nat.ble (0+1) len=true:=hl
  exact Nat.le_of_ble_eq_true h1
 refine gP n _ _ hn fun M σ w x hb => ?_
 rcases hb with ⟨_,h⟩ | ⟨e0,c,e1,e2,e3,e4,g,e5⟩
 ·omega
 refine ⟨e0,c,e1,e2,e3,e4,g,fun i j hi hj=>⟨(e5 i j hi hj).1,fun hno => ?_⟩,fun i l hl => ?_⟩
 ·rw [J6] at hno
  simp [hi] at hno
 rw [J6,if_pos (Nat.zero_le _),Nat.sub_zero,List.getElem?_map] at hl
 by_cases hi:i<len
 ·rw [List.getElem?_range hi] at hl
  simp only [Option.map_some,Option.some.injEq] at hl
  subst hl
  refine ⟨hi,L2.of (by simp [D0]) fun j a b ha hb => ?_⟩
  have hj:j<sz:=by have:=(List.getElem?_eq_some_iff.1 ha).1;rwa [D0] at this
  rw [Il _ _ _ _ _ hj,Nat.zero_add] at ha
  injection ha with ha
  subst ha
  rw [List.getElem?_map,List.getElem?_range hj] at hb
  simp only [Option.map_some,Option.some.injEq] at hb
  subst hb
  exact Lx (e5 i j hi hj).2
 rw [List.getElem?_eq_none (by simp;omega)] at hl
 cases hl
theorem HK {s:AS} (S:AS) (n sz len:Nat) (f:Nat->Nat->Cl) (ty:TypeId) (ls:List (List Cl)) (hn:get s.h n=some (.rowx sz len f ty (Q3 0 ls))) (hlen:Nat.beq ls.length len=true) (hsz:ls.all (fun l=>Nat.beq l.length sz&&l.all Cl.dv)=true) (hS:(⟨s.t,put s.h n (.row sz len (BB sz len ls.flatten) ty)⟩:AS)=S):Cv N W0 X M0 s S:=by
 subst hS
 have hlen:=Nat.eq_of_beq_eq_true hlen
 refine gP n _ _ hn fun M σ w x hb => ?_
 obtain ⟨e0,c,e1,e2,e3,e4,g,e5,e6⟩:=hb
 refine .inr ⟨e0,c,e1,e2,e3,e4,g,fun i j hi hj=>⟨(e5 i j hi hj).1,?_⟩⟩
 have hil:i<ls.length:=by omega
 have hmem:=List.getElem_mem hil
 have hall:=(List.all_eq_true.1 hsz) _ hmem
 simp only [Bool.and_eq_true] at hall
 have hli:=Nat.eq_of_beq_eq_true hall.1
 obtain ⟨_,hL⟩:=e6 i ls[i] (by rw [J6,if_pos (Nat.zero_le _),Nat.sub_zero,List.getElem?_eq_getElem hil])
 have hflat:∀ (q:List (List Cl)) (i j:Nat) (hi:i<q.length),(∀ l∈q,l.length=sz)->j<sz->q.flatten[i*sz+j]? = q[i][j]? := by
  intro q
  induction q with
  | nil=>intro i j hi;simp at hi
  | cons l r ih =>
   intro i j hi hall hj
   have h1:=hall l (by simp)
   cases i with
   | zero=>simp [List.getElem?_append,h1,hj]
   | succ i =>
    rw [List.flatten_cons,List.getElem?_append_right (by rw [h1,Nat.add_mul];omega),h1,show (i+1)*sz+j-sz=i*sz+j by rw [Nat.add_mul];omega]
    simpa using ih i j (by simpa using hi) (fun l hl=>hall l (by simp [hl])) hj
 have hjl:j<ls[i].length:=by omega
 rw [U9 _ _ _ _ _ hi,List.getD_eq_getElem?_getD,hflat ls i j hil (fun l hl=>by
  have h:=(List.all_eq_true.1 hsz) l hl
  simp only [Bool.and_eq_true] at h
  exact Nat.eq_of_beq_eq_true h.1) hj,List.getElem?_eq_getElem hjl,Option.getD_some]
 obtain ⟨v,hv,hR⟩:=hL.get j _ (List.getElem?_eq_getElem hjl)
 rw [List.getElem?_map,List.getElem?_range hj] at hv
 simp only [Option.map_some,Option.some.injEq] at hv
 subst hv
 exact Lw ((List.all_eq_true.1 hall.2) _ (List.getElem_mem hjl)) hR
end
end
section
open Go.RowKit Go.MapKept
def P9 (is:List Nat):Nat->List Cl->List Cl->List Cl
 | k,x::a,y::b=>(bif A7 is k then x else y)::P9 is (k+1) a b
 | _,_,_=>[]
def WE (is:List Nat) (vs:Nat->Value):Nat->List Cl->List Cl
 | k,y::b=>(bif A7 is k then .val (vs k) else y)::WE is vs (k+1) b
 | _,[]=>[]
section
variable {P:Program} {M M':Nat→Option Obj} {σ σ':Nat→Loc} {w w':World}
theorem Xo (is:List Nat) (vs:Nat->Value):∀ (k:Nat) (l l0:List Cl) (c:List Value),l=P9 is k l l0->l.length=l0.length->(∀ j,j<c.length->vs (k+j)=c.getD j undef)->(∀ x∈l0,x.dv=true\/True)->L2 (R M σ) l c->L2 (R M σ) (WE is vs k l0) c
 | k,[],[],c,_,_,_,_,h=>by cases h;exact .nil
 | k,[],_::_,c,_,hl,_,_,h=>by simp at hl
 | k,_::_,[],c,_,hl,_,_,h=>by simp at hl
 | k,x::l,y::l0,c,he,hl,hv,hd,h=>by
  cases h with
  | cons h1 h2 =>
   rename_i v c
   simp only [P9,List.cons.injEq] at he
   refine .cons ?_ (Xo is vs (k+1) l l0 c he.2 (by simpa using hl) (fun j hj=>by
    have:=hv (j+1) (by simp;omega)
    rw [show k+1+j=k+(j+1) by omega,this];rfl) (fun x hx=>.inr trivial) h2)
   cases hm:A7 is k with
   | true =>
    have:=hv 0 (by simp)
    simp only [cond_true]
    exact ⟨by rw [show k=k+0 from rfl,this];rfl,by rw [show k=k+0 from rfl,this];exact Jp h1⟩
   | false =>
    rw [hm] at he
    simp only [cond_false] at he ⊢
    rw [<- he.1];exact h1
theorem Tx (is:List Nat) (vs:Nat->Value) (hM:∀ b o,M b=some o->M' b=some o):∀ (k:Nat) (l l1:List Cl) (c c':List Value),l.length=l1.length->(∀ j,j<c.length->vs (k+j)=c.getD j undef)->L2 (R M σ) l c->L2 (R M' σ) (WE is vs k l1) c'->L2 (R M' σ) (P9 is k l l1) c'
 | k,[],[],c,c',_,_,_,h=>by cases h;exact .nil
 | k,[],_::_,c,c',hl,_,_,h=>by simp at hl
 | k,_::_,[],c,c',hl,_,_,h=>by simp at hl
 | k,x::l,y::l1,c,c',hl,hv,h0,h=>by
  cases h0 with
  | cons h1 h2 =>
   rename_i v c
   simp only [WE] at h
   cases h with
   | cons h3 h4 =>
    simp only [P9]
    refine .cons ?_ (Tx is vs hM (k+1) l l1 c _ (by simpa using hl) (fun j hj=>by
     have:=hv (j+1) (by simp;omega)
     rw [show k+1+j=k+(j+1) by omega,this];rfl) h2 h4)
    cases hm:A7 is k with
    | true =>
     rw [hm] at h3
     have h5:=h3.1
     have h6:=hv 0 (by simp)
     rw [h5,show k=k+0 from rfl,h6]
     exact C4 hM (fun _ _=>rfl) h1
    | false=>rw [hm] at h3;exact h3
theorem iV {hh:Nat->Option Blk} {f:FuncId} {K L n m:Nat} {xs:List Av} {args:List Value} {b d b0 d0 b1 d1:Blk} {r:Tv} (hx:xs.all (O5 K L)=true) (hKL:Nat.beq K L=false) (hnm':n≠m) (hs:Std M σ w hh) (hn:hh n=some b) (hm:hh m=some d) (hnil:(σ n).nil=false) (hnil2:(σ m).nil=false) (hblk:∀ σ',(∀ q,q≠K->q≠L->σ' q=σ q)->Bv M σ' w (σ n) b0) (hblk2:∀ σ',Bv M σ' w (σ m) d0)
  (hargs:L2 (RA M σ) (xs.map (F4 K n L m)) args) (h:Wr2 P f K L xs b0 d0 r b1 d1):Calls P f args.toArray w (fun en w'=>∃ U,en=.returned U/\∃ M',GF w w' M M' (fun b=>only (σ n) b\/only (σ m) b)/\(∀ σ',RT M' σ' r U)/\(∀ σ',Bv M' σ' w' (σ n) b1)/\∀ σ',Bv M' σ' w' (σ m) d1):=by
 have hne:K≠L:=fun e=>by rw [e,Nat.beq_refl] at hKL;cases hKL
 have hM:M (σ n).b=none:=by
  rcases hs.loc n _ hn with h | h
  ·rw [hnil] at h;cases h
  exact h
 have hM2:M (σ m).b=none:=by
  rcases hs.loc m _ hm with h | h
  ·rw [hnil2] at h;cases h
  exact h
 have hbne:(σ n).b≠(σ m).b:=by
  rcases hs.inj n m _ _ hn hm hnm' with h | h | h
  ·rw [hnil] at h;cases h
  ·rw [hnil2] at h;cases h
  exact h
 let σ2:Nat->Loc:=upd (upd σ K (σ n)) L (σ m)
 have hL:σ2 L=σ m:=BW _ _ _
 have hK:σ2 K=σ n:=by
  show upd _ L _ K=_
  rw [CV _ _ hne];exact BW _ _ _
 have hrest:∀ q,q≠K->q≠L->σ2 q=σ q:=fun q h1 h2=>by
  show upd _ L _ q=_
  rw [CV _ _ h2,CV _ _ h1]
 have hargs2:L2 (RA M σ2) xs args:=by
  refine L2.of (by have:=hargs.length;simpa using this) fun i x V hxi hV => ?_
  obtain ⟨V',hV',hR⟩:=hargs.get i (F4 K n L m x) (by rw [List.getElem?_map,hxi];rfl)
  rw [hV] at hV';injection hV' with hV';subst hV'
  have hok:=(List.all_eq_true.1 hx) x (List.mem_of_getElem? hxi)
  unfold O5 at hok
  split at hok
  ·rename_i q off
   by_cases hq:q=K
   ·subst hq
    simp only [F4,Nat.beq_refl,cond_true] at hR
    have hR':V=.pointer (some ⟨(σ n).b,off,none⟩):=hR
    show V=.pointer (some ⟨(σ2 q).b,off,none⟩)
    rw [hK];exact hR'
   have hqb:Nat.beq q K=false:=by
    cases hb:Nat.beq q K with
    | false=>rfl
    | true=>exact absurd (Nat.eq_of_beq_eq_true hb) hq
   rw [hqb] at hok
   have:=Nat.eq_of_beq_eq_true hok
   subst this
   simp only [F4,hqb,Nat.beq_refl,cond_true,cond_false] at hR
   have hR':V=.pointer (some ⟨(σ m).b,off,none⟩):=hR
   show V=.pointer (some ⟨(σ2 q).b,off,none⟩)
   rw [hL];exact hR'
  rename_i hnp
  have:F4 K n L m x=x:=by
   unfold F4
   split
   ·rename_i q off;exact (hnp q off rfl).elim
   rfl
  rw [this] at hR
  exact HO (σ':=σ2) (r:=.av x) hok hR
 refine (h M σ2 w args hs.imm (by rw [hK];exact ⟨hblk σ2 hrest,hnil,hM⟩) (by rw [hL];exact ⟨hblk2 σ2,hnil2,hM2⟩) (by rw [hK,hL];exact hbne) hargs2).mono ?_
 rintro en w' ⟨U,hU,M',hk,hR,hb,hb2⟩
 rw [hK,hL] at hk
 refine ⟨U,hU,M',hk,hR,fun σ' => ?_,fun σ' => ?_⟩
 ·have:=hb σ';rw [hK] at this;exact this
 have:=hb2 σ';rw [hL] at this;exact this
def wqV (n m:Nat) (is:List Nat) (l0:List Cl) (ty:TypeId) (d0:Blk) (r:Tv) (d1:Blk):Ef:=.wq m n fun y x=>match x with
 | .cells l ty'=>bif Nat.beq l.length l0.length then some ([Blk.cells l ty'=.cells (P9 is 0 l l0) ty,y=d0],r,d1) else none
 | _=>none
theorem Iz {f:FuncId} {K L n m:Nat} {xs:List Av} {is:List Nat} {l0:List Cl} {ty:TypeId} {d0 d1:Blk} {r:Tv} {B0:(Nat->Value)->List Cl} (h1:∀ args w,(callFunc f args).run P w=.ok (.enter f args) w) (hx:xs.all (O5 K L)=true) (hKL:Nat.beq K L=false) (hnm:Nat.beq n m=false) (hd2:Jk d0=true) (hdl:∀ vs,(WE is vs 0 l0).all Cl.dv=true)
  (e0:∀ vs,WE is vs 0 l0=B0 vs) (h:∀ vs,Wr2 P f K L xs (.cells (B0 vs) ty) d0 r (.cells (B0 vs) ty) d1):Et P f (xs.map (F4 K n L m)) (wqV n m is l0 ty d0 r d1):=by
 have hnm':n≠m:=fun e=>by rw [e,Nat.beq_refl] at hnm;cases hnm
 refine .inl ⟨h1,fun M σ w hh args cs' g hs hargs hres hc => ?_⟩
 simp only [wqV,res] at hres
 cases hm:hh m with
 | none=>rw [hm] at hres;cases hres
 | some d =>
  cases hn:hh n with
  | none=>rw [hn,hm] at hres;cases hres
  | some b =>
   rw [hn,hm] at hres
   cases b with
   | row=>simp at hres
   | omap=>simp at hres
   | rowx=>simp at hres
   | cells l ty' =>
    simp only at hres
    cases hlen:Nat.beq l.length l0.length with
    | false=>rw [hlen] at hres;simp at hres
    | true =>
     have hmn:Nat.beq m n=false:=by
      cases hb:Nat.beq m n with
      | false=>rfl
      | true=>exact absurd (Nat.eq_of_beq_eq_true hb).symm hnm'
     rw [hlen,hmn] at hres
     simp only [cond_true,Option.some.injEq,Prod.mk.injEq] at hres
     obtain ⟨rfl,rfl⟩:=hres
     have hlen0:=Nat.eq_of_beq_eq_true hlen
     have hbd:=hc.head
     have hdd:=hc.tail.head
     subst hdd
     injection hbd with hl hty
     subst hty
     obtain ⟨hnil,c,hheap,hL⟩:=hs.blk n _ hn
     have hblk2:=hs.blk m _ hm
     have hnil2:(σ m).nil=false:=by
      cases d with
      | row=>cases hd2
      | omap=>cases hd2
      | rowx=>cases hd2
      | cells l ty=>exact hblk2.1
     let vs:Nat->Value:=fun k=>c.getD k undef
     have hvs:∀ j,j<c.length->vs (0+j)=c.getD j undef:=fun j _=>by simp only [vs,Nat.zero_add]
     have hin:L2 (R M σ) (WE is vs 0 l0) c:=Xo is vs 0 l l0 c hl hlen0 hvs (fun _ _=>.inr trivial) hL
     have hcall:=iV (b0:=Blk.cells (B0 vs) ty') (b1:=Blk.cells (B0 vs) ty') hx hKL hnm' hs hn hm hnil hnil2 (fun σ' _=>⟨hnil,c,hheap,by rw [<- e0 vs];exact hin.mono fun a ha v hv=>(KG ((List.all_eq_true.1 (hdl vs)) a ha)).2 ((KG ((List.all_eq_true.1 (hdl vs)) a ha)).1 hv)⟩) (fun σ'=>GK hd2 hblk2) hargs (h vs)
     refine hcall.mono ?_
     rintro en w' ⟨U,hU,M',hk,hR,hb,hb2⟩
     refine ⟨U,hU,fun dst _=>⟨M',σ,Qk hk fun b hb=>hb.symm,rfl,hR σ,hb2 σ,?_⟩⟩
     obtain ⟨k1,c',k2,k3⟩:=hb σ
     refine ⟨k1,c',k2,?_⟩
     rw [<- e0 vs] at k3
     have k4:=Tx is vs hk.sub 0 l l0 c c' hlen0 hvs hL k3
     rw [<- hl] at k4
     exact k4
end
end
section
open Go.RowKit Go.MapKept
def mO (P:Program) (V:Env P) (N:Nat) (o:Oper) (G:Prop) (s:AS):Option (List Prop×AS):=match eff P V o.dst o.op (evG (get s.t) (G9 o.op)) with
 | some e=>match res (get s.h) e with
  | some (cs,g)=>bif Ii N s o.dst g then some (KQ (get s.t) G (G9 o.op)++cs,Uv s o.dst g) else none
  | none=>none
 | none=>none
section
variable {P:Program} {rd:Option Nat} {N:Nat} {W0:World} {X:Nat→Option Loc} {M0:Nat→Option Obj} {s:AS}
theorem Pr {E:TypeId->Option (List Kd)} (hE:KH P ⟨fun _=>none,E,fun _=>false,fun _=>none⟩) {ops:Array Oper} {o:Oper} {l:List Oper} {K:AS->Prop} (j:Nat) (want:Bool) (G:Prop) (qs:List (Nat×(Bool×Nat))) (tbl:List (Nat×FuncId×List Av×Ef)) (cs:List Prop) (S:AS) (hg:o.guard=some (j,want)) (hG:Hk (get s.t) ops j want=some G) (hGp:G) (htbl:HN P tbl)
  (hst:mO P ⟨FG tbl,E,A7 [],get qs⟩ N o G s=some (cs,S)) (hc:Ci cs) (h:AWL P rd N W0 X M0 ops l K S):AWL P rd N W0 X M0 ops (o::l) K s:=by
 have hV:=htbl.env (O:=A7 []) (q:=get qs) hE
 intro M σ a w hs Q' hQ'
 refine wpListIn_step fun K0 hK' => ?_
 rw [if_pos ((Gu hs.tmps hs.room hg hG).2 hGp)]
 unfold mO at hst
 split at hst
 ·rename_i e he
  split at hst
  ·rename_i cs' g hr
   cases hok:Ii N s o.dst g with
   | false=>rw [hok] at hst;cases hst
   | true =>
    rw [hok] at hst
    simp only [cond_true,Option.some.injEq,Prod.mk.injEq] at hst
    obtain ⟨rfl,rfl⟩:=hst
    obtain ⟨hc1,hc2⟩:=hc.append
    have hgo0:=Lo hok (fun n v b hg=>by subst hg;exact WH hr) (fun l v hg=>by subst hg;exact ST hr) (fun n q v b bq hg=>by subst hg;exact WI hr) (fun n b v hg=>by subst hg;exact SU hr)
    refine (XC hV (fun x v hv=>gI hGp hc1 hs.tmps hv) he hs.std hr hc2 (YM hgo0)).wp ?_ (fun c hc=>by rw [hc] at he;cases he)
    rintro U w' ⟨M',σ',ho⟩
    have hsim:=Ov hs ho hgo0
    rw [<- (HG s o.dst g).1,<- (HG s o.dst g).2] at hsim
    exact hK' _ _ (h M' σ' _ w' hsim Q' hQ')
  cases hst
 cases hst
theorem Ps {ops:Array Oper} {o:Oper} {l:List Oper} {K:AS->Prop} (j:Nat) (want:Bool) (G:Prop) (S:AS) (hg:o.guard=some (j,want)) (hG:Hk (get s.t) ops j want=some G) (hGn:¬ G) (hok:Ii N s o.dst (.val (.av (.one (.val (.bool false)))))=true) (hS:Nj s o.dst (.grd G (.one (.val (.bool false))))=S)
  (h:AWL P rd N W0 X M0 ops l K S):AWL P rd N W0 X M0 ops (o::l) K s:=by
 subst hS
 intro M σ a w hs Q' hQ'
 refine wpListIn_step fun K0 hK' => ?_
 rw [if_neg (fun h=>hGn ((Gu hs.tmps hs.room hg hG).1 h))]
 refine ⟨fun _ _=>trivial,?_⟩
 have hgo0:=Lo hok (fun n v b hg=>by cases hg) (fun l v hg=>by cases hg) (fun n q v b bq hg=>by cases hg) (fun n b v hg=>by cases hg)
 have hsim:=Ov hs (g:=.val (.grd G (.one (.val (.bool false))))) (V:=undef) (w':=w) (M':=M) (σ':=σ) ⟨GF.refl hs.imm _,rfl,fun h=>absurd h hGn,fun _=>rfl⟩ ⟨hgo0.1,trivial⟩
 rw [<- (HG s o.dst _).1,<- (HG s o.dst _).2] at hsim
 exact hK' _ _ (h M σ _ w hsim Q' hQ')
end
end
section
open Go.RowKit
def BkN:Blk->Prop
 | .cells l _=>∀ c∈l,NM c
 | .row _ _ f _=>∀ i j,NM (f i j)
 | .omap _ _ _ _ vf=>∀ i j,NM (vf i j)
 | .rowx .. => False
theorem XY {M M':Nat->Option Obj} (h:∀ b c t f,M b=some (.cells c t f)->M' b=some (.cells c t f)) {σ:Nat->Loc} {w:World} {x:Loc} {b:Blk} (hr:Bv M σ w x b) (hn:BkN b):Bv M' σ w x b:=by
 cases b with
 | cells l ty =>
  obtain ⟨h0,c,hc,hl⟩:=hr
  exact ⟨h0,c,hc,hl.mono fun a ha b hb=>Yc h hb (hn a ha)⟩
 | row sz len f ty =>
  rcases hr with hr | ⟨h0,c,hc,h1,h2,h3,g,hg⟩
  ·exact .inl hr
  exact .inr ⟨h0,c,hc,h1,h2,h3,g,fun i j hi hj=>⟨(hg i j hi hj).1,TW h (hg i j hi hj).2 (hn i j)⟩⟩
 | omap agg nv len kf vf =>
  obtain ⟨h0,es,ck,g,hc,h1,h2,h3⟩:=hr
  exact ⟨h0,es,ck,g,hc,h1,h2,fun i j hi hj=>TW h (h3 i j hi hj) (hn i j)⟩
 | rowx=>exact hn.elim
def Blk.isP:Blk->Bool
 | .cells .. => true
 | .omap .. => true
 | _=>false
def Blk.isR:Blk->Bool
 | .row .. => true
 | _=>false
def slV:Value->Bool
 | .slice (some _) _ _=>true
 | _=>false
def Sk (o:Obj) (k:Nat):Option Value:=match o with
 | .cells c _ _=>c[k]?
 | _=>none
def JC (bq off:Nat) (W:World) (b:Nat):Prop:=∃ o len cap,W.heap[bq]? = some o/\Sk o off=some (.slice (some ⟨b,0,none⟩) len cap)
def PY (q off r:Nat) (h:List (Nat×Blk)):Bool:=match get h q with
 | some (.cells l _)=>(match get h r with
  | some (.row ..)=>(match l[off]? with
   | some (.own r' _ _)=>Nat.beq r' r
   | _=>false)
  | none=>(match l[off]? with
   | none=>true
   | some (.val v) => !slV v
   | some (.ptr ..)=>true
   | _=>false)
  | _=>false)
 | _=>false
def PXr (pids:List Nat) (r:Nat) (G:Prop) (X:Nat->Option Loc):Prop:=∀ m x,X m=some x->(∃ q,A7 pids q=true/\∃ y,X q=some y/\y.b=x.b)\/(m=r/\G/\x.nil=false)
section
variable {N:Nat} {W0 W W':World} {X XA:Nat→Option Loc} {M0 M M' M3:Nat→Option Obj} {σ σ' σ3:Nat→Loc} {T T':Nat→Option Tv} {H H':Nat→Option Blk} {a a':Act} {h:List (Nat×Blk)} {q off r:Nat}
theorem S5 (hs:Sim N W0 X M0 M σ T (get h) a W) (hb:PY q off r h=true) {b:Nat} (hh:JC (σ q).b off W b):(∃ x,get h r=some x)/\(σ r).nil=false/\(σ r).b=b:=by
 unfold PY at hb
 cases hq:get h q with
 | none=>rw [hq] at hb;cases hb
 | some bq =>
  rw [hq] at hb
  cases bq with
  | cells l ty =>
   obtain ⟨hn,c,hc,hl⟩:=hs.blk q _ hq
   obtain ⟨o,len,cap,ho,hcell⟩:=hh
   rw [hc] at ho;injection ho with ho;subst ho
   have hcl:c[off]? = some (.slice (some ⟨b,0,none⟩) len cap):=by simpa [Sk] using hcell
   have hoff:off<l.length:=by rw [hl.length];exact (List.getElem?_eq_some_iff.1 hcl).1
   have hcl2:l[off]? = some l[off]:=List.getElem?_eq_getElem hoff
   obtain ⟨v,hv,hR⟩:=hl.get off _ hcl2
   rw [hcl] at hv;injection hv with hv;subst hv
   generalize l[off]=cl at hcl2 hR
   cases hr:get h r with
   | none =>
    simp only [hr,hcl2] at hb
    exfalso
    cases cl with
    | val u =>
     obtain ⟨h1,_⟩:=hR
     subst h1
     simp [slV] at hb
    | ptr n o=>cases hR
    | _=>cases hb
   | some br =>
    simp only [hr,hcl2] at hb
    cases br with
    | row sz len' f ty' =>
     cases cl with
     | own r' sz' len'' =>
      have:=Nat.eq_of_beq_eq_true hb
      subst this
      unfold R at hR
      split at hR
      ·cases hR.2
      rename_i hnil
      injection hR with h1
      injection h1 with h1
      injection h1 with h1
      exact ⟨⟨_,rfl⟩,by simpa using hnil,h1.symm⟩
     | _=>cases hb
    | _=>cases hb
  | _=>cases hb
theorem Uu (hs:Sim N W0 X M0 M σ T (get h) a W) (hb:PY q off r h=true) {x:Blk} (hr:get h r=some x) (hn:(σ r).nil=false):JC (σ q).b off W (σ r).b:=by
 unfold PY at hb
 cases hq:get h q with
 | none=>rw [hq] at hb;cases hb
 | some bq =>
  rw [hq] at hb
  cases bq with
  | cells l ty =>
   obtain ⟨_,c,hc,hl⟩:=hs.blk q _ hq
   simp only [hr] at hb
   cases x with
   | row sz len' f ty' =>
    cases hcl:l[off]? with
    | none=>simp only [hcl] at hb;cases hb
    | some cl =>
     simp only [hcl] at hb
     cases cl with
     | own r' sz' len'' =>
      have:=Nat.eq_of_beq_eq_true hb
      subst this
      obtain ⟨v,hv,hR⟩:=hl.get off _ hcl
      unfold R at hR
      rw [hn] at hR
      exact ⟨_,len'',(σ r').cap,hc,by simp only [Sk,List.getElem?_toArray];rw [hv];exact congrArg some hR⟩
     | _=>cases hb
   | _=>cases hb
  | _=>cases hb
theorem cM {Xr X2:Nat->Option Loc} (hs:Sim N W0 XA M0 M' σ' T H a W) (hr:Sim N W Xr M' M3 σ3 T' H' a' W') (hin:∀ b,inX Xr b->inX XA b\/W0.heap.size<=b)
  {H2:Nat->Option Blk} (hH2:∀ n b,H2 n=some b->H' n=some b) (hH:∀ n b,H2 n=some b->BkN b) {a2:Act} {T2:Nat->Option Tv} (hsz:a2.tmps.size=N) (hT2:∀ i v,T2 i=some v->RT (KF M' M3) σ3 v (a2.tmps.getD i undef)) (hX2:∀ n x,X2 n=some x->N<=n/\σ3 n=x) (hX3:∀ b,inX XA b↔inX X2 b) (hd:IE X2 M0 (KF M' M3) a2.defers) :
  Sim N W0 X2 M0 (KF M' M3) σ3 T2 H2 a2 W':=by
 have hsub:∀ b o,M' b=some o->M3 b=some o:=hr.sub
 refine ⟨hr.os.trans hs.os,hr.tape.trans hs.tape,hr.output.trans hs.output,Nat.le_trans hs.size hr.size,fun b hb hx => ?_,fun b o h=>Q5 (hs.sub b o h),fun b o h h' => ?_,hX2,hd,hsz,hT2,fun b o h=>hr.imm b o (H7 hsub h),fun n b h=>XY (Pm hsub) (hr.blk n b (hH2 n b h)) (hH n b h),fun n b h => ?_,fun n m b c hb hc hne=>hr.inj n m b c (hH2 n b hb) (hH2 m c hc) hne⟩
 ·have h1:¬ inX XA b:=fun h=>hx ((hX3 b).1 h)
  refine (hr.old b (Nat.lt_of_lt_of_le hb hs.size) fun h => ?_).trans (hs.old b hb h1)
  rcases hin b h with h | h
  ·exact h1 h
  omega
 ·cases h1:M' b with
  | some o'=>exact hs.new b o' h1 h'
  | none=>exact Nat.le_trans hs.size (hr.new b o (H7 hsub h) h1)
 refine (hr.loc n b (hH2 n b h)).imp id fun h=>⟨?_,?_⟩
 ·cases hc:KF M' M3 (σ3 n).b with
  | none=>rfl
  | some o=>have:=H7 hsub hc;rw [h.1] at this;cases this
 rcases h.2 with h | h
 ·exact .inl (Nat.le_trans hs.size h)
 rcases hin _ h with h | h
 ·exact .inr ((hX3 _).1 h)
 exact .inl h
theorem WB (hs:Sim N W0 X M0 M σ T H a W) {row:Option Nat} (hH:∀ n b,H n=some b->b.isM=true->∀ r,row=some r->(σ n).b<r) (hg:W.grownBy W' row) (hr:∀ r,row=some r->W0.heap.size<=r/\(∃ o:Obj,W.heap[r]? = some o/\o.isCells=false)/\M r=none):Sim N W0 X M0 M σ T H a W':=by
 have hsame:∀ b (o:Obj),W.heap[b]? = some o->(o.isCells=true\/M b=some o\/b<W0.heap.size)->W'.heap[b]? = some o:=fun b o hb hc=>by
  refine (hg.block b (Array.getElem?_eq_some_iff.1 hb).1 fun e => ?_).trans hb
  obtain ⟨h1,⟨o',h2,h3⟩,h4⟩:=hr b e.symm
  rw [hb] at h2;injection h2 with h2;subst h2
  rcases hc with h | h | h
  ·rw [h3] at h;cases h
  ·rw [h4] at h;cases h
  omega
 refine ⟨hg.os.trans hs.os,hg.tape.trans hs.tape,hg.output.trans hs.output,Nat.le_trans hs.size hg.size,fun b hb hx => ?_,hs.sub,hs.new,hs.pin,hs.defers,hs.room,hs.tmps,fun b o h=>hsame b o (hs.imm b o h) (.inr (.inl h)),fun n b h => ?_,hs.loc,hs.inj⟩
 ·have h1:=hs.old b hb hx
  have h2:W0.heap[b]? = some W0.heap[b]:=Array.getElem?_eq_getElem hb
  rw [h2] at h1 ⊢
  exact hsame b _ h1 (.inr (.inr hb))
 refine (hs.blk n b h).mono (fun _ _ h=>h) (fun _ _=>rfl) fun hn => ?_
 have hb:=hs.blk n b h
 cases b with
 | cells l ty=>obtain ⟨_,c,hc,_⟩:=hb;rw [hc];exact hsame _ _ hc (.inl rfl)
 | row sz len f ty =>
  rcases hb with ⟨h0,_⟩ | ⟨_,c,hc,_⟩
  ·rw [hn] at h0;cases h0
  rw [hc];exact hsame _ _ hc (.inl rfl)
 | omap =>
  obtain ⟨_,es,ck,g,hc,_⟩:=hb
  exact hg.block _ (Array.getElem?_eq_some_iff.1 hc).1 fun e=>by have:=hH n _ h rfl _ e.symm;omega
 | rowx sz len f ty hh=>obtain ⟨_,c,hc,_⟩:=hb;rw [hc];exact hsame _ _ hc (.inl rfl)
theorem QO {fid:Nat} {XB:Nat->Option Loc} {σ2:Nat->Loc} (hs:Sim N W0 XA M0 M' σ' T H a W) {a2:Act} (hd:a2.defers=[]) (hr:a2.tmps.size=N) (hpin:∀ n x,XB n=some x->N<=n/\σ2 n=x) (hσ:∀ n,n≠fid->σ2 n=σ' n)
  (hT:∀ i v,T' i=some v->RT M' σ' v (a2.tmps.getD i undef)/\v.no fid=true) (hHf:∀ n b,H n=some b->n≠fid/\b.no fid=true/\((σ' n).nil=true\/inX XB (σ' n).b)):Sim N W XB M' M' σ2 T' H a2 W:=by
 refine ⟨rfl,rfl,rfl,Nat.le_refl _,fun _ _ _=>rfl,fun _ _ h=>h,fun b o h h'=>by (rw [h] at h';cases h'),hpin,⟨by rw [hd];trivial,fun _=>hd⟩,hr,fun i v hv=>Dp (fun _ _ h=>h) (fun d hd=>hσ d fun e => ?_) (hT i v hv).1,hs.imm,fun n b hb => ?_,fun n b hb => ?_,fun n m b c hb hc hne => ?_⟩
 ·subst e;rw [(hT i v hv).2] at hd;cases hd
 ·obtain ⟨h1,h2,h3⟩:=hHf n b hb
  rw [hσ n h1]
  exact (hs.blk n b hb).mono (fun _ _ h=>h) (fun d hd=>hσ d fun e=>by subst e;rw [h2] at hd;cases hd) (fun _=>rfl)
 ·obtain ⟨h1,h2,h3⟩:=hHf n b hb
  rw [hσ n h1]
  rcases hs.loc n b hb with h4 | h4
  ·exact .inl h4
  exact h3.imp id fun h=>⟨h4.1,.inr h⟩
 rw [hσ n (hHf n b hb).1,hσ m (hHf m c hc).1]
 exact hs.inj n m b c hb hc hne
end
end
section
open Go.RowKit
def Xu (N:Nat) (pids:List Nat) (fid q r:Nat) (t0:List (Nat×Tv)) (ps:Array Tmp):Bool :=
 t0.all (fun p=>pvT pids p.2)&&(pids.all (fun m=>Nat.ble N m)&&(!A7 pids fid&&(!A7 pids r&&(!Nat.beq r fid&&(Nat.ble N fid&&(Nat.ble N r&&(A7 pids q&&ps.toList.all (fun p=>Nat.blt p N))))))))
def famB (pids:List Nat) (fid q off r:Nat) (h:List (Nat×Blk)):Bool :=
 h.all (fun p=>(A7 pids p.1&&p.2.isP||Nat.beq p.1 r&&p.2.isR)&&p.2.no fid)&&(pids.all (fun m=>(get h m).isSome)&&PY q off r h)
def HsN (h:List (Nat×Blk)):Prop:=∀ n b,get h n=some b->BkN b
theorem VB {l:List Cl} {ty:TypeId} (h:∀ c∈l,NM c):BkN (.cells l ty):=h
theorem bkN_r {α:Type} [Inhabited α] {sz len:Nat} {c:α->List Cl} {xs:List α} {ty:TypeId} (h:∀ x,∀ y∈c x,NM y):BkN (.row sz len (AU c xs) ty):=fun i j=>by
 unfold AU
 rw [List.getD_eq_getElem?_getD]
 cases hj:(c (xs.getD i default))[j]? with
 | none=>exact .val _
 | some y=>exact h _ y (List.mem_of_getElem? hj)
theorem nC {κ α:Type} [Inhabited κ] [Inhabited α] {agg:Bool} {nv len:Nat} {kf:Nat->Value} {c:α->List Cl} {xs:List (κ×α)} (h:∀ x,∀ y∈c x,NM y):BkN (.omap agg nv len kf (vfG c xs)):=fun i j=>by
 unfold vfG
 rw [List.getD_eq_getElem?_getD]
 cases hj:(c (xs.getD i default).2)[j]? with
 | none=>exact .val _
 | some y=>exact h _ y (List.mem_of_getElem? hj)
def iI (pids:List Nat) (n r:Nat) (s:AS):Bool := !Nat.beq r n&&pids.all fun q => !Nat.beq q n&&match get s.h q with | some (.cells ..)=>true | some (.omap ..)=>true | _=>false
section
variable {P:Program} {N:Nat} {W0:World} {X:Nat→Option Loc} {M0:Nat→Option Obj} {s:AS}
theorem Pl (S:AS) (n:Nat) (l:List Cl) (ty:TypeId) (pids:List Nat) (r:Nat) {G:Prop} (hX:PXr pids r G X) (hK:iI pids n r s=true) (hG:G->∃ b,get s.h r=some b) (hn:get s.h n=some (.cells l ty)) (hdv:l.all Cl.dv=true) (hS:fxS n l s=S):Cv N W0 X M0 s S:=by
 subst hS
 intro M σ a w hs
 simp only [iI,Bool.and_eq_true,Bool.not_eq_true'] at hK
 obtain ⟨hrn,hK⟩:=hK
 obtain ⟨M',h1⟩:=Xn n l ty (fun hnil=>by
  rintro ⟨m,x,h1,h2⟩
  exfalso
  have key:∀ q y bk,q≠n->X q=some y->y.b=x.b->(σ q).nil=false->get s.h q=some bk->False:=fun q y bk hqn hy hyx h4 hb=>by
   have h5:=(hs.pin q y hy).2
   rcases hs.inj q n _ _ hb hn hqn with h6 | h6 | h6
   ·rw [h4] at h6;cases h6
   ·rw [hnil] at h6;cases h6
   exact h6 (by rw [h5,hyx,h2])
  rcases hX m x h1 with ⟨q,hq,y,hy,hyx⟩ | ⟨rfl,hg,hxn⟩
  ·have h3:=List.all_eq_true.1 hK q (J1 hq)
   simp only [Bool.and_eq_true,Bool.not_eq_true'] at h3
   have hqn:q≠n:=fun e=>by have:=h3.1;rw [e,Nat.beq_refl] at this;cases this
   cases hb:get s.h q with
   | none=>rw [hb] at h3;cases h3.2
   | some bk =>
    rw [hb] at h3
    refine key q y bk hqn hy hyx ?_ hb
    have h4:=hs.blk q _ hb
    cases bk with
    | row=>cases h3.2
    | rowx=>cases h3.2
    | omap=>exact h4.1
    | cells lq tq=>exact h4.1
  obtain ⟨bk,hb⟩:=hG hg
  refine key m x bk (fun e=>by rw [e,Nat.beq_refl] at hrn;cases hrn) h1 rfl ?_ hb
  rw [(hs.pin m x h1).2];exact hxn) hn hdv hs
 exact ⟨M',σ,h1⟩
end
end
section
open Go.RowKit
theorem Ld:Tryz.prog.follows .mixedOrders=true:=by kernel_rfl
structure AE where
 X:Int
 Y:Int
 deriving Inhabited
def AE.c (x:AE):List Cl:=[.i x.X,.i x.Y]
structure Ac where
 At:AE
 Turn:Int
 Mirror:Bool
 deriving Inhabited
def Ac.c (x:Ac):List Cl:=[.i x.At.X,.i x.At.Y,.i x.Turn,.b x.Mirror]
structure AN where
 Kind:Int
 A:AE
 B:AE
 C:AE
 deriving Inhabited
def AN.c (x:AN):List Cl:=[.i x.Kind,.i x.A.X,.i x.A.Y,.i x.B.X,.i x.B.Y,.i x.C.X,.i x.C.Y]
structure Al where
 X0:Int
 Y0:Int
 X1:Int
 Y1:Int
 deriving Inhabited
def Al.c (x:Al):List Cl:=[.i x.X0,.i x.Y0,.i x.X1,.i x.Y1]
structure AD where
 L:(List Int)
 At:Int
 deriving Inhabited
def AD.c (x:AD):List Cl:=[lst 1 (fun x=>[.i x]) x.L,.i x.At]
structure OpL where
 len:Nat
 f:Nat->Nat->Cl
 deriving Inhabited
abbrev opL (x:OpL):Cl:=.list false 8 x.len x.f
structure AX where
 Ref:ByteArray
 Pad:ByteArray
 deriving Inhabited
def AX.c (x:AX):List Cl:=[.s x.Ref,.s x.Pad]
structure BA where
 Name:ByteArray
 Pins:(List AX)
 deriving Inhabited
def BA.c (x:BA):List Cl:=[.s x.Name,lst 2 AX.c x.Pins]
structure AF where
 Id:Int
 Ref:ByteArray
 Type':ByteArray
 At:AE
 Turn:Int
 Under:Bool
 deriving Inhabited
def AF.c (x:AF):List Cl:=[.i x.Id,.s x.Ref,.s x.Type',.i x.At.X,.i x.At.Y,.i x.Turn,.b x.Under]
structure An where
 Kind:Int
 Edges:(List AN)
 R:Int
 deriving Inhabited
def An.c (x:An):List Cl:=[.i x.Kind,lst 7 AN.c x.Edges,.i x.R]
structure BL where
 Name:ByteArray
 Shape:An
 At:AE
 Drill:Int
 deriving Inhabited
def BL.c (x:BL):List Cl:=[.s x.Name,.i x.Shape.Kind,lst 7 AN.c x.Shape.Edges,.i x.Shape.R,.i x.At.X,.i x.At.Y,.i x.Drill]
structure CA where
 Pad:ByteArray
 Group:Int
 deriving Inhabited
def CA.c (x:CA):List Cl:=[.s x.Pad,.i x.Group]
structure BO where
 Kind:Int
 Legs:(List CA)
 deriving Inhabited
def BO.c (x:BO):List Cl:=[.i x.Kind,lst 2 CA.c x.Legs]
structure AV where
 Name:ByteArray
 Pads:(List BL)
 Gates:(List BO)
 deriving Inhabited
def AV.c (x:AV):List Cl:=[.s x.Name,lst 7 BL.c x.Pads,lst 2 BO.c x.Gates]
structure Aq where
 Id:Int
 Net:ByteArray
 Layer:Int
 Shape:An
 deriving Inhabited
def Aq.c (x:Aq):List Cl:=[.i x.Id,.s x.Net,.i x.Layer,.i x.Shape.Kind,lst 7 AN.c x.Shape.Edges,.i x.Shape.R]
structure Bx where
 Id:Int
 Net:ByteArray
 At:AE
 R:Int
 Drill:Int
 From:Int
 To:Int
 deriving Inhabited
def Bx.c (x:Bx):List Cl:=[.i x.Id,.s x.Net,.i x.At.X,.i x.At.Y,.i x.R,.i x.Drill,.i x.From,.i x.To]
structure A8 where
 Id:Int
 Net:ByteArray
 Layer:Int
 Pitch:Int
 Priority:Int
 Relief:Int
 Spoke:Int
 Rects:(List Al)
 deriving Inhabited
def A8.c (x:A8):List Cl:=[.i x.Id,.s x.Net,.i x.Layer,.i x.Pitch,.i x.Priority,.i x.Relief,.i x.Spoke,lst 4 Al.c x.Rects]
structure BR where
 Id:Int
 Layer:Int
 Shape:An
 deriving Inhabited
def BR.c (x:BR):List Cl:=[.i x.Id,.i x.Layer,.i x.Shape.Kind,lst 7 AN.c x.Shape.Edges,.i x.Shape.R]
structure Bq where
 Id:Int
 Shape:An
 deriving Inhabited
def Bq.c (x:Bq):List Cl:=[.i x.Id,.i x.Shape.Kind,lst 7 AN.c x.Shape.Edges,.i x.Shape.R]
structure BS where
 Name:ByteArray
 Nets:(List ByteArray)
 deriving Inhabited
def BS.c (x:BS):List Cl:=[.s x.Name,lst 1 (fun x=>[.s x]) x.Nets]
structure Bt where
 Op:Int
 Text:ByteArray
 N:Int
 Box:Al
 L:OpL
 deriving Inhabited
def Bt.c (x:Bt):List Cl:=[.i x.Op,.s x.Text,.i x.N,.i x.Box.X0,.i x.Box.Y0,.i x.Box.X1,.i x.Box.Y1,opL x.L]
structure A1 where
 Name:ByteArray
 Priority:Int
 What:Int
 A:Bt
 B:Bt
 Value:Int
 deriving Inhabited
def A1.c (x:A1):List Cl:=[.s x.Name,.i x.Priority,.i x.What,.i x.A.Op,.s x.A.Text,.i x.A.N,.i x.A.Box.X0,.i x.A.Box.Y0,.i x.A.Box.X1,.i x.A.Box.Y1,opL x.A.L,.i x.B.Op,.s x.B.Text,.i x.B.N,.i x.B.Box.X0,.i x.B.Box.Y0,.i x.B.Box.X1,.i x.B.Box.Y1,opL x.B.L,.i x.Value]
structure BM where
 A:Int
 B:Int
 Rule:ByteArray
 deriving Inhabited
def BM.c (x:BM):List Cl:=[.i x.A,.i x.B,.s x.Rule]
structure Bb where
 Name:ByteArray
 Nets:(List ByteArray)
 Within:Int
 deriving Inhabited
def Bb.c (x:Bb):List Cl:=[.s x.Name,lst 1 (fun x=>[.s x]) x.Nets,.i x.Within]
structure AC where
 Layers:Int
 Outline:An
 Parts:(List AF)
 Nets:(List BA)
 Tracks:(List Aq)
 Vias:(List Bx)
 Pours:(List A8)
 Keeps:(List BR)
 Slots:(List Bq)
 Classes:(List BS)
 Rules:(List A1)
 Waivers:(List BM)
 Matches:(List Bb)
 deriving Inhabited
def AC.c (x:AC):List Cl:=[.i x.Layers,.i x.Outline.Kind,lst 7 AN.c x.Outline.Edges,.i x.Outline.R,lst 7 AF.c x.Parts,lst 2 BA.c x.Nets,lst 6 Aq.c x.Tracks,lst 8 Bx.c x.Vias,lst 8 A8.c x.Pours,lst 5 BR.c x.Keeps,lst 4 Bq.c x.Slots,lst 2 BS.c x.Classes,lst 20 A1.c x.Rules,lst 3 BM.c x.Waivers,lst 3 Bb.c x.Matches]
structure BC where
 Id:Int
 Pad:ByteArray
 Kind:Int
 Net:ByteArray
 From:Int
 To:Int
 Shape:An
 deriving Inhabited
def BC.c (x:BC):List Cl:=[.i x.Id,.s x.Pad,.i x.Kind,.s x.Net,.i x.From,.i x.To,.i x.Shape.Kind,lst 7 AN.c x.Shape.Edges,.i x.Shape.R]
structure nD where
 deriving Inhabited
def nD.c (x:nD):List Cl:=[]
structure DM where
 e0:Int
 e1:Int
 e2:Int
 deriving Inhabited
def DM.c (x:DM):List Cl:=[.i x.e0,.i x.e1,.i x.e2]
def eqE:TypeId->Option (List Kd):=fun T=>get [(47,[.int .i64,.int .i64]),(51,[.int .i64,.int .i64,.int .i64,.bool]),(65,[.str,.str]),(74,[.int .i64,.int .i64,.int .i64,.int .i64]),(136,[.int .i64,.int .i64,.int .i64,.int .i64,.int .i64,.int .i64,.int .i64])] T
theorem Dh:KH Tryz.prog ⟨fun _=>none,eqE,fun _=>false,fun _=>none⟩:=by
 intro T ks h
 have hm:(T,ks)∈_:=C9 h
 simp only [List.mem_cons,Prod.mk.injEq,List.not_mem_nil,or_false] at hm
 rcases hm with ⟨rfl,rfl⟩ | ⟨rfl,rfl⟩ | ⟨rfl,rfl⟩ | ⟨rfl,rfl⟩ | ⟨rfl,rfl⟩
 all_goals exact ⟨by kernel_rfl,by kernel_rfl,_,rfl,rfl⟩
theorem rg {rd:Option Nat} {N:Nat} {W0:World} {X:Nat→Option Loc} {M0:Nat→Option Obj} {Q:Exit→AS→Prop} {s:AS} {id:Nat} {l:List Oper} (S:AS) (h:Q .normal S) (hr:O2 Tryz.prog ⟨FG [],eqE,A7 [],get []⟩ N l (S.t.map Prod.fst) (S.h.map Prod.fst) s=some ([],S):=by kernel_rfl):AWp Tryz.prog rd N W0 X M0 (.region id l.toArray false) Q s:=DP Dh [] [] [] _ _ [] S .nil hr .nil h
theorem rn {rd:Option Nat} {N:Nat} {W0:World} {X:Nat→Option Loc} {M0:Nat→Option Obj} {K:AS→Prop} {Q:Exit→AS→Prop} {s:AS} {id:Nat} {l:List Oper} (S:AS) (h:K S) (hr:O2 Tryz.prog ⟨FG [],eqE,A7 [],get []⟩ N l (S.t.map Prod.fst) (S.h.map Prod.fst) s=some ([],S):=by kernel_rfl):AWp Tryz.prog rd N W0 X M0 (.region id l.toArray false) (ATh K Q) s:=rg S (AG h) hr
theorem rc {rd:Option Nat} {N:Nat} {W0:World} {X:Nat→Option Loc} {M0:Nat→Option Obj} {Q:Exit→AS→Prop} {s:AS} {id:Nat} {l:List Oper} (tbl:List (Nat×FuncId×List Av×Ef)) (cs:List Prop) (S:AS) (htbl:HN Tryz.prog tbl) (hc:Ci cs) (h:Q .normal S) (hr:O2 Tryz.prog ⟨FG tbl,eqE,A7 [],get []⟩ N l (S.t.map Prod.fst) (S.h.map Prod.fst) s=some (cs,S):=by kernel_rfl):AWp Tryz.prog rd N W0 X M0 (.region id l.toArray false) Q s:=DP Dh [] [] tbl _ _ cs S htbl hr hc h
abbrev gi (c:Bool):Prop:=c=false→c=false
abbrev gt (c:Bool):Prop:=c=true→c=true
abbrev gj (c:Bool) (p:Prop):Prop:=c=false→p
abbrev gk (c:Bool) (p:Prop):Prop:=c=true→p
theorem ci {p:Prop} {l:List Prop} (h:Ci l):Ci ((p→p)::l):=.cons id h
abbrev tO (c:Cl):Tv:=.av (.one c)
abbrev gD (l:List Cl):Nat→Nat→Cl:=fun _ j_=>l.getD j_ default
theorem rr {a:Cl} {x y:List Cl} (h:L2 ClE x y):L2 ClE (a::x) (a::y):=.cons (.refl _) h
theorem oT {p:Prop} [Decidable p] (h:decide p=true):p:=of_decide_eq_true h
theorem oF {p:Prop} [Decidable p] (h:decide p=false):¬ p:=of_decide_eq_false h
theorem vk {N:Nat} {W0:World} {X:Nat→Option Loc} {M0:Nat→Option Obj} {s:AS} (ts ns:List Nat):Cv N W0 X M0 s (KT ts ns s):=CD ts ns _ rfl
theorem ck {N:Nat} {W0:World} {X:Nat→Option Loc} {M0:Nat→Option Obj} {s:AS} (S:AS) (h:KT (S.t.map Prod.fst) (S.h.map Prod.fst) s=S:=by kernel_rfl):Cv N W0 X M0 s S:=CD _ _ S h
theorem wr {N:Nat} {W0:World} {X:Nat→Option Loc} {M0:Nat→Option Obj} {s:AS} {K:List Nat} (S:AS) (q d:Nat) (hX:C5 X W0 K) (h1:Mg K q=true:=by kernel_rfl) (h2:Mg K d=true:=by kernel_rfl) (hd:noD d s=true:=by kernel_rfl) (hS:jK q d s=S:=by kernel_rfl):Cv N W0 X M0 s S:=CK S q d hX h1 h2 hd hS
theorem vr {N:Nat} {W0:World} {X:Nat→Option Loc} {M0:Nat→Option Obj} {s:AS} {K:List Nat} (q d:Nat) (hX:C5 X W0 K) (h1:Mg K q=true:=by kernel_rfl) (h2:Mg K d=true:=by kernel_rfl) (hd:noD d s=true:=by kernel_rfl):Cv N W0 X M0 s (jK q d s):=wr _ q d hX h1 h2 hd rfl
theorem vf {N:Nat} {W0:World} {X:Nat→Option Loc} {M0:Nat→Option Obj} {s:AS} {K:List Nat} (n:Nat) (hX:C5 X W0 K) (hk:fzK K n s=true:=by kernel_rfl) (he:prS n s=fzE n s:=by kernel_rfl):Cv N W0 X M0 s (fzN n s):=XF n hX hk he
theorem wg {N:Nat} {W0:World} {X:Nat→Option Loc} {M0:Nat→Option Obj} {s:AS} {K:List Nat} (S:AS) (d sz:Nat) (f:Nat→Nat→Cl) (ty:TypeId) (it ih:List (Nat×List Nat)) (hX:C5 X W0 K) (h2:Mg K d=true:=by kernel_rfl) (hd:noD d s=true:=by kernel_rfl) (hS:ghS d sz f ty it ih s=S:=by kernel_rfl):Cv N W0 X M0 s S:=Ft S d sz f ty it ih hX h2 hd hS
theorem vg {N:Nat} {W0:World} {X:Nat→Option Loc} {M0:Nat→Option Obj} {s:AS} {K:List Nat} (d sz:Nat) (f:Nat→Nat→Cl) (ty:TypeId) (it ih:List (Nat×List Nat)) (hX:C5 X W0 K) (h2:Mg K d=true:=by kernel_rfl) (hd:noD d s=true:=by kernel_rfl):Cv N W0 X M0 s (ghS d sz f ty it ih s):=wg _ d sz f ty it ih hX h2 hd rfl
theorem rs {rd:Option Nat} {N:Nat} {W0:World} {X:Nat→Option Loc} {M0:Nat→Option Obj} {Q:Exit→AS→Prop} {s:AS} {id:Nat} {l:List Oper} (d:Nat) (c:FuncId×List Av×Ef) (S:AS) (hx:Et Tryz.prog c.1 c.2.1 c.2.2) (h:Q .normal S) (hr:O2 Tryz.prog ⟨FG [(d,c)],eqE,A7 [],get []⟩ N l (S.t.map Prod.fst) (S.h.map Prod.fst) s=some ([Ay c.2.1],S):=by kernel_rfl):AWp Tryz.prog rd N W0 X M0 (.region id l.toArray false) Q s:=rc _ _ S (.cons hx .nil) (.cons rfl .nil) h hr
theorem rb {rd:Option Nat} {N:Nat} {W0:World} {X:Nat→Option Loc} {M0:Nat→Option Obj} {Q:Exit→AS→Prop} {s:AS} {id:Nat} {l:List Oper} (d:Nat) (c:FuncId×List Av×Ef) (b:Blk) (S:AS) (hx:Et Tryz.prog c.1 c.2.1 c.2.2) (h:Q .normal S) (hr:O2 Tryz.prog ⟨FG [(d,c)],eqE,A7 [],get []⟩ N l (S.t.map Prod.fst) (S.h.map Prod.fst) s=some ([Ay c.2.1,CH b],S):=by kernel_rfl):AWp Tryz.prog rd N W0 X M0 (.region id l.toArray false) Q s:=rc _ _ S (.cons hx .nil) (.cons rfl (.cons rfl .nil)) h hr
theorem nz {a:Nat} {p:Prop} (h:a<0):p:=absurd h (Nat.not_lt_zero _)
abbrev gp (p:Prop):Prop:=p→p
abbrev t2 (c:Bool) (l:List Prop):List Prop:=gt c::gt c::l
abbrev i2 (c:Bool) (l:List Prop):List Prop:=gi c::gi c::l
theorem c2 {p:Prop} {l:List Prop} (h:Ci l):Ci ((p→p)::(p→p)::l):=ci (ci h)
abbrev t3 (c:Bool) (l:List Prop):List Prop:=gt c::gt c::gt c::l
abbrev i3 (c:Bool) (l:List Prop):List Prop:=gi c::gi c::gi c::l
theorem c3 {p:Prop} {l:List Prop} (h:Ci l):Ci ((p→p)::(p→p)::(p→p)::l):=ci (ci (ci h))
abbrev t4 (c:Bool) (l:List Prop):List Prop:=gt c::gt c::gt c::gt c::l
abbrev i4 (c:Bool) (l:List Prop):List Prop:=gi c::gi c::gi c::gi c::l
theorem c4 {p:Prop} {l:List Prop} (h:Ci l):Ci ((p→p)::(p→p)::(p→p)::(p→p)::l):=ci (ci (ci (ci h)))
abbrev t5 (c:Bool) (l:List Prop):List Prop:=gt c::gt c::gt c::gt c::gt c::l
abbrev i5 (c:Bool) (l:List Prop):List Prop:=gi c::gi c::gi c::gi c::gi c::l
theorem c5 {p:Prop} {l:List Prop} (h:Ci l):Ci ((p→p)::(p→p)::(p→p)::(p→p)::(p→p)::l):=ci (ci (ci (ci (ci h))))
theorem xl {P:Program} {N:Nat} {W0:World} {X:Nat→Option Loc} {M0:Nat→Option Obj} {fn:Func} {φ:Tv→AS→Prop} {s:AS} (V:Tv) (h:φ V s) (hr:O4 P s fn.results.toList=some V:=by kernel_rfl):LP P N W0 X M0 fn φ .ret s:=⟨_,Cv.refl _,.inl rfl,V,hr,h⟩
theorem xn {P:Program} {N:Nat} {W0:World} {X:Nat→Option Loc} {M0:Nat→Option Obj} {fn:Func} {φ:Tv→AS→Prop} {s:AS} (V:Tv) (h:φ V s) (hr:O4 P s fn.results.toList=some V:=by kernel_rfl):LP P N W0 X M0 fn φ .normal s:=⟨_,Cv.refl _,.inr rfl,V,hr,h⟩
theorem yl {P:Program} {N:Nat} {W0:World} {X:Nat→Option Loc} {M0:Nat→Option Obj} {fn:Func} {φ:Tv→AS→Prop} {s t:AS} (cv:Cv N W0 X M0 s t) (V:Tv) (h:φ V t) (hr:O4 P t fn.results.toList=some V:=by kernel_rfl):LP P N W0 X M0 fn φ .ret s:=⟨_,cv,.inl rfl,V,hr,h⟩
theorem yn {P:Program} {N:Nat} {W0:World} {X:Nat→Option Loc} {M0:Nat→Option Obj} {fn:Func} {φ:Tv→AS→Prop} {s t:AS} (cv:Cv N W0 X M0 s t) (V:Tv) (h:φ V t) (hr:O4 P t fn.results.toList=some V:=by kernel_rfl):LP P N W0 X M0 fn φ .normal s:=⟨_,cv,.inr rfl,V,hr,h⟩
theorem dw {rd:Option Nat} {N:Nat} {W0:World} {X:Nat→Option Loc} {M0:Nat→Option Obj} {Q:Exit→AS→Prop} {s:AS} {id:Nat} {l:List Oper} (ow:List Nat) (tbl:List (Nat×FuncId×List Av×Ef)) (cs:List Prop) (S:AS) (htbl:HN Tryz.prog tbl) (hc:Ci cs) (h:Q .normal S) (hr:O2 Tryz.prog ⟨FG tbl,eqE,A7 ow,get []⟩ N l (S.t.map Prod.fst) (S.h.map Prod.fst) s=some (cs,S):=by kernel_rfl) (hd:U8 Tryz.prog ⟨FG tbl,eqE,A7 ow,get []⟩ N l s=true:=by kernel_rfl):AWp Tryz.prog rd N W0 X M0 (.region id l.toArray true) Q s:=TT Ld Dh ow [] tbl _ _ cs S htbl hr hd hc h
def runW (P:Program) (V:Env P) (N:Nat) (l:List Oper) (s:AS):AS:=match Kw P V N l.toArray l s with
  | some (_,t)=>t
  | none=>s
def runC (P:Program) (V:Env P) (N:Nat) (l:List Oper) (s:AS):Option (List Prop):=match Kw P V N l.toArray l s with
  | some (c,_)=>some c
  | none=>none
theorem runWC {P:Program} {V:Env P} {N:Nat} {l:List Oper} {s:AS} {c:List Prop} (h:runC P V N l s=some c):Kw P V N l.toArray l s=some (c,runW P V N l s):=by
  unfold runC at h
  unfold runW
  split at h
  · rename_i h1
    rw [h1]
    injection h with h
    subst h
    rfl
  · cases h
theorem oc {rd:Option Nat} {N:Nat} {W0:World} {X:Nat→Option Loc} {M0:Nat→Option Obj} {Q:Exit→AS→Prop} {s:AS} {id:Nat} {l:List Oper} (tbl:List (Nat×FuncId×List Av×Ef)) (cs:List Prop) (htbl:HN Tryz.prog tbl) (hc:Ci cs) (h:Q .normal (runW Tryz.prog ⟨FG tbl,eqE,A7 [],get []⟩ N l s)) (hr:runC Tryz.prog ⟨FG tbl,eqE,A7 [],get []⟩ N l s=some cs:=by kernel_rfl):AWp Tryz.prog rd N W0 X M0 (.region id l.toArray false) Q s:=by
  have hV:=htbl.env (O:=A7 []) (q:=get []) Dh
  intro M σ a w hs
  exact wpIn_region_lit (Nq hV l s _ cs (runWC hr) hc M σ a w hs fun M' σ' a' w' hs'=>⟨_,M',σ',h,hs'⟩)
theorem og {rd:Option Nat} {N:Nat} {W0:World} {X:Nat→Option Loc} {M0:Nat→Option Obj} {Q:Exit→AS→Prop} {s:AS} {id:Nat} {l:List Oper} (h:Q .normal (runW Tryz.prog ⟨FG [],eqE,A7 [],get []⟩ N l s)) (hr:runC Tryz.prog ⟨FG [],eqE,A7 [],get []⟩ N l s=some []:=by kernel_rfl):AWp Tryz.prog rd N W0 X M0 (.region id l.toArray false) Q s:=oc [] [] .nil .nil h hr
theorem on {rd:Option Nat} {N:Nat} {W0:World} {X:Nat→Option Loc} {M0:Nat→Option Obj} {K:AS→Prop} {Q:Exit→AS→Prop} {s:AS} {id:Nat} {l:List Oper} (h:K (runW Tryz.prog ⟨FG [],eqE,A7 [],get []⟩ N l s)) (hr:runC Tryz.prog ⟨FG [],eqE,A7 [],get []⟩ N l s=some []:=by kernel_rfl):AWp Tryz.prog rd N W0 X M0 (.region id l.toArray false) (ATh K Q) s:=og (AG h) hr
theorem oq {rd:Option Nat} {N:Nat} {W0:World} {X:Nat→Option Loc} {M0:Nat→Option Obj} {Q:Exit→AS→Prop} {s:AS} {id:Nat} {l:List Oper} (d:Nat) (c:FuncId×List Av×Ef) (hx:Et Tryz.prog c.1 c.2.1 c.2.2) (h:Q .normal (runW Tryz.prog ⟨FG [(d,c)],eqE,A7 [],get []⟩ N l s)) (hr:runC Tryz.prog ⟨FG [(d,c)],eqE,A7 [],get []⟩ N l s=some [Ay c.2.1]:=by kernel_rfl):AWp Tryz.prog rd N W0 X M0 (.region id l.toArray false) Q s:=oc [(d,c)] [Ay c.2.1] (.cons hx .nil) (.cons rfl .nil) h hr
theorem od {rd:Option Nat} {N:Nat} {W0:World} {X:Nat→Option Loc} {M0:Nat→Option Obj} {Q:Exit→AS→Prop} {s:AS} {id:Nat} {l:List Oper} (ow:List Nat) (tbl:List (Nat×FuncId×List Av×Ef)) (cs:List Prop) (htbl:HN Tryz.prog tbl) (hc:Ci cs) (h:Q .normal (KT (runW Tryz.prog ⟨FG tbl,eqE,A7 ow,get []⟩ N l s |>.t.map Prod.fst) (runW Tryz.prog ⟨FG tbl,eqE,A7 ow,get []⟩ N l s |>.h.map Prod.fst) (runW Tryz.prog ⟨FG tbl,eqE,A7 ow,get []⟩ N l s))) (hr:runC Tryz.prog ⟨FG tbl,eqE,A7 ow,get []⟩ N l s=some cs:=by kernel_rfl) (hd:U8 Tryz.prog ⟨FG tbl,eqE,A7 ow,get []⟩ N l s=true:=by kernel_rfl):AWp Tryz.prog rd N W0 X M0 (.region id l.toArray true) Q s:=TT Ld Dh ow [] tbl _ _ cs _ htbl (by unfold O2;rw [runWC hr]) hd hc h
theorem zl {P:Program} {N:Nat} {W0:World} {X:Nat→Option Loc} {M0:Nat→Option Obj} {fn:Func} {s:AS} {r:Tv} (hr:O4 P s fn.results.toList=some r:=by kernel_rfl):LP P N W0 X M0 fn (fun r' _=>TvE r' r) .ret s:=xl r (.refl r) hr
theorem zn {P:Program} {N:Nat} {W0:World} {X:Nat→Option Loc} {M0:Nat→Option Obj} {fn:Func} {s:AS} {r:Tv} (hr:O4 P s fn.results.toList=some r:=by kernel_rfl):LP P N W0 X M0 fn (fun r' _=>TvE r' r) .normal s:=xn r (.refl r) hr
theorem zy {P:Program} {N:Nat} {W0:World} {X:Nat→Option Loc} {M0:Nat→Option Obj} {fn:Func} {s t:AS} {r:Tv} (cv:Cv N W0 X M0 s t) (hr:O4 P t fn.results.toList=some r:=by kernel_rfl):LP P N W0 X M0 fn (fun r' _=>TvE r' r) .ret s:=yl cv r (.refl r) hr
theorem zx {P:Program} {N:Nat} {W0:World} {X:Nat→Option Loc} {M0:Nat→Option Obj} {fn:Func} {s t:AS} {r:Tv} (cv:Cv N W0 X M0 s t) (hr:O4 P t fn.results.toList=some r:=by kernel_rfl):LP P N W0 X M0 fn (fun r' _=>TvE r' r) .normal s:=yn cv r (.refl r) hr
abbrev CT:=FuncId×List Av×Ef
theorem hk0 {W0:World}:C5 noX W0 []:=fun k x h=>by cases h
abbrev OKc (c:CT):Prop:=Et Tryz.prog c.1 c.2.1 c.2.2
abbrev dfc:Nat→Cl:=fun _=>default
abbrev eIn:Int→List Cl:=fun x=>[.i x]
theorem oM {p:Prop} (h:p:=by omega):p:=h
abbrev PuP (f:FuncId) (xs:List Av) (r:Tv):Prop:=GE Tryz.prog f xs r
theorem pwf {f:FuncId} {fn:Func} {c:Code} (hf:Tryz.prog.funcs[f]? = some fn) {xs:List Av} {r:Tv}
    (h:∀ (W0:World) (M0:Nat→Option Obj),AWp Tryz.prog none fn.ntmps W0 noX M0 c (LP Tryz.prog fn.ntmps W0 noX M0 fn fun r' _=>TvE r' r) ⟨FA 0 xs,[]⟩) (hb:fn.body=some c:=by rfl) (hN:Nat.ble xs.length fn.ntmps=true:=by kernel_rfl) (hd:r.dv=true:=by kernel_rfl):PuP f xs r:=UB hf hb hN hd h
theorem cWr {f:FuncId} {K n:Nat} {xs:List Av} {b0 b1:Blk} {r:Tv} (h:Wr Tryz.prog f K xs b0 r b1) (h1:∀ args w,(callFunc f args).run Tryz.prog w=.ok (.enter f args) w:=by intros;kernel_rfl) (hx:xs.all (cU K)=true:=by kernel_rfl) (hd0:Jk b0=true:=by kernel_rfl):Et Tryz.prog f (xs.map (CC K n)) (wrI n b0 r b1):=Zh h1 hx hd0 h
theorem cPu {f:FuncId} {xs:List Av} {cs:List Prop} {r:Tv} (h:GE Tryz.prog f xs r) (h1:∀ args w,(callFunc f args).run Tryz.prog w=.ok (.enter f args) w:=by intros;kernel_rfl):Et Tryz.prog f xs (.val cs r):=VA h1 fun _=>h
theorem rr2 {a b:Cl} {x y:List Cl} (q:L2 ClE x y):L2 ClE (a::b::x) (a::b::y):=rr (rr q)
theorem rr3 {a b c:Cl} {x y:List Cl} (q:L2 ClE x y):L2 ClE (a::b::c::x) (a::b::c::y):=rr (rr (rr q))
theorem rr4 {a b c d:Cl} {x y:List Cl} (q:L2 ClE x y):L2 ClE (a::b::c::d::x) (a::b::c::d::y):=rr (rr (rr (rr q)))
theorem rr5 {a b c d e:Cl} {x y:List Cl} (q:L2 ClE x y):L2 ClE (a::b::c::d::e::x) (a::b::c::d::e::y):=rr (rr (rr (rr (rr q))))
theorem rr9 {a b c d e f g h i:Cl} {x y:List Cl} (q:L2 ClE x y):L2 ClE (a::b::c::d::e::f::g::h::i::x) (a::b::c::d::e::f::g::h::i::y):=rr (rr (rr (rr (rr (rr (rr (rr (rr q))))))))

def DQ (x0:AE):Bool:=bif decide (((max x0.X x0.Y):Int)<=67108864) then decide ((((-67108864)):Int)<=(min x0.X x0.Y)) else false
def DO (x0:AE):CT:=(99,[.agg (AE.c x0)],.val [] (.av (.one (.b (DQ x0)))))
theorem Yq (x0:AE):PuP 99 (DO x0).2.1 (tO (.b (DQ x0))):=by
 refine pwf Tryz.func99 fun W0 M0 => ?_
 refine AA<|rn ⟨[(1,tP 1 0)],[(1,.cells (AE.c x0) 47)]⟩<|AA ?_
 refine rc [] ((gt (decide (((max x0.X x0.Y):Int)<=67108864)))::(t5 (decide (((max x0.X x0.Y):Int)<=67108864)) [])) ⟨[(2,tB (bif decide (((max x0.X x0.Y):Int)<=67108864) then decide ((((-67108864)):Int)<=(min x0.X x0.Y)) else false))],[]⟩ .nil (ci (c5 .nil))<|AG<|AY ?_
 exact xl (tO (.b (bif decide (((max x0.X x0.Y):Int)<=67108864) then decide ((((-67108864)):Int)<=(min x0.X x0.Y)) else false))) (Bz (by rfl))
theorem F9 (x0:AE):OKc (DO x0):=cPu<|Yq x0
def B3 (x0:AE) (x1:AE):AE:=AE.mk (W64 (x0.X-x1.X)) (W64 (x0.Y-x1.Y))
def Lu (x0:AE) (x1:AE):CT:=(77,[.agg (AE.c x0),.agg (AE.c x1)],.val [] (.av (.agg (AE.c (B3 x0 x1)))))
theorem jN (x0:AE) (x1:AE):PuP 77 (Lu x0 x1).2.1 (.av (.agg (AE.c (B3 x0 x1)))):=by
 refine pwf Tryz.func77 fun W0 M0 => ?_
 refine AA<|rn ⟨[(2,tP 2 0),(3,tP 3 0),(4,tP 4 0)],[(2,.cells (AE.c x0) 47),(3,.cells (AE.c x1) 47),(4,.cells [.i 0,.i 0] 47)]⟩<|AA ?_
 refine rn ⟨[(4,tP 4 0)],[(4,.cells [.i (W64 (x0.X-x1.X)),.i (W64 (x0.Y-x1.Y))] 47)]⟩<|AY ?_
 exact xl (.av (.agg [.i (W64 (x0.X-x1.X)),.i (W64 (x0.Y-x1.Y))])) (Bz (by rfl))
theorem UK (x0:AE) (x1:AE):OKc (Lu x0 x1):=cPu<|jN x0 x1
def Gz (x0:AE) (x1:AE):AE:=AE.mk (W64 (x0.X+x1.X)) (W64 (x0.Y+x1.Y))
def TJ (x0:AE) (x1:AE):CT:=(72,[.agg (AE.c x0),.agg (AE.c x1)],.val [] (.av (.agg (AE.c (Gz x0 x1)))))
theorem jO (x0:AE) (x1:AE):PuP 72 (TJ x0 x1).2.1 (.av (.agg (AE.c (Gz x0 x1)))):=by
 refine pwf Tryz.func72 fun W0 M0 => ?_
 refine AA<|rn ⟨[(2,tP 2 0),(3,tP 3 0),(4,tP 4 0)],[(2,.cells (AE.c x0) 47),(3,.cells (AE.c x1) 47),(4,.cells [.i 0,.i 0] 47)]⟩<|AA ?_
 refine rn ⟨[(4,tP 4 0)],[(4,.cells [.i (W64 (x0.X+x1.X)),.i (W64 (x0.Y+x1.Y))] 47)]⟩<|AY ?_
 exact xl (.av (.agg [.i (W64 (x0.X+x1.X)),.i (W64 (x0.Y+x1.Y))])) (Bz (by rfl))
theorem dS (x0:AE) (x1:AE):OKc (TJ x0 x1):=cPu<|jO x0 x1
def Cm (m:Ac):Int:=A64 m.Turn 3
variable (a0 a1 a2:AE) (e:AN) (m:Ac) (k:Int) (p:AE) (x0:AN)
def Mx:CT:=(71,[.agg (Ac.c m)],.val [] (.av (.one (.i (Cm m)))))
theorem Yp (m:Ac):PuP 71 (Mx m).2.1 (tO (.i (Cm m))):=by
 refine pwf Tryz.func71 fun W0 M0 => ?_
 refine AA<|rn ⟨[(1,tP 1 0)],[(1,.cells (Ac.c m) 51)]⟩<|AA ?_
 refine rn ⟨[(2,tI (A64 m.Turn 3))],[]⟩<|AY ?_
 exact xl (tO (.i (A64 m.Turn 3))) (Bz (by rfl))
theorem Wd (m:Ac):OKc (Mx m):=cPu<|Yp m
theorem A64_3 (t:Int):0<=A64 t 3/\A64 t 3<=3:=by
 unfold A64
 rw [IntKind.wrap_i64]
 have h:((BitVec.ofInt 64 t &&& BitVec.ofInt 64 3).toNat)<=3:=by
  rw [BitVec.toNat_and]
  exact Nat.le_trans Nat.and_le_right (by decide)
 generalize (BitVec.ofInt 64 t &&& BitVec.ofInt 64 3).toNat=n at *
 omega
theorem Xi (m:Ac):0<=Cm m/\Cm m<=3:=A64_3 m.Turn
def Cb (m:Ac) (p:AE):Nat->AE->Int->AE
 | 0,_,_=>default
 | n0+1,p',v13=>bif decide ((v13:Int)<(Cm m)) then ((Cb m p n0) (AE.mk (W64 (0-p'.Y)) p'.X) (v13+1)) else (Gz p' m.At)
def Aj (m:Ac) (p:AE):AE:=Cb m p ((((Cm m))-0).toNat+1) (AE.mk (bif m.Mirror then (W64 (0-p.X)) else p.X) p.Y) 0
def CS:CT:=(38,[.agg (Ac.c m),.agg (AE.c p)],.val [] (.av (.agg (AE.c (Aj m p)))))
theorem kr {p:Prop} (h:p:=by kernel_rfl):p:=h
theorem at0 {p:Prop} (h:p:=by simp only [List.length_append,List.length_cons,List.length_nil];omega):p:=h
theorem at1 {p:Prop} (h:p:=by simp only [List.length_set,List.length_append,List.length_cons,List.length_nil];omega):p:=h
theorem at2 {p:Prop} (h:p:=by simp only [Do];omega):p:=h
theorem ax0 {p:Prop} (h:p:=by first | omega | (dsimp only <;> first | trivial | omega | exact at0 | exact at1 | exact at2 | (simp;omega) | simp) | (first | trivial | omega | exact at0 | exact at1 | exact at2 | (simp;omega) | simp)):p:=h
theorem Yr (m:Ac) (p:AE):PuP 38 (CS m p).2.1 (.av (.agg (AE.c (Aj m p)))):=by
 refine pwf Tryz.func38 fun W0 M0 => ?_
 refine AA<|rn ⟨[(2,tP 2 0),(3,tP 3 0),(4,tP 4 0)],[(2,.cells (Ac.c m) 51),(3,.cells (AE.c p) 47),(4,.cells [.i 0,.i 0] 47)]⟩ ?_
 refine AA<|AA ?_
 refine rn ⟨[(2,tP 2 0),(3,tP 3 0),(4,tP 4 0),(6,tB m.Mirror)],[(2,.cells (Ac.c m) 51),(3,.cells (AE.c p) 47),(4,.cells [.i 0,.i 0] 47)]⟩ ?_
 refine B4 (⟨[(2,tP 2 0),(3,tP 3 0),(4,tP 4 0)],[(2,.cells (Ac.c m) 51),(3,.cells [.i (bif m.Mirror then (W64 (0-p.X)) else p.X),.i p.Y] 47),(4,.cells [.i 0,.i 0] 47)]⟩) ?_ ?_
 ·refine AO _ rfl (fun h1 => ?_) (fun h1 => ?_)
  ·refine rn ⟨[(2,tP 2 0),(3,tP 3 0),(4,tP 4 0)],[(2,.cells (Ac.c m) 51),(3,.cells [.i (W64 (0-p.X)),.i p.Y] 47),(4,.cells [.i 0,.i 0] 47)]⟩ ?_
   refine BE ?_
   first | rfl | (simp only [h1,cond_true,cond_false] <;> rfl)
  refine AZ<|AG ?_
  refine Cv.trans (ck (⟨[(2,tP 2 0),(3,tP 3 0),(4,tP 4 0)],[(2,.cells (Ac.c m) 51),(3,.cells (AE.c p) 47),(4,.cells [.i 0,.i 0] 47)]⟩)) (BE ?_)
  first | rfl | (simp only [h1,cond_true,cond_false] <;> rfl)
 refine AA<|AA ?_
 refine rs 12 (Mx m) ⟨[(2,tP 2 0),(3,tP 3 0),(4,tP 4 0),(12,tI (Cm m)),(13,tI 0)],[(2,.cells (Ac.c m) 51),(3,.cells [.i (bif m.Mirror then (W64 (0-p.X)) else p.X),.i p.Y] 47),(4,.cells [.i 0,.i 0] 47)]⟩ (Wd m)<|AG<|AQ ?_
 refine BP (ι:=Nat×AE×Int) (fun x=>⟨[(2,tP 2 0),(3,tP 3 0),(4,tP 4 0),(12,tI (Cm m)),(13,tI x.2.2)],[(2,.cells (Ac.c m) 51),(3,.cells (AE.c x.2.1) 47),(4,.cells [.i 0,.i 0] 47)]⟩) (fun x=>(((Cm m))-x.2.2).toNat<x.1/\(0<=x.2.2/\x.2.2<=Cm m)/\Cb m p x.1 x.2.1 x.2.2=Aj m p) (fun x=>x.1) ?_ ((((Cm m))-0).toNat+1,AE.mk (bif m.Mirror then (W64 (0-p.X)) else p.X) p.Y,0) ⟨Nat.lt_succ_self _,(by show 0<=0/\0<=Cm m;(have:=Xi m;omega)),(by simp only [Aj,cond_true,cond_false])⟩
 rintro ⟨n0,p',v13⟩ ⟨hm0,hinv0,hF0⟩
 try dsimp only at hm0 hinv0 hF0
 cases n0 with | zero=>exact nz hm0 | succ n0 => ?_
 have ht:=Xi m
 have e1:W64 (v13+1)=v13+1:=Az oM oM
 refine AA<|rn ⟨[(2,tP 2 0),(3,tP 3 0),(4,tP 4 0),(12,tI (Cm m)),(13,tI v13),(14,tB (decide ((v13:Int)<(Cm m))))],[(2,.cells (Ac.c m) 51),(3,.cells (AE.c p') 47),(4,.cells [.i 0,.i 0] 47)]⟩<|AA ?_
 refine AO _ rfl (fun h1 => ?_) (fun h1 => ?_)
 ·have g1:=oT h1
  refine AZ<|AG ?_
  refine AA<|AQ ?_
  refine rg ⟨[(2,tP 2 0),(3,tP 3 0),(4,tP 4 0),(12,tI (Cm m)),(13,tI v13)],[(2,.cells (Ac.c m) 51),(3,.cells [.i (W64 (0-p'.Y)),.i p'.X] 47),(4,.cells [.i 0,.i 0] 47)]⟩<|A3<|AG ?_
  refine rg ⟨[(2,tP 2 0),(3,tP 3 0),(4,tP 4 0),(12,tI (Cm m)),(13,tI (W64 (v13+1)))],[(2,.cells (Ac.c m) 51),(3,.cells [.i (W64 (0-p'.Y)),.i p'.X] 47),(4,.cells [.i 0,.i 0] 47)]⟩ ?_
  (try rw [e1])
  refine AG ?_
  refine ⟨(n0,AE.mk (W64 (0-p'.Y)) p'.X,v13+1),⟨?_,?_,(by rw [<- hF0];simp only [Cb,h1,cond_true,cond_false])⟩,Nat.lt_succ_self _,BE kr⟩
  ·show (((Cm m))-(v13+1)).toNat<n0;omega
  exact ax0
 refine BH<|A5 ?_
 refine A5<|BI ?_
 refine AG<|AA ?_
 refine rs 25 (TJ p' m.At) ⟨[(4,tP 4 0)],[(4,.cells (AE.c (Gz p' m.At)) 47)]⟩ (dS p' m.At)<|AG<|AY ?_
 exact xl (.av (.agg (AE.c (Gz p' m.At)))) (Bz (by rw [<- hF0];first | (simp only [Cb,h1,cond_true,cond_false] <;> rfl)))
theorem Dy (m:Ac) (p:AE):OKc (CS m p):=cPu<|Yr m p
def DN (x0:AN):Al:=Al.mk (min x0.A.X x0.B.X) (min x0.A.Y x0.B.Y) (max x0.A.X x0.B.X) (max x0.A.Y x0.B.Y)
def Jj:CT:=(45,[.agg (AN.c x0)],.val [] (.av (.agg (Al.c (DN x0)))))
theorem dH (x0:AN):PuP 45 (Jj x0).2.1 (.av (.agg (Al.c (DN x0)))):=by
 refine pwf Tryz.func45 fun W0 M0 => ?_
 refine AA<|rn ⟨[(1,tP 1 0),(2,tP 2 0)],[(1,.cells (AN.c x0) 136),(2,.cells [.i 0,.i 0,.i 0,.i 0] 74)]⟩<|AA ?_
 refine rn ⟨[(2,tP 2 0)],[(2,.cells [.i (min x0.A.X x0.B.X),.i (min x0.A.Y x0.B.Y),.i (max x0.A.X x0.B.X),.i (max x0.A.Y x0.B.Y)] 74)]⟩<|AY ?_
 exact xl (.av (.agg [.i (min x0.A.X x0.B.X),.i (min x0.A.Y x0.B.Y),.i (max x0.A.X x0.B.X),.i (max x0.A.Y x0.B.Y)])) (Bz (by rfl))
theorem QY (x0:AN):OKc (Jj x0):=cPu<|dH x0
def Dv (x0:AN) (x1:Int):Bool:=bif !((decide ((((B3 x0.A x0.C).X):Int)=0))==(decide ((((B3 x0.A x0.C).Y):Int)=0))) then (decide (((B3 x0.B x0.C).X)=((Aj (Ac.mk (AE.mk 0 0) x1 false) (B3 x0.A x0.C)).X))&&(decide (((B3 x0.B x0.C).Y)=((Aj (Ac.mk (AE.mk 0 0) x1 false) (B3 x0.A x0.C)).Y))&&true)) else false
def Gy (x1:Int):CT:=(120,[.agg (AN.c x0),.one (.i x1)],.val [] (.av (.one (.b (Dv x0 x1)))))
theorem Sc (x0:AN) (x1:Int):PuP 120 (Gy x0 x1).2.1 (tO (.b (Dv x0 x1))):=by
 refine pwf Tryz.func120 fun W0 M0 => ?_
 refine AA<|rn ⟨[(1,tI x1),(2,tP 2 0)],[(2,.cells (AN.c x0) 136)]⟩<|AA ?_
 refine rs 10 (Lu x0.A x0.C) ⟨[(1,tI x1),(2,tP 2 0),(5,tP 5 0)],[(2,.cells (AN.c x0) 136),(5,.cells (AE.c (B3 x0.A x0.C)) 47)]⟩ (UK x0.A x0.C)<|AG<|AA ?_
 refine dw [] [(23,Lu x0.B x0.C),(27,CS (Ac.mk (AE.mk 0 0) x1 false) (B3 x0.A x0.C))] (t4 (!((decide ((((B3 x0.A x0.C).X):Int)=0))==(decide ((((B3 x0.A x0.C).Y):Int)=0)))) ((gk (!((decide ((((B3 x0.A x0.C).X):Int)=0))==(decide ((((B3 x0.A x0.C).Y):Int)=0)))) (Ay (Lu x0.B x0.C).2.1))::(t3 (!((decide ((((B3 x0.A x0.C).X):Int)=0))==(decide ((((B3 x0.A x0.C).Y):Int)=0)))) ((gk (!((decide ((((B3 x0.A x0.C).X):Int)=0))==(decide ((((B3 x0.A x0.C).Y):Int)=0)))) (Ay (CS (Ac.mk (AE.mk 0 0) x1 false) (B3 x0.A x0.C)).2.1))::(t3 (!((decide ((((B3 x0.A x0.C).X):Int)=0))==(decide ((((B3 x0.A x0.C).Y):Int)=0)))) []))))) ⟨[(4,tB (bif !((decide ((((B3 x0.A x0.C).X):Int)=0))==(decide ((((B3 x0.A x0.C).Y):Int)=0))) then (decide (((B3 x0.B x0.C).X)=((Aj (Ac.mk (AE.mk 0 0) x1 false) (B3 x0.A x0.C)).X))&&(decide (((B3 x0.B x0.C).Y)=((Aj (Ac.mk (AE.mk 0 0) x1 false) (B3 x0.A x0.C)).Y))&&true)) else false))],[]⟩ (.cons (UK x0.B x0.C) (.cons (Dy (Ac.mk (AE.mk 0 0) x1 false) (B3 x0.A x0.C)) .nil)) (c4 (.cons (fun _=>rfl) (c3 (.cons (fun _=>rfl) (c3 .nil)))))<|AG<|AY ?_
 exact xl (tO (.b (bif !((decide ((((B3 x0.A x0.C).X):Int)=0))==(decide ((((B3 x0.A x0.C).Y):Int)=0))) then (decide (((B3 x0.B x0.C).X)=((Aj (Ac.mk (AE.mk 0 0) x1 false) (B3 x0.A x0.C)).X))&&(decide (((B3 x0.B x0.C).Y)=((Aj (Ac.mk (AE.mk 0 0) x1 false) (B3 x0.A x0.C)).Y))&&true)) else false))) (Bz (by rfl))
theorem KN (x0:AN) (x1:Int):OKc (Gy x0 x1):=cPu<|Sc x0 x1
def ND (x0:AN):Bool:=(decide (x0.C.X=0)&&(decide (x0.C.Y=0)&&true))
def M7:CT:=(109,[.agg (AN.c x0)],.val [] (.av (.one (.b (ND x0)))))
theorem Yw (x0:AN):PuP 109 (M7 x0).2.1 (tO (.b (ND x0))):=by
 refine pwf Tryz.func109 fun W0 M0 => ?_
 refine AA<|rn ⟨[(1,tP 1 0)],[(1,.cells (AN.c x0) 136)]⟩<|AA ?_
 refine rn ⟨[(2,tB ((decide (x0.C.X=0)&&(decide (x0.C.Y=0)&&true))))],[]⟩<|AY ?_
 exact xl (tO (.b ((decide (x0.C.X=0)&&(decide (x0.C.Y=0)&&true))))) (Bz (by rfl))
theorem Wg (x0:AN):OKc (M7 x0):=cPu<|Yw x0
def HR (x0:AN):Bool:=Dv x0 1
def HL:CT:=(112,[.agg (AN.c x0)],.val [] (.av (.one (.b (HR x0)))))
theorem PD (x0:AN):PuP 112 (HL x0).2.1 (tO (.b (HR x0))):=by
 refine pwf Tryz.func112 fun W0 M0 => ?_
 refine AA<|rn ⟨[(1,tP 1 0)],[(1,.cells (AN.c x0) 136)]⟩<|AA ?_
 refine rs 4 (Gy x0 1) ⟨[(2,tB (Dv x0 1))],[]⟩ (KN x0 1)<|AG<|AY ?_
 exact xl (tO (.b (Dv x0 1))) (Bz (by rfl))
theorem Nm (x0:AN):OKc (HL x0):=cPu<|PD x0
def Gn (x0:AN):Bool:=Dv x0 3
def Gl:CT:=(115,[.agg (AN.c x0)],.val [] (.av (.one (.b (Gn x0)))))
theorem Nk (x0:AN):PuP 115 (Gl x0).2.1 (tO (.b (Gn x0))):=by
 refine pwf Tryz.func115 fun W0 M0 => ?_
 refine AA<|rn ⟨[(1,tP 1 0)],[(1,.cells (AN.c x0) 136)]⟩<|AA ?_
 refine rs 4 (Gy x0 3) ⟨[(2,tB (Dv x0 3))],[]⟩ (KN x0 3)<|AG<|AY ?_
 exact xl (tO (.b (Dv x0 3))) (Bz (by rfl))
theorem Mf (x0:AN):OKc (Gl x0):=cPu<|Nk x0
def LG:CT:=(102,[.one (.i 1)],.val [] (.tup [.agg [.clo 109 0 dfc,.clo 110 0 dfc,.clo 111 0 dfc,.i 1],.one (.b true)]))
theorem WW  : GE Tryz.prog 102 (LG ).2.1 (.tup [.agg [.clo 109 0 dfc,.clo 110 0 dfc,.clo 111 0 dfc,.i 1],.one (.b true)]):=by
 refine pwf Tryz.func102 fun W0 M0 => ?_
 refine AA<|rn ⟨[(0,tI 1),(2,tP 2 0)],[(2,.cells [.val .nilFunc,.val .nilFunc,.val .nilFunc,.i 0] 189)]⟩ ?_
 refine AA<|AA ?_
 refine rn ⟨[(0,tI 1),(2,tP 2 0),(4,tI 1)],[(2,.cells [.val .nilFunc,.val .nilFunc,.val .nilFunc,.i 0] 189)]⟩ ?_
 refine AQ<|AA ?_
 refine rn ⟨[(0,tI 1),(2,tP 2 0),(4,tI 1),(5,tB true)],[(2,.cells [.val .nilFunc,.val .nilFunc,.val .nilFunc,.i 0] 189)]⟩ ?_
 refine CN kr<|AA ?_
 refine rn ⟨[(2,tP 2 0),(3,tB true)],[(2,.cells [.clo 109 0 dfc,.clo 110 0 dfc,.clo 111 0 dfc,.i 1] 189)]⟩ ?_
 refine AY<|Bw<|BJ ?_
 exact xl (.tup [.agg [.clo 109 0 dfc,.clo 110 0 dfc,.clo 111 0 dfc,.i 1],.one (.b true)]) (Bz rfl)
theorem UQ  : OKc (LG ):=cPu<|WW
def LF:CT:=(102,[.one (.i 2)],.val [] (.tup [.agg [.clo 112 0 dfc,.clo 113 0 dfc,.clo 114 0 dfc,.i 3],.one (.b true)]))
theorem WV  : GE Tryz.prog 102 (LF ).2.1 (.tup [.agg [.clo 112 0 dfc,.clo 113 0 dfc,.clo 114 0 dfc,.i 3],.one (.b true)]):=by
 refine pwf Tryz.func102 fun W0 M0 => ?_
 refine AA<|rn ⟨[(0,tI 2),(2,tP 2 0)],[(2,.cells [.val .nilFunc,.val .nilFunc,.val .nilFunc,.i 0] 189)]⟩ ?_
 refine AA<|AA ?_
 refine rn ⟨[(0,tI 2),(2,tP 2 0),(4,tI 2)],[(2,.cells [.val .nilFunc,.val .nilFunc,.val .nilFunc,.i 0] 189)]⟩ ?_
 refine AQ<|AA ?_
 refine rn ⟨[(0,tI 2),(2,tP 2 0),(4,tI 2),(5,tB false)],[(2,.cells [.val .nilFunc,.val .nilFunc,.val .nilFunc,.i 0] 189)]⟩ ?_
 refine Ar kr<|AA ?_
 refine rn ⟨[(0,tI 2),(2,tP 2 0),(4,tI 2),(8,tB true)],[(2,.cells [.val .nilFunc,.val .nilFunc,.val .nilFunc,.i 0] 189)]⟩ ?_
 refine CN kr<|AA ?_
 refine rn ⟨[(2,tP 2 0),(3,tB true)],[(2,.cells [.clo 112 0 dfc,.clo 113 0 dfc,.clo 114 0 dfc,.i 3] 189)]⟩ ?_
 refine AY<|Bw<|BJ ?_
 exact xl (.tup [.agg [.clo 112 0 dfc,.clo 113 0 dfc,.clo 114 0 dfc,.i 3],.one (.b true)]) (Bz rfl)
theorem UP  : OKc (LF ):=cPu<|WV
def LE:CT:=(102,[.one (.i 3)],.val [] (.tup [.agg [.clo 115 0 dfc,.clo 113 0 dfc,.clo 114 0 dfc,.i 2],.one (.b true)]))
theorem WU  : GE Tryz.prog 102 (LE ).2.1 (.tup [.agg [.clo 115 0 dfc,.clo 113 0 dfc,.clo 114 0 dfc,.i 2],.one (.b true)]):=by
 refine pwf Tryz.func102 fun W0 M0 => ?_
 refine AA<|rn ⟨[(0,tI 3),(2,tP 2 0)],[(2,.cells [.val .nilFunc,.val .nilFunc,.val .nilFunc,.i 0] 189)]⟩ ?_
 refine AA<|AA ?_
 refine rn ⟨[(0,tI 3),(2,tP 2 0),(4,tI 3)],[(2,.cells [.val .nilFunc,.val .nilFunc,.val .nilFunc,.i 0] 189)]⟩ ?_
 refine AQ<|AA ?_
 refine rn ⟨[(0,tI 3),(2,tP 2 0),(4,tI 3),(5,tB false)],[(2,.cells [.val .nilFunc,.val .nilFunc,.val .nilFunc,.i 0] 189)]⟩ ?_
 refine Ar kr<|AA ?_
 refine rn ⟨[(0,tI 3),(2,tP 2 0),(4,tI 3),(8,tB false)],[(2,.cells [.val .nilFunc,.val .nilFunc,.val .nilFunc,.i 0] 189)]⟩ ?_
 refine Ar kr<|AA ?_
 refine rn ⟨[(0,tI 3),(2,tP 2 0),(11,tB true)],[(2,.cells [.val .nilFunc,.val .nilFunc,.val .nilFunc,.i 0] 189)]⟩ ?_
 refine CN kr<|AA ?_
 refine rn ⟨[(2,tP 2 0),(3,tB true)],[(2,.cells [.clo 115 0 dfc,.clo 113 0 dfc,.clo 114 0 dfc,.i 2] 189)]⟩ ?_
 refine AY<|Bw<|BJ ?_
 exact xl (.tup [.agg [.clo 115 0 dfc,.clo 113 0 dfc,.clo 114 0 dfc,.i 2],.one (.b true)]) (Bz rfl)
theorem UO  : OKc (LE ):=cPu<|WU
def LD:CT:=(102,[.one (.i k)],.val [] (.tup [.agg [.val .nilFunc,.val .nilFunc,.val .nilFunc,.i k],.one (.b false)]))
theorem WT (k:Int) (k1:¬ k=1) (k2:¬ k=2) (k3:¬ k=3):PuP 102 (LD k).2.1 (.tup [.agg [.val .nilFunc,.val .nilFunc,.val .nilFunc,.i k],.one (.b false)]):=by
 refine pwf Tryz.func102 fun W0 M0 => ?_
 refine AA<|rn ⟨[(0,tI k),(2,tP 2 0)],[(2,.cells [.val .nilFunc,.val .nilFunc,.val .nilFunc,.i 0] 189)]⟩ ?_
 refine AA<|AA ?_
 refine rn ⟨[(0,tI k),(2,tP 2 0),(4,tI k)],[(2,.cells [.val .nilFunc,.val .nilFunc,.val .nilFunc,.i 0] 189)]⟩ ?_
 refine AQ<|AA ?_
 refine rn ⟨[(0,tI k),(2,tP 2 0),(4,tI k),(5,tB (decide ((k:Int)=1)))],[(2,.cells [.val .nilFunc,.val .nilFunc,.val .nilFunc,.i 0] 189)]⟩ ?_
 refine AO _ rfl (fun h=>absurd ((decide_eq_false k1).symm.trans h) (by decide)) (fun _ => ?_)
 refine AA<|rn ⟨[(0,tI k),(2,tP 2 0),(4,tI k),(8,tB (decide ((k:Int)=2)))],[(2,.cells [.val .nilFunc,.val .nilFunc,.val .nilFunc,.i 0] 189)]⟩ ?_
 refine AO _ rfl (fun h=>absurd ((decide_eq_false k2).symm.trans h) (by decide)) (fun _ => ?_)
 refine AA<|rn ⟨[(0,tI k),(2,tP 2 0),(11,tB (decide ((k:Int)=3)))],[(2,.cells [.val .nilFunc,.val .nilFunc,.val .nilFunc,.i 0] 189)]⟩ ?_
 refine AO _ rfl (fun h=>absurd ((decide_eq_false k3).symm.trans h) (by decide)) (fun _ => ?_)
 refine AZ<|A3 ?_
 refine AG<|AA ?_
 refine rn ⟨[(2,tP 2 0),(3,tB false)],[(2,.cells [.val .nilFunc,.val .nilFunc,.val .nilFunc,.i k] 189)]⟩<|AY ?_
 exact xl (.tup [.agg [.val .nilFunc,.val .nilFunc,.val .nilFunc,.i k],.one (.b false)]) (Bz rfl)
theorem UN (k:Int) (k1:¬ k=1) (k2:¬ k=2) (k3:¬ k=3):OKc (LD k):=cPu<|WT k k1 k2 k3
def Z00:Bool:=bif DQ a0 then DQ a1 else false
def Z01:Bool:=bif Z00 a0 a1 then DQ a2 else false
def Z02:Bool:=bif Z01 a0 a1 a2 then ND (AN.mk 1 a0 a1 a2) else false
def qG:CT:=(84,[.agg [.i 1,.i a0.X,.i a0.Y,.i a1.X,.i a1.Y,.i a2.X,.i a2.Y]],.val [] (.tup [.agg [.clo 109 0 dfc,.clo 110 0 dfc,.clo 111 0 dfc,.i 1],.one (.b (Z02 a0 a1 a2))]))
theorem pO {p:Prop} (h:p:=by
 refine pwf Tryz.func84 fun W0 M0 => ?_
 refine AA<|rn ⟨[(1,tP 1 0),(2,tP 2 0)],[(1,.cells [.i mp0,.i a0.X,.i a0.Y,.i a1.X,.i a1.Y,.i a2.X,.i a2.Y] 136),(2,.cells [.val .nilFunc,.val .nilFunc,.val .nilFunc,.i 0] 189)]⟩<|AA ?_
 refine rs 9 mp1 ⟨[(1,tP 1 0),(2,tP 2 0),(4,tP 4 0),(5,tB true)],[(1,.cells [.i mp0,.i a0.X,.i a0.Y,.i a1.X,.i a1.Y,.i a2.X,.i a2.Y] 136),(2,.cells [.val .nilFunc,.val .nilFunc,.val .nilFunc,.i 0] 189),(4,.cells [.clo mp2 0 (fun _=>default),.clo mp3 0 (fun _=>default),.clo mp4 0 (fun _=>default),.i mp5] 189)]⟩ (mp6)<|AG<|AA ?_
 refine dw [] [(17,DO a0),(22,DO a1),(27,DO a2),(33,mp7 (AN.mk mp0 a0 a1 a2))] ((((true)=true)->((true)=true))::(((true)=true)->((true)=true))::(((true)=true)->(Ay (DO a0).2.1))::((true)=true->((true)=true))::(t2 (DQ a0) ((gk (DQ a0) (Ay (DO a1).2.1))::(gt (DQ a0))::(gp ((mp8 a0 a1)=true))::(gp ((mp8 a0 a1)=true))::(((mp8 a0 a1)=true)->(Ay (DO a2).2.1))::(gp ((mp8 a0 a1)=true))::(t3 (mp9 a0 a1 a2) [gk (mp9 a0 a1 a2) (Ay (mp7 (AN.mk mp0 a0 a1 a2)).2.1),gt (mp9 a0 a1 a2)])))) ⟨[(2,tP 2 0),(3,tB (mp10 a0 a1 a2))],[(2,.cells [.clo mp2 0 (fun _=>default),.clo mp3 0 (fun _=>default),.clo mp4 0 (fun _=>default),.i mp5] 189)]⟩ (.cons (F9 a0) (.cons (F9 a1) (.cons (F9 a2) (.cons (mp11 (AN.mk mp0 a0 a1 a2)) .nil)))) (ci (ci (.cons (fun _=>rfl) (ci (c2 (.cons (fun _=>rfl) (ci (ci (ci (.cons (fun _=>rfl) (ci (c3 (.cons (fun _=>rfl) (ci .nil))))))))))))))<|AG<|AY ?_
 exact xl (.tup [.agg [.clo mp2 0 (fun _=>default),.clo mp3 0 (fun _=>default),.clo mp4 0 (fun _=>default),.i mp5],.one (.b (mp10 a0 a1 a2))]) (Bz rfl)):p:=h
section
 open Go.Proofs.YtdbampcfmjbgmaaGreat renaming ni1→mp0,LG→mp1,nn109→mp2,nn110→mp3,nn111→mp4,ni1→mp5,UQ→mp6,M7→mp7,Z00→mp8,Z01→mp9,Z02→mp10,Wg→mp11
theorem pof1 (a0:AE) (a1:AE) (a2:AE):PuP 84 (qG a0 a1 a2).2.1 (.tup [.agg [.clo 109 0 dfc,.clo 110 0 dfc,.clo 111 0 dfc,.i 1],.one (.b (Z02 a0 a1 a2))]):=pO
end
theorem okof1 (a0:AE) (a1:AE) (a2:AE):OKc (qG a0 a1 a2):=cPu<|pof1 a0 a1 a2
def Z03:Bool:=bif DQ a0 then DQ a1 else false
def Z04:Bool:=bif Z03 a0 a1 then DQ a2 else false
def Z05:Bool:=bif Z04 a0 a1 a2 then HR (AN.mk 2 a0 a1 a2) else false
def qF:CT:=(84,[.agg [.i 2,.i a0.X,.i a0.Y,.i a1.X,.i a1.Y,.i a2.X,.i a2.Y]],.val [] (.tup [.agg [.clo 112 0 dfc,.clo 113 0 dfc,.clo 114 0 dfc,.i 3],.one (.b (Z05 a0 a1 a2))]))
section
 open Go.Proofs.YtdbampcfmjbgmaaGreat renaming ni2→mp0,LF→mp1,mZ→mp2,mY→mp3,mX→mp4,ni3→mp5,UP→mp6,HL→mp7,Z03→mp8,Z04→mp9,Z05→mp10,Nm→mp11
theorem pof2 (a0:AE) (a1:AE) (a2:AE):PuP 84 (qF a0 a1 a2).2.1 (.tup [.agg [.clo 112 0 dfc,.clo 113 0 dfc,.clo 114 0 dfc,.i 3],.one (.b (Z05 a0 a1 a2))]):=pO
end
theorem okof2 (a0:AE) (a1:AE) (a2:AE):OKc (qF a0 a1 a2):=cPu<|pof2 a0 a1 a2
def Z06:Bool:=bif DQ a0 then DQ a1 else false
def Z07:Bool:=bif Z06 a0 a1 then DQ a2 else false
def Z08:Bool:=bif Z07 a0 a1 a2 then Gn (AN.mk 3 a0 a1 a2) else false
def qE:CT:=(84,[.agg [.i 3,.i a0.X,.i a0.Y,.i a1.X,.i a1.Y,.i a2.X,.i a2.Y]],.val [] (.tup [.agg [.clo 115 0 dfc,.clo 113 0 dfc,.clo 114 0 dfc,.i 2],.one (.b (Z08 a0 a1 a2))]))
section
 open Go.Proofs.YtdbampcfmjbgmaaGreat renaming ni3→mp0,LE→mp1,mW→mp2,mY→mp3,mX→mp4,ni2→mp5,UO→mp6,Gl→mp7,Z06→mp8,Z07→mp9,Z08→mp10,Mf→mp11
theorem pof3 (a0:AE) (a1:AE) (a2:AE):PuP 84 (qE a0 a1 a2).2.1 (.tup [.agg [.clo 115 0 dfc,.clo 113 0 dfc,.clo 114 0 dfc,.i 2],.one (.b (Z08 a0 a1 a2))]):=pO
end
theorem okof3 (a0:AE) (a1:AE) (a2:AE):OKc (qE a0 a1 a2):=cPu<|pof3 a0 a1 a2
def qD:CT:=(84,[.agg (AN.c e)],.val [] (.tup [.agg [.val .nilFunc,.val .nilFunc,.val .nilFunc,.i e.Kind],.one (.b false)]))
theorem pofN (e:AN) (k1:¬ e.Kind=1) (k2:¬ e.Kind=2) (k3:¬ e.Kind=3):PuP 84 (qD e).2.1 (.tup [.agg [.val .nilFunc,.val .nilFunc,.val .nilFunc,.i e.Kind],.one (.b false)]):=by
 refine pwf Tryz.func84 fun W0 M0 => ?_
 refine AA<|rn ⟨[(1,tP 1 0),(2,tP 2 0)],[(1,.cells (AN.c e) 136),(2,.cells [.val .nilFunc,.val .nilFunc,.val .nilFunc,.i 0] 189)]⟩<|AA ?_
 refine rs 9 (LD e.Kind) ⟨[(1,tP 1 0),(2,tP 2 0),(4,tP 4 0),(5,tB false)],[(1,.cells (AN.c e) 136),(2,.cells [.val .nilFunc,.val .nilFunc,.val .nilFunc,.i 0] 189),(4,.cells [.val .nilFunc,.val .nilFunc,.val .nilFunc,.i e.Kind] 189)]⟩ (UN e.Kind k1 k2 k3)<|AG<|AA ?_
 refine dw [] [(17,DO e.A),(22,DO e.B),(27,DO e.C)] [((false)=true)->((false)=true),((false)=true)->((false)=true),((false)=true)->(Ay (DO e.A).2.1),(false)=true->((false)=true),((false)=true)->((false)=true),((false)=true)->((false)=true),((false)=true)->(Ay (DO e.B).2.1),(false)=true->((false)=true),((false)=true)->((false)=true),((false)=true)->((false)=true),((false)=true)->(Ay (DO e.C).2.1),(false)=true->((false)=true),((false)=true)->((false)=true),¬ ((false)=true),(false)=true->((false)=true)] ⟨[(2,tP 2 0),(3,tB false)],[(2,.cells [.val .nilFunc,.val .nilFunc,.val .nilFunc,.i e.Kind] 189)]⟩ (.cons (F9 e.A) (.cons (F9 e.B) (.cons (F9 e.C) .nil))) (ci (ci (.cons (fun _=>rfl) (ci (ci (ci (.cons (fun _=>rfl) (ci (ci (ci (.cons (fun _=>rfl) (ci (ci (.cons (by simp) (ci .nil)))))))))))))))<|AG<|AY ?_
 exact xl (.tup [.agg [.val .nilFunc,.val .nilFunc,.val .nilFunc,.i e.Kind],.one (.b false)]) (Bz rfl)
theorem okofN (e:AN) (k1:¬ e.Kind=1) (k2:¬ e.Kind=2) (k3:¬ e.Kind=3):OKc (qD e):=cPu<|pofN e k1 k2 k3
def P8 (a0:AE) (a1:AE) (a2:AE) (m:Ac):AN:=AN.mk 1 (Aj m a0) (Aj m a1) a2
def qO:CT:=(62,[.agg [.i 1,.i a0.X,.i a0.Y,.i a1.X,.i a1.Y,.i a2.X,.i a2.Y],.agg (Ac.c m)],.val [] (.av (.agg (AN.c (P8 a0 a1 a2 m)))))
theorem oI (a0:AE) (a1:AE) (a2:AE) (m:Ac):PuP 62 (qO a0 a1 a2 m).2.1 (.av (.agg (AN.c (P8 a0 a1 a2 m)))):=by
 refine pwf Tryz.func62 fun W0 M0 => ?_
 refine AA<|rn ⟨[(2,tP 2 0),(3,tP 3 0),(4,tP 4 0)],[(2,.cells [.i 1,.i a0.X,.i a0.Y,.i a1.X,.i a1.Y,.i a2.X,.i a2.Y] 136),(3,.cells (Ac.c m) 51),(4,.cells [.i 0,.i 0,.i 0,.i 0,.i 0,.i 0,.i 0] 136)]⟩ ?_
 refine AA<|AA ?_
 refine rs 9 (qG a0 a1 a2) ⟨[(2,tP 2 0),(3,tP 3 0),(4,tP 4 0),(5,tP 5 0)],[(2,.cells [.i 1,.i a0.X,.i a0.Y,.i a1.X,.i a1.Y,.i a2.X,.i a2.Y] 136),(3,.cells (Ac.c m) 51),(4,.cells [.i 0,.i 0,.i 0,.i 0,.i 0,.i 0,.i 0] 136),(5,.cells [.clo 109 0 dfc,.clo 110 0 dfc,.clo 111 0 dfc,.i 1] 189)]⟩ (okof1 a0 a1 a2)<|AG<|AA ?_
 refine rn ⟨[(2,tP 2 0),(3,tP 3 0),(4,tP 4 0),(5,tP 5 0),(13,tB m.Mirror)],[(2,.cells [.i 1,.i a0.X,.i a0.Y,.i a1.X,.i a1.Y,.i a2.X,.i a2.Y] 136),(3,.cells (Ac.c m) 51),(4,.cells [.i 0,.i 0,.i 0,.i 0,.i 0,.i 0,.i 0] 136),(5,.cells [.clo 109 0 dfc,.clo 110 0 dfc,.clo 111 0 dfc,.i 1] 189)]⟩ ?_
 refine B4 (⟨[(2,tP 2 0),(3,tP 3 0),(4,tP 4 0)],[(2,.cells [.i 1,.i a0.X,.i a0.Y,.i a1.X,.i a1.Y,.i a2.X,.i a2.Y] 136),(3,.cells (Ac.c m) 51),(4,.cells [.i 0,.i 0,.i 0,.i 0,.i 0,.i 0,.i 0] 136)]⟩) ?_ ?_
 ·refine AO _ rfl (fun h1 => ?_) (fun h1 => ?_)
  ·refine rn ⟨[(2,tP 2 0),(3,tP 3 0),(4,tP 4 0)],[(2,.cells [.i 1,.i a0.X,.i a0.Y,.i a1.X,.i a1.Y,.i a2.X,.i a2.Y] 136),(3,.cells (Ac.c m) 51),(4,.cells [.i 0,.i 0,.i 0,.i 0,.i 0,.i 0,.i 0] 136)]⟩ ?_
   refine BE ?_
   first | rfl | (simp only [h1,cond_true,cond_false] <;> rfl)
  refine AZ<|AG ?_
  refine Cv.trans (ck (⟨[(2,tP 2 0),(3,tP 3 0),(4,tP 4 0)],[(2,.cells [.i 1,.i a0.X,.i a0.Y,.i a1.X,.i a1.Y,.i a2.X,.i a2.Y] 136),(3,.cells (Ac.c m) 51),(4,.cells [.i 0,.i 0,.i 0,.i 0,.i 0,.i 0,.i 0] 136)]⟩)) (BE ?_)
  first | rfl | (simp only [h1,cond_true,cond_false] <;> rfl)
 refine AA<|AA ?_
 refine rn ⟨[(2,tP 2 0),(3,tP 3 0),(4,tP 4 0),(19,tB false)],[(2,.cells [.i 1,.i a0.X,.i a0.Y,.i a1.X,.i a1.Y,.i a2.X,.i a2.Y] 136),(3,.cells (Ac.c m) 51),(4,.cells [.i 0,.i 0,.i 0,.i 0,.i 0,.i 0,.i 0] 136)]⟩ ?_
 refine Ar kr<|AZ ?_
 refine AG<|AA ?_
 refine dw [] [(28,CS m a0),(32,CS m a1)] [Ay (CS m a0).2.1,Ay (CS m a1).2.1] ⟨[(2,tP 2 0),(4,tP 4 0)],[(2,.cells [.i 1,.i ((Aj m a0).X),.i ((Aj m a0).Y),.i ((Aj m a1).X),.i ((Aj m a1).Y),.i a2.X,.i a2.Y] 136),(4,.cells [.i 0,.i 0,.i 0,.i 0,.i 0,.i 0,.i 0] 136)]⟩ (.cons (Dy m a0) (.cons (Dy m a1) .nil)) (.cons rfl (.cons rfl .nil))<|AG<|AA ?_
 refine rn ⟨[(4,tP 4 0)],[(4,.cells [.i 1,.i ((Aj m a0).X),.i ((Aj m a0).Y),.i ((Aj m a1).X),.i ((Aj m a1).Y),.i a2.X,.i a2.Y] 136)]⟩<|AY ?_
 exact xl (.av (.agg [.i 1,.i ((Aj m a0).X),.i ((Aj m a0).Y),.i ((Aj m a1).X),.i ((Aj m a1).Y),.i a2.X,.i a2.Y])) (Bz (by rfl))
def P7 (a0:AE) (a1:AE) (a2:AE) (m:Ac):AN:=AN.mk (bif m.Mirror then 3 else 2) (Aj m a0) (Aj m a1) (AE.mk (bif !decide (((bif m.Mirror then 3 else 2):Int)=1) then ((Aj m a2).X) else a2.X) (bif !decide (((bif m.Mirror then 3 else 2):Int)=1) then ((Aj m a2).Y) else a2.Y))
def qN:CT:=(62,[.agg [.i 2,.i a0.X,.i a0.Y,.i a1.X,.i a1.Y,.i a2.X,.i a2.Y],.agg (Ac.c m)],.val [] (.av (.agg (AN.c (P7 a0 a1 a2 m)))))
theorem mac1 {p:Prop} (h:p:=by
 refine pwf Tryz.func62 fun W0 M0 => ?_
 refine AA<|rn ⟨[(2,tP 2 0),(3,tP 3 0),(4,tP 4 0)],[(2,.cells [.i mp0,.i a0.X,.i a0.Y,.i a1.X,.i a1.Y,.i a2.X,.i a2.Y] 136),(3,.cells (Ac.c m) 51),(4,.cells [.i 0,.i 0,.i 0,.i 0,.i 0,.i 0,.i 0] 136)]⟩ ?_
 refine AA<|AA ?_
 refine rs 9 (mp1 a0 a1 a2) ⟨[(2,tP 2 0),(3,tP 3 0),(4,tP 4 0),(5,tP 5 0)],[(2,.cells [.i mp0,.i a0.X,.i a0.Y,.i a1.X,.i a1.Y,.i a2.X,.i a2.Y] 136),(3,.cells (Ac.c m) 51),(4,.cells [.i 0,.i 0,.i 0,.i 0,.i 0,.i 0,.i 0] 136),(5,.cells [.clo mp2 0 (fun _=>default),.clo 113 0 dfc,.clo 114 0 dfc,.i mp3] 189)]⟩ (mp4 a0 a1 a2)<|AG<|AA ?_
 refine rn ⟨[(2,tP 2 0),(3,tP 3 0),(4,tP 4 0),(5,tP 5 0),(13,tB m.Mirror)],[(2,.cells [.i mp0,.i a0.X,.i a0.Y,.i a1.X,.i a1.Y,.i a2.X,.i a2.Y] 136),(3,.cells (Ac.c m) 51),(4,.cells [.i 0,.i 0,.i 0,.i 0,.i 0,.i 0,.i 0] 136),(5,.cells [.clo mp2 0 (fun _=>default),.clo 113 0 dfc,.clo 114 0 dfc,.i mp3] 189)]⟩ ?_
 refine B4 (⟨[(2,tP 2 0),(3,tP 3 0),(4,tP 4 0)],[(2,.cells [.i (bif m.Mirror then mp5 else mp6),.i a0.X,.i a0.Y,.i a1.X,.i a1.Y,.i a2.X,.i a2.Y] 136),(3,.cells (Ac.c m) 51),(4,.cells [.i 0,.i 0,.i 0,.i 0,.i 0,.i 0,.i 0] 136)]⟩) ?_ ?_
 ·refine AO _ rfl (fun h1 => ?_) (fun h1 => ?_)
  ·refine rn ⟨[(2,tP 2 0),(3,tP 3 0),(4,tP 4 0)],[(2,.cells [.i mp3,.i a0.X,.i a0.Y,.i a1.X,.i a1.Y,.i a2.X,.i a2.Y] 136),(3,.cells (Ac.c m) 51),(4,.cells [.i 0,.i 0,.i 0,.i 0,.i 0,.i 0,.i 0] 136)]⟩ ?_
   refine BE ?_
   first | rfl | (simp only [h1,cond_true,cond_false] <;> rfl)
  refine AZ<|AG ?_
  refine Cv.trans (ck (⟨[(2,tP 2 0),(3,tP 3 0),(4,tP 4 0)],[(2,.cells [.i mp0,.i a0.X,.i a0.Y,.i a1.X,.i a1.Y,.i a2.X,.i a2.Y] 136),(3,.cells (Ac.c m) 51),(4,.cells [.i 0,.i 0,.i 0,.i 0,.i 0,.i 0,.i 0] 136)]⟩)) (BE ?_)
  first | rfl | (simp only [h1,cond_true,cond_false] <;> rfl)
 refine AA<|AA ?_
 refine rn ⟨[(2,tP 2 0),(3,tP 3 0),(4,tP 4 0),(19,tB (!decide (((bif m.Mirror then mp5 else mp6):Int)=1)))],[(2,.cells [.i (bif m.Mirror then mp5 else mp6),.i a0.X,.i a0.Y,.i a1.X,.i a1.Y,.i a2.X,.i a2.Y] 136),(3,.cells (Ac.c m) 51),(4,.cells [.i 0,.i 0,.i 0,.i 0,.i 0,.i 0,.i 0] 136)]⟩ ?_
 refine B4 (⟨[(2,tP 2 0),(3,tP 3 0),(4,tP 4 0)],[(2,.cells [.i (bif m.Mirror then mp5 else mp6),.i a0.X,.i a0.Y,.i a1.X,.i a1.Y,.i (bif !decide (((bif m.Mirror then mp5 else mp6):Int)=1) then ((Aj m a2).X) else a2.X),.i (bif !decide (((bif m.Mirror then mp5 else mp6):Int)=1) then ((Aj m a2).Y) else a2.Y)] 136),(3,.cells (Ac.c m) 51),(4,.cells [.i 0,.i 0,.i 0,.i 0,.i 0,.i 0,.i 0] 136)]⟩) ?_ ?_
 ·refine AO _ rfl (fun h1 => ?_) (fun h1 => ?_)
  ·have g1:=EH h1
   refine rs 23 (CS m a2) ⟨[(2,tP 2 0),(3,tP 3 0),(4,tP 4 0)],[(2,.cells [.i (bif m.Mirror then mp5 else mp6),.i a0.X,.i a0.Y,.i a1.X,.i a1.Y,.i ((Aj m a2).X),.i ((Aj m a2).Y)] 136),(3,.cells (Ac.c m) 51),(4,.cells [.i 0,.i 0,.i 0,.i 0,.i 0,.i 0,.i 0] 136)]⟩ (Dy m a2)<|AG ?_
   refine BE ?_
   first | rfl | (simp only [h1,cond_true,cond_false] <;> rfl)
  have g1:=D4 h1
  refine AZ<|AG ?_
  refine Cv.trans (ck (⟨[(2,tP 2 0),(3,tP 3 0),(4,tP 4 0)],[(2,.cells [.i (bif m.Mirror then mp5 else mp6),.i a0.X,.i a0.Y,.i a1.X,.i a1.Y,.i a2.X,.i a2.Y] 136),(3,.cells (Ac.c m) 51),(4,.cells [.i 0,.i 0,.i 0,.i 0,.i 0,.i 0,.i 0] 136)]⟩)) (BE ?_)
  first | rfl | (simp only [h1,cond_true,cond_false] <;> rfl)
 refine AA<|dw [] [(28,CS m a0),(32,CS m a1)] [Ay (CS m a0).2.1,Ay (CS m a1).2.1] ⟨[(2,tP 2 0),(4,tP 4 0)],[(2,.cells [.i (bif m.Mirror then mp5 else mp6),.i ((Aj m a0).X),.i ((Aj m a0).Y),.i ((Aj m a1).X),.i ((Aj m a1).Y),.i (bif !decide (((bif m.Mirror then mp5 else mp6):Int)=1) then ((Aj m a2).X) else a2.X),.i (bif !decide (((bif m.Mirror then mp5 else mp6):Int)=1) then ((Aj m a2).Y) else a2.Y)] 136),(4,.cells [.i 0,.i 0,.i 0,.i 0,.i 0,.i 0,.i 0] 136)]⟩ (.cons (Dy m a0) (.cons (Dy m a1) .nil)) (.cons rfl (.cons rfl .nil))<|AG<|AA ?_
 refine rn ⟨[(4,tP 4 0)],[(4,.cells [.i (bif m.Mirror then mp5 else mp6),.i ((Aj m a0).X),.i ((Aj m a0).Y),.i ((Aj m a1).X),.i ((Aj m a1).Y),.i (bif !decide (((bif m.Mirror then mp5 else mp6):Int)=1) then ((Aj m a2).X) else a2.X),.i (bif !decide (((bif m.Mirror then mp5 else mp6):Int)=1) then ((Aj m a2).Y) else a2.Y)] 136)]⟩<|AY ?_
 exact xl (.av (.agg [.i (bif m.Mirror then mp5 else mp6),.i ((Aj m a0).X),.i ((Aj m a0).Y),.i ((Aj m a1).X),.i ((Aj m a1).Y),.i (bif !decide (((bif m.Mirror then mp5 else mp6):Int)=1) then ((Aj m a2).X) else a2.X),.i (bif !decide (((bif m.Mirror then mp5 else mp6):Int)=1) then ((Aj m a2).Y) else a2.Y)])) (Bz (by rfl))):p:=h
section
 open Go.Proofs.YtdbampcfmjbgmaaGreat renaming ni2→mp0,qF→mp1,mZ→mp2,ni3→mp3,okof2→mp4,nn3→mp5,nn2→mp6
theorem oH (a0:AE) (a1:AE) (a2:AE) (m:Ac):PuP 62 (qN a0 a1 a2 m).2.1 (.av (.agg (AN.c (P7 a0 a1 a2 m)))):=mac1
end
def P6 (a0:AE) (a1:AE) (a2:AE) (m:Ac):AN:=AN.mk (bif m.Mirror then 2 else 3) (Aj m a0) (Aj m a1) (AE.mk (bif !decide (((bif m.Mirror then 2 else 3):Int)=1) then ((Aj m a2).X) else a2.X) (bif !decide (((bif m.Mirror then 2 else 3):Int)=1) then ((Aj m a2).Y) else a2.Y))
def qM:CT:=(62,[.agg [.i 3,.i a0.X,.i a0.Y,.i a1.X,.i a1.Y,.i a2.X,.i a2.Y],.agg (Ac.c m)],.val [] (.av (.agg (AN.c (P6 a0 a1 a2 m)))))
section
 open Go.Proofs.YtdbampcfmjbgmaaGreat renaming ni3→mp0,qE→mp1,mW→mp2,ni2→mp3,okof3→mp4,nn2→mp5,nn3→mp6
theorem oG (a0:AE) (a1:AE) (a2:AE) (m:Ac):PuP 62 (qM a0 a1 a2 m).2.1 (.av (.agg (AN.c (P6 a0 a1 a2 m)))):=mac1
end
def P5 (e:AN) (m:Ac):AN:=AN.mk e.Kind (Aj m e.A) (Aj m e.B) (AE.mk (bif !decide ((e.Kind:Int)=1) then ((Aj m e.C).X) else e.C.X) (bif !decide ((e.Kind:Int)=1) then ((Aj m e.C).Y) else e.C.Y))
def qL:CT:=(62,[.agg (AN.c e),.agg (Ac.c m)],.val [] (.av (.agg (AN.c (P5 e m)))))
theorem oE (e:AN) (m:Ac) (k1:¬ e.Kind=1) (k2:¬ e.Kind=2) (k3:¬ e.Kind=3):PuP 62 (qL e m).2.1 (.av (.agg (AN.c (P5 e m)))):=by
 refine pwf Tryz.func62 fun W0 M0 => ?_
 refine AA<|rn ⟨[(2,tP 2 0),(3,tP 3 0),(4,tP 4 0)],[(2,.cells (AN.c e) 136),(3,.cells (Ac.c m) 51),(4,.cells [.i 0,.i 0,.i 0,.i 0,.i 0,.i 0,.i 0] 136)]⟩ ?_
 refine AA<|AA ?_
 refine rs 9 (qD e) ⟨[(2,tP 2 0),(3,tP 3 0),(4,tP 4 0),(5,tP 5 0)],[(2,.cells (AN.c e) 136),(3,.cells (Ac.c m) 51),(4,.cells [.i 0,.i 0,.i 0,.i 0,.i 0,.i 0,.i 0] 136),(5,.cells [.val .nilFunc,.val .nilFunc,.val .nilFunc,.i e.Kind] 189)]⟩ (okofN e k1 k2 k3)<|AG<|AA ?_
 refine rn ⟨[(2,tP 2 0),(3,tP 3 0),(4,tP 4 0),(5,tP 5 0),(13,tB m.Mirror)],[(2,.cells (AN.c e) 136),(3,.cells (Ac.c m) 51),(4,.cells [.i 0,.i 0,.i 0,.i 0,.i 0,.i 0,.i 0] 136),(5,.cells [.val .nilFunc,.val .nilFunc,.val .nilFunc,.i e.Kind] 189)]⟩ ?_
 refine B4 (⟨[(2,tP 2 0),(3,tP 3 0),(4,tP 4 0)],[(2,.cells (AN.c e) 136),(3,.cells (Ac.c m) 51),(4,.cells [.i 0,.i 0,.i 0,.i 0,.i 0,.i 0,.i 0] 136)]⟩) ?_ ?_
 ·refine AO _ rfl (fun h4 => ?_) (fun h4 => ?_)
  ·refine rn ⟨[(2,tP 2 0),(3,tP 3 0),(4,tP 4 0)],[(2,.cells (AN.c e) 136),(3,.cells (Ac.c m) 51),(4,.cells [.i 0,.i 0,.i 0,.i 0,.i 0,.i 0,.i 0] 136)]⟩ ?_
   refine BE ?_
   first | rfl | (simp only [h4,cond_true,cond_false] <;> rfl)
  refine AZ<|AG ?_
  refine Cv.trans (ck (⟨[(2,tP 2 0),(3,tP 3 0),(4,tP 4 0)],[(2,.cells (AN.c e) 136),(3,.cells (Ac.c m) 51),(4,.cells [.i 0,.i 0,.i 0,.i 0,.i 0,.i 0,.i 0] 136)]⟩)) (BE ?_)
  first | rfl | (simp only [h4,cond_true,cond_false] <;> rfl)
 refine AA<|AA ?_
 refine rn ⟨[(2,tP 2 0),(3,tP 3 0),(4,tP 4 0),(19,tB (!decide ((e.Kind:Int)=1)))],[(2,.cells (AN.c e) 136),(3,.cells (Ac.c m) 51),(4,.cells [.i 0,.i 0,.i 0,.i 0,.i 0,.i 0,.i 0] 136)]⟩ ?_
 refine B4 (⟨[(2,tP 2 0),(3,tP 3 0),(4,tP 4 0)],[(2,.cells [.i e.Kind,.i e.A.X,.i e.A.Y,.i e.B.X,.i e.B.Y,.i (bif !decide ((e.Kind:Int)=1) then ((Aj m e.C).X) else e.C.X),.i (bif !decide ((e.Kind:Int)=1) then ((Aj m e.C).Y) else e.C.Y)] 136),(3,.cells (Ac.c m) 51),(4,.cells [.i 0,.i 0,.i 0,.i 0,.i 0,.i 0,.i 0] 136)]⟩) ?_ ?_
 ·refine AO _ rfl (fun h4 => ?_) (fun h4 => ?_)
  ·have g4:=EH h4
   refine rs 23 (CS m e.C) ⟨[(2,tP 2 0),(3,tP 3 0),(4,tP 4 0)],[(2,.cells [.i e.Kind,.i e.A.X,.i e.A.Y,.i e.B.X,.i e.B.Y,.i ((Aj m e.C).X),.i ((Aj m e.C).Y)] 136),(3,.cells (Ac.c m) 51),(4,.cells [.i 0,.i 0,.i 0,.i 0,.i 0,.i 0,.i 0] 136)]⟩ (Dy m e.C)<|AG ?_
   refine BE ?_
   first | rfl | (simp only [h4,cond_true,cond_false] <;> rfl)
  have g4:=D4 h4
  refine AZ<|AG ?_
  refine Cv.trans (ck (⟨[(2,tP 2 0),(3,tP 3 0),(4,tP 4 0)],[(2,.cells (AN.c e) 136),(3,.cells (Ac.c m) 51),(4,.cells [.i 0,.i 0,.i 0,.i 0,.i 0,.i 0,.i 0] 136)]⟩)) (BE ?_)
  first | rfl | (simp only [h4,cond_true,cond_false] <;> rfl)
 refine AA<|dw [] [(28,CS m e.A),(32,CS m e.B)] [Ay (CS m e.A).2.1,Ay (CS m e.B).2.1] ⟨[(2,tP 2 0),(4,tP 4 0)],[(2,.cells [.i e.Kind,.i ((Aj m e.A).X),.i ((Aj m e.A).Y),.i ((Aj m e.B).X),.i ((Aj m e.B).Y),.i (bif !decide ((e.Kind:Int)=1) then ((Aj m e.C).X) else e.C.X),.i (bif !decide ((e.Kind:Int)=1) then ((Aj m e.C).Y) else e.C.Y)] 136),(4,.cells [.i 0,.i 0,.i 0,.i 0,.i 0,.i 0,.i 0] 136)]⟩ (.cons (Dy m e.A) (.cons (Dy m e.B) .nil)) (.cons rfl (.cons rfl .nil))<|AG<|AA ?_
 refine rn ⟨[(4,tP 4 0)],[(4,.cells [.i e.Kind,.i ((Aj m e.A).X),.i ((Aj m e.A).Y),.i ((Aj m e.B).X),.i ((Aj m e.B).Y),.i (bif !decide ((e.Kind:Int)=1) then ((Aj m e.C).X) else e.C.X),.i (bif !decide ((e.Kind:Int)=1) then ((Aj m e.C).Y) else e.C.Y)] 136)]⟩<|AY ?_
 exact xl (.av (.agg [.i e.Kind,.i ((Aj m e.A).X),.i ((Aj m e.A).Y),.i ((Aj m e.B).X),.i ((Aj m e.B).Y),.i (bif !decide ((e.Kind:Int)=1) then ((Aj m e.C).X) else e.C.X),.i (bif !decide ((e.Kind:Int)=1) then ((Aj m e.C).Y) else e.C.Y)])) (Bz (by rfl))
def EQ (e:AN) (m:Ac):AN:=if e.Kind=1 then P8 e.A e.B e.C m else if e.Kind=2 then P7 e.A e.B e.C m else if e.Kind=3 then P6 e.A e.B e.C m else P5 e m
def YY:CT:=(62,[.agg (AN.c e),.agg (Ac.c m)],.val [] (.av (.agg (AN.c (EQ e m)))))
theorem pMove (e:AN) (m:Ac):PuP 62 (YY e m).2.1 (.av (.agg (AN.c (EQ e m)))):=by
 by_cases k1:e.Kind=1
 ·have hF:EQ e m=P8 e.A e.B e.C m:=by unfold EQ;rw [if_pos k1]
  rw [hF];obtain ⟨k,a0,a1,a2⟩:=e;simp only at k1;subst k1;exact oI a0 a1 a2 m
 by_cases k2:e.Kind=2
 ·have hF:EQ e m=P7 e.A e.B e.C m:=by unfold EQ;rw [if_neg k1];rw [if_pos k2]
  rw [hF];obtain ⟨k,a0,a1,a2⟩:=e;simp only at k2;subst k2;exact oH a0 a1 a2 m
 by_cases k3:e.Kind=3
 ·have hF:EQ e m=P6 e.A e.B e.C m:=by unfold EQ;rw [if_neg k1];rw [if_neg k2];rw [if_pos k3]
  rw [hF];obtain ⟨k,a0,a1,a2⟩:=e;simp only at k3;subst k3;exact oG a0 a1 a2 m
 have hF:EQ e m=P5 e m:=by unfold EQ;rw [if_neg k1,if_neg k2,if_neg k3]
 rw [hF];exact oE e m k1 k2 k3
theorem oY (e:AN) (m:Ac):OKc (YY e m):=cPu<|pMove e m
end
section
open Go.ChangeShapes Go.WideShapes Go.ChangeAt Go.RowKit
theorem own:ownKnob Tryz.prog.godebug=none:=by kernel_rfl
theorem lC:laidOutB Tryz.prog=true:=by kernel_rfl
theorem opT81:JB Tryz.prog 81 (fun xs:List Int=>[lst 1 eIn xs]) (fun xs=>xs.length<=maxLen/\∀ x∈xs,WF .i64 x):=NN 1 Tryz.underlying81 kr (by decide) (Me Tryz.underlying3)
theorem opT22:JB Tryz.prog 22 (fun xs:List (List Int)=>[lst 1 (fun x=>[lst 1 eIn x]) xs]) (fun xs=>xs.length<=maxLen/\∀ x∈xs,(x.length<=maxLen/\∀ y∈x,WF .i64 y)):=NN 1 Tryz.underlying22 kr (by decide) opT81
def DM.ok (x:DM):Prop:=WF .i64 x.e0/\WF .i64 x.e1/\WF .i64 x.e2/\True
theorem opT23:JB Tryz.prog 23 DM.c DM.ok:=by
 refine Y7 (UG Tryz.underlying23 kr (Me Tryz.underlying3)) ?_
 rintro xs ⟨hl,hx⟩
 match xs,hl with
 | [a0,a1,a2],_=>exact ⟨⟨a0,a1,a2⟩,⟨hx _ (by simp),hx _ (by simp),hx _ (by simp),trivial⟩,rfl⟩
end
section
open Go.RowKit
def IWL (P:Program) (N:Nat) (Ow:World->Nat->Prop) (n0:Nat) (ops:Array Oper) (l:List Oper) (Q:IQ) (s:AS) (J:World->Prop) (al:Bool):Prop :=
 ∀ W0 M σ a w,(J W0/\a.defers=[]/\IOk Ow n0 al M W0)->Sim N W0 noX M M σ (get s.t) (get s.h) a w->wpListIn (FW none) 0 P ops (fun e a' w'=>∃ s' J' al' W0' M' σ',Q e s' J' al'/\(J' W0'/\a'.defers=[]/\IOk Ow n0 al' M' W0')/\Sim N W0' noX M' M' σ' (get s'.t) (get s'.h) a' w') l a w
section
variable {P:Program} {N:Nat} {Ow:World→Nat→Prop} {n0:Nat} {Q:IQ} {s:AS} {J:World→Prop} {al:Bool} {ops:Array Oper} {l:List Oper} {o:Oper}
theorem PW {id:Nat} (h:IWL P N Ow n0 l.toArray l Q s J al):IWp P N Ow n0 (.region id l.toArray false) Q s J al:=fun W0 M σ a w hJ hs=>wpIn_region_lit (h W0 M σ a w hJ hs)
theorem Lk (hO:OwS Ow n0) {E:TypeId->Option (List Kd)} (hE:KH P ⟨fun _=>none,E,fun _=>false,fun _=>none⟩) (k:Nat) (ts:List Nat) (cs:List Prop) (T:List (Nat×Tv)) (hr:QR P ⟨FG [],E,A7 [],get []⟩ N ops (l.take k) ts [] s=some (cs,⟨T,[]⟩)) (hc:Ci cs)
  (hdv:∀ i v,get s.t i=some v->v.dv=true) (hh:s.h=[]) (h:IWL P N Ow n0 ops (l.drop k) Q ⟨T,[]⟩ J al):IWL P N Ow n0 ops l Q s J al:=by
 have hV:L8 P ⟨FG [],E,A7 [],get []⟩:=(HN.nil (P:=P)).env (O:=A7 []) (q:=get []) hE
 intro W0 M σ a w hJ hs
 unfold QR at hr
 split at hr
 ·rename_i cs1 s1 h1
  simp only [Option.some.injEq,Prod.mk.injEq] at hr
  obtain ⟨rfl,hS⟩:=hr
  have key:=O1 (rd:=none) (ops:=ops) (Q':=fun e a' w'=>∃ s' J' al' W0' M' σ',Q e s' J' al'/\(J' W0'/\a'.defers=[]/\IOk Ow n0 al' M' W0')/\Sim N W0' noX M' M' σ' (get s'.t) (get s'.h) a' w') hV (l.drop k) (l.take k) s s1 cs1 h1 hc M _ a w (Ox hdv hh hJ.2.1 hs) fun M' σ' a' w' hs'=>by
   have hs2:=GV hs' ts []
   rw [hS] at hs2
   obtain ⟨hd,hs3⟩:=Kv hs2
   exact h W0 M' σ' a' w' ⟨hJ.1,hd,Lm hJ.2.2 hO hs2⟩ hs3
  rw [List.take_append_drop] at key
  exact key
 cases hr
theorem Sw (h:Q .normal s J al):IWL P N Ow n0 ops [] Q s J al:=fun W0 M σ a w hJ hs=>⟨s,J,al,W0,M,σ,h,hJ,hs⟩
theorem PV (ts:List Nat) (S:AS) (hS:KT ts [] s=S) (h:IWL P N Ow n0 ops l Q S J al):IWL P N Ow n0 ops l Q s J al:=by
 subst hS
 exact fun W0 M σ a w hJ hs=>h W0 M σ a w hJ (GV hs ts [])
theorem Wt (hO:OwS Ow n0) (hwant:∀ (M:Nat->Option Obj) (σ:Nat->Loc) (a:Act),(∀ i v,get s.t i=some v->RT M σ v (a.tmps.getD i undef))->a.tmps.size=N->Region.wanted o (yielded ops a.tmps)=true) {c:Call} {f:Operand} {ly d:Nat} (xs:List Av) (ho:o.op=.call c) (hcf:c.callee=.value f)
  (hf:evT (get s.t) f=some (.av (.one (.val (.func (.yield ly) #[] #[]))))) (hxs:E6 (evT (get s.t)) c.args.toList=some xs) (hv:xs.all Av.isV=true) (hod:o.dst=some d) (hdN:Nat.blt d N=true) (hT1:∀ i v,get s.t i=some v->v.dv=true/\TvM v)
  (hJg:∀ A B,J A->A.grownBy B none->J B) (Jt Jf:World->Prop)
  (hY:∀ W,J W->YieldAt (FW none) 0 P ly (xs.map Av.toV).toArray W (fun e W'=>(e=.returned (.bool true)/\Jt W'/\KpS Ow W W')\/(e=.returned (.bool false)/\Jf W')))
  (tf:List Nat) (htf:∀ i v,get (Fa s.t tf) i=some v->∃ u,v=.av (.one (.val u))) (hh:s.h=[])
  (ht:IWL P N Ow n0 ops l Q ⟨(d,tB true)::s.t,[]⟩ Jt true) (hff:IWL P N Ow n0 ops l Q ⟨(d,tB false)::Fa s.t tf,[]⟩ Jf false):IWL P N Ow n0 ops (o::l) Q s J true:=by
 intro W0 M σ a w hJ hs
 refine wpListIn_step fun K0 hK' => ?_
 rw [if_pos (hwant M σ a hs.tmps hs.room)]
 have hgrow:W0.grownBy w none:={ os:=hs.os,tape:=hs.tape,output:=hs.output,size:=hs.size,block:=fun b hb _=>hs.old b hb (GM b) }
 have hiok:=hJ.2.2
 have hdN':d<N:=by have:=Nat.le_of_ble_eq_true hdN;omega
 have hput:∀ (b:Bool) (T:List (Nat×Tv)) (M':Nat->Option Obj) (σ':Nat->Loc),(∀ i v,get T i=some v->RT M' σ' v (a.tmps.getD i undef))->∀ i v,get ((d,tB b)::T) i=some v->RT M' σ' v ((a.put o.dst (.bool b)).tmps.getD i undef):=fun b T M' σ' hT i v hv=>by
  have hds:d<a.tmps.size:=by rw [hs.room];exact hdN'
  simp only [get,CR] at hv
  rw [hod]
  by_cases hi:d=i
  ·subst hi
   simp at hv;subst hv
   have:(a.put (some d) (.bool b)).tmps.getD d undef=.bool b:=by simp [Act.put,Array.getD_eq_getD_getElem?,hds]
   rw [this]
   exact ⟨rfl,rfl⟩
  simp [hi] at hv
  have:(a.put (some d) (.bool b)).tmps.getD i undef=a.tmps.getD i undef:=by simp [Act.put,Array.getD_eq_getD_getElem?,Array.getElem?_setIfInBounds,hi]
  rw [this];exact hT i v hv
 have hsize:∀ b:Bool,(a.put o.dst (.bool b)).tmps.size=N:=fun b=>by rw [hod];simpa [Act.put] using hs.room
 have hdef:∀ b:Bool,(a.put o.dst (.bool b)).defers=[]:=fun b=>by rw [hod];simpa [Act.put] using hJ.2.1
 have hnew:∀ (b:Bool) (w2:World) (T:List (Nat×Tv)) (Mn:Nat->Option Obj),(∀ i v,get T i=some v->RT Mn σ v (a.tmps.getD i undef))->(∀ b o,Mn b=some o->w2.heap[b]? = some o)->Sim N w2 noX Mn Mn σ (get ((d,tB b)::T)) (get []) (a.put o.dst (.bool b)) w2:=fun b w2 T Mn hT himm =>
  ⟨rfl,rfl,rfl,Nat.le_refl _,fun _ _ _=>rfl,fun _ _ h=>h,fun b o h h'=>(by rw [h] at h';cases h'),fun m x hx=>(by cases hx),⟨by rw [hdef b];trivial,fun _=>hdef b⟩,hsize b,hput b T Mn σ hT,himm,fun n b hb=>(by cases hb),fun n b hb=>(by cases hb),fun n m b c hb=>(by cases hb)⟩
 refine bZ hs.tmps ho hcf hf hxs hv (hY w (hJg W0 w hJ.1 hgrow)) fun e w2 he => ?_
 rcases he with ⟨rfl,h5,h6⟩ | ⟨rfl,h5⟩
 ·have hst:∀ b,Ow w b->Ow W0 b:=hO.st W0 w (hiok rfl).1 fun b hb=>hs.old b hb (GM b)
  refine ⟨_,rfl,hK' _ _ (ht w2 (TO M) σ _ w2 ⟨h5,hdef true,fun _=>⟨Nat.le_trans (hiok rfl).1 (Nat.le_trans hs.size h6.1),fun b h=>(h6.2.2 b h).elim (fun h7=>Nat.lt_of_lt_of_le ((hiok rfl).2.1 b (hst b h7)) (Nat.le_trans hs.size h6.1)) And.right,fun b o' h hw2 => ?_⟩⟩ (hnew true w2 s.t (TO M) (fun i v hv=>XT LH (hs.tmps i v hv) (hT1 i v hv).2) fun b o' h => ?_))⟩
  ·rcases h6.2.2 b hw2 with h7 | h7
   ·exact (hiok rfl).2.2 b o' (Ey h).1 (hst b h7)
   have:=(Array.getElem?_eq_some_iff.1 (hs.imm b o' (Ey h).1)).1;omega
  exact h6.2.1 b o' (hs.imm b o' (Ey h).1) (Ey h).2 fun h7=>(hiok rfl).2.2 b o' (Ey h).1 (hst b h7)
 refine ⟨_,rfl,hK' _ _ (hff w2 noM σ _ w2 ⟨h5,hdef false,fun h=>by cases h⟩ (hnew false w2 (Fa s.t tf) noM (fun i v hv => ?_) fun b o' h=>by cases h))⟩
 obtain ⟨u,rfl⟩:=htf i v hv
 exact hs.tmps i _ (GD _ _ _ _ hv)
theorem Wv (hO:OwS Ow n0) (hgn:o.guard=none) {c:Call} {f:Operand} {ly d:Nat} (xs:List Av) (ho:o.op=.call c) (hcf:c.callee=.value f)
  (hf:evT (get s.t) f=some (.av (.one (.val (.func (.yield ly) #[] #[]))))) (hxs:E6 (evT (get s.t)) c.args.toList=some xs) (hv:xs.all Av.isV=true) (hod:o.dst=some d) (hdN:Nat.blt d N=true) (hT1:∀ i v,get s.t i=some v->v.dv=true/\TvM v)
  (hJg:∀ A B,J A->A.grownBy B none->J B) (Jt Jf:World->Prop)
  (hY:∀ W,J W->YieldAt (FW none) 0 P ly (xs.map Av.toV).toArray W (fun e W'=>(e=.returned (.bool true)/\Jt W'/\KpS Ow W W')\/(e=.returned (.bool false)/\Jf W')))
  (tf:List Nat) (htf:∀ i v,get (Fa s.t tf) i=some v->∃ u,v=.av (.one (.val u))) (hh:s.h=[])
  (ht:IWL P N Ow n0 ops l Q ⟨(d,tB true)::s.t,[]⟩ Jt true) (hff:IWL P N Ow n0 ops l Q ⟨(d,tB false)::Fa s.t tf,[]⟩ Jf false):IWL P N Ow n0 ops (o::l) Q s J true :=
 Wt hO (fun M σ a h1 h2=>by simp [Region.wanted,hgn]) xs ho hcf hf hxs hv hod hdN hT1 hJg Jt Jf hY tf htf hh ht hff
theorem Tu {W0 w:World} {M0 M:Nat->Option Obj} {σ:Nat->Loc} {T:Nat->Option Tv} {H:Nat->Option Blk} {a:Act} (h:Sim N W0 noX M0 M σ T H a w) (hd:a.defers=[]):Sim N W0 noX M M σ T H a w :=
 ⟨h.os,h.tape,h.output,h.size,h.old,fun _ _ h=>h,fun b o h h'=>(by rw [h] at h';cases h'),h.pin,⟨by rw [hd];trivial,fun _=>hd⟩,h.room,h.tmps,h.imm,h.blk,h.loc,h.inj⟩
theorem fL {c:Code} {S:AS} (hO:OwS Ow n0) (h:∀ W0 M1,Cv N W0 noX M1 s S) (k:IWp P N Ow n0 c Q S J al):IWp P N Ow n0 c Q s J al:=by
 intro W0 M σ a w hJ hs
 obtain ⟨M',σ',h2⟩:=h W0 M M σ a w hs
 exact k W0 M' σ' a w ⟨hJ.1,hJ.2.1,Lm hJ.2.2 hO h2⟩ (Tu h2 hJ.2.1)
end
end
theorem iO {M:Nat->Option Obj} {c:Cl} {V:Value} (h:RC M c V):V.oneCell'=true:=by
 cases h with
 | val v h=>exact h
 | any V h=>exact h
 | _=>rfl
abbrev gY (t:Bool) (sz len:Nat) (f:Nat->Nat->Cl):Cl:=.eptr 1 1 (fun _ j=>([.list t sz len f]:List Cl).getD j default) 0 0
theorem jM {M:Nat->Option Obj} {t:Bool} {sz len:Nat} {f:Nat->Nat->Cl} {v:Value} (h:RC M (.list t sz len f) v):∃ g:Nat->Nat->Value,RC M (.list t sz len (fun i j=>.val (g i j))) v/\∀ i j,i<len->j<sz->RC M (f i j) (g i j):=by
 cases h with
 | nil _ _ _ h0=>exact ⟨fun _ _=>undef,.nil _ _ _ h0,fun i j hi=>by omega⟩
 | mt _ _ _ a cap h5=>exact ⟨fun _ _=>undef,.mt _ _ _ a cap h5,fun i j hi=>by omega⟩
 | list _ _ _ _ b off cap g h1 h2 h4 h5=>exact ⟨g,.list _ _ _ _ b off cap g h1 (fun i j hi hj=>.val _ (iO (h2 i j hi hj))) h4 h5,h2⟩
theorem WJ {M:Nat->Option Obj} {t:Bool} {sz len:Nat} {f:Nat->Nat->Cl} {V:Value} (h:RC M (gY t sz len f) V):∃ g:Nat->Nat->Value,RC M (gY t sz len (fun i j=>.val (g i j))) V/\∀ i j,i<len->j<sz->RC M (f i j) (g i j):=by
 cases h with
 | eptr _ _ _ _ _ b base g0 h1 h2 =>
  obtain ⟨g,hg1,hg2⟩:=jM (h2 0 (by decide))
  exact ⟨g,.eptr _ _ _ _ _ _ _ g0 h1 (fun j hj=>by
   have:j=0:=by omega
   subst this;exact hg1),hg2⟩
section
open Go.RowKit
section
variable {P:Program}
def WrR (P:Program) (f:FuncId) (K:Nat) (xs:List Av) (sz len:Nat) (F0:Nat->Nat->Cl) (ty:TypeId) (r:Tv) (F1:Nat->Nat->Cl):Prop:=∀ (M:Nat->Option Obj) (σ:Nat->Loc) (w:World) (args:List Value),(∀ b o,M b=some o->w.heap[b]? = some o)->Bv M σ w (σ K) (.row sz len F0 ty)->((σ K).nil=true\/M (σ K).b=none)->L2 (RA M σ) xs args ->
 Calls P f args.toArray w fun en w'=>∃ U,en=.returned U/\∃ M',GF w w' M M' (only (σ K))/\(∀ σ',RT M' σ' r U)/\∀ σ',Bv M' σ' w' (σ K) (.row sz len F1 ty)
theorem Ks {f:FuncId} {fn:Func} {c:Code} (hf:P.funcs[f]? = some fn) (hb:fn.body=some c) {K:Nat} {xs:List Av} {sz len:Nat} {F0 F1:Nat->Nat->Cl} {ty:TypeId} {r:Tv} (hN:Nat.ble xs.length fn.ntmps=true) (hK:Nat.ble fn.ntmps K=true) (hd:r.dv=true)
  (h:∀ (W0:World) (M0:Nat->Option Obj) (X:Nat->Option Loc),C5 X W0 [K]->AWp P none fn.ntmps W0 X M0 c (LP P fn.ntmps W0 X M0 fn fun r' s'=>TvE r' r/\∃ b,get s'.h K=some b/\HV b (.row sz len F1 ty)) ⟨FA 0 xs,[(K,.row sz len F0 ty)]⟩):WrR P f K xs sz len F0 ty r F1:=by
 intro M σ w args himm hblk hM hargs
 have one:∀ n b,get [(K,Blk.row sz len F0 ty)] n=some b->n=K/\b=.row sz len F0 ty:=fun n b hn=>by
  simp only [get,CR] at hn
  by_cases hk:K=n
  ·simp [hk] at hn;exact ⟨hk.symm,hn.symm⟩
  simp [hk] at hn
 by_cases hnil:(σ K).nil=true
 ·have hlen:len=0:=by
   rcases hblk with h0 | ⟨h0,_⟩
   ·exact h0.2
   rw [hnil] at h0;cases h0
  refine Em (X:=noX) (σ:=σ) (h0:=[(K,.row sz len F0 ty)]) hf hb (Nat.le_of_ble_eq_true hN) himm hargs (fun n b hn => ?_) (fun n b hn => ?_) (fun n x hx=>by cases hx) (fun n m b c hn hm hne => ?_) (EP (h w M noX (fun k x hk=>by cases hk))) ?_
  ·obtain ⟨rfl,rfl⟩:=one n b hn;exact hblk
  ·obtain ⟨rfl,rfl⟩:=one n b hn;exact .inl hnil
  ·exact absurd ((one n b hn).1.trans (one m c hm).1.symm) hne
  rintro r' s' M' σ' a' w' U ⟨he,b,hb1,hbe⟩ hs hR
  exact ⟨U,rfl,M',⟨hs.os,hs.tape,hs.output,hs.size,fun b hb hne=>hs.old b hb (GM b),hs.sub,hs.new,hs.imm⟩,fun σ''=>HO hd (Jq he hR),fun σ''=>.inl ⟨hnil,hlen⟩⟩
 have hnil:(σ K).nil=false:=by simpa using hnil
 have hMK:M (σ K).b=none:=by
  rcases hM with h1 | h1
  ·rw [hnil] at h1;cases h1
  exact h1
 let X:Nat->Option Loc:=upd noX K (some (σ K))
 have hX:X K=some (σ K):=BW _ _ _
 have pins:∀ n x,X n=some x->n=K/\x=σ K:=fun n x hx=>by
  by_cases hk:n=K
  ·subst hk;rw [hX] at hx;injection hx with hx;exact ⟨rfl,hx.symm⟩
  simp only [X] at hx;rw [CV _ _ hk] at hx;cases hx
 have hXK:∀ k x,X k=some x->A7 [K] k=true:=fun k x hk=>by rw [(pins k x hk).1];exact Lf _
 refine Em (X:=X) (σ:=σ) (h0:=[(K,.row sz len F0 ty)]) hf hb (Nat.le_of_ble_eq_true hN) himm hargs (fun n b hn => ?_) (fun n b hn => ?_) (fun n x hx => ?_) (fun n m b c hn hm hne => ?_) (EP (h w M X fun k x hk=>.inl (hXK k x hk))) ?_
 ·obtain ⟨rfl,rfl⟩:=one n b hn;exact hblk
 ·obtain ⟨rfl,rfl⟩:=one n b hn;exact .inr ⟨hMK,n,σ n,hX,rfl⟩
 ·obtain ⟨rfl,rfl⟩:=pins n x hx;exact ⟨Nat.le_of_ble_eq_true hK,rfl⟩
 ·exact absurd ((one n b hn).1.trans (one m c hm).1.symm) hne
 rintro r' s' M' σ' a' w' U ⟨he,b,hb1,hbe⟩ hs hR
 have hpin:=(hs.pin K _ hX).2
 have hbk:=hs.blk K _ hb1
 rw [hpin] at hbk
 refine ⟨U,rfl,M',⟨hs.os,hs.tape,hs.output,hs.size,fun b hb hne=>hs.old b hb ?_,hs.sub,hs.new,hs.imm⟩,fun σ''=>HO hd (Jq he hR),fun σ''=>(I5 hbe hbk:Bv M' σ' w' (σ K) (.row sz len F1 ty))⟩
 rintro ⟨n,x,hx,rfl⟩
 obtain ⟨rfl,rfl⟩:=pins n x hx
 exact hne ⟨hnil,rfl⟩
theorem LK {α:Type} [Inhabited α] {c:α->List Cl} {xs ys:List α} {sz n:Nat} {ty:TypeId} (h:xs=ys) (hl:xs.length=n):HV (.row sz xs.length (AU c xs) ty) (.row sz n (AU c ys) ty):=by
 subst h hl
 exact .refl _
def T9 (K n:Nat):Av->Av
 | .one (.own m sz len)=>bif Nat.beq m K then .one (.own n sz len) else .one (.own m sz len)
 | x=>x
def cT (K:Nat):Av->Bool
 | .one (.own m _ _)=>Nat.beq m K
 | x=>x.dv
theorem LI {f:FuncId} {K n:Nat} {xs:List Av} {sz len:Nat} {F0 F1:Nat->Nat->Cl} {ty:TypeId} {r:Tv} (h1:∀ args w,(callFunc f args).run P w=.ok (.enter f args) w) (hx:xs.all (cT K)=true) (h:WrR P f K xs sz len F0 ty r F1):Et P f (xs.map (T9 K n)) (wrI n (.row sz len F0 ty) r (.row sz len F1 ty)):=by
 refine .inl ⟨h1,fun M σ w hh args cs' g hs hargs hres hc => ?_⟩
 simp only [wrI,res,Fy] at hres
 cases hn:hh n with
 | none=>rw [hn] at hres;cases hres
 | some b =>
  rw [hn] at hres
  simp only [Option.some.injEq,Prod.mk.injEq] at hres
  obtain ⟨rfl,rfl⟩:=hres
  have:=hc.head
  subst this
  have hblk:=hs.blk n _ hn
  let σ2:Nat->Loc:=upd σ K (σ n)
  have hK:σ2 K=σ n:=BW _ _ _
  have hargs2:L2 (RA M σ2) xs args:=by
   refine L2.of (by have:=hargs.length;simpa using this) fun i x V hxi hV => ?_
   obtain ⟨V',hV',hR⟩:=hargs.get i (T9 K n x) (by rw [List.getElem?_map,hxi];rfl)
   rw [hV] at hV';injection hV' with hV';subst hV'
   have hok:=(List.all_eq_true.1 hx) x (List.mem_of_getElem? hxi)
   unfold cT at hok
   split at hok
   ·rename_i m sz' len'
    simp only [T9,hok,cond_true] at hR
    have:=Nat.eq_of_beq_eq_true hok
    subst this
    have hR':R M σ (.own n sz' len') V:=hR
    show R M σ2 (.own m sz' len') V
    unfold R at hR' ⊢
    rw [hK];exact hR'
   rename_i hne
   have:T9 K n x=x:=by
    unfold T9
    split
    ·rename_i m a b;exact (hne m a b rfl).elim
    rfl
   rw [this] at hR
   exact HO (σ':=σ2) (r:=.av x) hok hR
  refine (h M σ2 w args hs.imm (by rw [hK];exact hblk) (by rw [hK];exact hs.loc n _ hn) hargs2).mono ?_
  rintro en w' ⟨U,hU,M',hk,hR,hb⟩
  rw [hK] at hk
  refine ⟨U,hU,fun dst _=>⟨M',σ,hk,rfl,hR σ,?_⟩⟩
  have:=hb σ
  rw [hK] at this
  exact this
end
end
section
section
variable {α:Type} [Inhabited α]
def Hj (lt:α->Bool) (out:List α):Nat->Nat
 | 0=>0
 | k+1=>bif lt (out.getD k default) then Hj lt out k else k+1
def Sz (lt:α->α->Bool) (out:List α) (x:α):List α:=out.take (Hj (lt x) out out.length)++x::out.drop (Hj (lt x) out out.length)
def Hi (lt:α->α->Bool) (l:List α):List α:=l.foldl (Sz lt) []
theorem ZZ (lt:α->α->Bool) (out:List α) (x:α):(Sz lt out x).Perm (x::out):=by
 unfold Sz
 refine List.perm_middle.trans ?_
 rw [List.take_append_drop]
theorem Uq (lt:α->α->Bool) (l:List α) (x:α):Hi lt (l++[x])=Sz lt (Hi lt l) x:=by
 unfold Hi
 rw [List.foldl_append];rfl
theorem Ur (lt:α->α->Bool) (l:List α):(Hi lt l).Perm l:=by
 have key:∀ (l out:List α),(l.foldl (Sz lt) out).Perm (out++l):=by
  intro l
  induction l with
  | nil=>intro out;simp
  | cons x l ih =>
   intro out
   rw [List.foldl_cons]
   refine (ih _).trans ?_
   refine ((ZZ lt out x).append_right l).trans ?_
   exact List.perm_middle.symm
 exact key l []
theorem K6 (lt:α->α->Bool) (l:List α):(Hi lt l).length=l.length:=(Ur lt l).length_eq
theorem Yk (A:List α) (x y:α) (R:List α) :
  (A++y::x::R).getD A.length default=y/\(A++y::x::R).getD (A.length+1) default=x/\((A++y::x::R).set (A.length+1) y).set A.length x=A++x::y::R:=by
 refine ⟨?_,?_,?_⟩
 ·rw [List.getD_eq_getElem?_getD,List.getElem?_append_right (by omega)];simp
 ·rw [List.getD_eq_getElem?_getD,List.getElem?_append_right (by omega)];simp
 rw [List.set_append_right _ _ (by omega),List.set_append_right _ _ (by omega)];simp
theorem Ee (out:List α) (j:Nat) (h:j<out.length):out.take (j+1)=out.take j++[out.getD j default]/\out.drop j=out.getD j default::out.drop (j+1):=by
 constructor
 ·rw [List.take_add_one,List.getElem?_eq_getElem h,List.getD_eq_getElem?_getD,List.getElem?_eq_getElem h];rfl
 rw [List.drop_eq_getElem_cons h,List.getD_eq_getElem?_getD,List.getElem?_eq_getElem h];rfl
theorem pU {β:Type} (lt:α->α->Bool) (f:Nat->List α->Int->β) (K:List α->β)
  (hf:∀ m d (j:Nat),f (m+1) d j=bif (bif decide ((0:Int)<j) then lt (d.getD j default) (d.getD (j-1) default) else false) then f m ((d.set j (d.getD (j-1) default)).set (j-1) (d.getD j default)) ((j:Int)-1) else K d)
  (out rest:List α) (x:α):∀ (j m:Nat),j<=out.length->j<m->f m (out.take j++x::(out.drop j++rest)) j=K (out.take (Hj (lt x) out j)++x::(out.drop (Hj (lt x) out j)++rest)):=by
 intro j
 induction j with
 | zero =>
  intro m hj hm
  obtain ⟨m,rfl⟩:∃ k,m=k+1:=⟨m-1,by omega⟩
  rw [hf]
  simp [Hj]
 | succ j ih =>
  intro m hj hm
  obtain ⟨m,rfl⟩:∃ k,m=k+1:=⟨m-1,by omega⟩
  obtain ⟨e1,e2⟩:=Ee out j (by omega)
  have hl:(out.take j).length=j:=by rw [List.length_take];omega
  obtain ⟨s1,s2,s3⟩:=Yk (out.take j) x (out.getD j default) (out.drop (j+1)++rest)
  rw [hl] at s1 s2 s3
  have hd:out.take (j+1)++x::(out.drop (j+1)++rest)=out.take j++out.getD j default::x::(out.drop (j+1)++rest):=by rw [e1];simp
  rw [hf,hd,Nat.add_sub_cancel,s1,s2,s3]
  have h0:decide ((0:Int)<((j+1:Nat):Int))=true:=decide_eq_true (by omega)
  rw [h0,cond_true]
  conv=>rhs;unfold Hj
  cases hlt:lt x (out.getD j default) with
  | true =>
   rw [cond_true,cond_true]
   have:=ih m (by omega) (by omega)
   rw [e2] at this
   rw [show ((j+1:Nat):Int)-1=(j:Int) by omega,<- this]
   rfl
  | false =>
   rw [cond_false,cond_false,hd]
theorem pV {β:Type} (lt:α->α->Bool) (l:List α) (g:Nat->List α->Int->β) (K:List α->β) (hK:∀ m d (i:Nat),l.length<=i->g (m+1) d i=K d)
  (hg:∀ m (i:Nat) (out rest:List α) x,i<l.length->out.length=i->g (m+1) (out++x::rest) i=g m (Sz lt out x++rest) ((i:Int)+1)) :
  ∀ (k m i:Nat),l.length-i=k->i<=l.length->k<m->g m (Hi lt (l.take i)++l.drop i) i=K (Hi lt l):=by
 intro k
 induction k with
 | zero =>
  intro m i hk hi hm
  obtain ⟨m,rfl⟩:∃ k,m=k+1:=⟨m-1,by omega⟩
  rw [hK m _ i (by omega),List.drop_eq_nil_of_le (by omega),List.take_of_length_le (by omega),List.append_nil]
 | succ k ih =>
  intro m i hk hi hm
  obtain ⟨m,rfl⟩:∃ k,m=k+1:=⟨m-1,by omega⟩
  obtain ⟨e1,e2⟩:=Ee l i (by omega)
  rw [e2,hg m i _ _ _ (by omega) (by rw [K6,List.length_take];omega),<- Uq,<- e1]
  have:=ih m (i+1) (by omega) (by omega) (by omega)
  rw [show ((i+1:Nat):Int)=(i:Int)+1 by omega] at this
  exact this
theorem cp_l {β:Type} (xs:List α) (g:Nat->List α->Int->β) (K:List α->Int->β) (h:∀ m acc (v:Nat),g (m+1) acc v=bif decide ((v:Int)<(xs.length:Int)) then g m (acc++[xs.getD v default]) ((v:Int)+1) else K acc v) :
  ∀ (k v m:Nat) (acc:List α),xs.length-v=k->v<=xs.length->k<m->g m acc v=K (acc++xs.drop v) (xs.length:Int):=by
 intro k
 induction k with
 | zero =>
  intro v m acc hk hv hm
  obtain ⟨m,rfl⟩:∃ k,m=k+1:=⟨m-1,by omega⟩
  rw [h,decide_eq_false (by omega),cond_false,List.drop_eq_nil_of_le (by omega),List.append_nil,show v=xs.length by omega]
 | succ k ih =>
  intro v m acc hk hv hm
  obtain ⟨m,rfl⟩:∃ k,m=k+1:=⟨m-1,by omega⟩
  obtain ⟨_,e2⟩:=Ee xs v (by omega)
  rw [h,decide_eq_true (by omega),cond_true,e2]
  have:=ih (v+1) m (acc++[xs.getD v default]) (by omega) (by omega) (by omega)
  rw [show ((v+1:Nat):Int)=(v:Int)+1 by omega] at this
  rw [this,List.append_assoc];rfl
theorem TB {β γ:Type} (xs:List α) (step:γ->α->γ) (g:Nat->γ->Int->β) (K:γ->Int->β) (h:∀ m acc (v:Nat),g (m+1) acc v=bif decide ((v:Int)<(xs.length:Int)) then g m (step acc (xs.getD v default)) ((v:Int)+1) else K acc v) :
  ∀ (k v m:Nat) (acc:γ),xs.length-v=k->v<=xs.length->k<m->g m acc v=K ((xs.drop v).foldl step acc) (xs.length:Int):=by
 intro k
 induction k with
 | zero =>
  intro v m acc hk hv hm
  obtain ⟨m,rfl⟩:∃ k,m=k+1:=⟨m-1,by omega⟩
  rw [h,decide_eq_false (by omega),cond_false,List.drop_eq_nil_of_le (by omega),show v=xs.length by omega];rfl
 | succ k ih =>
  intro v m acc hk hv hm
  obtain ⟨m,rfl⟩:∃ k,m=k+1:=⟨m-1,by omega⟩
  obtain ⟨_,e2⟩:=Ee xs v (by omega)
  rw [h,decide_eq_true (by omega),cond_true,e2]
  have:=ih (v+1) m (step acc (xs.getD v default)) (by omega) (by omega) (by omega)
  rw [show ((v+1:Nat):Int)=(v:Int)+1 by omega] at this
  rw [this,List.foldl_cons]
theorem gC {β γ:Type} (xs:List α) (step:γ->α->γ) (g:Nat->Nat->γ->β) (K:γ->β) (h0:∀ x acc,g 0 x acc=K acc) (h:∀ m x acc,x<xs.length->g (m+1) x acc=g m (x+1) (step acc (xs.getD x default))) :
  ∀ (m x:Nat) (acc:γ),m+x=xs.length->g m x acc=K ((xs.drop x).foldl step acc):=by
 intro m
 induction m with
 | zero =>
  intro x acc hx
  rw [h0,List.drop_eq_nil_of_le (by omega)];rfl
 | succ m ih =>
  intro x acc hx
  obtain ⟨_,e2⟩:=Ee xs x (by omega)
  rw [h m x acc (by omega),ih (x+1) _ (by omega),e2,List.foldl_cons]
omit [Inhabited α] in
theorem Mt {γ:Type} (f:α->γ):∀ (xs:List α) (acc:List γ),xs.foldl (fun acc x=>acc++[f x]) acc=acc++xs.map f
 | [],acc=>by simp
 | x::xs,acc=>by rw [List.foldl_cons,Mt f xs,List.map_cons,List.append_assoc];rfl
def ixI (f:α->Bool) (xs:List α):Int:=match xs.findIdx? f with
 | some i=>(i:Int)
 | none => -1
omit [Inhabited α] in
theorem fJ {f:α->Bool} {xs:List α} (h:¬ ixI f xs<0):0<=ixI f xs/\ixI f xs<(xs.length:Int):=by
 unfold ixI at *
 cases hk:xs.findIdx? f with
 | none=>rw [hk] at h;exact absurd (by decide) h
 | some i =>
  rw [hk] at h
  have:=(List.findIdx?_eq_some_iff_getElem.1 hk).1
  simp only
  omega
theorem fH {f:α->Bool} {xs:List α} (h:¬ ixI f xs<0):f (xs.getD (ixI f xs).toNat default)=true/\xs.find? f=some (xs.getD (ixI f xs).toNat default):=by
 unfold ixI at *
 cases hk:xs.findIdx? f with
 | none=>rw [hk] at h;exact absurd (by decide) h
 | some i =>
  obtain ⟨h1,h2,h3⟩:=List.findIdx?_eq_some_iff_getElem.1 hk
  have e:xs.getD ((i:Int)).toNat default=xs[i]:=by rw [Int.toNat_natCast,List.getD_eq_getElem?_getD,List.getElem?_eq_getElem h1];rfl
  simp only [e]
  refine ⟨h2,?_⟩
  rw [List.find?_eq_some_iff_getElem]
  exact ⟨h2,i,h1,rfl,fun j hj=>by have:=h3 j hj;simpa using this⟩
omit [Inhabited α] in
theorem fI {f:α->Bool} {xs:List α} (h:ixI f xs<0):xs.find? f=none:=by
 unfold ixI at h
 cases hk:xs.findIdx? f with
 | some i=>rw [hk] at h;exact absurd h (by simp only;omega)
 | none =>
  rw [List.find?_eq_none]
  rw [List.findIdx?_eq_none_iff] at hk
  intro x hx;rw [hk x hx];decide
theorem fG (f:α->Bool) (xs:List α) (g:Nat->Int->Int) (hg:∀ m (v:Nat),g (m+1) v=bif decide ((v:Int)<(xs.length:Int)) then (bif f (xs.getD v default) then (v:Int) else g m ((v:Int)+1)) else -1) :
  ∀ (k v m:Nat),xs.length-v=k->v<=xs.length->k<m->g m v=match (xs.drop v).findIdx? f with | some i=>((v+i:Nat):Int) | none => -1:=by
 intro k
 induction k with
 | zero =>
  intro v m hk hv hm
  obtain ⟨m,rfl⟩:∃ k,m=k+1:=⟨m-1,by omega⟩
  rw [hg,decide_eq_false (by omega),cond_false,List.drop_eq_nil_of_le (by omega)]
  rfl
 | succ k ih =>
  intro v m hk hv hm
  obtain ⟨m,rfl⟩:∃ k,m=k+1:=⟨m-1,by omega⟩
  obtain ⟨_,e2⟩:=Ee xs v (by omega)
  rw [hg,decide_eq_true (by omega),cond_true,e2,List.findIdx?_cons]
  cases hf:f (xs.getD v default) with
  | true=>simp
  | false =>
   have:=ih (v+1) m (by omega) (by omega) (by omega)
   rw [show ((v+1:Nat):Int)=(v:Int)+1 by omega] at this
   rw [cond_false,this]
   cases (xs.drop (v+1)).findIdx? f with
   | none=>simp
   | some i =>
    simp only [Option.map_some]
    rw [show v+1+i=v+(i+1) by omega]
    rfl
end
end
def SeqV (P:Program) (gf:Nat) (lb:Array Value) (V:Nat->Array Value->World->Prop) (Kp:World->World->Prop) (n:Nat) (w:World):Prop :=
 ∀ (l:Nat) (J:Nat->World->Prop) (W:World),Below w.heap.size w W->(∀ j A B,J j A->A.grownBy B none->J j B) ->
  (∀ j v A,j<n->J j A->V j v A->YieldAt (FW none) 0 P l v A fun e B=>e=.returned (.bool true)/\J (j+1) B/\Kp A B)->J 0 W ->
  CallsIn (FW none) 1 P gf (#[.func (.yield l) #[] #[]]++lb) W fun e B=>(∃ u,e=.returned u)/\J n B
theorem Yi {P:Program} {g:Operand} {ps:Array Tmp} {assign body:Code} {Q:Exit->Act->World->Prop} {a:Act} {w:World} {gf:Nat} {lb:Array Value} (hg:a.eval g=.func (.func gf) #[] lb) (eg:∀ args w,(callFunc gf args).run P w=.ok (.enter gf args) w)
  {V:Nat->Array Value->World->Prop} {Kp:World->World->Prop} {n:Nat} (hseq:SeqV P gf lb V Kp n w) (hKt:∀ {A B C:World},Kp A B->Kp B C->Kp A C)
  (hKb:∀ (W:World) (l:Nat) (o o':Obj),w.heap.size<=l->W.heap[l]? = some o->o.isCells=false->Kp W (W.putObj l o')) (hsz:∀ j v W,V j v W->v.size=ps.size)
  (I:Nat->World->Prop) (hI:OwnFrom w.heap.size I) (h0:I 0 w) (Ax:Nat->Act->World->Prop) (hAx:∀ j a',OwnFrom w.heap.size fun (_:Unit) W=>Ax j a' W)
  (hassign:∀ (l j:Nat) (v:Array Value) (W:World) (K:Act->World->Prop),j<n->I j W->V j v W->(∀ a' W',KeepsFrom w.heap.size W W'->Kp W W'->I j W'->Ax j a' W'->K a' W') ->
   assign.wpIn ((FW none).inRound l) 0 P (Exit.then K fun _ _ _=>False) { tmps:=(ps.zip v).foldl (fun t (p,u)=>t.setIfInBounds p u) a.tmps,defers:=[] } W)
  (hbody:∀ (l j:Nat) (a':Act) (W:World),j<n->I j W->Ax j a' W->body.wpIn ((FW none).inRound l) 0 P (fun e _ W'=>e=.normal/\KeepsFrom w.heap.size W W'/\Kp W W'/\I (j+1) W') a' W)
  (hdone:∀ (D:Nat) (W:World),w.heap.size<=D->I n W->W.heap[D]? = some (.deferred (some []))->Q .normal { a with defers:={ target:=.collected D,args := #[] }::a.defers } W):(Code.rangeFunc g ps assign body).wpIn (FW none) 2 P Q a w:=by
 refine wpIn_rangeFunc fun fn hfn => ?_
 -- the two blocks of the statement: the mark's and the record's
 generalize hD:w.heap.size=D at *
 let rc:LoopState->Obj:=fun st=>.loop { state:=st,pending:=none,fn:=fn,tmps:=a.tmps,params:=ps,assign:=assign,body:=body,defers:=D }
 have hcell:∀ st,(rc st).isCells=false:=fun _=>rfl
 let U:=w.alloc (.deferred (some []))
 let Z:=U.alloc (rc .ready)
 have sU:U.heap.size=D+1:=by show (w.alloc _).heap.size=_;rw [World.size_alloc,hD]
 have zL:Z.heap[D+1]? = some (rc .ready):=by rw [<- sU];exact World.alloc_heap_new U _
 have zD:Z.heap[D]? = some (.deferred (some [])):=(Below.heap_alloc U _ _ (by omega)).trans (by rw [<- hD];exact World.alloc_heap_new w _)
 have hIa:∀ {j:Nat} {W:World} (o:Obj),I j W->I j (W.alloc o):=fun o h=>hI.alloc o h
 let J:Nat->World->Prop:=fun j W=>I j W/\W.heap[D+1]? = some (rc .ready)/\W.heap[D]? = some (.deferred (some []))
 refine ⟨D+1,[{ target:=.collected D,args := #[] }],Z,{ target:=.fn (.func gf) lb,args := #[.func (.yield (D+1)) #[] #[]] },Z,gf,#[.func (.yield (D+1)) #[] #[]]++lb,Z,?_,?_,?_,?_,fun _=>by decide,?_⟩
 ·have:=run_enterLoop_outer (P:=P) (w:=w) fn a.tmps ps assign body
  rw [hD] at this
  exact this
 ·simp only [resolve,hg]
  simp [go_sem]
 ·intro f' _;trivial
 ·simp [invoke,go_sem,eg]
 refine (hseq (D+1) J Z ?_ ?_ ?_ ⟨hIa _ (hIa _ h0),zL,zD⟩).mono ?_
 ·rw [hD]
  exact (((Below.refl D w).alloc (by omega) _).alloc (by rw [show (w.alloc (.deferred (some []))).heap.size=D+1 from sU];omega) _)
 ·rintro j A B ⟨h1,h2,h3⟩ hgr
  have keep:∀ b (o:Obj),A.heap[b]? = some o->B.heap[b]? = some o:=fun b o h=>(hgr.block b (Array.getElem?_eq_some_iff.1 h).1 (fun e=>by cases e)).trans h
  exact ⟨hI j A B none h1 hgr (fun r e=>by cases e),keep _ _ h2,keep _ _ h3⟩
 ·rintro j v A hj ⟨h1,h2,h3⟩ hv
  refine ⟨fn,_,assign,body,run_yield h2 (hsz j v A hv),roundIn_of_wpIn hfn (hassign (D+1) j v A _ hj h1 hv ?_)⟩
  intro a' B kf kp i1 ax
  have l1:B.heap[D+1]? = some (rc .ready):=kf.same _ _ (by omega) h2 rfl
  have d1:B.heap[D]? = some (.deferred (some [])):=kf.same _ _ (Nat.le_refl _) h3 rfl
  have hlt:D+1<B.heap.size:=(Array.getElem?_eq_some_iff.1 l1).1
  refine ⟨_,run_beginRound l1 rfl,?_⟩
  generalize hC:B.putObj (D+1) (.loop { state:=.busy,pending:=none,fn:=fn,tmps:=a.tmps,params:=ps,assign:=assign,body:=body,defers:=D })=C
  have l2:C.heap[D+1]? = some (rc .busy):=by rw [<- hC];exact World.putObj_heap_same hlt
  have d2:C.heap[D]? = some (.deferred (some [])):=by rw [<- hC];exact (World.putObj_heap_other (by omega)).trans d1
  have kp2:Kp B C:=by rw [<- hC];exact hKb _ _ _ _ (by omega) l1 rfl
  have i2:I j C:=by rw [<- hC];exact hI.putObj _ i1 (by omega) l1 rfl
  have ax2:Ax j a' C:=by rw [<- hC];exact (hAx j a').putObj (s:=()) _ ax (by omega) l1 rfl
  refine wpIn_mono (hbody (D+1) j a' C hj i2 ax2) ?_
  rintro e a3 G ⟨rfl,kf3,kp3,i3⟩
  have l3:G.heap[D+1]? = some (rc .busy):=kf3.same _ _ (by omega) l2 rfl
  have d3:G.heap[D]? = some (.deferred (some [])):=kf3.same _ _ (Nat.le_refl _) d2 rfl
  have kp4:=hKb G (D+1) _ (rc .ready) (by omega) l3 rfl
  exact ⟨_,_,run_endRound none l3,rfl,⟨hI.putObj _ i3 (by omega) l3 rfl,World.putObj_heap_same (Array.getElem?_eq_some_iff.1 l3).1,(World.putObj_heap_other (by omega)).trans d3⟩,hKt kp (hKt (hKt kp2 kp3) kp4)⟩
 rintro e B ⟨⟨u,rfl⟩,h1,h2,h3⟩
 exact ⟨none,_,run_endLoop h2 (fun e=>by cases e),hdone D _ (Nat.le_refl _) (hI.putObj _ h1 (by omega) h2 rfl) ((World.putObj_heap_other (by omega)).trans h3)⟩
section
open Go.RowKit
def mB (M:Nat->Option Obj) (Ow:World->Nat->Prop) (E:List Av) (v:Array Value) (W:World):Prop:=∃ Mj:Nat->Option Obj,E.length=v.size/\(∀ b o,Mj b=some o->W.heap[b]? = some o/\o.isCells=true/\¬ Ow W b) /\
 ∀ MM:Nat->Option Obj,(∀ b o,M b=some o->MM b=some o)->(∀ b o,Mj b=some o->MM b=some o)->L2 (fun e u=>∀ σ,RA MM σ e u) E v.toList
def Js (P:Program) (gf:FuncId) (k:Nat) (caps:Nat->Cl) (n:Nat) (E:Fin n->List Av):Prop :=
 ∀ (M:Nat->Option Obj) (w:World) (cs:Array Value) (Ow:World->Nat->Prop),(∀ b o,M b=some o->w.heap[b]? = some o)->OwS Ow w.heap.size->(∀ b,Ow w b->b<w.heap.size/\M b=none)->cs.size=k->(∀ i,i<k->RC M (caps i) (cs.getD i undef)) ->
  SeqV P gf cs (fun j v W=>∃ hj:j<n,mB M Ow (E ⟨j,hj⟩) v W) (KpS Ow) n w
section
variable {P:Program} {N:Nat} {W0:World} {X:Nat→Option Loc} {M0:Nat→Option Obj}
theorem Zj {ι:Type} {Q:Exit->AS->Prop} {g:Operand} {ps:Array Tmp} {assign body:Code} {t0:List (Nat×Tv)} (pids:List Nat) (fid q off r:Nat) {gf:FuncId} {k:Nat} {caps:Nat->Cl} {n:Nat} {E:Fin n->List Av} (H:ι->List (Nat×Blk)) (t1:Fin n->List (Nat×Tv)) (Inv Fm:Nat->ι->Prop) (x0:ι)
  (hX0:∀ m,X m=none) (hg:evT (get t0) g=some (.av (.one (.clo gf k caps)))) (hcd:(Cl.clo gf k caps).dv=true) (eg:∀ args w,(callFunc gf args).run P w=.ok (.enter gf args) w)
  (It:Js P gf k caps n E) (hE:∀ x,(E x).length=ps.size) (hps:∀ p∈ps.toList,p<N)
  (hpv:∀ i v,get t0 i=some v->pvT pids v=true) (hh:∀ x m b,get (H x) m=some b->((A7 pids m=true/\b.isP=true)\/(m=r/\b.isR=true))/\b.no fid=true)
  (hpc:∀ x m,A7 pids m=true->∃ b,get (H x) m=some b) (hfp:A7 pids fid=false) (hrp:A7 pids r=false) (hrf:r≠fid) (hfN:N<=fid) (hrN:N<=r) (hpN:∀ m∈pids,N<=m) (hmem:∀ m∈pids,A7 pids m=true) (hq:A7 pids q=true)
  (hEd:∀ x i v,get (QP t0 ps.toList (E x)) i=some v->v.no fid=true)
  (hheld:∀ x,PY q off r (H x)=true) (hm:∀ x m b,get (H x) m=some b->BkN b)
  (ht1:∀ x,TsM (t1 x)) (ht1p:∀ x i v,get (t1 x) i=some v->pvT pids v=true)
  (hI0:Inv 0 x0) (hF0:Fm 0 x0)
  (hassign:∀ l W1 M1 X1 k j x,Inv j x->PXr pids r (∃ bb,get (H x) r=some bb) X1->AWp P (some l) N W1 X1 M1 assign (fun e s'=>e=.normal/\s'=⟨t1 k,H x⟩) ⟨QP t0 ps.toList (E k),H x⟩)
  (hbody:∀ l W1 M1 X1 (k:Fin n) j x,(∀ m z,X1 m=some z->A7 (fid::pids) m=true)->j<n->Inv j x->AWp P (some l) N W1 X1 M1 body (fun e s'=>e=.normal/\∃ y,Inv (j+1) y/\(k.val=j->Fm j x->Fm (j+1) y)/\∀ m b,get (H y) m=some b->get s'.h m=some b) ⟨t1 k,H x⟩)
  (hdone:∀ x,Inv n x->Fm n x->Q .normal ⟨t0,H x⟩):AWp P none N W0 X M0 (.rangeFunc g ps assign body) Q ⟨t0,H x0⟩:=by
 intro M σ a w hs
 have hnof:∀ v:Tv,pvT pids v=true->v.no fid=true:=fun v h=>by
  cases hn:v.no fid with
  | true=>rfl
  | false=>have:=hmem fid (O6 h hn);rw [hfp] at this;cases this
 have hpne:∀ m,A7 pids m=true->m≠fid/\m≠r:=fun m h=>⟨fun e=>(by rw [e,hfp] at h;cases h),fun e=>(by rw [e,hrp] at h;cases h)⟩
 have hPb:∀ x m,A7 pids m=true->∃ b,get (H x) m=some b/\b.isP=true:=fun x m h=>by
  obtain ⟨b,hb⟩:=hpc x m h
  rcases (hh x m b hb).1 with h1 | h1
  ·exact ⟨b,hb,h1.2⟩
  exact absurd h1.1 (hpne m h).2
 have hPn:∀ {X':Nat->Option Loc} {W1:World} {Mb M1:Nat->Option Obj} {σ1:Nat->Loc} {T:Nat->Option Tv} {b:Act} {A:World} {x:ι},Sim N W1 X' Mb M1 σ1 T (get (H x)) b A->∀ m,A7 pids m=true->(σ1 m).nil=false/\(σ1 m).b<A.heap.size/\M1 (σ1 m).b=none:=fun {X' W1 Mb M1 σ1 T b A x} h1 m hmm=>by
  obtain ⟨bk,hbk,hp⟩:=hPb x m hmm
  have h2:=h1.blk m bk hbk
  have hn:(σ1 m).nil=false:=by
   cases bk with
   | cells l ty=>exact h2.1
   | omap=>exact h2.1
   | row=>cases hp
   | rowx=>cases hp
  refine ⟨hn,h2.lt hn,?_⟩
  rcases h1.loc m bk hbk with h | h
  ·rw [hn] at h;cases h
  exact h.1
 have hplt:∀ m,A7 pids m=true->(σ m).b<w.heap.size:=fun m hmm=>(hPn hs m hmm).2.1
 -- the iterator's value
 obtain ⟨cs,hgv1,hgv2,hgv3⟩:=Gj hs.tmps hg
 have hcaps:∀ i,i<k->RC M (caps i) (cs.getD i undef):=fun i hi=>(KG (List.all_eq_true.1 hcd i (List.mem_range.2 hi))).1 (hgv3 i hi)
 obtain ⟨Ow,hOw⟩:∃ Ow:World->Nat->Prop,Ow=fun W b=>((∃ m,A7 pids m=true/\(σ m).b=b)\/JC (σ q).b off W b)\/(b<w.heap.size/\M b=none):=⟨_,rfl⟩
 have hOi:∀ {W b},Ow W b->((∃ m,A7 pids m=true/\(σ m).b=b)\/JC (σ q).b off W b)\/(b<w.heap.size/\M b=none):=fun h=>by rw [hOw] at h;exact h
 have hOr:∀ {W b},((∃ m,A7 pids m=true/\(σ m).b=b)\/JC (σ q).b off W b)\/(b<w.heap.size/\M b=none)->Ow W b:=fun h=>by rw [hOw];exact h
 have hOo:∀ {W b},(∃ m,A7 pids m=true/\(σ m).b=b)\/JC (σ q).b off W b->Ow W b:=fun h=>by rw [hOw];exact .inl h
 have hHeldSame:∀ {A B:World},B.heap[(σ q).b]? = A.heap[(σ q).b]? -> ∀ b,JC (σ q).b off B b->JC (σ q).b off A b:=fun h b ⟨o,len,cap,h1,h2⟩=>⟨o,len,cap,by rw [<- h];exact h1,h2⟩
 have hOg:∀ {A B:World},w.heap.size<=A.heap.size->B.heap[(σ q).b]? = A.heap[(σ q).b]? -> ∀ b,Ow B b->Ow A b:=fun _ hB b hb=>hOr ((hOi hb).imp (Or.imp id (hHeldSame hB b)) id)
 have hseq:=It M w cs Ow hs.imm ⟨fun A B hA hB b hb=>hOg hA (hB _ (Nat.lt_of_lt_of_le (hplt q hq) hA)) b hb⟩ (fun b hb=>by
  rcases hOi hb with (⟨m,hmm,rfl⟩ | hb) | hb
  ·exact ⟨hplt m hmm,(hPn hs m hmm).2.2⟩
  ·obtain ⟨⟨bk,hbk⟩,hn,rfl⟩:=S5 hs (hheld x0) hb
   refine ⟨(hs.blk r bk hbk).lt hn,?_⟩
   rcases hs.loc r bk hbk with h | h
   ·rw [hn] at h;cases h
   exact h.1
  exact hb) hgv2 hcaps
 -- names
 have hXPm:∀ m x,QC pids σ X m=some x->A7 pids m=true/\x=σ m:=fun m x hx=>by
  unfold QC at hx
  cases hmm:A7 pids m with
  | true=>rw [hmm] at hx;injection hx with hx;exact ⟨rfl,hx.symm⟩
  | false=>rw [hmm] at hx;have:X m=some x:=hx;rw [hX0] at this;cases this
 have hPp:∀ m,A7 pids m=true->QC pids σ X m=some (σ m):=fun m h=>by unfold QC;rw [h];rfl
 obtain ⟨XP,hXPd⟩:∃ XP,XP=QC pids σ X:=⟨_,rfl⟩
 have hXPi:∀ b,inX XP b↔∃ m,A7 pids m=true/\(σ m).b=b:=fun b=>by
  rw [hXPd]
  constructor
  ·rintro ⟨m,x,h1,h2⟩
   obtain ⟨h3,rfl⟩:=hXPm m x h1
   exact ⟨m,h3,h2⟩
  rintro ⟨m,h1,h2⟩
  exact ⟨m,_,hPp m h1,h2⟩
 have hnfP:∀ l M4,(∀ b o,M b=some o->M4 b=some o)->l=a.defers->IE XP M0 M4 l:=fun l M4 h4 e=>⟨by rw [e];exact HU.mono h4 hs.defers.1,fun ⟨m,x,h1,h2,_⟩=>by
  rw [hXPd] at h1
  obtain ⟨h3,rfl⟩:=hXPm m x h1
  rw [(hPn hs m h3).1] at h2;cases h2⟩
 have hT0:∀ (M4:Nat->Option Obj) (σ4:Nat->Loc),(∀ b o,M b=some o->M4 b=some o)->(∀ m,A7 pids m=true->σ4 m=σ m)->∀ i v,get t0 i=some v->RT M4 σ4 v (a.tmps.getD i undef):=fun M4 σ4 h4 hσ i v hv =>
  Dp h4 (fun d hd=>hσ d (hmem d (O6 (hpv i v hv) hd))) (hs.tmps i v hv)
 have hs0:Sim N W0 XP M0 M σ (get t0) (get (H x0)) a w:=⟨hs.os,hs.tape,hs.output,hs.size,fun b hb hx=>hs.old b hb fun ⟨m,x,h1,h2⟩=>(by rw [hX0] at h1;cases h1),hs.sub,hs.new,fun m x hx=>by
   rw [hXPd] at hx
   obtain ⟨h3,rfl⟩:=hXPm m x hx
   exact ⟨hpN m (FE h3),rfl⟩,hnfP _ M (fun _ _ h=>h) rfl,hs.room,hs.tmps,hs.imm,hs.blk,fun m b hb=>(hs.loc m b hb).imp id fun h=>⟨h.1,.inl (h.2.elim id fun ⟨m,x,h1,_⟩=>by rw [hX0] at h1;cases h1)⟩,hs.inj⟩
 have hlt:∀ b o,M b=some o->b<w.heap.size:=fun b o h=>(Array.getElem?_eq_some_iff.1 (hs.imm b o h)).1
 have hσP:∀ {X':Nat->Option Loc} {M1:Nat->Option Obj} {σ1:Nat->Loc} {T:Nat->Option Tv} {HH:Nat->Option Blk} {b:Act} {A W1:World} {Mb:Nat->Option Obj},Sim N W1 X' Mb M1 σ1 T HH b A->(∀ m,A7 pids m=true->X' m=some (σ m))->∀ m,A7 pids m=true->σ1 m=σ m:=fun h1 h2 m hmm=>(h1.pin m _ (h2 m hmm)).2
 have hXPp:∀ m,A7 pids m=true->XP m=some (σ m):=fun m h=>by rw [hXPd];exact hPp m h
 let SI:Nat->World->Prop:=fun j W=>∃ x M' σ',Sim N W0 XP M0 M' σ' (get t0) (get (H x)) a W/\Cln M M'/\Inv j x/\Fm j x/\w.heap.size<=W.heap.size
 let Ax:Nat->Act->World->Prop:=fun j a' W=>∃ (hj:j<n) (Mn:Nat->Option Obj),w.heap.size<=W.heap.size/\a'.tmps.size=N/\a'.defers=[]/\(∀ i v,get (t1 ⟨j,hj⟩) i=some v->RT Mn σ v (a'.tmps.getD i undef))/\∀ b o,Mn b=some o->W.heap[b]? = some o/\(o.isCells=true\/M b=some o)/\(M b=none->W0.heap.size<=b)/\¬ ((∃ m,A7 pids m=true/\(σ m).b=b)\/JC (σ q).b off W b)
 -- one piece of a round
 have step:∀ {XA:Nat->Option Loc} {M' M3:Nat->Option Obj} {σ' σ3:Nat->Loc} {W W':World} {x y:ι} {T':Nat->Option Tv} {h':List (Nat×Blk)} {a':Act},Sim N W0 XP M0 M' σ' (get t0) (get (H x)) a W->Cln M M'->Sim N W XA M' M3 σ3 T' (get h') a' W'->(∀ m b,get (H y) m=some b->get h' m=some b) ->
   (∀ b,inX XA b->(∃ m,A7 pids m=true/\(σ m).b=b)\/((∃ bb,get (H x) r=some bb)/\(σ' r).nil=false/\(σ' r).b=b))->(∀ m,A7 pids m=true->σ3 m=σ m) ->
   KeepsFrom w.heap.size W W'/\KpS Ow W W'/\Sim N W0 XP M0 (KF M' M3) σ3 (get t0) (get (H y)) a W'/\Cln M (KF M' M3):=by
  intro XA M' M3 σ' σ3 W W' x y T' h' a' h1 h2 hr hy hX hσ3
  have hσ':=hσP h1 hXPp
  have hC:=gQ h2 hr.sub
  have hXO:∀ b,inX XA b->Ow W b:=fun b hb=>by
   rcases hX b hb with h | ⟨⟨bb,hbb⟩,hn,rfl⟩
   ·exact hOo (.inl h)
   have:=Uu h1 (hheld x) hbb hn
   rw [hσ' q hq] at this
   exact hOo (.inr this)
  have hsim:Sim N W0 XP M0 (KF M' M3) σ3 (get t0) (get (H y)) a W':=by
   refine cM h1 hr (fun b hb => ?_) hy (hm y) hs.room (hT0 _ σ3 hC.1 hσ3) (fun m z hz => ?_) (fun b=>Iff.rfl) (hnfP _ _ hC.1 rfl)
   ·rcases hX b hb with h | ⟨⟨bb,hbb⟩,hn,rfl⟩
    ·exact .inl ((hXPi b).2 h)
    rcases h1.loc r bb hbb with h3 | h3
    ·rw [hn] at h3;cases h3
    exact h3.2.symm
   rw [hXPd] at hz
   obtain ⟨h3,rfl⟩:=hXPm m z hz
   exact ⟨hpN m (FE h3),hσ3 m h3⟩
  refine ⟨⟨hr.size,fun b o hb ho hoc => ?_⟩,⟨hr.size,fun b o hb hc ho=>(hr.old b (Array.getElem?_eq_some_iff.1 hb).1 fun h=>ho (hXO b h)).trans hb,fun b hb => ?_⟩,hsim,hC⟩
  ·refine (hr.old b (Array.getElem?_eq_some_iff.1 ho).1 fun hX' => ?_).trans ho
   rcases hX b hX' with ⟨m,hmm,rfl⟩ | ⟨⟨bb,hbb⟩,hn,rfl⟩
   ·have:=hplt m hmm;omega
   have h3:=h1.blk r bb hbb
   have h4:=(hh x r bb hbb).1
   cases bb with
   | row sz len f ty =>
    rcases h3 with ⟨h5,_⟩ | ⟨_,c,hc,_⟩
    ·rw [hn] at h5;cases h5
    rw [ho] at hc;injection hc with hc;subst hc;cases hoc
   | cells=>rcases h4 with h4 | h4 <;> first | (rw [hrp] at h4;cases h4.1) | cases h4.2
   | omap=>rcases h4 with h4 | h4 <;> first | (rw [hrp] at h4;cases h4.1) | cases h4.2
   | rowx=>rcases h4 with h4 | h4 <;> first | cases h4.2 | (rw [hrp] at h4;cases h4.1)
  rcases hOi hb with (h | h) | h
  ·exact .inl (hOo (.inl h))
  rotate_left
  ·exact .inl (hOr (.inr h))
  rw [<- hσ3 q hq] at h
  obtain ⟨⟨bk,hbk⟩,hn,rfl⟩:=S5 hsim (hheld y) h
  rcases hr.loc r bk (hy r bk hbk) with h3 | ⟨_,h3 | h3⟩
  ·rw [hn] at h3;cases h3
  ·exact .inr ⟨h3,(hr.blk r bk (hy r bk hbk)).lt hn⟩
  exact .inl (hXO _ h3)
 -- what else is known to lie in the world
 have merge:∀ {M' Mn:Nat->Option Obj} {σ':Nat->Loc} {W:World} {x:ι},Sim N W0 XP M0 M' σ' (get t0) (get (H x)) a W->Cln M M'->(∀ b o,Mn b=some o->W.heap[b]? = some o/\(o.isCells=true\/M b=some o)/\(M b=none->W0.heap.size<=b)/\¬ ((∃ m,A7 pids m=true/\(σ m).b=b)\/JC (σ q).b off W b)) ->
   ∃ MM:Nat->Option Obj,(∀ b o,M' b=some o->MM b=some o)/\(∀ b o,Mn b=some o->MM b=some o)/\Cln M MM/\Sim N W0 XP M0 MM σ' (get t0) (get (H x)) a W:=by
  intro M' Mn σ' W x h1 h2 hA4
  have hσ':=hσP h1 hXPp
  obtain ⟨MM,hMM⟩:∃ MM:Nat->Option Obj,MM=fun b=>match M' b with | some o=>some o | none=>Mn b:=⟨_,rfl⟩
  have hM1:∀ b o,M' b=some o->MM b=some o:=fun b o h=>by rw [hMM];simp only [h]
  have hM3:∀ b o,MM b=some o->M' b=some o\/Mn b=some o:=fun b o h=>by
   rw [hMM] at h
   cases h3:M' b with
   | some o'=>simp only [h3] at h;exact .inl h
   | none=>simp only [h3] at h;exact .inr h
  have hM2:∀ b o,Mn b=some o->MM b=some o:=fun b o h=>by
   cases h3:M' b with
   | some o' =>
    have h4:=h1.imm b o' h3
    rw [(hA4 b o h).1] at h4
    rw [h4];exact hM1 b o' h3
   | none=>rw [hMM];simp only [h3];exact h
  have hCM:Cln M MM:=⟨fun b o h=>hM1 b o (h2.1 b o h),fun b o h ho=>(hM3 b o h).elim (fun h'=>h2.2 b o h' ho) fun h'=>(hA4 b o h').2.1.elim (fun hc=>by rw [ho] at hc;cases hc) id⟩
  have h1M:Sim N W0 XP M0 MM σ' (get t0) (get (H x)) a W:=by
   refine ⟨h1.os,h1.tape,h1.output,h1.size,h1.old,fun b o h=>hM1 b o (h1.sub b o h),fun b o h h0 => ?_,h1.pin,hnfP _ MM hCM.1 rfl,h1.room,fun i v hv=>Dp hM1 (fun _ _=>rfl) (h1.tmps i v hv),fun b o h=>(hM3 b o h).elim (h1.imm b o) fun h'=>(hA4 b o h').1,fun m b hb=>(h1.blk m b hb).mono hM1 (fun _ _=>rfl) (fun _=>rfl),fun m b hb => ?_,h1.inj⟩
   ·rcases hM3 b o h with h | h
    ·exact h1.new b o h h0
    cases hMb:M b with
    | none=>exact (hA4 b o h).2.2.1 hMb
    | some o'=>exact hs.new b o' hMb h0
   cases hn:(σ' m).nil with
   | true=>exact .inl rfl
   | false =>
    rcases h1.loc m b hb with h | h
    ·rw [hn] at h;cases h
    refine .inr ⟨?_,h.2⟩
    cases hc:MM (σ' m).b with
    | none=>rfl
    | some o =>
     rcases hM3 _ o hc with h3 | h3
     ·rw [h.1] at h3;cases h3
     refine absurd ?_ (hA4 _ o h3).2.2.2
     rcases (hh x m b hb).1 with h4 | ⟨rfl,h4⟩
     ·exact .inl ⟨m,h4.1,by rw [hσ' m h4.1]⟩
     have:=Uu h1 (hheld x) hb hn
     rw [hσ' q hq] at this
     exact .inr this
  exact ⟨MM,hM1,hM2,hCM,h1M⟩
 have hgr:∀ {A B:World} {row:Option Nat},A.grownBy B row->(∀ r,row=some r->w.heap.size<=r/\∃ o:Obj,A.heap[r]? = some o/\o.isCells=false)->w.heap.size<=A.heap.size->∀ b,((∃ m,A7 pids m=true/\(σ m).b=b)\/JC (σ q).b off B b)->((∃ m,A7 pids m=true/\(σ m).b=b)\/JC (σ q).b off A b):=fun {A B row} hg' hr hA b hb=>hb.imp id (hHeldSame (hg'.block _ (Nat.lt_of_lt_of_le (hplt q hq) hA) fun e=>by
  have:=(hr _ e.symm).1
  have:=hplt q hq
  omega) b)
 refine wpIn_wide.2 ((wpIn_wide (n:=2)).1 ?_)
 refine Yi hgv1 eg hseq KpS.trans (fun W l o o' hl ho hoc=>⟨by simp,fun b o2 hb hb2 _ => ?_,fun b hb => ?_⟩) (fun j v W hv => ?hsz)
  SI ?hI ⟨x0,M,σ,hs0,⟨fun _ _ h=>h,fun _ _ h _=>h⟩,hI0,hF0,Nat.le_refl _⟩ Ax ?hAx ?assign ?body ?done
 ·rw [World.putObj_heap_other (fun e=>by subst e;rw [ho] at hb;injection hb with hb;subst hb;rw [hoc] at hb2;cases hb2)]
  exact hb
 ·refine .inl (hOr ((hOi hb).imp (Or.imp id (hHeldSame (World.putObj_heap_other (fun e => ?_)) b)) id))
  have:=hplt q hq
  omega
 case hsz =>
  obtain ⟨hj,Mj,hL,_⟩:=hv
  rw [hE] at hL
  exact hL.symm
 case hI =>
  rintro j A B row ⟨x,M',σ',h1,h2,h3,h4,h5⟩ hg' hr
  refine ⟨x,M',σ',WB h1 (fun m b hb hbm rr e => ?_) hg' (fun rr e => ?_),h2,h3,h4,Nat.le_trans h5 hg'.size⟩
  ·have h6:=(hr rr e).1
   have hmm:A7 pids m=true:=by
    rcases (hh x m b hb).1 with h | h
    ·exact h.1
    cases b <;> first | (exfalso;cases hbm;done) | (exfalso;exact absurd h.2 (by simp [Blk.isR])) | exact absurd hbm (by simp [Blk.isM])
   rw [hσP h1 hXPp m hmm]
   have:=hplt m hmm
   omega
  obtain ⟨h6,o,h7,h8⟩:=hr rr e
  refine ⟨Nat.le_trans hs.size h6,⟨o,h7,h8⟩,?_⟩
  cases hM1:M' rr with
  | none=>rfl
  | some o' =>
   have h9:=h1.imm rr o' hM1
   rw [h7] at h9;injection h9 with h9;subst h9
   have:=hlt rr _ (h2.2 rr _ hM1 h8)
   omega
 case hAx =>
  rintro j a' _ A B row ⟨hj,Mn,h1,h2,h3,h4,h5⟩ hg' hr
  refine ⟨hj,Mn,Nat.le_trans h1 hg'.size,h2,h3,h4,fun b o hb => ?_⟩
  obtain ⟨h6,h7,h8,h9⟩:=h5 b o hb
  refine ⟨(hg'.block b (Array.getElem?_eq_some_iff.1 h6).1 fun e => ?_).trans h6,h7,h8,fun h=>h9 (hgr hg' hr h1 b h)⟩
  obtain ⟨h10,o',h11,h12⟩:=hr b e.symm
  rw [h6] at h11;injection h11 with h11;subst h11
  rcases h7 with h7 | h7
  ·rw [h12] at h7;cases h7
  have:=hlt b _ h7;omega
 case assign =>
  rintro l j vals W K hjn ⟨x,M'',σ',h1',h2',hinv,hfm,hws⟩ ⟨hj,Mj,_,hMj,hL⟩ hK
  obtain ⟨M',_,hMjM,h2,h1⟩:=merge h1' h2' (fun b o hb=>⟨(hMj b o hb).1,.inl (hMj b o hb).2.1,fun hMb=>by
   have h3:=(hMj b o hb).2.2
   have:¬ b<w.heap.size:=fun h=>h3 (hOr (.inr ⟨h,hMb⟩))
   have:=hs.size
   omega,fun h=>(hMj b o hb).2.2 (hOo h)⟩)
  obtain ⟨kx,hkx⟩:∃ kx:Fin n,kx=⟨j,hj⟩:=⟨_,rfl⟩
  rw [<- hkx] at hL
  have hσ':=hσP h1 hXPp
  obtain ⟨hfs,hft⟩:=YP ps.toList (E kx) vals.toList t0 a.tmps (hT0 M' σ' h2.1 hσ') hs.room ((hL M' h2.1 hMjM).mono fun e _ v hv=>hv σ') (by simpa using (hE kx).symm) hps
  have efold:(ps.zip vals).foldl (fun t (p,v)=>t.setIfInBounds p v) a.tmps=(ps.toList.zip vals.toList).foldl (fun t (y:Tmp×Value)=>t.setIfInBounds y.1 y.2) a.tmps:=by
   rw [<- Array.foldl_toList,Array.toList_zip]
  rw [efold]
  obtain ⟨pr,hpr1,hpr2,hpr3⟩:∃ pr:List Nat,(∀ m,A7 pr m=true->A7 pids m=true\/(m=r/\(∃ bb,get (H x) r=some bb)/\(σ' r).nil=false))/\(∀ m,A7 pids m=true->A7 pr m=true)/\((∃ bb,get (H x) r=some bb)/\(σ' r).nil=false->A7 pr r=true):=by
   by_cases hrow:(∃ bb,get (H x) r=some bb)/\(σ' r).nil=false
   ·refine ⟨r::pids,fun m h => ?_,fun m h => ?_,fun _ => ?_⟩
    ·rcases List.mem_cons.1 (FE h) with e | e
     ·exact .inr ⟨e,hrow⟩
     exact .inl (hmem m e)
    ·exact H0 (List.mem_cons_of_mem _ (FE h))
    exact H0 (List.mem_cons_self ..)
   exact ⟨pids,fun m h=>.inl h,fun m h=>h,fun h=>absurd h hrow⟩
  obtain ⟨XA,hXA⟩:∃ XA,XA=NV fid ⟨(σ q).b,424242,true⟩ (QC pr σ' X):=⟨_,rfl⟩
  have hprf:∀ m,A7 pr m=true->m≠fid:=fun m h=>(hpr1 m h).elim (fun h=>(hpne m h).1) fun h=>by rw [h.1];exact hrf
  have hXAf:∀ m z,XA m=some z->(m=fid/\z=⟨(σ q).b,424242,true⟩)\/(m≠fid/\A7 pr m=true/\z=σ' m):=fun m z hz=>by
   rw [hXA] at hz
   unfold NV at hz
   cases hb:Nat.beq m fid with
   | true=>rw [hb] at hz;injection hz with hz;exact .inl ⟨Nat.eq_of_beq_eq_true hb,hz.symm⟩
   | false =>
    rw [hb] at hz
    have hz:QC pr σ' X m=some z:=hz
    unfold QC at hz
    cases hp:A7 pr m with
    | true=>rw [hp] at hz;injection hz with hz;exact .inr ⟨hprf m hp,rfl,hz.symm⟩
    | false=>rw [hp] at hz;have hz:X m=some z:=hz;rw [hX0] at hz;cases hz
  have hXAp:∀ m,A7 pr m=true->XA m=some (σ' m):=fun m h=>by
   rw [hXA]
   unfold NV
   rw [show Nat.beq m fid=false by rw [CR];simp [hprf m h]]
   show QC pr σ' X m=_
   unfold QC
   rw [h];rfl
  have hflat:P0 XA:=⟨fid,⟨(σ q).b,424242,true⟩,by rw [hXA];unfold NV;rw [Nat.beq_refl];rfl,rfl,rfl⟩
  have hin:=QO (fid:=fid) (XB:=XA) (σ2:=upd σ' fid ⟨(σ q).b,424242,true⟩) h1 (a2:={ tmps:=_,defers:=[] }) rfl hfs (fun m z hz=>by
   rcases hXAf m z hz with ⟨rfl,rfl⟩ | ⟨h3,h4,rfl⟩
   ·exact ⟨hfN,BW _ _ _⟩
   ·refine ⟨(hpr1 m h4).elim (fun h=>hpN m (FE h)) fun h=>by rw [h.1];exact hrN,CV _ _ h3⟩) (fun m h=>CV _ _ h) (fun i v hv=>⟨hft i v hv,hEd kx i v hv⟩) (fun m b hb=>by
   obtain ⟨h3,h4⟩:=hh x m b hb
   rcases h3 with h3 | ⟨rfl,h3⟩
   ·exact ⟨(hpne m h3.1).1,h4,.inr ⟨m,_,hXAp m (hpr2 m h3.1),rfl⟩⟩
   refine ⟨hrf,h4,?_⟩
   cases hn:(σ' m).nil with
   | true=>exact .inl rfl
   | false=>exact .inr ⟨m,_,hXAp m (hpr3 ⟨⟨b,hb⟩,hn⟩),rfl⟩)
  refine wpIn_mono (hassign l W M' XA kx j x hinv (fun m z hz=>by
   rcases hXAf m z hz with ⟨rfl,rfl⟩ | ⟨h3,h4,rfl⟩
   ·exact .inl ⟨q,hq,_,hXAp q (hpr2 q hq),by rw [hσ' q hq]⟩
   rcases hpr1 m h4 with h5 | ⟨rfl,h6,h5⟩
   ·exact .inl ⟨m,h5,_,hXAp m h4,rfl⟩
   exact .inr ⟨rfl,h6,h5⟩) M' _ _ W hin) ?_
  rintro e a' W' ⟨s',M3,σ3,⟨rfl,rfl⟩,hr⟩
  have hσ3:∀ m,A7 pids m=true->σ3 m=σ m:=fun m hmm=>(hr.pin m _ (hXAp m (hpr2 m hmm))).2.trans (hσ' m hmm)
  obtain ⟨k1,k2,k3,k4⟩:=step h1 h2 hr (y:=x) (fun _ _ h=>h) (fun b hb=>by
   obtain ⟨m,z,hz,hzb⟩:=hb
   rcases hXAf m z hz with ⟨rfl,rfl⟩ | ⟨h3,h4,rfl⟩
   ·exact .inl ⟨q,hq,hzb⟩
   rcases hpr1 m h4 with h5 | ⟨rfl,h5,h6⟩
   ·exact .inl ⟨m,h5,by rw [<- hσ' m h5];exact hzb⟩
   exact .inr ⟨h5,h6,hzb⟩) hσ3
  refine hK a' W' k1 k2 ⟨x,_,σ3,k3,k4,hinv,hfm,Nat.le_trans hws hr.size⟩ ⟨hj,KF M' M3,Nat.le_trans hws hr.size,hr.room,hr.defers.2 hflat,fun i v hv => ?_,fun b o hb=>⟨hr.imm b o (H7 hr.sub hb),?_,fun hMb => ?_,fun ho => ?_⟩⟩
  ·rw [<- hkx] at hv
   exact Dp (fun _ _ h=>h) (fun d hd=>(hσ3 d (hmem d (O6 (ht1p kx i v hv) hd))).symm) (XT (Pm hr.sub) (hr.tmps i v hv) (ht1 kx i v hv))
  ·cases hc:o.isCells with
   | true=>exact .inl rfl
   | false=>exact .inr (k4.2 b o hb hc)
  ·cases h3:M' b with
   | some o' =>
    refine h1.new b o' h3 ?_
    cases h0:M0 b with
    | none=>rfl
    | some o2=>rw [hs.sub b o2 h0] at hMb;cases hMb
   | none=>exact Nat.le_trans h1.size (hr.new b o (H7 hr.sub hb) h3)
  have h3:=H7 hr.sub hb
  rcases ho with ⟨m,hmm,rfl⟩ | ho
  ·have:=(hPn hr m hmm).2.2
   rw [hσ3 m hmm,h3] at this;cases this
  rw [<- hσ3 q hq] at ho
  obtain ⟨⟨bk,hbk⟩,hn,rfl⟩:=S5 hr (hheld x) ho
  rcases hr.loc r bk hbk with h | h
  ·rw [hn] at h;cases h
  rw [h.1] at h3;cases h3
 case body =>
  rintro l j a' W hjn ⟨x,M',σ',h1,h2,hinv,hfm,hws⟩ ⟨hj,Mn,_,hA1,hA2,hA3,hA4⟩
  obtain ⟨kx,hkx⟩:∃ kx:Fin n,kx=⟨j,hj⟩:=⟨_,rfl⟩
  rw [<- hkx] at hA3
  have hσ':=hσP h1 hXPp
  obtain ⟨MM,hM1,hM2,hCM,h1M⟩:=merge h1 h2 hA4
  obtain ⟨fl,hfl1,hfl2,hfl3,hfl4⟩:∃ fl:Loc,fl.nil=true/\fl.cap=424242/\(fl.b=(σ q).b\/(((∃ bb,get (H x) r=some bb)/\(σ' r).nil=false)/\fl.b=(σ' r).b))/\((∃ bb,get (H x) r=some bb)/\(σ' r).nil=false->fl.b=(σ' r).b):=by
   by_cases hrow:(∃ bb,get (H x) r=some bb)/\(σ' r).nil=false
   ·exact ⟨⟨(σ' r).b,424242,true⟩,rfl,rfl,.inr ⟨hrow,rfl⟩,fun _=>rfl⟩
   exact ⟨⟨(σ q).b,424242,true⟩,rfl,rfl,.inl rfl,fun h=>absurd h hrow⟩
  obtain ⟨XB,hXB⟩:∃ XB,XB=NV fid fl XP:=⟨_,rfl⟩
  have hXBf:∀ m z,XB m=some z->(m=fid/\z=fl)\/(m≠fid/\A7 pids m=true/\z=σ m):=fun m z hz=>by
   rw [hXB] at hz
   unfold NV at hz
   cases hb:Nat.beq m fid with
   | true=>rw [hb] at hz;injection hz with hz;exact .inl ⟨Nat.eq_of_beq_eq_true hb,hz.symm⟩
   | false =>
    rw [hb] at hz
    have hz:XP m=some z:=hz
    rw [hXPd] at hz
    obtain ⟨h3,h4⟩:=hXPm m z hz
    exact .inr ⟨(hpne m h3).1,h3,h4⟩
  have hXBp:∀ m,A7 pids m=true->XB m=some (σ m):=fun m h=>by
   rw [hXB]
   unfold NV
   rw [show Nat.beq m fid=false by rw [CR];simp [(hpne m h).1]]
   exact hXPp m h
  have hXBfid:XB fid=some fl:=by rw [hXB];unfold NV;rw [Nat.beq_refl];rfl
  have hin:=QO (fid:=fid) (XB:=XB) (σ2:=upd σ' fid fl) h1M (a2:=a') hA2 hA1 (fun m z hz=>by
   rcases hXBf m z hz with ⟨rfl,rfl⟩ | ⟨h3,h4,rfl⟩
   ·exact ⟨hfN,BW _ _ _⟩
   ·exact ⟨hpN m (FE h4),(CV _ _ h3).trans (hσ' m h4)⟩) (fun m h=>CV _ _ h) (fun i v hv=>⟨Dp hM2 (fun d hd=>hσ' d (hmem d (O6 (ht1p kx i v hv) hd))) (hA3 i v hv),hnof v (ht1p kx i v hv)⟩) (fun m b hb=>by
   obtain ⟨h3,h4⟩:=hh x m b hb
   rcases h3 with h3 | ⟨rfl,h3⟩
   ·exact ⟨(hpne m h3.1).1,h4,.inr ⟨m,_,hXBp m h3.1,by rw [hσ' m h3.1]⟩⟩
   refine ⟨hrf,h4,?_⟩
   cases hn:(σ' m).nil with
   | true=>exact .inl rfl
   | false=>exact .inr ⟨fid,fl,hXBfid,hfl4 ⟨⟨b,hb⟩,hn⟩⟩)
  refine wpIn_mono (hbody l W MM XB kx j x (fun m z hz=>H0 ((hXBf m z hz).elim (fun h=>by rw [h.1];exact List.mem_cons_self ..) fun h=>List.mem_cons_of_mem _ (FE h.2.1))) hjn hinv MM _ a' W hin) ?_
  rintro e a2 W' ⟨s',M3,σ3,⟨rfl,y,hy1,hy2,hy3⟩,hr⟩
  have hσ3:∀ m,A7 pids m=true->σ3 m=σ m:=fun m hmm=>(hr.pin m _ (hXBp m hmm)).2
  obtain ⟨k1,k2,k3,k4⟩:=step h1M hCM hr hy3 (fun b hb=>by
   obtain ⟨m,z,hz,hzb⟩:=hb
   rcases hXBf m z hz with ⟨rfl,rfl⟩ | ⟨h3,h4,rfl⟩
   ·rcases hfl3 with h5 | ⟨h5,h6⟩
    ·exact .inl ⟨q,hq,by rw [<- h5];exact hzb⟩
    exact .inr ⟨h5.1,h5.2,by rw [<- h6];exact hzb⟩
   exact .inl ⟨m,h4,hzb⟩) hσ3
  exact ⟨rfl,k1,k2,y,_,σ3,k3,k4,hy1,hy2 (by rw [hkx]) hfm,Nat.le_trans hws hr.size⟩
 case done =>
  rintro D W hD ⟨x,M',σ',h1,h2,hinv,hfm,hws⟩ hK
  refine ⟨⟨t0,H x⟩,_,σ',hdone x hinv hfm,cN h1 hK ?_ (Nat.le_trans hs.size hD) (fun d' hd' e => ?_) (fun m x hx=>by rw [hX0] at hx;cases hx) (fun b hb => ?_) (fun ⟨m,x,h3,_⟩=>by rw [hX0] at h3;cases h3)⟩
  ·cases h0D:M0 D with
   | none=>rfl
   | some o=>have:=hlt D o (hs.sub D o h0D);omega
  ·obtain ⟨D',h3,h4⟩:=YS hs.defers.1 hd'
   rw [h3] at e
   injection e with e1 _
   injection e1 with e1
   subst e1
   have:=hlt _ _ h4
   omega
  obtain ⟨m,hmm,rfl⟩:=(hXPi b).1 hb
  obtain ⟨bk,hbk,_⟩:=hPb x0 m hmm
  rcases hs.loc m bk hbk with h | ⟨_,h⟩
  ·rw [(hPn hs m hmm).1] at h;cases h
  exact h
end
end
section
open Go.RowKit
section
variable {P:Program} {N:Nat} {W0:World} {X:Nat→Option Loc} {M0:Nat→Option Obj}
theorem Pt {ι:Type} {Q:Exit->AS->Prop} {g:Operand} {ps:Array Tmp} {assign body:Code} {t0:List (Nat×Tv)} (pids:List Nat) (fid q off r:Nat) {gf:FuncId} {k:Nat} {caps:Nat->Cl} {n:Nat} {E:Fin n->List Av} (H:ι->List (Nat×Blk)) (t1:Fin n->List (Nat×Tv)) (Inv Fm:Nat->ι->Prop) (x0:ι)
  (hX0:∀ m,X m=none) (hg:evT (get t0) g=some (.av (.one (.clo gf k caps)))) (hcd:(Cl.clo gf k caps).dv=true) (eg:∀ args w,(callFunc gf args).run P w=.ok (.enter gf args) w)
  (It:Js P gf k caps n E) (hck:Xu N pids fid q r t0 ps=true) (hfam:∀ x,famB pids fid q off r (H x)=true) (hE:∀ x,(E x).length=ps.size) (hEd:∀ x,(E x).all Av.dv=true) (hm:∀ x,HsN (H x))
  (ht1:∀ x,TsM (t1 x)) (ht1p:∀ x,(t1 x).all (fun p=>pvT pids p.2)=true) (hI0:Inv 0 x0) (hF0:Fm 0 x0)
  (hassign:∀ l W1 M1 X1 k j x,Inv j x->PXr pids r (∃ bb,get (H x) r=some bb) X1->AWp P (some l) N W1 X1 M1 assign (fun e s'=>e=.normal/\s'=⟨t1 k,H x⟩) ⟨QP t0 ps.toList (E k),H x⟩)
  (hbody:∀ l W1 M1 X1 (k:Fin n) j x,(∀ m z,X1 m=some z->A7 (fid::pids) m=true)->j<n->Inv j x->AWp P (some l) N W1 X1 M1 body (fun e s'=>e=.normal/\∃ y,Inv (j+1) y/\(k.val=j->Fm j x->Fm (j+1) y)/\∀ m b,get (H y) m=some b->get s'.h m=some b) ⟨t1 k,H x⟩)
  (hdone:∀ x,Inv n x->Fm n x->Q .normal ⟨t0,H x⟩):AWp P none N W0 X M0 (.rangeFunc g ps assign body) Q ⟨t0,H x0⟩:=by
 unfold Xu at hck
 simp only [Bool.and_eq_true,Bool.not_eq_true'] at hck
 obtain ⟨c1,c2,c3,c4,c5,c6,c7,c8,c9⟩:=hck
 have hpv:∀ i v,get t0 i=some v->pvT pids v=true:=fun i v hv=>List.all_eq_true.1 c1 (i,v) (C9 hv)
 have hno:∀ v:Tv,pvT pids v=true->v.no fid=true:=fun v h=>by
  cases hn:v.no fid with
  | true=>rfl
  | false=>have:=H0 (O6 h hn);rw [c3] at this;cases this
 have hf:∀ x,(∀ m b,get (H x) m=some b->((A7 pids m=true/\b.isP=true)\/(m=r/\b.isR=true))/\b.no fid=true)/\(∀ m,A7 pids m=true->∃ b,get (H x) m=some b)/\PY q off r (H x)=true:=fun x=>by
  have h:=hfam x
  unfold famB at h
  simp only [Bool.and_eq_true] at h
  obtain ⟨h1,h2,h3⟩:=h
  refine ⟨fun m b hb => ?_,fun m hmm=>Option.isSome_iff_exists.1 (List.all_eq_true.1 h2 m (FE hmm)),h3⟩
  have:=List.all_eq_true.1 h1 (m,b) (C9 hb)
  simp only [Bool.and_eq_true,Bool.or_eq_true] at this
  exact ⟨this.1.imp id fun h=>⟨Nat.eq_of_beq_eq_true h.1,h.2⟩,this.2⟩
 exact Zj pids fid q off r H t1 Inv Fm x0 hX0 hg hcd eg It hE (fun p hp=>Nat.le_of_ble_eq_true (List.all_eq_true.1 c9 p hp)) hpv (fun x=>(hf x).1) (fun x=>(hf x).2.1) c3 c4 (fun e=>by rw [e,Nat.beq_refl] at c5;cases c5) (Nat.le_of_ble_eq_true c6) (Nat.le_of_ble_eq_true c7) (fun m hmm=>Nat.le_of_ble_eq_true (List.all_eq_true.1 c2 m hmm)) (fun m hmm=>H0 hmm) c8 (fun x i v hv=>Tw _ _ _ (fun j u hu=>hno u (hpv j u hu)) (hEd x) i v hv) (fun x=>(hf x).2.2) hm ht1 (fun x i v hv=>List.all_eq_true.1 (ht1p x) (i,v) (C9 hv)) hI0 hF0 hassign hbody hdone
end
section
variable {P:Program} {N:Nat} {Ow:World→Nat→Prop} {n0:Nat} {Q:IQ} {s:AS} {J:World→Prop} {al:Bool} {ops:Array Oper} {l:List Oper} {o:Oper}
theorem Yh {M:Nat->Option Obj} {σ:Nat->Loc} {w:World} {a:Act} {o:Oper} {c:Call} {f:Operand} {ly:Nat} {xs:List Av} {T:Nat->Option Tv} (hT:∀ i v,T i=some v->RT M σ v (a.tmps.getD i undef)) (ho:o.op=.call c) (hcf:c.callee=.value f) (hf:evT T f=some (.av (.one (.val (.func (.yield ly) #[] #[]))))) (hxs:E6 (evT T) c.args.toList=some xs)
  {R:Ending->World->Prop} (hY:∀ v:Array Value,L2 (RA M σ) xs v.toList->YieldAt (FW none) 0 P ly v w R) {K:Act->World->Prop} {Q:Exit->Act->World->Prop} (hK:∀ e w',R e w'->∃ V,e=.returned V/\K (a.put o.dst V) w'):o.wpIn (FW none) 0 P a w K Q:=by
 have hargs:=I1 (fun x v=>Gj hT) _ _ hxs
 obtain ⟨fn,tmps,assign,body,hy,hR⟩:=hY (c.args.map a.eval) (by simpa using hargs)
 refine ⟨fun _ _=>trivial,?_⟩
 rw [Oper.semAt_eq _ _ _ (fun d h=>by rw [ho] at h;cases h)]
 have hfv:=(Gj hT hf).1
 have hres:(execOp a.eval o).run P w=.ok (.round ly fn tmps assign body) w:=by
  simp only [execOp,ho,Sem.run_bind,resolve,hcf,hfv,Deferred.ofValue]
  simpa [invoke] using hy
 rw [hres,Oper.uponIn_round]
 refine ⟨fun h=>(by cases h),?_⟩
 have h1:RoundIn (FW none) (0-1) P ly fn tmps assign body w R:=hR
 refine h1.mono ?_
 rintro e w' he
 obtain ⟨V,rfl,hk⟩:=hK e w' he
 exact hk
theorem Wu (hO:OwS Ow n0) (hgn:o.guard=none) {c:Call} {f:Operand} {ly d:Nat} (xs:List Av) (ho:o.op=.call c) (hcf:c.callee=.value f)
  (hf:evT (get s.t) f=some (.av (.one (.val (.func (.yield ly) #[] #[]))))) (hxs:E6 (evT (get s.t)) c.args.toList=some xs) (hv:xs.all Av.dv=true) (hvm:∀ x∈xs,AvM x) (hod:o.dst=some d) (hdN:Nat.blt d N=true) (hT1:∀ i v,get s.t i=some v->v.dv=true/\TvM v)
  (hJg:∀ A B,J A->A.grownBy B none->J B) (Jt:World->Prop)
  (hY:∀ W v,J W->mB (fun _=>none) Ow xs v W->YieldAt (FW none) 0 P ly v W (fun e W'=>e=.returned (.bool true)/\Jt W'/\KpS Ow W W')) (hh:s.h=[])
  (ht:IWL P N Ow n0 ops l Q ⟨(d,tB true)::s.t,[]⟩ Jt true):IWL P N Ow n0 ops (o::l) Q s J true:=by
 intro W0 M σ a w hJ hs
 refine wpListIn_step fun K0 hK' => ?_
 rw [if_pos (by simp [Region.wanted,hgn])]
 have hgrow:W0.grownBy w none:={ os:=hs.os,tape:=hs.tape,output:=hs.output,size:=hs.size,block:=fun b hb _=>hs.old b hb (GM b) }
 have hiok:=hJ.2.2
 have hdN':d<N:=by have:=Nat.le_of_ble_eq_true hdN;omega
 have hst:∀ b,Ow w b->Ow W0 b:=hO.st W0 w (hiok rfl).1 fun b hb=>hs.old b hb (GM b)
 have hput:∀ (b:Bool) (T:List (Nat×Tv)) (M':Nat->Option Obj) (σ':Nat->Loc),(∀ i v,get T i=some v->RT M' σ' v (a.tmps.getD i undef))->∀ i v,get ((d,tB b)::T) i=some v->RT M' σ' v ((a.put o.dst (.bool b)).tmps.getD i undef):=fun b T M' σ' hT i v hv=>by
  have hds:d<a.tmps.size:=by rw [hs.room];exact hdN'
  simp only [get,CR] at hv
  rw [hod]
  by_cases hi:d=i
  ·subst hi
   simp at hv;subst hv
   have:(a.put (some d) (.bool b)).tmps.getD d undef=.bool b:=by simp [Act.put,Array.getD_eq_getD_getElem?,hds]
   rw [this]
   exact ⟨rfl,rfl⟩
  simp [hi] at hv
  have:(a.put (some d) (.bool b)).tmps.getD i undef=a.tmps.getD i undef:=by simp [Act.put,Array.getD_eq_getD_getElem?,Array.getElem?_setIfInBounds,hi]
  rw [this];exact hT i v hv
 have hsize:∀ b:Bool,(a.put o.dst (.bool b)).tmps.size=N:=fun b=>by rw [hod];simpa [Act.put] using hs.room
 have hdef:∀ b:Bool,(a.put o.dst (.bool b)).defers=[]:=fun b=>by rw [hod];simpa [Act.put] using hJ.2.1
 refine Yh hs.tmps ho hcf hf hxs (fun v hL=>hY w v (hJg W0 w hJ.1 hgrow) ⟨TO M,by have:=hL.length;simpa using this,fun b o' hb=>⟨hs.imm b o' (Ey hb).1,(Ey hb).2,fun h=>(hiok rfl).2.2 b o' (Ey hb).1 (hst b h)⟩,fun MM _ hMM => ?_⟩) fun e w2 he => ?_
 ·refine hL.mono fun x hx u hu σ' => ?_
  have h1:RA M σ' x u:=HO (r:=.av x) (List.all_eq_true.1 hv x hx) hu
  exact N2 hMM (fun _ _=>rfl) (TY LH h1 (hvm x hx))
 obtain ⟨rfl,h5,h6⟩:=he
 refine ⟨_,rfl,hK' _ _ (ht w2 (TO M) σ _ w2 ⟨h5,hdef true,fun _=>⟨Nat.le_trans (hiok rfl).1 (Nat.le_trans hs.size h6.1),fun b h=>(h6.2.2 b h).elim (fun h7=>Nat.lt_of_lt_of_le ((hiok rfl).2.1 b (hst b h7)) (Nat.le_trans hs.size h6.1)) And.right,fun b o' h hw2 => ?_⟩⟩ ?_)⟩
 ·rcases h6.2.2 b hw2 with h7 | h7
  ·exact (hiok rfl).2.2 b o' (Ey h).1 (hst b h7)
  have:=(Array.getElem?_eq_some_iff.1 (hs.imm b o' (Ey h).1)).1;omega
 exact ⟨rfl,rfl,rfl,Nat.le_refl _,fun _ _ _=>rfl,fun _ _ h=>h,fun b o h h'=>(by rw [h] at h';cases h'),fun m x hx=>(by cases hx),⟨by rw [hdef true];trivial,fun _=>hdef true⟩,hsize true,hput true s.t (TO M) σ (fun i v hv=>XT LH (hs.tmps i v hv) (hT1 i v hv).2),fun b o' h=>h6.2.1 b o' (hs.imm b o' (Ey h).1) (Ey h).2 fun h7=>(hiok rfl).2.2 b o' (Ey h).1 (hst b h7),fun n b hb=>(by cases hb),fun n b hb=>(by cases hb),fun n m b c hb=>(by cases hb)⟩
end
def IEndV (n:Nat) (JJ:Nat->World->Prop):IQ:=fun e s' J' al'=>(e=.ret\/e=.normal)/\J'=JJ n
theorem Up {P:Program} {gf:FuncId} {fn:Func} {c:Code} (hf:P.funcs[gf]? = some fn) (hb:fn.body=some c) (hnr:fn.results.toList=[]) {k:Nat} {caps:Nat->Cl} {n:Nat} {E:Fin n->List Av} (hN:Nat.ble (k+1) fn.ntmps=true) (hcd:∀ i,i<k->(caps i).dv=true)
  (h:∀ (Ow:World->Nat->Prop) (n0 ly:Nat) (JJ:Nat->World->Prop),OwS Ow n0->(∀ j A B,JJ j A->A.grownBy B none->JJ j B) ->
   (∀ j (hj:j<n) W v,JJ j W->mB (fun _=>none) Ow (E ⟨j,hj⟩) v W->YieldAt (FW none) 0 P ly v W (fun e W'=>e=.returned (.bool true)/\JJ (j+1) W'/\KpS Ow W W')) ->
   IWp P fn.ntmps Ow n0 c (IEndV n JJ) ⟨FA 0 (.one (.val (.func (.yield ly) #[] #[]))::EI k caps),[]⟩ (JJ 0) true):Js P gf k caps n E:=by
 intro M w cs Ow himm hOs hOw hcs hcaps l J W hB hJ hY h0
 have hlt:∀ b o,M b=some o->b<w.heap.size:=fun b o hb=>(Array.getElem?_eq_some_iff.1 (himm b o hb)).1
 have himmW:∀ b o,M b=some o->W.heap[b]? = some o:=fun b o hb=>(hB.block b (hlt b o hb)).trans (himm b o hb)
 have hst:∀ b,Ow W b->Ow w b:=hOs.st w W (Nat.le_refl _) fun b hb=>hB.block b hb
 have hbody:=h Ow w.heap.size l J hOs hJ (fun j hj W1 v h1 ⟨Mj,e1,e2,e3⟩=>hY j v W1 hj h1 ⟨hj,Mj,e1,e2,fun MM _ h3=>e3 MM (fun _ _ h=>by cases h) h3⟩)
 obtain ⟨a0,ha0⟩:∃ a0:Act,a0={ tmps:=(#[Value.func (.yield l) #[] #[]]++cs)++Array.replicate (fn.ntmps-(#[Value.func (.yield l) #[] #[]]++cs).size) undef,defers:=[] }:=⟨_,rfl⟩
 have hs0:Sim fn.ntmps W noX M M (fun _=>⟨0,0,false⟩) (get (FA 0 (.one (.val (.func (.yield l) #[] #[]))::EI k caps))) (get []) a0 W := ?hs0
 ·have hbod:=hbody W M (fun _=>⟨0,0,false⟩) a0 W ⟨h0,by rw [ha0],fun _=>⟨hB.size,fun b hb=>Nat.lt_of_lt_of_le (hOw b (hst b hb)).1 hB.size,fun b o hb ho=>by rw [(hOw b (hst b ho)).2] at hb;cases hb⟩⟩ hs0
  rw [ha0] at hbod
  refine callsIn_wide.2 (callsIn_wide.1 (callsIn_of_wp_marks (F:=FW none) (n:=0) hf hb trivial (wpIn_mono hbod ?_)))
  clear hbod hs0
  rintro e a' w' ⟨s',J',al',W0',M',σ',⟨he,rfl⟩,⟨hJ',hd,_⟩,hs'⟩
  have hgrow:W0'.grownBy w' none:={ os:=hs'.os,tape:=hs'.tape,output:=hs'.output,size:=hs'.size,block:=fun b hb _=>hs'.old b hb (GM b) }
  obtain ⟨U,hU,_⟩:=Xq (P:=P) (fn:=fn) (r:=.tup []) hs' (by rw [hnr];rfl)
  have key:LeavesInM (FW none) 0 P fn a'.tmps (fun e W'=>(∃ v,e=.returned v)/\J n W') a'.defers .returning w':=by
   rw [hd]
   exact ⟨U,hU,⟨U,rfl⟩,hJ n W0' w' hJ' hgrow⟩
  rcases he with rfl | rfl
  ·exact key
  exact key
 case hs0 =>
  subst ha0
  have hsz:(#[Value.func (.yield l) #[] #[]]++cs).size=k+1:=by simp [hcs];omega
  have hNk:=Nat.le_of_ble_eq_true hN
  refine ⟨rfl,rfl,rfl,Nat.le_refl _,fun _ _ _=>rfl,fun _ _ h=>h,fun b o h h'=>(by rw [h] at h';cases h'),fun m x hx=>(by cases hx),IE.nil,?_,fun i v hv => ?_,himmW,fun m b hb=>(by cases hb),fun m b hb=>(by cases hb),fun m m' b c hb=>(by cases hb)⟩
  ·simp only [Array.size_append,Array.size_replicate] at hsz ⊢
   omega
  obtain ⟨_,x,hx,rfl⟩:=K7 _ _ _ _ hv
  rw [Nat.sub_zero] at hx
  have hargs:L2 (RA M fun _=>⟨0,0,false⟩) (.one (.val (.func (.yield l) #[] #[]))::EI k caps) (.func (.yield l) #[] #[]::cs.toList):=by
   refine .cons ⟨rfl,rfl⟩ (L2.of (by simp [EI,hcs]) fun i x y hx hy => ?_)
   have hi:i<k:=by have:=(List.getElem?_eq_some_iff.1 hx).1;simpa [EI] using this
   have:=(KG (σ:=fun _=>⟨0,0,false⟩) (hcd i hi)).2 (hcaps i hi)
   simp only [EI,List.getElem?_map,List.getElem?_range hi,Option.map_some,Option.some.injEq] at hx
   subst hx
   have hy':cs.getD i undef=y:=by
    simp only [Array.getD_eq_getD_getElem?]
    rw [<- Array.getElem?_toList,hy];rfl
   rw [hy'] at this
   exact this
  obtain ⟨u,hu,hRu⟩:=hargs.get i x hx
  have:((#[Value.func (.yield l) #[] #[]]++cs)++Array.replicate (fn.ntmps-(#[Value.func (.yield l) #[] #[]]++cs).size) undef).getD i undef=u:=by
   have hu2:(#[Value.func (.yield l) #[] #[]]++cs)[i]? = some u:=by
    rw [<- Array.getElem?_toList]
    simpa using hu
   have hi:i<(#[Value.func (.yield l) #[] #[]]++cs).size:=(Array.getElem?_eq_some_iff.1 hu2).1
   rw [Array.getD_eq_getD_getElem?,Array.getElem?_append_left hi,hu2];rfl
  show RA M _ x _
  rw [this]
  exact hRu
theorem PX {P:Program} {N:Nat} {Ow:World->Nat->Prop} {n0:Nat} {Q:IQ} {s:AS} {J:World->Prop} {al:Bool} {c:Code} (ts:List Nat) (S:AS) (hS:KT ts [] s=S) (h:IWp P N Ow n0 c Q S J al):IWp P N Ow n0 c Q s J al:=by
 subst hS
 exact fun W0 M σ a w hJ hs=>h W0 M σ a w hJ (GV hs ts [])
theorem O7 {P:Program} {f:FuncId} {xs:List Av} {sz len:Nat} {F:Nat->Nat->Cl} {ty:TypeId} (h:Fr P f xs (.row sz len F ty) (fun d=>.av (.one (.own d sz len)))):GE P f xs (.av (.one (.list false sz len F))):=by
 intro M σ w args himm hargs
 refine (h M σ w args himm hargs).mono ?_
 rintro en w' ⟨U,hU,M',x,hk,hx,hb,hR⟩
 refine ⟨U,hU,?_⟩
 have hV:R M' (fun _=>x) (.own 0 sz len) U:=hR (fun _=>x) 0 rfl
 unfold R at hV
 cases hn:x.nil with
 | true =>
  rw [hn] at hV
  obtain ⟨rfl,rfl⟩:len=0/\U=.slice none 0 0:=hV
  exact ⟨M',hk,fun σ'=>RC.nil _ _ _ rfl⟩
 | false =>
  rw [hn] at hV
  have hV:U=.slice (some ⟨x.b,0,none⟩) len x.cap:=hV
  subst hV
  obtain ⟨hx1,hx2⟩:w.heap.size<=x.b/\M' x.b=none:=by
   rcases hx with h0 | h0
   ·rw [hn] at h0;cases h0
   exact h0
  rcases hb (fun _=>x) with ⟨h0,_⟩ | ⟨_,c,hc,h1,h2,h3,g,hg⟩
  ·rw [hn] at h0;cases h0
  have key:∀ b o,M' b=some o->b≠x.b:=fun b o ho e=>by rw [e,hx2] at ho;cases ho
  refine ⟨fun b=>if b=x.b then some (.cells c ty) else M' b,⟨hk.os,hk.tape,hk.output,hk.size,hk.old,fun b o ho => ?_,fun b o ho h0 => ?_,fun b o ho => ?_⟩,fun σ' => ?_⟩
  ·have:=hk.sub b o ho
   simp only [if_neg (key b o this)];exact this
  ·by_cases e:b=x.b
   ·rw [e];exact hx1
   simp only [if_neg e] at ho;exact hk.new b o ho h0
  ·by_cases e:b=x.b
   ·simp only [if_pos e,Option.some.injEq] at ho;rw [e,<- ho];exact hc
   simp only [if_neg e] at ho;exact hk.imm b o ho
  show RC _ (.list false sz len F) _
  refine .list false sz len F x.b 0 x.cap g (fun i j hi hj => ?_) (fun i j hi hj=>EY (fun b o ho => ?_) (hg i j hi hj).2) h2 (fun h=>by cases h)
  ·simp only [E5,if_pos]
   rw [Nat.zero_add]
   exact (hg i j hi hj).1
  simp only [if_neg (key b o ho)];exact ho
theorem ZY {P:Program} {gf:FuncId} {fn:Func} {c:Code} (hf:P.funcs[gf]? = some fn) (hb:fn.body=some c) (hnr:fn.results.toList=[]) {k:Nat} {caps:Nat->Cl} {n:Nat} {E:Fin n->List Av} (hE:∀ x,(E x).all Av.isV=true) (hE1:∀ x,∀ e∈E x,∀ c∈e.cells,c.toV.oneCell'=true) (hN:Nat.ble (k+1) fn.ntmps=true) (hcd:∀ i,i<k->(caps i).dv=true)
  (h:∀ (Ow:World->Nat->Prop) (n0 ly:Nat) (JJ Jx:Nat->World->Prop),OwS Ow n0->(∀ j A B,JJ j A->A.grownBy B none->JJ j B) ->
   (∀ j (hj:j<n) W,JJ j W->YieldAt (FW none) 0 P ly ((E ⟨j,hj⟩).map Av.toV).toArray W (fun e W'=>(e=.returned (.bool true)/\JJ (j+1) W'/\KpS Ow W W')\/(e=.returned (.bool false)/\Jx (j+1) W'))) ->
   IWp P fn.ntmps Ow n0 c (IEnd n JJ Jx) ⟨FA 0 (.one (.val (.func (.yield ly) #[] #[]))::EI k caps),[]⟩ (JJ 0) true):Js P gf k caps n E :=
 Up hf hb hnr hN hcd fun Ow n0 ly JJ hO hJ hY=>by
  have h1:=h Ow n0 ly JJ (fun _ _=>False) hO hJ (fun j hj W hW=>by
   obtain ⟨fn',tm,as',bd,hy,hR⟩:=hY j hj W ((E ⟨j,hj⟩).map Av.toV).toArray hW ⟨fun _=>none,by simp,(fun b o hb=>by cases hb),fun MM _ _=>by
    have e1:=hE ⟨j,hj⟩
    have e2:=hE1 ⟨j,hj⟩
    show L2 _ (E ⟨j,hj⟩) ((E ⟨j,hj⟩).map Av.toV)
    generalize E ⟨j,hj⟩=l at e1 e2 ⊢
    induction l with
    | nil=>exact .nil
    | cons e l ih =>
     simp only [List.all_cons,Bool.and_eq_true] at e1
     exact .cons (fun σ=>nN e1.1 (e2 e (List.mem_cons_self ..))) (ih e1.2 fun e he=>e2 e (List.mem_cons_of_mem _ he))⟩
   exact ⟨fn',tm,as',bd,hy,hR.mono fun e W' he=>.inl he⟩)
  intro W0 M σ a w hJ0 hs
  refine wpIn_mono (h1 W0 M σ a w hJ0 hs) ?_
  rintro e a' w' ⟨s',J',al',W0',M',σ',⟨he,hend⟩,hJ',hs'⟩
  rcases hend with rfl | ⟨j,hj,rfl⟩
  ·exact ⟨s',_,al',W0',M',σ',⟨he,rfl⟩,hJ',hs'⟩
  exact hJ'.1.elim
theorem Ww {P:Program} {gf:FuncId} {t:Bool} {sz len:Nat} {f:Nat->Nat->Cl} {k:Nat} {caps:Nat->Cl} {n:Nat} {E:Fin n->List Av} (E':(Nat->Nat->Value)->Fin n->List Av) (h0:caps 0=gY t sz len f) (hk:0<k)
  (hI:∀ g:Nat->Nat->Value,(∀ i j,i<len->j<sz->(g i j).oneCell'=true)->Js P gf k (fun i=>match i with | 0=>gY t sz len (fun i j=>.val (g i j)) | i+1=>caps (i+1)) n (E' g)) (hlen:∀ g x,(E' g x).length=(E x).length)
  (hE:∀ M g x (vs:List Value),(∀ i j,i<len->j<sz->RC M (f i j) (g i j))->L2 (fun e v=>∀ σ,RA M σ e v) (E' g x) vs->L2 (fun e v=>∀ σ,RA M σ e v) (E x) vs):Js P gf k caps n E:=by
 intro M w cs Ow himm hOs hOw hcs hcaps
 have h:=hcaps 0 hk
 rw [h0] at h
 obtain ⟨g,h1,h2⟩:=WJ h
 have h3:=hI g (fun i j hi hj=>iO (h2 i j hi hj)) M w cs Ow himm hOs hOw hcs (fun i hi=>by
  cases i with
  | zero=>exact h1
  | succ i=>exact hcaps _ hi)
 intro l J W hB hJ hY hJ0
 exact h3 l J W hB hJ (fun j v A hj hJA ⟨hj',Mj,e1,e2,e3⟩=>hY j v A hj hJA ⟨hj',Mj,(hlen g _).symm.trans e1,e2,fun MM m1 m2=>hE MM g _ _ (fun i j hi hj=>EY m1 (h2 i j hi hj)) (e3 MM m1 m2)⟩) hJ0
theorem Wx {P:Program} {gf:FuncId} {k:Nat} {caps caps':Nat->Cl} {n:Nat} {E:Fin n->List Av} (h:∀ i,i<k->caps' i=caps i) (H:Js P gf k caps n E):Js P gf k caps' n E :=
 fun M w cs Ow a b c d e=>H M w cs Ow a b c d fun i hi=>by rw [<- h i hi];exact e i hi
theorem fK {P:Program} {N:Nat} {Ow:World->Nat->Prop} {n0:Nat} {Q:IQ} {s:AS} {J:World->Prop} {al:Bool} (hO:OwS Ow n0) {x y z:Code} (hdv:∀ i v,get s.t i=some v->v.dv=true) (hh:s.h=[])
  (h:∀ W0 X1 M1,(∀ k u,X1 k=some u->A7 [N] k=true)->AWp P none N W0 X1 M1 x (ATh (AWp P none N W0 X1 M1 y (fun e s'=>e=.normal/\∃ S,(∀ W2 M2,Cv N W2 noX M2 s' S)/\IWp P N Ow n0 z Q S J al)) (fun _ _=>False)) s):IWp P N Ow n0 (.seq x (.seq y z)) Q s J al:=by
 intro W0 M σ a w hJ hs
 have hX:∀ k u,NX N W0.heap.size k=some u->A7 [N] k=true:=fun k u hk=>by rw [(Pf hk).1];exact Lf _
 refine wpIn_seq (wpIn_mono (h W0 _ M hX M _ a w (Ox hdv hh hJ.2.1 hs)) ?_)
 rintro e a' w' ⟨s',M',σ',h1,h2⟩
 cases e with
 | normal =>
  refine wpIn_seq (wpIn_mono (h1 M' σ' a' w' h2) ?_)
  rintro e a2 w2 ⟨s2,M2,σ2,⟨rfl,S,h3,h4⟩,h5⟩
  have h6:=Lm hJ.2.2 hO h5
  obtain ⟨hd,h7⟩:=Kv h5
  obtain ⟨M3,σ3,h8⟩:=h3 W0 M2 M2 σ2 a2 w2 h7
  exact h4 W0 M3 σ3 a2 w2 ⟨hJ.1,hd,Lm h6 hO h8⟩ (Tu h8 hd)
 | _=>exact h1.elim
end
def Cd (x0:AE) (x1:AE):AE:=AE.mk (W64 (x0.X+x1.X)) (W64 (x0.Y+x1.Y))
def Fb (x0:AE) (x1:AE):CT:=(104,[.agg (AE.c x0),.agg (AE.c x1)],.val [] (.av (.agg (AE.c (Cd x0 x1)))))
theorem Yv (x0:AE) (x1:AE):PuP 104 (Fb x0 x1).2.1 (.av (.agg (AE.c (Cd x0 x1)))):=by
 refine pwf Tryz.func104 fun W0 M0 => ?_
 refine AA<|rn ⟨[(2,tP 2 0),(3,tP 3 0),(4,tP 4 0)],[(2,.cells (AE.c x0) 47),(3,.cells (AE.c x1) 47),(4,.cells [.i 0,.i 0] 47)]⟩<|AA ?_
 refine rn ⟨[(4,tP 4 0)],[(4,.cells [.i (W64 (x0.X+x1.X)),.i (W64 (x0.Y+x1.Y))] 47)]⟩<|AY ?_
 exact xl (.av (.agg [.i (W64 (x0.X+x1.X)),.i (W64 (x0.Y+x1.Y))])) (Bz (by rfl))
theorem Ky (x0:AE) (x1:AE):OKc (Fb x0 x1):=cPu<|Yv x0 x1
def CP (x0:Int):Int:=Int.tmod (W64 ((Int.tmod x0 4)+4)) 4
def Ji (x0:Int):CT:=(122,[.one (.i x0)],.val [] (.av (.one (.i (CP x0)))))
theorem au14 {p:Prop} (h:p:=by first | assumption | decide | omega):p:=h
theorem UC (x0:Int):PuP 122 (Ji x0).2.1 (tO (.i (CP x0))):=by
 refine pwf Tryz.func122 fun W0 M0 => ?_
 refine AA<|rn ⟨[(0,tI x0)],[]⟩<|AA ?_
 refine rc [] [(4:Int)≠0,(4:Int)≠0] ⟨[(2,tI (Int.tmod (W64 ((Int.tmod x0 4)+4)) 4))],[]⟩ .nil (.cons au14 (.cons au14 .nil))<|AG<|AY ?_
 exact xl (tO (.i (Int.tmod (W64 ((Int.tmod x0 4)+4)) 4))) (Bz (by rfl))
theorem Sg (x0:Int):OKc (Ji x0):=cPu<|UC x0
def Cc (x0:AE) (x1:Int):AE:=bif decide (((CP x1):Int)=1) then (AE.mk (W64 (0-x0.Y)) x0.X) else (bif decide (((CP x1):Int)=2) then (AE.mk (W64 (0-x0.X)) (W64 (0-x0.Y))) else (bif decide (((CP x1):Int)=3) then (AE.mk x0.Y (W64 (0-x0.X))) else (x0)))
def Gx (x0:AE) (x1:Int):CT:=(116,[.agg (AE.c x0),.one (.i x1)],.val [] (.av (.agg (AE.c (Cc x0 x1)))))
theorem SW (x0:AE) (x1:Int):PuP 116 (Gx x0 x1).2.1 (.av (.agg (AE.c (Cc x0 x1)))):=by
 refine pwf Tryz.func116 fun W0 M0 => ?_
 refine AA<|rn ⟨[(1,tI x1),(2,tP 2 0),(4,tP 4 0)],[(2,.cells (AE.c x0) 47),(4,.cells [.i 0,.i 0] 47)]⟩ ?_
 refine AA<|AA ?_
 refine rs 6 (Ji x1) ⟨[(2,tP 2 0),(4,tP 4 0),(6,tI (CP x1))],[(2,.cells (AE.c x0) 47),(4,.cells [.i 0,.i 0] 47)]⟩ (Sg x1)<|AG ?_
 refine AQ<|AA ?_
 refine rn ⟨[(2,tP 2 0),(4,tP 4 0),(6,tI (CP x1)),(7,tB (decide (((CP x1):Int)=1)))],[(2,.cells (AE.c x0) 47),(4,.cells [.i 0,.i 0] 47)]⟩ ?_
 refine AO _ rfl (fun h1 => ?_) (fun h1 => ?_)
 ·refine AA<|rn ⟨[(4,tP 4 0)],[(4,.cells [.i (W64 (0-x0.Y)),.i x0.X] 47)]⟩ ?_
  refine AY<|Bw<|BJ ?_
  exact xl (.av (.agg [.i (W64 (0-x0.Y)),.i x0.X])) (Bz (by simp only [Cc,h1,cond_true,cond_false] <;> rfl))
 refine AA<|rn ⟨[(2,tP 2 0),(4,tP 4 0),(6,tI (CP x1)),(15,tB (decide (((CP x1):Int)=2)))],[(2,.cells (AE.c x0) 47),(4,.cells [.i 0,.i 0] 47)]⟩ ?_
 refine AO _ rfl (fun h2 => ?_) (fun h2 => ?_)
 ·refine AA<|rn ⟨[(4,tP 4 0)],[(4,.cells [.i (W64 (0-x0.X)),.i (W64 (0-x0.Y))] 47)]⟩ ?_
  refine AY<|Bw<|BJ ?_
  exact xl (.av (.agg [.i (W64 (0-x0.X)),.i (W64 (0-x0.Y))])) (Bz (by simp only [Cc,h1,h2,cond_true,cond_false] <;> rfl))
 refine AA<|rn ⟨[(2,tP 2 0),(4,tP 4 0),(24,tB (decide (((CP x1):Int)=3)))],[(2,.cells (AE.c x0) 47),(4,.cells [.i 0,.i 0] 47)]⟩ ?_
 refine AO _ rfl (fun h3 => ?_) (fun h3 => ?_)
 ·refine AA<|rn ⟨[(4,tP 4 0)],[(4,.cells [.i x0.Y,.i (W64 (0-x0.X))] 47)]⟩ ?_
  refine AY<|Bw<|BJ ?_
  exact xl (.av (.agg [.i x0.Y,.i (W64 (0-x0.X))])) (Bz (by simp only [Cc,h1,h2,h3,cond_true,cond_false] <;> rfl))
 refine AZ<|A3 ?_
 refine AG<|AA ?_
 refine rn ⟨[(4,tP 4 0)],[(4,.cells (AE.c x0) 47)]⟩<|AY ?_
 exact xl (.av (.agg (AE.c x0))) (Bz (by simp only [Cc,h1,h2,h3,cond_true,cond_false] <;> rfl))
theorem QD (x0:AE) (x1:Int):OKc (Gx x0 x1):=cPu<|SW x0 x1
def CL (x0:AE) (x1:Bool):AE:=AE.mk (bif x1 then (W64 (0-x0.X)) else x0.X) x0.Y
def Fv (x0:AE) (x1:Bool):CT:=(117,[.agg (AE.c x0),.one (.b x1)],.val [] (.av (.agg (AE.c (CL x0 x1)))))
theorem O8 (x0:AE) (x1:Bool):PuP 117 (Fv x0 x1).2.1 (.av (.agg (AE.c (CL x0 x1)))):=by
 refine pwf Tryz.func117 fun W0 M0 => ?_
 refine AA<|rn ⟨[(1,tB x1),(2,tP 2 0),(4,tP 4 0)],[(2,.cells (AE.c x0) 47),(4,.cells [.i 0,.i 0] 47)]⟩ ?_
 refine AA<|AA ?_
 refine rn ⟨[(2,tP 2 0),(4,tP 4 0),(5,tB x1)],[(2,.cells (AE.c x0) 47),(4,.cells [.i 0,.i 0] 47)]⟩ ?_
 refine B4 (⟨[(2,tP 2 0),(4,tP 4 0)],[(2,.cells [.i (bif x1 then (W64 (0-x0.X)) else x0.X),.i x0.Y] 47),(4,.cells [.i 0,.i 0] 47)]⟩) ?_ ?_
 ·refine AO _ rfl (fun h1 => ?_) (fun h1 => ?_)
  ·refine rn ⟨[(2,tP 2 0),(4,tP 4 0)],[(2,.cells [.i (W64 (0-x0.X)),.i x0.Y] 47),(4,.cells [.i 0,.i 0] 47)]⟩ ?_
   refine BE ?_
   first | rfl | (simp only [h1,cond_true,cond_false] <;> rfl)
  refine AZ<|AG ?_
  refine Cv.trans (ck (⟨[(2,tP 2 0),(4,tP 4 0)],[(2,.cells (AE.c x0) 47),(4,.cells [.i 0,.i 0] 47)]⟩)) (BE ?_)
  first | rfl | (simp only [h1,cond_true,cond_false] <;> rfl)
 refine AA<|rn ⟨[(4,tP 4 0)],[(4,.cells [.i (bif x1 then (W64 (0-x0.X)) else x0.X),.i x0.Y] 47)]⟩<|AY ?_
 exact xl (.av (.agg [.i (bif x1 then (W64 (0-x0.X)) else x0.X),.i x0.Y])) (Bz (by rfl))
theorem Nl (x0:AE) (x1:Bool):OKc (Fv x0 x1):=cPu<|O8 x0 x1
def Z09 (x1:AE) (x0:Ac):AE:=Cc (CL x1 x0.Mirror) x0.Turn
def Ae (x0:Ac) (x1:AE):AE:=Cd (Z09 x1 x0) x0.At
def DL (x0:Ac) (x1:AE):CT:=(103,[.agg (Ac.c x0),.agg (AE.c x1)],.val [] (.av (.agg (AE.c (Ae x0 x1)))))
theorem UD (x0:Ac) (x1:AE):PuP 103 (DL x0 x1).2.1 (.av (.agg (AE.c (Ae x0 x1)))):=by
 refine pwf Tryz.func103 fun W0 M0 => ?_
 refine AA<|rn ⟨[(2,tP 2 0),(3,tP 3 0),(4,tP 4 0)],[(2,.cells (Ac.c x0) 51),(3,.cells (AE.c x1) 47),(4,.cells [.i 0,.i 0] 47)]⟩<|AA ?_
 refine dw [] [(8,Fv x1 x0.Mirror),(11,Gx (CL x1 x0.Mirror) x0.Turn),(14,Fb (Z09 x1 x0) x0.At)] [Ay (Fv x1 x0.Mirror).2.1,Ay (Gx (CL x1 x0.Mirror) x0.Turn).2.1,Ay (Fb (Z09 x1 x0) x0.At).2.1] ⟨[(4,tP 4 0)],[(4,.cells (AE.c (Cd (Z09 x1 x0) x0.At)) 47)]⟩ (.cons (Nl x1 x0.Mirror) (.cons (QD (CL x1 x0.Mirror) x0.Turn) (.cons (Ky (Z09 x1 x0) x0.At) .nil))) (.cons rfl (.cons rfl (.cons rfl .nil)))<|AG<|AY ?_
 exact xl (.av (.agg (AE.c (Cd (Z09 x1 x0) x0.At)))) (Bz (by rfl))
theorem Ev (x0:Ac) (x1:AE):OKc (DL x0 x1):=cPu<|UD x0 x1
def C6 (x0:Int):Int:=bif decide ((x0:Int)=2) then (3) else (bif decide ((x0:Int)=3) then (2) else (x0))
def LB (x0:Int):CT:=(108,[.one (.i x0)],.val [] (.av (.one (.i (C6 x0)))))
theorem WM (x0:Int):PuP 108 (LB x0).2.1 (tO (.i (C6 x0))):=by
 refine pwf Tryz.func108 fun W0 M0 => ?_
 refine AA<|rn ⟨[(0,tI x0)],[]⟩ ?_
 refine AA<|AA ?_
 refine rn ⟨[(0,tI x0),(3,tI x0)],[]⟩ ?_
 refine AQ<|AA ?_
 refine rn ⟨[(0,tI x0),(3,tI x0),(4,tB (decide ((x0:Int)=2)))],[]⟩ ?_
 refine AO _ rfl (fun h1 => ?_) (fun h1 => ?_)
 ·refine AA<|rn ⟨[(2,tI 3)],[]⟩ ?_
  refine AY<|Bw<|BJ ?_
  exact xl (tO (.i 3)) (Bz (by simp only [C6,h1,cond_true,cond_false] <;> rfl))
 refine AA<|rn ⟨[(0,tI x0),(6,tB (decide ((x0:Int)=3)))],[]⟩ ?_
 refine AO _ rfl (fun h2 => ?_) (fun h2 => ?_)
 ·refine AA<|rn ⟨[(2,tI 2)],[]⟩ ?_
  refine AY<|Bw<|BJ ?_
  exact xl (tO (.i 2)) (Bz (by simp only [C6,h1,h2,cond_true,cond_false] <;> rfl))
 refine AZ<|A3 ?_
 refine AG<|AA ?_
 refine rn ⟨[(2,tI x0)],[]⟩<|AY ?_
 exact xl (tO (.i x0)) (Bz (by simp only [C6,h1,h2,cond_true,cond_false] <;> rfl))
theorem UL (x0:Int):OKc (LB x0):=cPu<|WM x0
def HP (x0:AN) (x1:Ac):AN:=AN.mk (bif x1.Mirror then (C6 x0.Kind) else x0.Kind) (Ae x1 x0.A) (Ae x1 x0.B) (AE.mk (bif !decide ((x0.Kind:Int)=1) then ((Ae x1 x0.C).X) else x0.C.X) (bif !decide ((x0.Kind:Int)=1) then ((Ae x1 x0.C).Y) else x0.C.Y))
def Iw (x0:AN) (x1:Ac):CT:=(98,[.agg (AN.c x0),.agg (Ac.c x1)],.val [] (.av (.agg (AN.c (HP x0 x1)))))
theorem WN (x0:AN) (x1:Ac):PuP 98 (Iw x0 x1).2.1 (.av (.agg (AN.c (HP x0 x1)))):=by
 refine pwf Tryz.func98 fun W0 M0 => ?_
 refine AA<|rn ⟨[(2,tP 2 0),(3,tP 3 0),(4,tP 4 0)],[(2,.cells (AN.c x0) 136),(3,.cells (Ac.c x1) 51),(4,.cells [.i 0,.i 0,.i 0,.i 0,.i 0,.i 0,.i 0] 136)]⟩<|AA ?_
 refine dw [] [(11,DL x1 x0.A),(15,DL x1 x0.B)] [Ay (DL x1 x0.A).2.1,Ay (DL x1 x0.B).2.1] ⟨[(2,tP 2 0),(3,tP 3 0),(4,tP 4 0),(5,tP 5 0)],[(2,.cells (AN.c x0) 136),(3,.cells (Ac.c x1) 51),(4,.cells [.i 0,.i 0,.i 0,.i 0,.i 0,.i 0,.i 0] 136),(5,.cells [.i x0.Kind,.i ((Ae x1 x0.A).X),.i ((Ae x1 x0.A).Y),.i ((Ae x1 x0.B).X),.i ((Ae x1 x0.B).Y),.i x0.C.X,.i x0.C.Y] 136)]⟩ (.cons (Ev x1 x0.A) (.cons (Ev x1 x0.B) .nil)) (.cons rfl (.cons rfl .nil))<|AG ?_
 refine AA<|AA ?_
 refine rn ⟨[(2,tP 2 0),(3,tP 3 0),(4,tP 4 0),(5,tP 5 0),(21,tB (!decide ((x0.Kind:Int)=1)))],[(2,.cells (AN.c x0) 136),(3,.cells (Ac.c x1) 51),(4,.cells [.i 0,.i 0,.i 0,.i 0,.i 0,.i 0,.i 0] 136),(5,.cells [.i x0.Kind,.i ((Ae x1 x0.A).X),.i ((Ae x1 x0.A).Y),.i ((Ae x1 x0.B).X),.i ((Ae x1 x0.B).Y),.i x0.C.X,.i x0.C.Y] 136)]⟩ ?_
 refine B4 (⟨[(2,tP 2 0),(3,tP 3 0),(4,tP 4 0),(5,tP 5 0)],[(2,.cells (AN.c x0) 136),(3,.cells (Ac.c x1) 51),(4,.cells [.i 0,.i 0,.i 0,.i 0,.i 0,.i 0,.i 0] 136),(5,.cells [.i x0.Kind,.i ((Ae x1 x0.A).X),.i ((Ae x1 x0.A).Y),.i ((Ae x1 x0.B).X),.i ((Ae x1 x0.B).Y),.i (bif !decide ((x0.Kind:Int)=1) then ((Ae x1 x0.C).X) else x0.C.X),.i (bif !decide ((x0.Kind:Int)=1) then ((Ae x1 x0.C).Y) else x0.C.Y)] 136)]⟩) ?_ ?_
 ·refine AO _ rfl (fun h1 => ?_) (fun h1 => ?_)
  ·have g1:=EH h1
   refine rs 25 (DL x1 x0.C) ⟨[(2,tP 2 0),(3,tP 3 0),(4,tP 4 0),(5,tP 5 0)],[(2,.cells (AN.c x0) 136),(3,.cells (Ac.c x1) 51),(4,.cells [.i 0,.i 0,.i 0,.i 0,.i 0,.i 0,.i 0] 136),(5,.cells [.i x0.Kind,.i ((Ae x1 x0.A).X),.i ((Ae x1 x0.A).Y),.i ((Ae x1 x0.B).X),.i ((Ae x1 x0.B).Y),.i ((Ae x1 x0.C).X),.i ((Ae x1 x0.C).Y)] 136)]⟩ (Ev x1 x0.C)<|AG ?_
   refine BE ?_
   first | rfl | (simp only [h1,cond_true,cond_false] <;> rfl)
  have g1:=D4 h1
  refine AZ<|AG ?_
  refine Cv.trans (ck (⟨[(2,tP 2 0),(3,tP 3 0),(4,tP 4 0),(5,tP 5 0)],[(2,.cells (AN.c x0) 136),(3,.cells (Ac.c x1) 51),(4,.cells [.i 0,.i 0,.i 0,.i 0,.i 0,.i 0,.i 0] 136),(5,.cells [.i x0.Kind,.i ((Ae x1 x0.A).X),.i ((Ae x1 x0.A).Y),.i ((Ae x1 x0.B).X),.i ((Ae x1 x0.B).Y),.i x0.C.X,.i x0.C.Y] 136)]⟩)) (BE ?_)
  first | rfl | (simp only [h1,cond_true,cond_false] <;> rfl)
 refine AA<|AA ?_
 refine rn ⟨[(2,tP 2 0),(4,tP 4 0),(5,tP 5 0),(28,tB x1.Mirror)],[(2,.cells (AN.c x0) 136),(4,.cells [.i 0,.i 0,.i 0,.i 0,.i 0,.i 0,.i 0] 136),(5,.cells [.i x0.Kind,.i ((Ae x1 x0.A).X),.i ((Ae x1 x0.A).Y),.i ((Ae x1 x0.B).X),.i ((Ae x1 x0.B).Y),.i (bif !decide ((x0.Kind:Int)=1) then ((Ae x1 x0.C).X) else x0.C.X),.i (bif !decide ((x0.Kind:Int)=1) then ((Ae x1 x0.C).Y) else x0.C.Y)] 136)]⟩ ?_
 refine B4 (⟨[(4,tP 4 0),(5,tP 5 0)],[(4,.cells [.i 0,.i 0,.i 0,.i 0,.i 0,.i 0,.i 0] 136),(5,.cells [.i (bif x1.Mirror then (C6 x0.Kind) else x0.Kind),.i ((Ae x1 x0.A).X),.i ((Ae x1 x0.A).Y),.i ((Ae x1 x0.B).X),.i ((Ae x1 x0.B).Y),.i (bif !decide ((x0.Kind:Int)=1) then ((Ae x1 x0.C).X) else x0.C.X),.i (bif !decide ((x0.Kind:Int)=1) then ((Ae x1 x0.C).Y) else x0.C.Y)] 136)]⟩) ?_ ?_
 ·refine AO _ rfl (fun h1 => ?_) (fun h1 => ?_)
  ·refine rs 31 (LB x0.Kind) ⟨[(4,tP 4 0),(5,tP 5 0)],[(4,.cells [.i 0,.i 0,.i 0,.i 0,.i 0,.i 0,.i 0] 136),(5,.cells [.i (C6 x0.Kind),.i ((Ae x1 x0.A).X),.i ((Ae x1 x0.A).Y),.i ((Ae x1 x0.B).X),.i ((Ae x1 x0.B).Y),.i (bif !decide ((x0.Kind:Int)=1) then ((Ae x1 x0.C).X) else x0.C.X),.i (bif !decide ((x0.Kind:Int)=1) then ((Ae x1 x0.C).Y) else x0.C.Y)] 136)]⟩ (UL x0.Kind)<|AG ?_
   refine BE ?_
   first | rfl | (simp only [h1,cond_true,cond_false] <;> rfl)
  refine AZ<|AG ?_
  refine Cv.trans (ck (⟨[(4,tP 4 0),(5,tP 5 0)],[(4,.cells [.i 0,.i 0,.i 0,.i 0,.i 0,.i 0,.i 0] 136),(5,.cells [.i x0.Kind,.i ((Ae x1 x0.A).X),.i ((Ae x1 x0.A).Y),.i ((Ae x1 x0.B).X),.i ((Ae x1 x0.B).Y),.i (bif !decide ((x0.Kind:Int)=1) then ((Ae x1 x0.C).X) else x0.C.X),.i (bif !decide ((x0.Kind:Int)=1) then ((Ae x1 x0.C).Y) else x0.C.Y)] 136)]⟩)) (BE ?_)
  first | rfl | (simp only [h1,cond_true,cond_false] <;> rfl)
 refine AA<|rn ⟨[(4,tP 4 0)],[(4,.cells [.i (bif x1.Mirror then (C6 x0.Kind) else x0.Kind),.i ((Ae x1 x0.A).X),.i ((Ae x1 x0.A).Y),.i ((Ae x1 x0.B).X),.i ((Ae x1 x0.B).Y),.i (bif !decide ((x0.Kind:Int)=1) then ((Ae x1 x0.C).X) else x0.C.X),.i (bif !decide ((x0.Kind:Int)=1) then ((Ae x1 x0.C).Y) else x0.C.Y)] 136)]⟩<|AY ?_
 exact xl (.av (.agg [.i (bif x1.Mirror then (C6 x0.Kind) else x0.Kind),.i ((Ae x1 x0.A).X),.i ((Ae x1 x0.A).Y),.i ((Ae x1 x0.B).X),.i ((Ae x1 x0.B).Y),.i (bif !decide ((x0.Kind:Int)=1) then ((Ae x1 x0.C).X) else x0.C.X),.i (bif !decide ((x0.Kind:Int)=1) then ((Ae x1 x0.C).Y) else x0.C.Y)])) (Bz (by rfl))
theorem UM (x0:AN) (x1:Ac):OKc (Iw x0 x1):=cPu<|WN x0 x1
def Z0a (x2:Int) (x1:Int):AE:=Ae (Ac.mk (AE.mk 0 0) x2 false) (AE.mk x1 0)
def Z0b (x3:Int) (x2:Int) (x1:Int):AE:=Ae (Ac.mk (AE.mk 0 0) (bif decide ((x3:Int)=3) then (W64 (x2+3)) else (W64 (x2+1))) false) (AE.mk x1 0)
def Fd (x0:AE) (x1:Int) (x2:Int) (x3:Int):AN:=AN.mk x3 (Cd x0 (Z0a x2 x1)) (Cd x0 (Z0b x3 x2 x1)) x0
def CZ (x0:AE) (x1:Int) (x2:Int) (x3:Int):CT:=(88,[.agg (AE.c x0),.one (.i x1),.one (.i x2),.one (.i x3)],.val [] (.av (.agg (AN.c (Fd x0 x1 x2 x3)))))
theorem Yu (x0:AE) (x1:Int) (x2:Int) (x3:Int):PuP 88 (CZ x0 x1 x2 x3).2.1 (.av (.agg (AN.c (Fd x0 x1 x2 x3)))):=by
 refine pwf Tryz.func88 fun W0 M0 => ?_
 refine AA<|rn ⟨[(1,tI x1),(2,tI x2),(3,tI x3),(4,tP 4 0),(8,tP 8 0)],[(4,.cells (AE.c x0) 47),(8,.cells [.i 0,.i 0,.i 0,.i 0,.i 0,.i 0,.i 0] 136)]⟩<|AA ?_
 refine rs 16 (DL (Ac.mk (AE.mk 0 0) x2 false) (AE.mk x1 0)) ⟨[(1,tI x1),(2,tI x2),(3,tI x3),(4,tP 4 0),(8,tP 8 0),(9,tP 9 0)],[(4,.cells (AE.c x0) 47),(8,.cells [.i 0,.i 0,.i 0,.i 0,.i 0,.i 0,.i 0] 136),(9,.cells (AE.c (Z0a x2 x1)) 47)]⟩ (Ev (Ac.mk (AE.mk 0 0) x2 false) (AE.mk x1 0))<|AG<|AA ?_
 refine rn ⟨[(1,tI x1),(2,tI x2),(3,tI x3),(4,tP 4 0),(8,tP 8 0),(9,tP 9 0),(10,tI (W64 (x2+1)))],[(4,.cells (AE.c x0) 47),(8,.cells [.i 0,.i 0,.i 0,.i 0,.i 0,.i 0,.i 0] 136),(9,.cells (AE.c (Z0a x2 x1)) 47)]⟩ ?_
 refine AA<|AA ?_
 refine rn ⟨[(1,tI x1),(2,tI x2),(3,tI x3),(4,tP 4 0),(8,tP 8 0),(9,tP 9 0),(10,tI (W64 (x2+1))),(20,tB (decide ((x3:Int)=3)))],[(4,.cells (AE.c x0) 47),(8,.cells [.i 0,.i 0,.i 0,.i 0,.i 0,.i 0,.i 0] 136),(9,.cells (AE.c (Z0a x2 x1)) 47)]⟩ ?_
 refine B4 (⟨[(1,tI x1),(3,tI x3),(4,tP 4 0),(8,tP 8 0),(9,tP 9 0),(10,tI (bif decide ((x3:Int)=3) then (W64 (x2+3)) else (W64 (x2+1))))],[(4,.cells (AE.c x0) 47),(8,.cells [.i 0,.i 0,.i 0,.i 0,.i 0,.i 0,.i 0] 136),(9,.cells (AE.c (Z0a x2 x1)) 47)]⟩) ?_ ?_
 ·refine AO _ rfl (fun h1 => ?_) (fun h1 => ?_)
  ·refine rn ⟨[(1,tI x1),(3,tI x3),(4,tP 4 0),(8,tP 8 0),(9,tP 9 0),(10,tI (W64 (x2+3)))],[(4,.cells (AE.c x0) 47),(8,.cells [.i 0,.i 0,.i 0,.i 0,.i 0,.i 0,.i 0] 136),(9,.cells (AE.c (Z0a x2 x1)) 47)]⟩ ?_
   refine BE ?_
   first | rfl | (simp only [h1,cond_true,cond_false] <;> rfl)
  refine AZ<|AG ?_
  refine Cv.trans (ck (⟨[(1,tI x1),(3,tI x3),(4,tP 4 0),(8,tP 8 0),(9,tP 9 0),(10,tI (W64 (x2+1)))],[(4,.cells (AE.c x0) 47),(8,.cells [.i 0,.i 0,.i 0,.i 0,.i 0,.i 0,.i 0] 136),(9,.cells (AE.c (Z0a x2 x1)) 47)]⟩)) (BE ?_)
  first | rfl | (simp only [h1,cond_true,cond_false] <;> rfl)
 refine AA<|rs 27 (DL (Ac.mk (AE.mk 0 0) (bif decide ((x3:Int)=3) then (W64 (x2+3)) else (W64 (x2+1))) false) (AE.mk x1 0)) ⟨[(3,tI x3),(4,tP 4 0),(8,tP 8 0),(9,tP 9 0),(11,tP 11 0)],[(4,.cells (AE.c x0) 47),(8,.cells [.i 0,.i 0,.i 0,.i 0,.i 0,.i 0,.i 0] 136),(9,.cells (AE.c (Z0a x2 x1)) 47),(11,.cells (AE.c (Z0b x3 x2 x1)) 47)]⟩ (Ev (Ac.mk (AE.mk 0 0) (bif decide ((x3:Int)=3) then (W64 (x2+3)) else (W64 (x2+1))) false) (AE.mk x1 0))<|AG<|AA ?_
 refine dw [] [(31,Fb x0 (Z0a x2 x1)),(34,Fb x0 (Z0b x3 x2 x1))] [Ay (Fb x0 (Z0a x2 x1)).2.1,Ay (Fb x0 (Z0b x3 x2 x1)).2.1] ⟨[(8,tP 8 0)],[(8,.cells [.i x3,.i ((Cd x0 (Z0a x2 x1)).X),.i ((Cd x0 (Z0a x2 x1)).Y),.i ((Cd x0 (Z0b x3 x2 x1)).X),.i ((Cd x0 (Z0b x3 x2 x1)).Y),.i x0.X,.i x0.Y] 136)]⟩ (.cons (Ky x0 (Z0a x2 x1)) (.cons (Ky x0 (Z0b x3 x2 x1)) .nil)) (.cons rfl (.cons rfl .nil))<|AG<|AY ?_
 exact xl (.av (.agg [.i x3,.i ((Cd x0 (Z0a x2 x1)).X),.i ((Cd x0 (Z0a x2 x1)).Y),.i ((Cd x0 (Z0b x3 x2 x1)).X),.i ((Cd x0 (Z0b x3 x2 x1)).Y),.i x0.X,.i x0.Y])) (Bz (by rfl))
theorem EG (x0:AE) (x1:Int) (x2:Int) (x3:Int):OKc (CZ x0 x1 x2 x3):=cPu<|Yu x0 x1 x2 x3
def AK (n:Int) (m:Int):Int:=Int.tmod (W64 ((Int.tmod n m)+m)) m
def Ez (n:Int) (m:Int):CT:=(22,[.one (.i n),.one (.i m)],.val [] (.av (.one (.i (AK n m)))))
theorem pMod (n:Int) (m:Int) (hm:m≠0):PuP 22 (Ez n m).2.1 (tO (.i (AK n m))):=by
 refine pwf Tryz.func22 fun W0 M0 => ?_
 refine AA<|rn ⟨[(0,tI n),(1,tI m)],[]⟩<|AA ?_
 refine rc [] [(m:Int)≠0,(m:Int)≠0] ⟨[(4,tI (Int.tmod (W64 ((Int.tmod n m)+m)) m))],[]⟩ .nil (.cons au14 (.cons au14 .nil))<|AG<|AY ?_
 exact xl (tO (.i (Int.tmod (W64 ((Int.tmod n m)+m)) m))) (Bz (by rfl))
theorem Gr (n:Int) (m:Int) (hm:m≠0):OKc (Ez n m):=cPu<|pMod n m hm
def B2 (d:AD):Prop:=0<=d.At/\d.At<=d.L.length/\(d.L.length:Int)<=9223372036854775807
def AB (d:AD) (n:Int):(Int×AD):=bif decide ((((d.L.length:Int)):Int)<=d.At) then ((0,d)) else ((AK (d.L.getD ((W64 ((W64 (d.At+1))-1)).toNat) default) n,AD.mk d.L (W64 (d.At+1))))
theorem au12 {p:Prop} (h:p:=by first | with_reducible assumption | omega | decide | (simp only [List.length_cons,List.length_nil,List.length_append];omega) | assumption):p:=h
theorem au0 {p:Prop} (h:p:=by first | decide | omega | exact Jc (by first | omega | (simp only [Do];omega)) (by omega) | (simp only [Do];omega) | (constructor <;> omega) | (simp only [List.length_append,List.length_cons,List.length_nil];omega) | (simp only [List.length_append,List.length_cons,List.length_nil,List.length_drop,List.length_take] at *;omega)):p:=h
theorem Bp  (d:AD) (n:Int) (hd:B2 d) (hn:n≠0):Wr Tryz.prog 48 1000 [.one (.ptr 1000 0),.one (.i n)] (.cells (AD.c d) 146) (tO (.i ((AB d n).1))) (.cells (AD.c ((AB d n).2)) 146):=by
 refine Ht Tryz.func48 rfl kr kr kr kr fun W0 M0 X hX => ?_
 obtain ⟨a1,a2,a3⟩:=hd
 refine AA<|rn ⟨[(0,tP 1000 0),(1,tI n)],[(1000,.cells (AD.c d) 146)]⟩ ?_
 refine AA<|AA ?_
 refine dw [] [] [] ⟨[(0,tP 1000 0),(1,tI n),(14,tB (decide ((((d.L.length:Int)):Int)<=d.At)))],[(1000,.cells (AD.c d) 146)]⟩ .nil .nil<|AG ?_
 refine AO _ rfl (fun h1 => ?_) (fun h1 => ?_)
 ·have g1:=oT h1
  refine AA<|rn ⟨[(4,tI 0)],[(1000,.cells (AD.c d) 146)]⟩ ?_
  refine AY<|BJ ?_
  exact xl (tO (.i 0)) ⟨Bz (by simp only [AB,h1,cond_true,cond_false] <;> rfl),.cells (AD.c d) 146,by kernel_rfl,D9 (by first | (simp only [AB,h1,cond_true,cond_false];done) | (simp only [AB,h1,cond_true,cond_false];kernel_rfl))⟩
 have g1:=oF h1
 refine AZ<|AG<|AA ?_
 refine rn ⟨[(0,tP 1000 0),(1,tI n)],[(1000,.cells [lst 1 eIn d.L,.i (W64 (d.At+1))] 146)]⟩<|AA ?_
 refine dw [] [(34,Ez (d.L.getD ((W64 ((W64 (d.At+1))-1)).toNat) default) n)] [0<=(W64 ((W64 (d.At+1))-1):Int)/\(W64 ((W64 (d.At+1))-1):Int)<((d.L.length:Nat):Int),Ay (Ez (d.L.getD ((W64 ((W64 (d.At+1))-1)).toNat) default) n).2.1] ⟨[(4,tI (AK (d.L.getD ((W64 ((W64 (d.At+1))-1)).toNat) default) n))],[(1000,.cells [lst 1 eIn d.L,.i (W64 (d.At+1))] 146)]⟩ (.cons (Gr (d.L.getD ((W64 ((W64 (d.At+1))-1)).toNat) default) n au12) .nil) (.cons au0 (.cons rfl .nil))<|AG<|AY ?_
 exact xl (tO (.i (AK (d.L.getD ((W64 ((W64 (d.At+1))-1)).toNat) default) n))) ⟨Bz (by simp only [AB,h1,cond_true,cond_false] <;> rfl),.cells [lst 1 eIn d.L,.i (W64 (d.At+1))] 146,by kernel_rfl,D9 (by first | (simp only [AB,h1,cond_true,cond_false];done) | (simp only [AB,h1,cond_true,cond_false];kernel_rfl))⟩
theorem DA {l:List Int} (h:(l.length:Int)<=9223372036854775807):B2 (AD.mk l 0):=⟨Int.le_refl _,by show (0:Int)<=(l.length:Int);omega,h⟩
theorem Bl {d:AD} {n:Int} (h:B2 d):B2 (AB d n).2:=by
 obtain ⟨h1,h2,h3⟩:=h
 unfold AB
 by_cases hc:(d.L.length:Int)<=d.At
 ·simp only [hc,decide_true,cond_true];exact ⟨h1,h2,h3⟩
 simp only [hc,decide_false,cond_false]
 rw [Az (by omega) (by omega)]
 exact ⟨by show 0<=d.At+1;omega,by show d.At+1<=(d.L.length:Int);omega,h3⟩
theorem I9 (n m:Int) (h0:0<m) (h1:m<=4611686018427387904):0<=AK n m/\AK n m<m:=by
 have e:AK n m=n % m:=by
  unfold AK W64
  rcases Int.lt_or_le n 0 with h | h
  ·have b1:=Int.emod_nonneg (-n) (show m≠0 by omega)
   have b2:=Int.emod_lt_of_pos (-n) h0
   rw [show n.tmod m = -((-n) % m) by rw [<- Int.tmod_eq_emod_of_nonneg (by omega),Int.neg_tmod,Int.neg_neg]]
   rw [IntKind.wrap_i64]
   rw [show (-((-n) % m)+m+9223372036854775808) % 18446744073709551616-9223372036854775808 = -((-n) % m)+m by omega]
   rw [Int.tmod_eq_emod_of_nonneg (by omega)]
   have e1:=Int.emod_add_mul_ediv (-n) m
   have e2 : -((-n) % m)+m=n+m*((-n)/m+1):=by grind
   rw [e2,Int.add_mul_emod_self_left]
  have b1:=Int.emod_nonneg n (show m≠0 by omega)
  have b2:=Int.emod_lt_of_pos n h0
  rw [Int.tmod_eq_emod_of_nonneg h,IntKind.wrap_i64]
  rw [show (n % m+m+9223372036854775808) % 18446744073709551616-9223372036854775808=n % m+m by omega]
  rw [Int.tmod_eq_emod_of_nonneg (by omega),Int.add_emod_right,Int.emod_emod_of_dvd _ (Int.dvd_refl m)]
 rw [e]
 exact ⟨Int.emod_nonneg n (by omega),Int.emod_lt_of_pos n h0⟩
theorem Db (d:AD) (n:Int) (h0:0<n) (h1:n<=4611686018427387904):0<=(AB d n).1/\(AB d n).1<n:=by
 unfold AB
 by_cases hc:(d.L.length:Int)<=d.At
 ·simp only [hc,decide_true,cond_true];omega
 simp only [hc,decide_false,cond_false]
 exact I9 _ n h0 h1
theorem Ss {v a:Int} {d:AD} {n:Int} (h:v<W64 (a+(AB d n).1)) (h0:0<n) (h1:n<=1000000) (ha:0<=a) (hb:a<=1000000):v<a+n:=by
 have:=Db d n h0 (by omega)
 rw [Az (by omega) (by omega)] at h
 omega
theorem S9 {v a:Int} {d:AD} {n:Int} (h:¬ v<W64 (a+(AB d n).1)) (h0:0<n) (h1:n<=1000000) (ha:0<=a) (hb:a<=1000000):W64 (a+(AB d n).1)<a+n:=by
 have:=Db d n h0 (by omega)
 rw [Az (by omega) (by omega)]
 omega
theorem N1 {p q:Prop} [Decidable p] [Decidable q] (h:(bif decide p then decide q else false)=true):p/\q:=by
 by_cases hp:p
 ·rw [decide_eq_true hp] at h;exact ⟨hp,of_decide_eq_true h⟩
 rw [decide_eq_false hp] at h;cases h
theorem DK {c:Bool} {a b:AD} (ha:B2 a) (hb:B2 b):B2 (bif c then a else b):=by cases c <;> assumption
theorem J3 (d:AD) (n k:Int) (h0:0<n) (h1:n<=4611686018427387904) (h2:n<=k):0<=(AB d n).1/\(AB d n).1<k:=⟨(Db d n h0 h1).1,by have:=(Db d n h0 h1).2;omega⟩
def Hp (x:Int):Bool := !decide ((x:Int)=x)
def TN (x:Int):CT:=(97,[.one (.i x)],.val [] (.av (.one (.b (Hp x)))))
theorem nU (x:Int):PuP 97 (TN x).2.1 (tO (.b (Hp x))):=by
 refine pwf Tryz.func97 fun W0 M0 => ?_
 refine AA<|on<|AA ?_
 refine on<|AY ?_
 exact zl
theorem X3 (x:Int):OKc (TN x):=cPu<|nU x
def FJ (x:Int) (y:Int):Int:=bif Hp x then (bif Hp y then 0 else (-1)) else (bif Hp y then 1 else (bif decide ((x:Int)<y) then (-1) else (bif decide ((y:Int)<x) then 1 else 0)))
def Pq (x:Int) (y:Int):CT:=(60,[.one (.i x),.one (.i y)],.val [] (.av (.one (.i (FJ x y)))))
theorem dO (x:Int) (y:Int):PuP 60 (Pq x y).2.1 (tO (.i (FJ x y))):=by
 refine pwf Tryz.func60 fun W0 M0 => ?_
 refine AA<|on<|AA ?_
 refine oq 8 (TN x) (X3 x)<|AG<|AA ?_
 refine oq 10 (TN y) (X3 y)<|AG ?_
 refine AA<|AA ?_
 refine rn ⟨[(0,tI x),(1,tI y),(6,tB (Hp y)),(11,tB (Hp x))],[]⟩ ?_
 refine AO _ rfl (fun h1 => ?_) (fun h1 => ?_)
 ·refine AA<|AA ?_
  refine rn ⟨[(12,tB (Hp y))],[]⟩ ?_
  refine AO _ rfl (fun h2 => ?_) (fun h2 => ?_)
  ·refine AA<|on ?_
   refine AY<|BJ<|BJ ?_
   exact zl (by simp only [FJ,h1,h2,cond_true,cond_false] <;> kernel_rfl)
  refine AZ<|AG<|AA ?_
  refine on ?_
  refine AY<|BJ ?_
  exact zl (by simp only [FJ,h1,h2,cond_true,cond_false] <;> kernel_rfl)
 refine AZ<|AG ?_
 refine AA<|AA ?_
 refine rn ⟨[(0,tI x),(1,tI y),(13,tB (Hp y))],[]⟩ ?_
 refine AO _ rfl (fun h2 => ?_) (fun h2 => ?_)
 ·refine AA<|on ?_
  refine AY<|BJ ?_
  exact zl (by simp only [FJ,h1,h2,cond_true,cond_false] <;> kernel_rfl)
 refine AZ<|AG ?_
 refine AA<|AA ?_
 refine rn ⟨[(0,tI x),(1,tI y),(16,tB (decide ((x:Int)<y)))],[]⟩ ?_
 refine AO _ rfl (fun h3 => ?_) (fun h3 => ?_)
 ·refine AA<|on ?_
  refine AY<|BJ ?_
  exact zl (by simp only [FJ,h1,h2,h3,cond_true,cond_false] <;> kernel_rfl)
 refine AZ<|AG ?_
 refine AA<|AA ?_
 refine rn ⟨[(19,tB (decide ((y:Int)<x)))],[]⟩ ?_
 refine AO _ rfl (fun h4 => ?_) (fun h4 => ?_)
 ·refine AA<|on ?_
  refine AY<|BJ ?_
  exact zl (by simp only [FJ,h1,h2,h3,h4,cond_true,cond_false] <;> kernel_rfl)
 refine AZ<|AG<|AA ?_
 refine on<|AY ?_
 exact zl (by simp only [FJ,h1,h2,h3,h4,cond_true,cond_false] <;> kernel_rfl)
theorem ZB (x:Int) (y:Int):OKc (Pq x y):=cPu<|dO x y
def L5 (x:AF) (y:AF):Int:=FJ x.Id y.Id
def YU (x:AF) (y:AF):CT:=(59,[.agg (AF.c x),.agg (AF.c y)],.val [] (.av (.one (.i (L5 x y)))))
theorem pcmpP (x:AF) (y:AF):PuP 59 (YU x y).2.1 (tO (.i (L5 x y))):=by
 refine pwf Tryz.func59 fun W0 M0 => ?_
 refine AA<|on<|AA ?_
 refine oq 9 (Pq x.Id y.Id) (ZB x.Id y.Id)<|AG<|AY ?_
 exact zl
theorem oW (x:AF) (y:AF):OKc (YU x y):=cPu<|pcmpP x y
def HT (l:(List AF)) (n:Int) (data:List AF) (i:Int) (K0:List AF->Int->(List AF)):Nat->List AF->Int->(List AF)
 | 0,_,_=>default
 | n1+1,data',j=>bif bif decide ((0:Int)<j) then decide (((L5 (data'.getD j.toNat default) (data'.getD (j-1).toNat default)):Int)<0) else false then ((HT l n data i K0 n1) ((data'.set j.toNat (data'.getD (j-1).toNat default)).set (j-1).toNat (data'.getD j.toNat default)) (j-1)) else (K0 data' (i+1))
def Es (l:(List AF)) (n:Int):Nat->List AF->Int->(List AF)
 | 0,_,_=>default
 | n0+1,data,i=>bif decide ((i:Int)<n) then (HT l n data i (Es l n n0) (i.toNat+1) data i) else data
def Ff (l:(List AF)) (n:Int):(List AF):=Es l n ((n-1).toNat+1) l 1
abbrev G6 (j:Int):Bool:=(decide ((0:Int)<j))
abbrev MP (l:List AF):Cl:=.own 1000 7 l.length
abbrev VL (data':List AF) (j:Int):=data'.set j.toNat (data'.getD (j-1).toNat default)
theorem pInsP (l:(List AF)) (n:Int) (hn:n=(l.length:Int)) (hl:l.length<20):WrR Tryz.prog 106 1000 [.one (.own 1000 7 l.length),.one (.i 0),.one (.i n),.one (.clo 59 0 dfc)] 7 l.length (AU AF.c l) 49 (.tup []) (AU AF.c (Ff l n)):=by
 refine Ks Tryz.func106 rfl kr kr kr fun W0 M0 X hX => ?_
 refine AA<|rn ⟨[(0,tO (MP l)),(1,tI 0),(2,tI n),(3,.av (.one (.clo 59 0 dfc))),(8,tI 1)],[(1000,.row 7 l.length (AU AF.c l) 49)]⟩<|AQ ?_
 refine BP (ι:=Nat×List AF×Int) (fun x=>⟨[(0,tO (.own 1000 7 x.2.1.length)),(1,tI 0),(2,tI n),(3,.av (.one (.clo 59 0 dfc))),(8,tI x.2.2)],[(1000,.row 7 x.2.1.length (AU AF.c x.2.1) 49)]⟩) (fun x=>(n-x.2.2).toNat<x.1/\(1<=x.2.2/\x.2.1.length=l.length/\1<=x.2.2/\(x.2.2<=n\/x.2.2=1))/\Es l n x.1 x.2.1 x.2.2=Ff l n) (fun x=>x.1) ?_ ((n-1).toNat+1,l,1) ⟨Nat.lt_succ_self _,⟨ax0,ax0,ax0,ax0⟩,(by simp only [Ff,cond_true,cond_false])⟩
 rintro ⟨n0,data,i⟩ ⟨hm0,hinv0,hF0⟩
 try dsimp only at hm0 hinv0 hF0
 cases n0 with | zero=>exact nz hm0 | succ n0 => ?_
 refine AA<|AA ?_
 refine rn ⟨[(0,tO (.own 1000 7 data.length)),(1,tI 0),(2,tI n),(3,.av (.one (.clo 59 0 dfc))),(8,tI i),(14,tB (decide ((i:Int)<n)))],[(1000,.row 7 data.length (AU AF.c data) 49)]⟩ ?_
 refine AO _ rfl (fun h1 => ?_) (fun h1 => ?_)
 ·have g1:=oT h1
  refine AZ<|AG ?_
  refine AA<|AQ<|AA ?_
  refine rn ⟨[(0,tO (.own 1000 7 data.length)),(1,tI 0),(2,tI n),(3,.av (.one (.clo 59 0 dfc))),(8,tI i),(9,tI i)],[(1000,.row 7 data.length (AU AF.c data) 49)]⟩<|AQ ?_
  refine BP (ι:=Nat×List AF×Int) (fun x=>⟨[(0,tO (.own 1000 7 x.2.1.length)),(1,tI 0),(2,tI n),(3,.av (.one (.clo 59 0 dfc))),(8,tI i),(9,tI x.2.2)],[(1000,.row 7 x.2.1.length (AU AF.c x.2.1) 49)]⟩) (fun x=>x.2.2.toNat<x.1/\(0<=x.2.2/\x.2.1.length=l.length/\x.2.2<n)/\HT l n data i (Es l n n0) x.1 x.2.1 x.2.2=Ff l n) (fun x=>x.1) ?_ (i.toNat+1,data,i) ⟨Nat.lt_succ_self _,⟨ax0,ax0,ax0⟩,(by rw [<- hF0];simp only [Es,h1,cond_true,cond_false])⟩
  rintro ⟨n1,data',j⟩ ⟨hm1,hinv1,hF1⟩
  try dsimp only at hm1 hinv1 hF1
  cases n1 with | zero=>exact nz hm1 | succ n1 => ?_
  refine AA<|AA ?_
  refine dw [] [(32,YU (data'.getD j.toNat default) (data'.getD (W64 (j-1)).toNat default))] (t2 (G6 j) ((gk (G6 j) (0<=(j:Int)/\(j:Int)<((data'.length:Nat):Int)))::(gt (G6 j))::(gk (G6 j) (j.toNat<data'.length))::(t3 (G6 j) ((gk (G6 j) (0<=(W64 (j-1):Int)/\(W64 (j-1):Int)<((data'.length:Nat):Int)))::(gt (G6 j))::(gk (G6 j) ((W64 (j-1)).toNat<data'.length))::(t3 (G6 j) ((gk (G6 j) (Ay (YU (data'.getD j.toNat default) (data'.getD (W64 (j-1)).toNat default)).2.1))::(t2 (G6 j) []))))))) ⟨[(0,tO (.own 1000 7 data'.length)),(1,tI 0),(2,tI n),(3,.av (.one (.clo 59 0 dfc))),(8,tI i),(9,tI j),(34,tB (bif decide ((0:Int)<j) then decide (((L5 (data'.getD j.toNat default) (data'.getD (W64 (j-1)).toNat default)):Int)<0) else false))],[(1000,.row 7 data'.length (AU AF.c data') 49)]⟩ (.cons (oW (data'.getD j.toNat default) (data'.getD (W64 (j-1)).toNat default)) .nil) (c2 (.cons (fun hG=>by first | exact au0 | (simp only [decide_eq_true_eq,decide_eq_false_iff_not,Bool.not_eq_true,Bool.and_eq_true] at hG <;> omega) | (simp at hG <;> omega) | (simp only [decide_eq_true_eq,decide_eq_false_iff_not] at hG;simp only [Do];omega)) (ci (.cons (fun hG=>by first | exact au0 | (simp only [decide_eq_true_eq,decide_eq_false_iff_not,Bool.not_eq_true,Bool.and_eq_true] at hG <;> omega) | (simp at hG <;> omega) | (simp only [decide_eq_true_eq,decide_eq_false_iff_not] at hG;simp only [Do];omega)) (c3 (.cons (fun hG=>by first | exact au0 | (simp only [decide_eq_true_eq,decide_eq_false_iff_not,Bool.not_eq_true,Bool.and_eq_true] at hG <;> omega) | (simp at hG <;> omega) | (simp only [decide_eq_true_eq,decide_eq_false_iff_not] at hG;simp only [Do];omega)) (ci (.cons (fun hG=>by first | exact au0 | (simp only [decide_eq_true_eq,decide_eq_false_iff_not,Bool.not_eq_true,Bool.and_eq_true] at hG <;> omega) | (simp at hG <;> omega) | (simp only [decide_eq_true_eq,decide_eq_false_iff_not] at hG;simp only [Do];omega)) (c3 (.cons (fun _=>rfl) (c2 .nil))))))))))) ?_
  (try rw [(show W64 (j-1)=j-1 from Az oM oM)])
  refine AG ?_
  refine AO _ rfl (fun h2 => ?_) (fun h2 => ?_)
  ·have g2:=N1 h2
   refine AZ<|AG ?_
   refine AA<|AQ ?_
   refine dw [] [] [0<=(W64 (j-1):Int)/\(W64 (j-1):Int)<((data'.length:Nat):Int),(W64 (j-1)).toNat<data'.length,0<=(j:Int)/\(j:Int)<((data'.length:Nat):Int),j.toNat<data'.length,0<=(j:Int)/\(j:Int)<((data'.length:Nat):Int),j.toNat<data'.length,0<=(W64 (j-1):Int)/\(W64 (j-1):Int)<((data'.length:Nat):Int),(W64 (j-1)).toNat<data'.length] ⟨[(0,tO (.own 1000 7 data'.length)),(1,tI 0),(2,tI n),(3,.av (.one (.clo 59 0 dfc))),(8,tI i),(9,tI j)],[(1000,.row 7 data'.length (fun i_ j_=>if i_=(W64 (j-1)).toNat/\0<=j_/\j_<0+7 then ((AF.c (data'.getD j.toNat default)):List Cl).getD (j_-0) default else (fun i_ j_=>if i_=j.toNat/\0<=j_/\j_<0+7 then ((AF.c (data'.getD (W64 (j-1)).toNat default)):List Cl).getD (j_-0) default else (AU AF.c data') i_ j_) i_ j_) 49)]⟩ .nil (.cons au0 (.cons au0 (.cons au0 (.cons au0 (.cons au0 (.cons au0 (.cons au0 (.cons au0 .nil)))))))) ?_
   (try rw [(show W64 (j-1)=j-1 from Az oM oM)])
   refine A3<|AG ?_
   refine Ap (A2 1000 (EM (l:=(AF.c (data'.getD j.toNat default))) (off:=0) (q:=7) (k:=(j-1).toNat) (EM (l:=(AF.c (data'.getD (j-1).toNat default))) (off:=0) (q:=7) (k:=j.toNat) (Am 7 AF.c data') au0 (data'.getD (j-1).toNat default) (D2 kr)) au0 (data'.getD j.toNat default) (D2 kr))) ?_
   refine rg ⟨[(0,tO (.own 1000 7 ((VL data' j).set (j-1).toNat (data'.getD j.toNat default)).length)),(1,tI 0),(2,tI n),(3,.av (.one (.clo 59 0 dfc))),(8,tI i),(9,tI (W64 (j-1)))],[(1000,.row 7 ((VL data' j).set (j-1).toNat (data'.getD j.toNat default)).length (AU AF.c ((VL data' j).set (j-1).toNat (data'.getD j.toNat default))) 49)]⟩ ?_
   (try rw [(show W64 (j-1)=j-1 from Az oM oM)])
   refine AG ?_
   refine ⟨(n1,(data'.set j.toNat (data'.getD (j-1).toNat default)).set (j-1).toNat (data'.getD j.toNat default),j-1),⟨?_,?_,(by rw [<- hF1];simp only [HT,h2,cond_true,cond_false])⟩,Nat.lt_succ_self _,BE kr⟩
   ·show (j-1).toNat<n1;omega
   exact ⟨ax0,ax0,ax0⟩
  refine BH<|A5 ?_
  refine A5<|BI ?_
  refine A3<|AG ?_
  refine rg ⟨[(0,tO (.own 1000 7 data'.length)),(1,tI 0),(2,tI n),(3,.av (.one (.clo 59 0 dfc))),(8,tI (W64 (i+1)))],[(1000,.row 7 data'.length (AU AF.c data') 49)]⟩ ?_
  (try rw [(show W64 (i+1)=i+1 from Az oM oM)])
  refine AG ?_
  refine ⟨(n0,data',i+1),⟨?_,?_,(by rw [<- hF1];simp only [HT,h2,cond_true,cond_false])⟩,Nat.lt_succ_self _,BE kr⟩
  ·show (n-(i+1)).toNat<n0;omega
  exact ⟨ax0,ax0,ax0,ax0⟩
 have g1:=oF h1
 refine BH<|A5 ?_
 refine A5<|BI ?_
 exact xn (.tup []) ⟨Bz rfl,.row 7 data.length (AU AF.c data) 49,by kernel_rfl,LK (c:=AF.c) (xs:=data) (by rw [<- hF0];first | (simp only [Es,h1,cond_true,cond_false] <;> rfl)) (by first | omega | (simp only [List.length_set];omega) | simp)⟩
theorem VH (l:List AF) (n:Int) (hn:n=(l.length:Int)):Ff l n=Hi (fun x y=>decide (L5 x y<0)) l:=by
 unfold Ff
 cases l with
 | nil=>subst hn;rfl
 | cons a l =>
  have h:=pV (fun x y=>decide (L5 x y<0)) (a::l) (Es (a::l) n) id (fun m d i hi=>by
   rw [Es,decide_eq_false (by omega),cond_false];rfl) (fun m i out rest x hi ho=>by
   rw [Es,decide_eq_true (by omega),cond_true]
   have h1:=pU (fun x y=>decide (L5 x y<0)) (HT (a::l) n (out++x::rest) i (Es (a::l) n m)) (fun d=>Es (a::l) n m d ((i:Int)+1)) (fun m d j=>by
    rw [HT,Int.toNat_natCast,show ((j:Int)-1).toNat=j-1 by omega]) out rest x i ((i:Int).toNat+1) (by omega) (by omega)
   subst ho
   rw [List.take_length,List.drop_length,List.nil_append] at h1
   rw [h1]
   unfold Sz
   rw [List.append_assoc];rfl) ((a::l).length-1) ((n-1).toNat+1) 1 rfl (by simp) (by omega)
  exact h
theorem NG (l:List AF) (n:Int) (hn:n=(l.length:Int)) (hl:l.length<20):(Ff l n).length=l.length:=by rw [VH l n hn,K6]
abbrev OU (l:List AF):Blk:=.row 7 l.length (AU AF.c l) 49
def Z0c (l:(List AF)) (n:Int):CT:=(106,([.one (MP l),.one (.i 0),.one (.i n),.one (.clo 59 0 dfc)]:List Av).map (T9 1000 1000),wrI 1000 (OU l) (.tup []) (.row 7 l.length (AU AF.c (Ff l n)) 49))
def KY (l:(List AF)) (n:Int):(List AF):=Ff l n
theorem pStaP (l:(List AF)) (n:Int) (hn:n=(l.length:Int)) (hl:l.length<20):WrR Tryz.prog 96 1000 [.one (.own 1000 7 l.length),.one (.i n),.one (.clo 59 0 dfc)] 7 l.length (AU AF.c l) 49 (.tup []) (AU AF.c (KY l n)):=by
 refine Ks Tryz.func96 rfl kr kr kr fun W0 M0 X hX => ?_
 refine AA<|on<|AA ?_
 refine rn ⟨[(0,tO (MP l)),(1,tI n),(2,.av (.one (.clo 59 0 dfc))),(6,tI 20),(7,tI 0),(8,tI 20)],[(1000,.row 7 l.length (AU AF.c l) 49)]⟩ ?_
 refine AA<|AQ ?_
 refine Di 1 ?_
 refine Bu<|AA<|AA ?_
 refine rn ⟨[(0,tO (MP l)),(1,tI n),(2,.av (.one (.clo 59 0 dfc))),(6,tI 20),(7,tI 0),(8,tI 20),(13,tB (decide ((20:Int)<=n)))],[(1000,.row 7 l.length (AU AF.c l) 49)]⟩ ?_
 have h1:(decide ((20:Int)<=n))=false:=decide_eq_false oM
 have g1:=oF h1
 refine AO _ rfl (fun h=>absurd (h1.symm.trans h) (by decide)) (fun _ => ?_)
 refine BH<|A5 ?_
 refine A5<|BI ?_
 refine AG<|AA ?_
 refine rb 27 (Z0c l n) (OU l) ⟨[(0,tO (MP l)),(1,tI n),(2,.av (.one (.clo 59 0 dfc))),(6,tI 20)],[(1000,.row 7 l.length (AU AF.c (Ff l n)) 49)]⟩ (LI (fun _ _=>kr) kr (pInsP l n au12 au12))<|AG ?_
 refine Ap (Cv.trans (GP (⟨[(0,tO (.own 1000 7 (Ff l n).length)),(1,tI n),(2,.av (.one (.clo 59 0 dfc))),(6,tI 20)],[(1000,.row 7 (Ff l n).length (AU AF.c (Ff l n)) 49)]⟩) 1000 (SR 7 AF.c (Ff l n) (NG l n au12 au12))) (Cv.refl _))<|AQ ?_
 refine Di 1 ?_
 refine Bu<|AA<|AA ?_
 refine rn ⟨[(0,tO (.own 1000 7 (Ff l n).length)),(1,tI n),(2,.av (.one (.clo 59 0 dfc))),(6,tI 20),(30,tB (decide ((20:Int)<n)))],[(1000,.row 7 (Ff l n).length (AU AF.c (Ff l n)) 49)]⟩ ?_
 have h2:(decide ((20:Int)<n))=false:=decide_eq_false oM
 have g2:=oF h2
 refine AO _ rfl (fun h=>absurd (h2.symm.trans h) (by decide)) (fun _ => ?_)
 refine BH<|A5 ?_
 refine A5<|BI ?_
 exact xn (.tup []) ⟨Bz rfl,.row 7 (Ff l n).length (AU AF.c (Ff l n)) 49,by kernel_rfl,LK (c:=AF.c) (xs:=Ff l n) (by simp only [KY,h1,h2,cond_true,cond_false] <;> rfl) (NG l n hn hl)⟩
theorem NE (l:List AF) (n:Int) (hn:n=(l.length:Int)) (hl:l.length<20):(KY l n).length=l.length:=NG l n hn hl
def Z0d (l:(List AF)):CT:=(96,([.one (MP l),.one (.i ((l.length:Nat):Int)),.one (.clo 59 0 dfc)]:List Av).map (T9 1000 1000),wrI 1000 (OU l) (.tup []) (.row 7 l.length (AU AF.c (KY l ((l.length:Nat):Int))) 49))
def C0 (l:(List AF)):(List AF):=KY l ((l.length:Nat):Int)
theorem pSrtP (l:(List AF)) (hl:l.length<20):WrR Tryz.prog 58 1000 [.one (.own 1000 7 l.length),.one (.clo 59 0 dfc)] 7 l.length (AU AF.c l) 49 (.tup []) (AU AF.c (C0 l)):=by
 refine Ks Tryz.func58 rfl kr kr kr fun W0 M0 X hX => ?_
 refine rb 8 (Z0d l) (OU l) ⟨[],[(1000,.row 7 l.length (AU AF.c (KY l ((l.length:Nat):Int))) 49)]⟩ (LI (fun _ _=>kr) kr (pStaP l ((l.length:Nat):Int) au12 au12)) ?_
 exact yn (Cv.trans (A2 1000 (SR 7 AF.c (KY l ((l.length:Nat):Int)) (NE l ((l.length:Nat):Int) au12 au12))) (Cv.refl _)) (.tup []) ⟨Bz rfl,.row 7 (KY l ((l.length:Nat):Int)).length (AU AF.c (KY l ((l.length:Nat):Int))) 49,by kernel_rfl,LK (c:=AF.c) (xs:=KY l ((l.length:Nat):Int)) (by rfl) (NE l _ rfl hl)⟩
theorem NF (l:List AF) (hl:l.length<20):(C0 l).length=l.length:=NE l _ rfl hl
theorem iU (l:List AF):C0 l=Hi (fun x y=>decide (L5 x y<0)) l:=VH l _ rfl
section
open Go.RowKit
def VE (p:BL):Prop:=(p.Shape.Edges.length:Int)<=1000000
def LM (g:BO):Prop:=(g.Legs.length:Int)<=1000000
def LL (t:AV):Prop:=(t.Pads.length:Int)<=1000000/\(t.Gates.length:Int)<=1000000/\(∀ p∈t.Pads,VE p)/\∀ g∈t.Gates,LM g
def CM (l:List AV):Prop:=(l.length:Int)<=1000000/\∀ t∈l,LL t
theorem GN {α:Type} [Inhabited α] {p:α->Prop} {l:List α} (hd:p default) (h:∀ x∈l,p x) (k:Nat):p (l.getD k default):=by
 rw [List.getD_eq_getElem?_getD]
 cases hk:l[k]? with
 | none=>exact hd
 | some x=>exact h x (List.mem_of_getElem? hk)
theorem V6 {l:List AV} (h:CM l) (k:Nat):LL (l.getD k default):=GN (p:=LL) ⟨by decide,by decide,(fun p hp=>by cases hp),fun p hp=>by cases hp⟩ h.2 k
theorem PF {t:AV} (h:LL t) (k:Nat):((t.Pads.getD k default).Shape.Edges.length:Int)<=1000000:=GN (p:=VE) (by unfold VE;decide) h.2.2.1 k
theorem Qv {t:AV} (h:LL t) (k:Nat):((t.Gates.getD k default).Legs.length:Int)<=1000000:=GN (p:=LM) (by unfold LM;decide) h.2.2.2 k
theorem au3 {p:Prop} (h:p:=by first | (unfold maxLen;omega) | (unfold maxLen;simp only [List.length_append,List.length_cons,List.length_nil];omega) | first | omega | (simp only [List.length_append,List.length_cons,List.length_nil];omega) | (simp only [ZF,ZE,ZD];omega)):p:=h
theorem pN {p:Prop} (h:p:=by
 refine Ms mp0 rfl kr (PG _ _) fun W0 M0 => ?_
 refine AA<|on ?_
 refine AA<|AA ?_
 refine on ?_
 refine Ar kr<|AZ ?_
 refine AG<|AA ?_
 refine DP Dh [5] [] [] [2] [7] [0=0,0+l.length<=maxLen,(0+l.length)*mp1<=140737488355328] ⟨[(2,tO (.own 7 mp2 (0+l.length)))],[(7,.row mp2 (0+l.length) (fun i_ j_=>if i_<0 then (BB mp2 0 []) i_ j_ else (AU mp3 l) (i_-0) j_) mp4)]⟩ .nil kr (.cons rfl (.cons au3 (.cons au3 .nil)))<|AG ?_
 refine Ap (A2 7 (Au (A0 mp2 mp3 (([]:List mp5):List mp5)) (Am mp2 mp3 l)))<|AY ?_
 exact xl (tO (.own 7 mp2 l.length)) (frE (c:=mp3) (xs:=l) (by rfl) kr)):p:=h
section
 open Go.Proofs.YtdbampcfmjbgmaaGreat renaming ZE→mp1,nn7→mp2,AN.c→mp3,mV→mp4,AN→mp5
 open Go.Proofs.Tryz renaming func61→mp0
theorem dA (l:(List AN)) (h0:(l.length:Int)<=1000000):Fr Tryz.prog 61 [.one (.list true 7 l.length (AU AN.c l))] (.row 7 l.length (AU AN.c l) 136) (fun d=>tO (.own d 7 l.length)):=pN
end
abbrev vN:Cl:=.val (.slice none 0 0)
theorem pM {p:Prop} (h:p:=by
 refine Ms mp0 rfl kr (PG _ _) fun W0 M0 => ?_
 cases l with
 | cons a l=>cases h0
 | nil =>
 refine AA<|on ?_
 refine AA<|AA ?_
 refine on ?_
 refine CN kr<|AA ?_
 refine rn ⟨[(2,.av (.one vN))],[]⟩ ?_
 refine AY<|BJ ?_
 exact yl (Cv.trans (vg 100000 mp1 (fun _ _=>default) mp2 [(2,[0])] [] hk0) (Cv.trans (A2 100000 (CI mp1 (fun _ _=>default) mp3)) (Cv.refl _))) (tO (.own 100000 mp1 ([]:List mp4).length)) (frE (c:=mp3) (xs:=([]:List mp4)) (by rfl) kr)):p:=h
section
 open Go.Proofs.YtdbampcfmjbgmaaGreat renaming nn7→mp1,mV→mp2,AN.c→mp3,AN→mp4
 open Go.Proofs.Tryz renaming func61→mp0
theorem dB (l:(List AN)) (h0:l.length=0):Fr Tryz.prog 61 [.one vN] (.row 7 l.length (AU AN.c l) 136) (fun d=>tO (.own d 7 l.length)):=pM
end
variable (types xs:List AV) (name:ByteArray) (l:List AN) (pad:ByteArray) (pin:AX) (v26 v49:Int) (v7_1:List BL)
def Ny:CT:=(61,[.one (lst 7 AN.c l)],.new [] (.row 7 l.length (AU AN.c l) 136) (fun d=>.av (.one (.own d 7 l.length))))
theorem PL (l:(List AN)) (h0:(l.length:Int)<=1000000):OKc (Ny l):=RD (fun _ _=>kr) (W4 (fun hz=>dB l hz) (dA l h0))
section
 open Go.Proofs.YtdbampcfmjbgmaaGreat renaming ZF→mp1,nn2→mp2,CA.c→mp3,mU→mp4,CA→mp5
 open Go.Proofs.Tryz renaming func68→mp0
theorem cY (l:(List CA)) (h0:(l.length:Int)<=1000000):Fr Tryz.prog 68 [.one (.list true 2 l.length (AU CA.c l))] (.row 2 l.length (AU CA.c l) 169) (fun d=>tO (.own d 2 l.length)):=pN
end
section
 open Go.Proofs.YtdbampcfmjbgmaaGreat renaming nn2→mp1,mU→mp2,CA.c→mp3,CA→mp4
 open Go.Proofs.Tryz renaming func68→mp0
theorem cZ (l:(List CA)) (h0:l.length=0):Fr Tryz.prog 68 [.one vN] (.row 2 l.length (AU CA.c l) 169) (fun d=>tO (.own d 2 l.length)):=pM
end
section
 open Go.Proofs.YtdbampcfmjbgmaaGreat renaming ZD→mp1,nn7→mp2,AF.c→mp3,nn49→mp4,AF→mp5
 open Go.Proofs.Tryz renaming func57→mp0
theorem cW (l:(List AF)) (h0:(l.length:Int)<=1000000):Fr Tryz.prog 57 [.one (.list true 7 l.length (AU AF.c l))] (.row 7 l.length (AU AF.c l) 49) (fun d=>tO (.own d 7 l.length)):=pN
end
section
 open Go.Proofs.YtdbampcfmjbgmaaGreat renaming nn7→mp1,nn49→mp2,AF.c→mp3,AF→mp4
 open Go.Proofs.Tryz renaming func57→mp0
theorem cX (l:(List AF)) (h0:l.length=0):Fr Tryz.prog 57 [.one vN] (.row 7 l.length (AU AF.c l) 49) (fun d=>tO (.own d 7 l.length)):=pM
end
def YV (l:(List AF)):CT:=(57,[.one (lst 7 AF.c l)],.new [] (OU l) (fun d=>.av (.one (.own d 7 l.length))))
theorem dW (l:(List AF)) (h0:(l.length:Int)<=1000000):OKc (YV l):=RD (fun _ _=>kr) (W4 (fun hz=>cX l hz) (cW l h0))
def Gd (l:List CA):List CA:=l
def Pn (l:List CA):CT:=(68,[.one (lst 2 CA.c l)],.val [] (.av (.one (lst 2 CA.c (Gd l)))))
theorem Y9 (l:List CA) (h0:(l.length:Int)<=1000000):OKc (Pn l):=cPu<|O7 (W4 (fun hz=>cZ l hz) (cY l h0))
def Gc (t:AV) (name:ByteArray):Bool:=(t.Name.toList==name.toList)
theorem pisTy  (t:AV) (name:ByteArray):GE Tryz.prog 67 [.agg (AV.c t),.one (.eptr 1 1 (gD [.s name]) 0 0)] (tO (.b (Gc t name))):=by
 refine pwf Tryz.func67 fun W0 M0 => ?_
 refine AA<|on<|AA ?_
 refine on<|AY ?_
 exact zl
def Z0e (xs:(List AV)) (v8:Int) (name:ByteArray):CT:=(67,[.agg (AV.c (xs.getD v8.toNat default)),.one (.eptr 1 1 (fun _ j_=>([.s name]:List Cl).getD j_ default) 0 0)],.val [] (tB (Gc (xs.getD v8.toNat default) name)))
def GZ (xs:(List AV)) (name:ByteArray):Nat->Int->Int
 | 0,_=>default
 | n0+1,v8=>bif decide ((v8:Int)<(xs.length:Int)) then (bif Gc (xs.getD v8.toNat default) name then v8 else ((GZ xs name n0) (v8+1))) else (-1)
def Cw (xs:(List AV)) (name:ByteArray):Int:=GZ xs name (((xs.length:Int)-0).toNat+1) 0
abbrev bP:Nat×Tv:=(1,.av (.one (.clo 67 1 (Cz [.eptr 1 1 (gD [.s name]) 0 0]))))
abbrev RS (t_:List (Nat×Tv)):List (Nat×Tv):=(0,tO (lst 3 AV.c xs))::(bP name)::(7,tI (xs.length:Int))::t_
theorem au6 {p:Prop} (h:p:=by first | omega | (simp only [List.length_drop,List.length_take] at *;omega)):p:=h
theorem pixTy  (xs:(List AV)) (name:ByteArray) (hx:(xs.length:Int)<=9223372036854775807):GE Tryz.prog 66 [.one (lst 3 AV.c xs),.one (.clo 67 1 (Cz [.eptr 1 1 (gD [.s name]) 0 0]))] (tO (.i (Cw xs name))):=by
 refine pwf Tryz.func66 fun W0 M0 => ?_
 refine AA<|on ?_
 refine AA<|AA ?_
 refine rn ⟨(RS xs name [(8,tI 0)]),[]⟩<|AQ ?_
 refine BP (ι:=Nat×Int) (fun x=>⟨(RS xs name [(8,tI x.2)]),[]⟩) (fun x=>((xs.length:Int)-x.2).toNat<x.1/\(0<=x.2/\(x.2<=(xs.length:Int)\/x.2=0))/\GZ xs name x.1 x.2=Cw xs name) (fun x=>x.1) ?_ (((xs.length:Int)-0).toNat+1,0) ⟨Nat.lt_succ_self _,⟨ax0,ax0⟩,(by simp only [Cw,cond_true,cond_false])⟩
 rintro ⟨n0,v8⟩ ⟨hm0,hinv0,hF0⟩
 try dsimp only at hm0 hinv0 hF0
 cases n0 with | zero=>exact nz hm0 | succ n0 => ?_
 refine AA<|rn ⟨(RS xs name [(8,tI v8),(9,tB (decide ((v8:Int)<(xs.length:Int))))]),[]⟩<|AA ?_
 refine AO _ rfl (fun h1 => ?_) (fun h1 => ?_)
 ·have g1:=oT h1
  refine AZ<|AG ?_
  refine AA<|AQ<|AA ?_
  refine on<|AA ?_
  refine rc [(16,(Z0e xs v8 name))] [0<=(v8:Int)/\(v8:Int)<((xs.length:Nat):Int),Ay (Z0e xs v8 name).2.1] ⟨[(0,tO (lst 3 AV.c xs)),(bP name),(5,tI v8),(7,tI (xs.length:Int)),(8,tI v8),(16,tB (Gc (xs.getD v8.toNat default) name))],[]⟩ (.cons (cPu<|pisTy (xs.getD v8.toNat default) name) .nil) (.cons au0 (.cons rfl .nil))<|AG ?_
  refine AO _ rfl (fun h2 => ?_) (fun h2 => ?_)
  ·refine AA<|on ?_
   refine AY<|Bw ?_
   refine BJ<|BJ ?_
   refine Bw<|BJ ?_
   exact zl (by rw [<- hF0];simp only [GZ,h1,h2,cond_true,cond_false] <;> kernel_rfl)
  refine AZ<|A3<|AG ?_
  refine rg ⟨(RS xs name [(8,tI (W64 (v8+1)))]),[]⟩ ?_
  (try rw [(show W64 (v8+1)=v8+1 from Az oM au6)])
  refine AG ?_
  refine ⟨(n0,v8+1),⟨?_,?_,(by rw [<- hF0];simp only [GZ,h1,h2,cond_true,cond_false])⟩,Nat.lt_succ_self _,BE kr⟩
  ·show ((xs.length:Int)-(v8+1)).toNat<n0;omega
  exact ⟨ax0,ax0⟩
 refine BH<|A5 ?_
 refine A5<|BI ?_
 refine AG<|AA ?_
 refine on<|AY ?_
 exact zl (by rw [<- hF0];simp only [GZ,h1,cond_true,cond_false] <;> kernel_rfl)
def P3 (p:BL) (pad:ByteArray):Bool:=(p.Name.toList==pad.toList)
theorem pisPd  (p:BL) (pad:ByteArray):GE Tryz.prog 70 [.agg (BL.c p),.one (.eptr 1 1 (gD [.s pad]) 0 0)] (tO (.b (P3 p pad))):=by
 refine pwf Tryz.func70 fun W0 M0 => ?_
 refine AA<|on<|AA ?_
 refine on<|AY ?_
 exact zl
def Z0f (xs:(List BL)) (v8:Int) (pad:ByteArray):CT:=(70,[.agg (BL.c (xs.getD v8.toNat default)),.one (.eptr 1 1 (fun _ j_=>([.s pad]:List Cl).getD j_ default) 0 0)],.val [] (tB (P3 (xs.getD v8.toNat default) pad)))
def Gb (xs:(List BL)) (pad:ByteArray):Nat->Int->Int
 | 0,_=>default
 | n0+1,v8=>bif decide ((v8:Int)<(xs.length:Int)) then (bif P3 (xs.getD v8.toNat default) pad then v8 else ((Gb xs pad n0) (v8+1))) else (-1)
def Gs (xs:(List BL)) (pad:ByteArray):Int:=Gb xs pad (((xs.length:Int)-0).toNat+1) 0
abbrev bT:Nat×Tv:=(1,.av (.one (.clo 70 1 (Cz [.eptr 1 1 (gD [.s pad]) 0 0]))))
abbrev RU (xs:List BL) (pad:ByteArray) (t_:List (Nat×Tv)):List (Nat×Tv):=(0,tO (lst 7 BL.c xs))::(bT pad)::(7,tI (xs.length:Int))::t_
theorem pixPd  (xs:(List BL)) (pad:ByteArray) (hx:(xs.length:Int)<=9223372036854775807):GE Tryz.prog 69 [.one (lst 7 BL.c xs),.one (.clo 70 1 (Cz [.eptr 1 1 (gD [.s pad]) 0 0]))] (tO (.i (Gs xs pad))):=by
 refine pwf Tryz.func69 fun W0 M0 => ?_
 refine AA<|on ?_
 refine AA<|AA ?_
 refine rn ⟨(RU xs pad [(8,tI 0)]),[]⟩<|AQ ?_
 refine BP (ι:=Nat×Int) (fun x=>⟨(RU xs pad [(8,tI x.2)]),[]⟩) (fun x=>((xs.length:Int)-x.2).toNat<x.1/\(0<=x.2/\(x.2<=(xs.length:Int)\/x.2=0))/\Gb xs pad x.1 x.2=Gs xs pad) (fun x=>x.1) ?_ (((xs.length:Int)-0).toNat+1,0) ⟨Nat.lt_succ_self _,⟨ax0,ax0⟩,(by simp only [Gs,cond_true,cond_false])⟩
 rintro ⟨n0,v8⟩ ⟨hm0,hinv0,hF0⟩
 try dsimp only at hm0 hinv0 hF0
 cases n0 with | zero=>exact nz hm0 | succ n0 => ?_
 refine AA<|rn ⟨(RU xs pad [(8,tI v8),(9,tB (decide ((v8:Int)<(xs.length:Int))))]),[]⟩<|AA ?_
 refine AO _ rfl (fun h1 => ?_) (fun h1 => ?_)
 ·have g1:=oT h1
  refine AZ<|AG ?_
  refine AA<|AQ<|AA ?_
  refine on<|AA ?_
  refine rc [(16,(Z0f xs v8 pad))] [0<=(v8:Int)/\(v8:Int)<((xs.length:Nat):Int),Ay (Z0f xs v8 pad).2.1] ⟨[(0,tO (lst 7 BL.c xs)),(bT pad),(5,tI v8),(7,tI (xs.length:Int)),(8,tI v8),(16,tB (P3 (xs.getD v8.toNat default) pad))],[]⟩ (.cons (cPu<|pisPd (xs.getD v8.toNat default) pad) .nil) (.cons au0 (.cons rfl .nil))<|AG ?_
  refine AO _ rfl (fun h2 => ?_) (fun h2 => ?_)
  ·refine AA<|on ?_
   refine AY<|Bw ?_
   refine BJ<|BJ ?_
   refine Bw<|BJ ?_
   exact zl (by rw [<- hF0];simp only [Gb,h1,h2,cond_true,cond_false] <;> kernel_rfl)
  refine AZ<|A3<|AG ?_
  refine rg ⟨(RU xs pad [(8,tI (W64 (v8+1)))]),[]⟩ ?_
  (try rw [(show W64 (v8+1)=v8+1 from Az oM au6)])
  refine AG ?_
  refine ⟨(n0,v8+1),⟨?_,?_,(by rw [<- hF0];simp only [Gb,h1,h2,cond_true,cond_false])⟩,Nat.lt_succ_self _,BE kr⟩
  ·show ((xs.length:Int)-(v8+1)).toNat<n0;omega
  exact ⟨ax0,ax0⟩
 refine BH<|A5 ?_
 refine A5<|BI ?_
 refine AG<|AA ?_
 refine on<|AY ?_
 exact zl (by rw [<- hF0];simp only [Gb,h1,cond_true,cond_false] <;> kernel_rfl)
def P2 (x:AF) (pin:AX):Bool:=(x.Ref.toList==pin.Ref.toList)
theorem pisPl  (x:AF) (pin:AX):GE Tryz.prog 35 [.agg (AF.c x),.one (.eptr 2 1 (gD (AX.c pin)) 0 0)] (tO (.b (P2 x pin))):=by
 refine pwf Tryz.func35 fun W0 M0 => ?_
 refine AA<|on<|AA ?_
 refine on<|AY ?_
 exact zl
def Z0g (xs:(List AF)) (v8:Int) (pin:AX):CT:=(35,[.agg (AF.c (xs.getD v8.toNat default)),.one (.eptr 2 1 (fun _ j_=>((AX.c pin):List Cl).getD j_ default) 0 0)],.val [] (tB (P2 (xs.getD v8.toNat default) pin)))
def Ga (xs:(List AF)) (pin:AX):Nat->Int->Int
 | 0,_=>default
 | n0+1,v8=>bif decide ((v8:Int)<(xs.length:Int)) then (bif P2 (xs.getD v8.toNat default) pin then v8 else ((Ga xs pin n0) (v8+1))) else (-1)
def EZ (xs:(List AF)) (pin:AX):Int:=Ga xs pin (((xs.length:Int)-0).toNat+1) 0
abbrev bU:Nat×Tv:=(1,.av (.one (.clo 35 1 (Cz [.eptr 2 1 (gD (AX.c pin)) 0 0]))))
abbrev RZ (xs:List AF) (pin:AX) (t_:List (Nat×Tv)):List (Nat×Tv):=(0,tO (lst 7 AF.c xs))::(bU pin)::(7,tI (xs.length:Int))::t_
theorem pixPl  (xs:(List AF)) (pin:AX) (hx:(xs.length:Int)<=9223372036854775807):GE Tryz.prog 34 [.one (lst 7 AF.c xs),.one (.clo 35 1 (Cz [.eptr 2 1 (gD (AX.c pin)) 0 0]))] (tO (.i (EZ xs pin))):=by
 refine pwf Tryz.func34 fun W0 M0 => ?_
 refine AA<|on ?_
 refine AA<|AA ?_
 refine rn ⟨(RZ xs pin [(8,tI 0)]),[]⟩<|AQ ?_
 refine BP (ι:=Nat×Int) (fun x=>⟨(RZ xs pin [(8,tI x.2)]),[]⟩) (fun x=>((xs.length:Int)-x.2).toNat<x.1/\(0<=x.2/\(x.2<=(xs.length:Int)\/x.2=0))/\Ga xs pin x.1 x.2=EZ xs pin) (fun x=>x.1) ?_ (((xs.length:Int)-0).toNat+1,0) ⟨Nat.lt_succ_self _,⟨ax0,ax0⟩,(by simp only [EZ,cond_true,cond_false])⟩
 rintro ⟨n0,v8⟩ ⟨hm0,hinv0,hF0⟩
 try dsimp only at hm0 hinv0 hF0
 cases n0 with | zero=>exact nz hm0 | succ n0 => ?_
 refine AA<|rn ⟨(RZ xs pin [(8,tI v8),(9,tB (decide ((v8:Int)<(xs.length:Int))))]),[]⟩<|AA ?_
 refine AO _ rfl (fun h1 => ?_) (fun h1 => ?_)
 ·have g1:=oT h1
  refine AZ<|AG ?_
  refine AA<|AQ<|AA ?_
  refine on<|AA ?_
  refine rc [(16,(Z0g xs v8 pin))] [0<=(v8:Int)/\(v8:Int)<((xs.length:Nat):Int),Ay (Z0g xs v8 pin).2.1] ⟨[(0,tO (lst 7 AF.c xs)),(bU pin),(5,tI v8),(7,tI (xs.length:Int)),(8,tI v8),(16,tB (P2 (xs.getD v8.toNat default) pin))],[]⟩ (.cons (cPu<|pisPl (xs.getD v8.toNat default) pin) .nil) (.cons au0 (.cons rfl .nil))<|AG ?_
  refine AO _ rfl (fun h2 => ?_) (fun h2 => ?_)
  ·refine AA<|on ?_
   refine AY<|Bw ?_
   refine BJ<|BJ ?_
   refine Bw<|BJ ?_
   exact zl (by rw [<- hF0];simp only [Ga,h1,h2,cond_true,cond_false] <;> kernel_rfl)
  refine AZ<|A3<|AG ?_
  refine rg ⟨(RZ xs pin [(8,tI (W64 (v8+1)))]),[]⟩ ?_
  (try rw [(show W64 (v8+1)=v8+1 from Az oM au6)])
  refine AG ?_
  refine ⟨(n0,v8+1),⟨?_,?_,(by rw [<- hF0];simp only [Ga,h1,h2,cond_true,cond_false])⟩,Nat.lt_succ_self _,BE kr⟩
  ·show ((xs.length:Int)-(v8+1)).toNat<n0;omega
  exact ⟨ax0,ax0⟩
 refine BH<|A5 ?_
 refine A5<|BI ?_
 refine AG<|AA ?_
 refine on<|AY ?_
 exact zl (by rw [<- hF0];simp only [Ga,h1,cond_true,cond_false] <;> kernel_rfl)
theorem P1 (xs:List AV) (c:ByteArray):Cw xs c=ixI (fun x=>Gc x c) xs:=by
 unfold Cw
 have h:=fG (fun x=>Gc x c) xs (GZ xs c) (fun m v=>by rw [GZ,Int.toNat_natCast]) xs.length 0 (((xs.length:Int)-0).toNat+1) rfl (Nat.zero_le _) (by omega)
 rw [List.drop_zero] at h
 refine h.trans ?_
 unfold ixI
 cases xs.findIdx? (fun x=>Gc x c) with
 | none=>rfl
 | some i=>simp
theorem pQ {xs:List AV} {c:ByteArray} (h:¬ Cw xs c<0):0<=Cw xs c/\Cw xs c<(xs.length:Int):=by
 rw [P1] at *
 exact fJ h
theorem iT (xs:List BL) (c:ByteArray):Gs xs c=ixI (fun x=>P3 x c) xs:=by
 unfold Gs
 have h:=fG (fun x=>P3 x c) xs (Gb xs c) (fun m v=>by rw [Gb,Int.toNat_natCast]) xs.length 0 (((xs.length:Int)-0).toNat+1) rfl (Nat.zero_le _) (by omega)
 rw [List.drop_zero] at h
 refine h.trans ?_
 unfold ixI
 cases xs.findIdx? (fun x=>P3 x c) with
 | none=>rfl
 | some i=>simp
theorem pS {xs:List BL} {c:ByteArray} (h:¬ Gs xs c<0):0<=Gs xs c/\Gs xs c<(xs.length:Int):=by
 rw [iT] at *
 exact fJ h
theorem iS (xs:List AF) (c:AX):EZ xs c=ixI (fun x=>P2 x c) xs:=by
 unfold EZ
 have h:=fG (fun x=>P2 x c) xs (Ga xs c) (fun m v=>by rw [Ga,Int.toNat_natCast]) xs.length 0 (((xs.length:Int)-0).toNat+1) rfl (Nat.zero_le _) (by omega)
 rw [List.drop_zero] at h
 refine h.trans ?_
 unfold ixI
 cases xs.findIdx? (fun x=>P2 x c) with
 | none=>rfl
 | some i=>simp
theorem pR {xs:List AF} {c:AX} (h:¬ EZ xs c<0):0<=EZ xs c/\EZ xs c<(xs.length:Int):=by
 rw [iS] at *
 exact fJ h
def Z0h:BO:=(types.getD (Cw types name).toNat default).Gates.getD v49.toNat default
def Z0i:BL:=(types.getD (Cw types name).toNat default).Pads.getD v26.toNat default
def I4 (types:(List AV)) (name:ByteArray) (v7_1:List BL) (v26:Int) (K0:List BL->Int->(AV×Bool)):Nat->List BO->Int->(AV×Bool)
 | 0,_,_=>default
 | n1+1,v7_2,v49=>bif decide ((v49:Int)<((types.getD (Cw types name).toNat default).Gates.length:Int)) then ((I4 types name v7_1 v26 K0 n1) (v7_2++[BO.mk (Z0h types name v49).Kind (Gd (Z0h types name v49).Legs)]) (v49+1)) else (AV.mk name v7_1 v7_2,true)
def GU (types:(List AV)) (name:ByteArray):Nat->List BL->Int->(AV×Bool)
 | 0,_,_=>default
 | n0+1,v7_1,v26=>bif decide ((v26:Int)<((types.getD (Cw types name).toNat default).Pads.length:Int)) then ((GU types name n0) (v7_1++[BL.mk (Z0i types name v26).Name (An.mk (Z0i types name v26).Shape.Kind (Z0i types name v26).Shape.Edges (Z0i types name v26).Shape.R) (Z0i types name v26).At (Z0i types name v26).Drill]) (v26+1)) else (I4 types name v7_1 v26 (GU types name n0) ((((types.getD (Cw types name).toNat default).Gates.length:Int)-0).toNat+1) ([]:List BO) 0)
def Ct (types:(List AV)) (name:ByteArray):(AV×Bool):=bif decide (((Cw types name):Int)<0) then (AV.mk (⟨#[]⟩) [] [],false) else (GU types name ((((types.getD (Cw types name).toNat default).Pads.length:Int)-0).toNat+1) ([]:List BL) 0)
abbrev I7:=lst 3 AV.c types
def gV:CT:=(36,[.one (I7 types),.one (.s name)],.val [] (.tup [.agg (AV.c (Ct types name).1),.one (.b (Ct types name).2)]))
abbrev ON:List Cl:=[.s (⟨#[]⟩),vN,vN]
abbrev FY:Nat×Blk:=(4,.cells ON 61)
abbrev Xe:=types.getD (Cw types name).toNat default
abbrev Zp:=[BL.mk (Z0i types name v26).Name (An.mk (Z0i types name v26).Shape.Kind (Z0i types name v26).Shape.Edges (Z0i types name v26).Shape.R) (Z0i types name v26).At (Z0i types name v26).Drill]
abbrev JW:Nat×Blk:=(100000,.row 7 v7_1.length (AU BL.c v7_1) 120)
abbrev Vf:Nat×Tv:=(25,tI ((Xe types name).Pads.length:Int))
abbrev Vc:Nat×Tv:=(24,tO (lst 7 BL.c (Xe types name).Pads))
abbrev Ro:Nat×Blk:=(7,.cells [.s name,.own 100000 7 v7_1.length,vN] 61)
abbrev nI:Nat×Tv:=(48,tI ((Xe types name).Gates.length:Int))
abbrev Z9:List Av:=[.agg [.s (⟨#[]⟩),lst 7 BL.c [],lst 2 BO.c []],.one (.b false)]
abbrev IL:Nat×Tv:=(0,tO (I7 types))
abbrev nG:Nat×Tv:=(47,tO (lst 2 BO.c (Xe types name).Gates))
abbrev OH (t_:List (Nat×Tv)):List (Nat×Tv):=(IL types)::(4,tP 4 0)::(6,tI (Cw types name))::(7,tP 7 0)::(Vc types name)::(Vf types name)::t_
abbrev OD (t_:List (Nat×Tv)):List (Nat×Tv):=(4,tP 4 0)::(7,tP 7 0)::(nG types name)::(nI types name)::t_
theorem au22 {p:Prop} (h:p:=by first | (exact PF (hta _) _) | (exact Qv (hta _) _) | with_reducible assumption | omega | decide | (simp only [List.length_cons,List.length_nil,List.length_append];omega) | assumption):p:=h
theorem au31 {p:Prop} (h:p:=by first | exact pQ (by assumption) | omega):p:=h
theorem pGet (types:(List AV)) (name:ByteArray) (ht:CM types):PuP 36 (gV types name).2.1 (.tup [.agg (AV.c (Ct types name).1),.one (.b (Ct types name).2)]):=by
 refine pwf Tryz.func36 fun W0 M0 => ?_
 have ht1:=ht.1
 have hta:=V6 ht
 have htp:=(hta (Cw types name).toNat).1
 have htg:=(hta (Cw types name).toNat).2.1
 refine AA<|on<|AA ?_
 refine oc [(14,(66,[.one (I7 types),.one (.clo 67 1 (Cz [.ptr 3 0]))],rdI [3] [.cells [.s name] 9] (tI (Cw types name))))] [Ay [.one (lst 3 AV.c types),.one (.clo 67 1 (Cz [.ptr 3 0]))],TU [.cells [.s name] 9]] (.cons (M8 (fun _ _=>kr) kr kr (SV (pixTy types name au22) (.cons (AvE.refl _) (.cons (.one (.clo 67 1 _ _ (D2 kr))) .nil)))) .nil) (.cons rfl (.cons rfl .nil))<|AG ?_
 refine AA<|AA ?_
 refine rn ⟨[(IL types),(3,tP 3 0),(4,tP 4 0),(6,tI (Cw types name)),(16,tB (decide (((Cw types name):Int)<0)))],[(3,.cells [.s name] 9),FY]⟩ ?_
 refine AO _ rfl (fun h1 => ?_) (fun h1 => ?_)
 ·refine AA<|on ?_
  refine AY<|BJ ?_
  exact xl (.tup [.agg ON,.one (.b false)]) (DS (y:=.tup Z9) (.tup (.cons (.agg (rr (.cons (Cx 7 BL.c) (.cons (Cx 2 BO.c) .nil)))) (.cons (AvE.refl _) .nil))) (by simp only [Ct,h1,cond_true,cond_false] <;> rfl))
 have g1:=oF h1
 refine AZ<|AG<|AA ?_
 refine on ?_
 refine AA<|AA ?_
 refine rc [] [0<=(Cw types name:Int)/\(Cw types name:Int)<((types.length:Nat):Int)] ⟨(OH types name [(26,tI 0)]),[FY,(7,.cells [.s name,vN,vN] 61)]⟩ .nil (.cons au31 .nil)<|AG<|AQ ?_
 refine Ap (Cv.trans (vg 100000 7 (fun _ _=>default) 120 [] [(7,[1])] hk0) (Cv.trans (A2 100000 (CI 7 (fun _ _=>default) BL.c)) (Cv.trans (ck (⟨(OH types name [(26,tI 0)]),[FY,(7,.cells [.s name,.own 100000 7 ([]:List BL).length,vN] 61),(100000,.row 7 ([]:List BL).length (AU BL.c ([]:List BL)) 120)]⟩)) (Cv.refl _)))) ?_
 refine BP (ι:=Nat×List BL×Int) (fun x=>⟨(OH types name [(26,tI x.2.2)]),[FY,(7,.cells [.s name,.own 100000 7 x.2.1.length,vN] 61),(100000,.row 7 x.2.1.length (AU BL.c x.2.1) 120)]⟩) (fun x=>(((types.getD (Cw types name).toNat default).Pads.length:Int)-x.2.2).toNat<x.1/\(0<=x.2.2/\(x.2.2<=((types.getD (Cw types name).toNat default).Pads.length:Int)\/x.2.2=0)/\(x.2.1.length:Int)<=0+1*(x.2.2-0))/\GU types name x.1 x.2.1 x.2.2=Ct types name) (fun x=>x.1) ?_ ((((types.getD (Cw types name).toNat default).Pads.length:Int)-0).toNat+1,([]:List BL),0) ⟨Nat.lt_succ_self _,⟨ax0,ax0,ax0⟩,(by simp only [Ct,h1,cond_true,cond_false])⟩
 rintro ⟨n0,v7_1,v26⟩ ⟨hm0,hinv0,hF0⟩
 try dsimp only at hm0 hinv0 hF0
 cases n0 with | zero=>exact nz hm0 | succ n0 => ?_
 refine AA<|rn ⟨(OH types name [(26,tI v26),(27,tB (decide ((v26:Int)<((types.getD (Cw types name).toNat default).Pads.length:Int))))]),[FY,(Ro name v7_1),(JW v7_1)]⟩<|AA ?_
 refine AO _ rfl (fun h2 => ?_) (fun h2 => ?_)
 ·have g2:=oT h2
  refine AZ<|AG ?_
  refine AA<|AQ<|AA ?_
  refine oc [] [0<=(v26:Int)/\(v26:Int)<(((types.getD (Cw types name).toNat default).Pads.length:Nat):Int)] .nil (.cons au31 .nil)<|AG<|AA ?_
  refine rs 33 (Ny (Z0i types name v26).Shape.Edges) ⟨[(IL types),(4,tP 4 0),(6,tI (Cw types name)),(7,tP 7 0),(9,tP 9 0),(Vc types name),(Vf types name),(26,tI v26)],[FY,(Ro name v7_1),(9,.cells [.s (Z0i types name v26).Name,.i (Z0i types name v26).Shape.Kind,.own 33 7 (Z0i types name v26).Shape.Edges.length,.i (Z0i types name v26).Shape.R,.i (Z0i types name v26).At.X,.i (Z0i types name v26).At.Y,.i (Z0i types name v26).Drill] 120),(33,.row 7 (Z0i types name v26).Shape.Edges.length (AU AN.c (Z0i types name v26).Shape.Edges) 136),(JW v7_1)]⟩ (PL (Z0i types name v26).Shape.Edges au22)<|AG ?_
  refine Ap (Cv.trans (H6 (⟨[(IL types),(4,tP 4 0),(6,tI (Cw types name)),(7,tP 7 0),(9,tP 9 0),(Vc types name),(Vf types name),(26,tI v26)],[FY,(Ro name v7_1),(9,.cells (BL.c (Z0i types name v26)) 120),(JW v7_1)]⟩) 33 hk0) (Cv.refl _)) ?_
  refine oc [] [v7_1.length=v7_1.length,v7_1.length+1<=maxLen,(v7_1.length+1)*80<=140737488355328] .nil (.cons rfl (.cons au3 (.cons au3 .nil)))<|A3<|AG ?_
  refine Ap (A2 40 (Au (Am 7 BL.c v7_1) (A0 7 BL.c ([BL.mk (Z0i types name v26).Name (An.mk (Z0i types name v26).Shape.Kind (Z0i types name v26).Shape.Edges (Z0i types name v26).Shape.R) (Z0i types name v26).At (Z0i types name v26).Drill]:List BL)))) ?_
  refine rg ⟨(OH types name [(26,tI (W64 (v26+1)))]),[FY,(7,.cells [.s name,.own 40 7 (v7_1++(Zp types name v26)).length,vN] 61),(40,.row 7 (v7_1++(Zp types name v26)).length (AU BL.c (v7_1++(Zp types name v26))) 120)]⟩ ?_
  (try rw [(show W64 (v26+1)=v26+1 from Az oM au6)])
  refine AG ?_
  refine ⟨(n0,v7_1++[BL.mk (Z0i types name v26).Name (An.mk (Z0i types name v26).Shape.Kind (Z0i types name v26).Shape.Edges (Z0i types name v26).Shape.R) (Z0i types name v26).At (Z0i types name v26).Drill],v26+1),⟨?_,?_,(by rw [<- hF0];simp only [GU,h2,cond_true,cond_false])⟩,Nat.lt_succ_self _,Cv.trans (vr 40 100000 hk0) (BE kr)⟩
  ·show (((types.getD (Cw types name).toNat default).Pads.length:Int)-(v26+1)).toNat<n0;omega
  exact ⟨ax0,ax0,ax0⟩
 have g2:=oF h2
 refine BH<|A5 ?_
 refine A5<|BI ?_
 refine AG<|AA<|AA ?_
 refine rc [] [0<=(Cw types name:Int)/\(Cw types name:Int)<((types.length:Nat):Int)] ⟨(OD types name [(49,tI 0)]),[FY,(Ro name v7_1),(JW v7_1)]⟩ .nil (.cons au31 .nil)<|AG<|AQ ?_
 refine Ap (Cv.trans (vg 100001 2 (fun _ _=>default) 166 [] [(7,[2])] hk0) (Cv.trans (A2 100001 (CI 2 (fun _ _=>default) BO.c)) (Cv.trans (ck (⟨(OD types name [(49,tI 0)]),[FY,(7,.cells [.s name,.own 100000 7 v7_1.length,.own 100001 2 ([]:List BO).length] 61),(JW v7_1),(100001,.row 2 ([]:List BO).length (AU BO.c ([]:List BO)) 166)]⟩)) (Cv.refl _)))) ?_
 refine BP (ι:=Nat×List BO×Int) (fun x=>⟨(OD types name [(49,tI x.2.2)]),[FY,(7,.cells [.s name,.own 100000 7 v7_1.length,.own 100001 2 x.2.1.length] 61),(JW v7_1),(100001,.row 2 x.2.1.length (AU BO.c x.2.1) 166)]⟩) (fun x=>(((types.getD (Cw types name).toNat default).Gates.length:Int)-x.2.2).toNat<x.1/\(0<=x.2.2/\(x.2.2<=((types.getD (Cw types name).toNat default).Gates.length:Int)\/x.2.2=0)/\(x.2.1.length:Int)<=0+1*(x.2.2-0))/\I4 types name v7_1 v26 (GU types name n0) x.1 x.2.1 x.2.2=Ct types name) (fun x=>x.1) ?_ ((((types.getD (Cw types name).toNat default).Gates.length:Int)-0).toNat+1,([]:List BO),0) ⟨Nat.lt_succ_self _,⟨ax0,ax0,ax0⟩,(by rw [<- hF0];simp only [GU,h2,cond_true,cond_false])⟩
 rintro ⟨n1,v7_2,v49⟩ ⟨hm1,hinv1,hF1⟩
 try dsimp only at hm1 hinv1 hF1
 cases n1 with | zero=>exact nz hm1 | succ n1 => ?_
 refine AA<|rn ⟨(OD types name [(49,tI v49),(50,tB (decide ((v49:Int)<((types.getD (Cw types name).toNat default).Gates.length:Int))))]),[FY,(7,.cells [.s name,.own 100000 7 v7_1.length,.own 100001 2 v7_2.length] 61),(JW v7_1),(100001,.row 2 v7_2.length (AU BO.c v7_2) 166)]⟩<|AA ?_
 refine AO _ rfl (fun h3 => ?_) (fun h3 => ?_)
 ·have g3:=oT h3
  refine AZ<|AG ?_
  refine AA<|AQ<|AA ?_
  refine oc [] [0<=(v49:Int)/\(v49:Int)<(((types.getD (Cw types name).toNat default).Gates.length:Nat):Int)] .nil (.cons au31 .nil)<|AG ?_
  refine od [] [(59,Pn (Z0h types name v49).Legs)] [Ay (Pn (Z0h types name v49).Legs).2.1,v7_2.length=v7_2.length,v7_2.length+1<=maxLen,(v7_2.length+1)*32<=140737488355328] (.cons (Y9 (Z0h types name v49).Legs (by first | assumption | exact Qv (hta _) _ | exact PF (hta _) _ | omega)) .nil) (.cons rfl (.cons rfl (.cons au3 (.cons au3 .nil))))<|A3<|AG ?_
  refine Ap (A2 62 (Au (Am 2 BO.c v7_2) (A0 2 BO.c ([BO.mk (Z0h types name v49).Kind (Gd (Z0h types name v49).Legs)]:List BO)))) ?_
  refine rg ⟨(OD types name [(49,tI (W64 (v49+1)))]),[FY,(7,.cells [.s name,.own 100000 7 v7_1.length,.own 62 2 (v7_2++[BO.mk (Z0h types name v49).Kind (Gd (Z0h types name v49).Legs)]).length] 61),(62,.row 2 (v7_2++[BO.mk (Z0h types name v49).Kind (Gd (Z0h types name v49).Legs)]).length (AU BO.c (v7_2++[BO.mk (Z0h types name v49).Kind (Gd (Z0h types name v49).Legs)])) 166),(JW v7_1)]⟩ ?_
  (try rw [(show W64 (v49+1)=v49+1 from Az oM au6)])
  refine AG ?_
  refine ⟨(n1,v7_2++[BO.mk (Z0h types name v49).Kind (Gd (Z0h types name v49).Legs)],v49+1),⟨?_,?_,(by rw [<- hF1];simp only [I4,h3,cond_true,cond_false])⟩,Nat.lt_succ_self _,Cv.trans (vr 62 100001 hk0) (Cv.trans (vk [4,7,47,48,49] [4,7,100000,100001]) (BE kr))⟩
  ·show (((types.getD (Cw types name).toNat default).Gates.length:Int)-(v49+1)).toNat<n1;omega
  exact ⟨ax0,ax0,ax0⟩
 refine BH<|A5 ?_
 refine A5<|BI ?_
 refine AG<|AA ?_
 refine on<|AY ?_
 exact zy (Cv.trans (vf 100000 hk0) (Cv.trans (vf 100001 hk0) (Cv.refl _))) (by rw [<- hF1];simp only [I4,h3,cond_true,cond_false] <;> kernel_rfl)
theorem mT (types:(List AV)) (name:ByteArray) (ht:CM types):OKc (gV types name):=cPu<|pGet types name ht
def S8 (types:List AV) (name:ByteArray):AV×Bool:=match types.find? (fun t=>Gc t name) with
 | some t=>(⟨name,t.Pads,t.Gates⟩,true)
 | none=>(⟨⟨#[]⟩,[],[]⟩,false)
theorem Hb (types:List AV) (name:ByteArray):Ct types name=S8 types name:=by
 unfold Ct S8
 rw [P1]
 cases hc:decide ((ixI (fun x=>Gc x name) types:Int)<0) with
 | true =>
  rw [fI (oT hc)]
  rfl
 | false =>
  obtain ⟨_,h2⟩:=fH (oF hc)
  rw [h2,cond_false]
  have e:=P1 types name
  rw [<- e]
  generalize ht:types.getD (Cw types name).toNat default=t
  have h1:=fun (acc0:List BL) (v0:Int) K0=>cp_l t.Gates (I4 types name acc0 v0 K0) (fun acc _=>(AV.mk name acc0 acc,true)) (fun m acc v=>by
   rw [I4]
   unfold Z0h Gd
   rw [ht,Int.toNat_natCast]) t.Gates.length 0 ((((t.Gates.length:Int))-0).toNat+1) [] rfl (Nat.zero_le _) (by omega)
  have h0:=cp_l t.Pads (GU types name) (fun acc v=>(AV.mk name acc t.Gates,true)) (fun m acc v=>by
   rw [GU]
   unfold Z0i
   rw [ht,Int.toNat_natCast]
   have:=h1 acc v (GU types name m)
   rw [List.drop_zero,List.nil_append] at this
   cases decide ((v:Int)<(t.Pads.length:Int)) with
   | true=>rfl
   | false=>exact this) t.Pads.length 0 ((((t.Pads.length:Int))-0).toNat+1) [] rfl (Nat.zero_le _) (by omega)
  rw [List.drop_zero,List.nil_append] at h0
  exact h0
theorem Ij {types:List AV} (h:CM types) (name:ByteArray):((S8 types name).1.Pads.length:Int)<=1000000:=by
 unfold S8
 cases hf:types.find? (fun t=>Gc t name) with
 | none=>exact (by decide:((0:Nat):Int)<=1000000)
 | some t=>exact (h.2 t (List.mem_of_find?_eq_some hf)).1
end
theorem Hz:∀ x:AN,∀ y∈AN.c x,NM y:=by
 intro x y hy
 simp only [AN.c,List.mem_cons,List.not_mem_nil,or_false] at hy
 rcases hy with rfl | rfl | rfl | rfl | rfl | rfl | rfl <;> first | exact .val _
theorem GA:∀ x:AF,∀ y∈AF.c x,NM y:=by
 intro x y hy
 simp only [AF.c,List.mem_cons,List.not_mem_nil,or_false] at hy
 rcases hy with rfl | rfl | rfl | rfl | rfl | rfl | rfl <;> first | exact .val _
theorem kV:∀ x:AX,∀ y∈AX.c x,NM y:=by
 intro x y hy
 simp only [AX.c,List.mem_cons,List.not_mem_nil,or_false] at hy
 rcases hy with rfl | rfl <;> first | exact .val _
theorem Sn:∀ x:BA,∀ y∈BA.c x,NM y:=by
 intro x y hy
 simp only [BA.c,List.mem_cons,List.not_mem_nil,or_false] at hy
 rcases hy with rfl | rfl <;> first | exact .val _ | exact C2 kV
theorem ZG:∀ x:Aq,∀ y∈Aq.c x,NM y:=by
 intro x y hy
 simp only [Aq.c,List.mem_cons,List.not_mem_nil,or_false] at hy
 rcases hy with rfl | rfl | rfl | rfl | rfl | rfl <;> first | exact .val _ | exact C2 Hz
theorem kU:∀ x:Bx,∀ y∈Bx.c x,NM y:=by
 intro x y hy
 simp only [Bx.c,List.mem_cons,List.not_mem_nil,or_false] at hy
 rcases hy with rfl | rfl | rfl | rfl | rfl | rfl | rfl | rfl <;> first | exact .val _
theorem eI:∀ x:Al,∀ y∈Al.c x,NM y:=by
 intro x y hy
 simp only [Al.c,List.mem_cons,List.not_mem_nil,or_false] at hy
 rcases hy with rfl | rfl | rfl | rfl <;> first | exact .val _
theorem eJ:∀ x:A8,∀ y∈A8.c x,NM y:=by
 intro x y hy
 simp only [A8.c,List.mem_cons,List.not_mem_nil,or_false] at hy
 rcases hy with rfl | rfl | rfl | rfl | rfl | rfl | rfl | rfl <;> first | exact .val _ | exact C2 eI
theorem eK:∀ x:BR,∀ y∈BR.c x,NM y:=by
 intro x y hy
 simp only [BR.c,List.mem_cons,List.not_mem_nil,or_false] at hy
 rcases hy with rfl | rfl | rfl | rfl | rfl <;> first | exact .val _ | exact C2 Hz
theorem eG:∀ x:Bq,∀ y∈Bq.c x,NM y:=by
 intro x y hy
 simp only [Bq.c,List.mem_cons,List.not_mem_nil,or_false] at hy
 rcases hy with rfl | rfl | rfl | rfl <;> first | exact .val _ | exact C2 Hz
theorem ZI:∀ x:BS,∀ y∈BS.c x,NM y:=by
 intro x y hy
 simp only [BS.c,List.mem_cons,List.not_mem_nil,or_false] at hy
 rcases hy with rfl | rfl <;> first | exact .val _ | exact C2 (fun x y hy=>by rw [List.mem_singleton.1 hy];exact .val _)
theorem Wk:∀ x:BM,∀ y∈BM.c x,NM y:=by
 intro x y hy
 simp only [BM.c,List.mem_cons,List.not_mem_nil,or_false] at hy
 rcases hy with rfl | rfl | rfl <;> first | exact .val _
theorem ZH:∀ x:Bb,∀ y∈Bb.c x,NM y:=by
 intro x y hy
 simp only [Bb.c,List.mem_cons,List.not_mem_nil,or_false] at hy
 rcases hy with rfl | rfl | rfl <;> first | exact .val _ | exact C2 (fun x y hy=>by rw [List.mem_singleton.1 hy];exact .val _)
theorem J0:∀ x:BL,∀ y∈BL.c x,NM y:=by
 intro x y hy
 simp only [BL.c,List.mem_cons,List.not_mem_nil,or_false] at hy
 rcases hy with rfl | rfl | rfl | rfl | rfl | rfl | rfl <;> first | exact .val _ | exact C2 Hz
theorem kW:∀ x:CA,∀ y∈CA.c x,NM y:=by
 intro x y hy
 simp only [CA.c,List.mem_cons,List.not_mem_nil,or_false] at hy
 rcases hy with rfl | rfl <;> first | exact .val _
theorem eM:∀ x:BO,∀ y∈BO.c x,NM y:=by
 intro x y hy
 simp only [BO.c,List.mem_cons,List.not_mem_nil,or_false] at hy
 rcases hy with rfl | rfl <;> first | exact .val _ | exact C2 kW
theorem PM:∀ x:AV,∀ y∈AV.c x,NM y:=by
 intro x y hy
 simp only [AV.c,List.mem_cons,List.not_mem_nil,or_false] at hy
 rcases hy with rfl | rfl | rfl <;> first | exact .val _ | exact C2 eM | exact C2 J0
theorem eL:∀ x:BC,∀ y∈BC.c x,NM y:=by
 intro x y hy
 simp only [BC.c,List.mem_cons,List.not_mem_nil,or_false] at hy
 rcases hy with rfl | rfl | rfl | rfl | rfl | rfl | rfl | rfl | rfl <;> first | exact .val _ | exact C2 Hz
end Go.Proofs.YtdbampcfmjbgmaaGreat
