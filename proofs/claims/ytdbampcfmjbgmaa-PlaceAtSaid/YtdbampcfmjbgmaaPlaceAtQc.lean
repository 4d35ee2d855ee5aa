/-
  No statement is proved in this text. It holds a part of what the proof of PlaceAt needs.
-/
import Derived.Test.YtdbampcfmjbgmaaPlaceAtQb
namespace Go.Proofs.Ytdbampcfmjbgmaa
set_option maxRecDepth 100000
set_option linter.unusedVariables false
set_option linter.unusedSimpArgs false
open Go.RowKit
section
open Go.RowKit Go.MapKept
section
variable {P:Program} {rd:Option Nat} {N:Nat} {W0:World} {X:Nat→Option Loc} {M0:Nat→Option Obj} {Q:Exit→AS→Prop} {s:AS}
theorem NC {c:Code} (b:Bool) (h1:b=true->AWp P rd N W0 X M0 c Q s) (h2:b=false->AWp P rd N W0 X M0 c Q s):AWp P rd N W0 X M0 c Q s:=by
 cases hb:b with
 | true=>exact h1 hb
 | false=>exact h2 hb
def AWL (P:Program) (rd:Option Nat) (N:Nat) (W0:World) (X:Nat->Option Loc) (M0:Nat->Option Obj) (ops:Array Oper) (l:List Oper) (K:AS->Prop) (s:AS):Prop :=
 ∀ M σ a w,Sim N W0 X M0 M σ (get s.t) (get s.h) a w->∀ Q':Exit->Act->World->Prop,(∀ s' M' σ' a' w',K s'->Sim N W0 X M0 M' σ' (get s'.t) (get s'.h) a' w'->Q' .normal a' w')->wpListIn (FW rd) 0 P ops Q' l a w
theorem Dc {id:Nat} {l:List Oper} (h:AWL P rd N W0 X M0 l.toArray l (Q .normal) s):AWp P rd N W0 X M0 (.region id l.toArray false) Q s:=by
 intro M σ a w hs
 exact wpIn_region_lit (h M σ a w hs _ fun s' M' σ' a' w' hk hs'=>⟨s',M',σ',hk,hs'⟩)
theorem Oe {V:Env P} (hV:Li P V) {ops:Array Oper} {Q':Exit->Act->World->Prop} (l2:List Oper):∀ (l:List Oper) (s s1:AS) (cs:List Prop),Kf P V N ops l s=some (cs,s1)->CY cs->∀ M σ a w,Sim N W0 X M0 M σ (get s.t) (get s.h) a w->(∀ M' σ' a' w',Sim N W0 X M0 M' σ' (get s1.t) (get s1.h) a' w'->wpListIn (FW rd) 0 P ops Q' l2 a' w')->wpListIn (FW rd) 0 P ops Q' (l++l2) a w
 | [],s,s1,cs,hr,hc,M,σ,a,w,hs,hK=>by
  simp only [Kf,Option.some.injEq,Prod.mk.injEq] at hr
  obtain ⟨_,rfl⟩:=hr
  exact hK M σ a w hs
 | o::l,s,s1,cs,hr,hc,M,σ,a,w,hs,hK=>by
  simp only [Kf] at hr
  split at hr
  ·rename_i cs1 s2 h1
   split at hr
   ·rename_i ds s3 h2
    simp only [Option.some.injEq,Prod.mk.injEq] at hr
    obtain ⟨rfl,rfl⟩:=hr
    obtain ⟨hc1,hc2⟩:=hc.append
    refine wpListIn_step fun K hK' => ?_
    refine OW hV h1 hc1 hs (fun _ _=>rfl) (fun _ _=>rfl) (fun hn d hd=>OU h1 hn hd) fun M' σ' a' w' hs'=>hK' _ _ (Oe hV l2 l s2 s3 ds h2 hc2 M' σ' a' w' ?_ hK)
    rw [(EV h1).1,(EV h1).2]
    exact hs'
   cases hr
  cases hr
def P7 (P:Program) (V:Env P) (N:Nat) (ops:Array Oper) (l:List Oper) (ts hs:List Nat) (s:AS):Option (List Prop×AS):=match Kf P V N ops l s with
 | some (cs,s1)=>some (cs,J6 ts hs s1)
 | none=>none
theorem FS {E:TypeId->Option (List Kd)} (hE:Jv P ⟨fun _=>none,E,fun _=>false,fun _=>none⟩) {ops:Array Oper} {l:List Oper} {K:AS->Prop} (k:Nat) (ow:List Nat) (qs:List (Nat×(Bool×Nat))) (tbl:List (Nat×FuncId×List Av×Ef)) (ts ns:List Nat) (cs:List Prop) (S:AS) (htbl:G3 P tbl)
  (hr:P7 P ⟨Ez tbl,E,A6 ow,get qs⟩ N ops (l.take k) ts ns s=some (cs,S)) (hc:CY cs) (h:AWL P rd N W0 X M0 ops (l.drop k) K S):AWL P rd N W0 X M0 ops l K s:=by
 have hV:=htbl.env (O:=A6 ow) (q:=get qs) hE
 intro M σ a w hs Q' hQ'
 unfold P7 at hr
 split at hr
 ·rename_i cs1 s1 h1
  simp only [Option.some.injEq,Prod.mk.injEq] at hr
  obtain ⟨rfl,rfl⟩:=hr
  have key:=Oe (Q':=Q') (rd:=rd) hV (l.drop k) (l.take k) s s1 cs1 h1 hc M σ a w hs fun M' σ' a' w' hs'=>h M' σ' a' w' (F4 hs' ts ns) Q' hQ'
  rw [List.take_append_drop] at key
  exact key
 cases hr
theorem Ea {E:TypeId->Option (List Kd)} (hE:Jv P ⟨fun _=>none,E,fun _=>false,fun _=>none⟩) {ops:Array Oper} {l:List Oper} {K:AS->Prop} (ow:List Nat) (qs:List (Nat×(Bool×Nat))) (tbl:List (Nat×FuncId×List Av×Ef)) (ts ns:List Nat) (cs:List Prop) (S:AS) (htbl:G3 P tbl)
  (hr:P7 P ⟨Ez tbl,E,A6 ow,get qs⟩ N ops l ts ns s=some (cs,S)) (hc:CY cs) (h:K S):AWL P rd N W0 X M0 ops l K s:=by
 have hV:=htbl.env (O:=A6 ow) (q:=get qs) hE
 intro M σ a w hs Q' hQ'
 unfold P7 at hr
 split at hr
 ·rename_i cs1 s1 h1
  simp only [Option.some.injEq,Prod.mk.injEq] at hr
  obtain ⟨rfl,rfl⟩:=hr
  exact NO (Q':=Q') (rd:=rd) hV l s s1 cs1 h1 hc M σ a w hs fun M' σ' a' w' hs'=>hQ' _ M' σ' a' w' h (F4 hs' ts ns)
 cases hr
theorem gG (n:Nat) (b b':Blk) (hn:get s.h n=some b) (hb:∀ M σ w x,Bq M σ w x b->Bq M σ w x b'):Cv N W0 X M0 s ⟨s.t,put s.h n b'⟩:=by
 intro M σ a w hs
 have hk:∀ m c,get (put s.h n b') m=some c->∃ b0,get s.h m=some b0/\(Bq M σ w (σ m) b0->Bq M σ w (σ m) c):=fun m c hm=>by
  rw [Jh] at hm
  split at hm
  ·rename_i e
   subst e
   injection hm with hm
   subst hm
   exact ⟨b,hn,hb M σ w _⟩
  exact ⟨c,hm,id⟩
 refine ⟨M,σ,hs.os,hs.tape,hs.output,hs.size,hs.old,hs.sub,hs.new,hs.pin,hs.defers,hs.room,hs.tmps,hs.imm,fun m c hm => ?_,fun m c hm => ?_,fun m k c c' hm hk' hne => ?_⟩
 ·obtain ⟨b0,e1,e2⟩:=hk m c hm;exact e2 (hs.blk m b0 e1)
 ·obtain ⟨b0,e1,_⟩:=hk m c hm;exact hs.loc m b0 e1
 obtain ⟨b0,e1,_⟩:=hk m c hm;obtain ⟨b0',e1',_⟩:=hk k c' hk';exact hs.inj m k b0 b0' e1 e1' hne
def Qj:Nat->List (List Cl)->List (Nat×List Cl)
 | _,[]=>[]
 | k,l::r=>(k,l)::Qj (k+1) r
theorem Ji:∀ (ls:List (List Cl)) (k i:Nat),get (Qj k ls) i=if k<=i then ls[i-k]? else none
 | [],k,i=>by simp [Qj,get]
 | l::r,k,i=>by
  simp only [Qj,get,CI]
  by_cases h:k=i
  ·subst h;simp
  simp only [h,decide_false,cond_false]
  rw [Ji r (k+1) i]
  by_cases h2:k<=i
  ·rw [if_pos (by omega),if_pos h2,show i-k=(i-(k+1))+1 by omega,List.getElem?_cons_succ]
  rw [if_neg (by omega),if_neg h2]
theorem gF {s:AS} (S:AS) (n sz len:Nat) (f:Nat->Nat->Cl) (ty:TypeId) (hn:get s.h n=some (.row sz len f ty)) (hl:Nat.blt 0 len=true) (hS:(⟨s.t,put s.h n (.rowx sz len (fun _ _=>default) ty (Qj 0 ((List.range len).map fun i=>GM f i 0 sz)))⟩:AS)=S):Cv N W0 X M0 s S:=by
 subst hS
 have h0:0<len:=by
  have h1:Nat.ble (0+1) len=true:=hl
  exact Nat.le_of_ble_eq_true h1
 refine gG n _ _ hn fun M σ w x hb => ?_
 rcases hb with ⟨_,h⟩ | ⟨e0,c,e1,e2,e3,e4,g,e5⟩
 ·omega
 refine ⟨e0,c,e1,e2,e3,e4,g,fun i j hi hj=>⟨(e5 i j hi hj).1,fun hno => ?_⟩,fun i l hl => ?_⟩
 ·rw [Ji] at hno
  simp [hi] at hno
 rw [Ji,if_pos (Nat.zero_le _),Nat.sub_zero,List.getElem?_map] at hl
 by_cases hi:i<len
 ·rw [List.getElem?_range hi] at hl
  simp only [Option.map_some,Option.some.injEq] at hl
  subst hl
  refine ⟨hi,L2.of (by simp [Dn]) fun j a b ha hb => ?_⟩
  have hj:j<sz:=by have:=(List.getElem?_eq_some_iff.1 ha).1;rwa [Dn] at this
  rw [IJ _ _ _ _ _ hj,Nat.zero_add] at ha
  injection ha with ha
  subst ha
  rw [List.getElem?_map,List.getElem?_range hj] at hb
  simp only [Option.map_some,Option.some.injEq] at hb
  subst hb
  exact LZ (e5 i j hi hj).2
 rw [List.getElem?_eq_none (by simp;omega)] at hl
 cases hl
theorem G0 {s:AS} (S:AS) (n sz len:Nat) (f:Nat->Nat->Cl) (ty:TypeId) (ls:List (List Cl)) (hn:get s.h n=some (.rowx sz len f ty (Qj 0 ls))) (hlen:Nat.beq ls.length len=true) (hsz:ls.all (fun l=>Nat.beq l.length sz&&l.all Cl.dv)=true) (hS:(⟨s.t,put s.h n (.row sz len (As sz len ls.flatten) ty)⟩:AS)=S):Cv N W0 X M0 s S:=by
 subst hS
 have hlen:=Nat.eq_of_beq_eq_true hlen
 refine gG n _ _ hn fun M σ w x hb => ?_
 obtain ⟨e0,c,e1,e2,e3,e4,g,e5,e6⟩:=hb
 refine .inr ⟨e0,c,e1,e2,e3,e4,g,fun i j hi hj=>⟨(e5 i j hi hj).1,?_⟩⟩
 have hil:i<ls.length:=by omega
 have hmem:=List.getElem_mem hil
 have hall:=(List.all_eq_true.1 hsz) _ hmem
 simp only [Bool.and_eq_true] at hall
 have hli:=Nat.eq_of_beq_eq_true hall.1
 obtain ⟨_,hL⟩:=e6 i ls[i] (by rw [Ji,if_pos (Nat.zero_le _),Nat.sub_zero,List.getElem?_eq_getElem hil])
 have hflat:∀ (q:List (List Cl)) (i j:Nat) (hi:i<q.length),(∀ l∈q,l.length=sz)->j<sz->q.flatten[i*sz+j]? = q[i][j]? := by
  intro q
  induction q with
  | nil=>intro i j hi;simp at hi
  | cons l r ih =>
   intro i j hi hall hj
   have h1:=hall l (by simp)
   cases i with
   | zero=>simp [List.getElem?_append,h1,hj]
   | succ i =>
    rw [List.flatten_cons,List.getElem?_append_right (by rw [h1,Nat.add_mul];omega),h1,show (i+1)*sz+j-sz=i*sz+j by rw [Nat.add_mul];omega]
    simpa using ih i j (by simpa using hi) (fun l hl=>hall l (by simp [hl])) hj
 have hjl:j<ls[i].length:=by omega
 rw [VC _ _ _ _ _ hi,List.getD_eq_getElem?_getD,hflat ls i j hil (fun l hl=>by
  have h:=(List.all_eq_true.1 hsz) l hl
  simp only [Bool.and_eq_true] at h
  exact Nat.eq_of_beq_eq_true h.1) hj,List.getElem?_eq_getElem hjl,Option.getD_some]
 obtain ⟨v,hv,hR⟩:=hL.get j _ (List.getElem?_eq_getElem hjl)
 rw [List.getElem?_map,List.getElem?_range hj] at hv
 simp only [Option.map_some,Option.some.injEq] at hv
 subst hv
 exact LY ((List.all_eq_true.1 hall.2) _ (List.getElem_mem hjl)) hR
end
end
section
open Go.RowKit Go.MapKept
def Pk (is:List Nat):Nat->List Cl->List Cl->List Cl
 | k,x::a,y::b=>(bif A6 is k then x else y)::Pk is (k+1) a b
 | _,_,_=>[]
def WJ (is:List Nat) (vs:Nat->Value):Nat->List Cl->List Cl
 | k,y::b=>(bif A6 is k then .val (vs k) else y)::WJ is vs (k+1) b
 | _,[]=>[]
section
variable {P:Program} {M M':Nat→Option Obj} {σ σ':Nat→Loc} {w w':World}
theorem Xp (is:List Nat) (vs:Nat->Value):∀ (k:Nat) (l l0:List Cl) (c:List Value),l=Pk is k l l0->l.length=l0.length->(∀ j,j<c.length->vs (k+j)=c.getD j undef)->(∀ x∈l0,x.dv=true\/True)->L2 (R M σ) l c->L2 (R M σ) (WJ is vs k l0) c
 | k,[],[],c,_,_,_,_,h=>by cases h;exact .nil
 | k,[],_::_,c,_,hl,_,_,h=>by simp at hl
 | k,_::_,[],c,_,hl,_,_,h=>by simp at hl
 | k,x::l,y::l0,c,he,hl,hv,hd,h=>by
  cases h with
  | cons h1 h2 =>
   rename_i v c
   simp only [Pk,List.cons.injEq] at he
   refine .cons ?_ (Xp is vs (k+1) l l0 c he.2 (by simpa using hl) (fun j hj=>by
    have:=hv (j+1) (by simp;omega)
    rw [show k+1+j=k+(j+1) by omega,this];rfl) (fun x hx=>.inr trivial) h2)
   cases hm:A6 is k with
   | true =>
    have:=hv 0 (by simp)
    simp only [cond_true]
    exact ⟨by rw [show k=k+0 from rfl,this];rfl,by rw [show k=k+0 from rfl,this];exact JU h1⟩
   | false =>
    rw [hm] at he
    simp only [cond_false] at he ⊢
    rw [<- he.1];exact h1
theorem T7 (is:List Nat) (vs:Nat->Value) (hM:∀ b o,M b=some o->M' b=some o):∀ (k:Nat) (l l1:List Cl) (c c':List Value),l.length=l1.length->(∀ j,j<c.length->vs (k+j)=c.getD j undef)->L2 (R M σ) l c->L2 (R M' σ) (WJ is vs k l1) c'->L2 (R M' σ) (Pk is k l l1) c'
 | k,[],[],c,c',_,_,_,h=>by cases h;exact .nil
 | k,[],_::_,c,c',hl,_,_,h=>by simp at hl
 | k,_::_,[],c,c',hl,_,_,h=>by simp at hl
 | k,x::l,y::l1,c,c',hl,hv,h0,h=>by
  cases h0 with
  | cons h1 h2 =>
   rename_i v c
   simp only [WJ] at h
   cases h with
   | cons h3 h4 =>
    simp only [Pk]
    refine .cons ?_ (T7 is vs hM (k+1) l l1 c _ (by simpa using hl) (fun j hj=>by
     have:=hv (j+1) (by simp;omega)
     rw [show k+1+j=k+(j+1) by omega,this];rfl) h2 h4)
    cases hm:A6 is k with
    | true =>
     rw [hm] at h3
     have h5:=h3.1
     have h6:=hv 0 (by simp)
     rw [h5,show k=k+0 from rfl,h6]
     exact Ct hM (fun _ _=>rfl) h1
    | false=>rw [hm] at h3;exact h3
theorem iK {hh:Nat->Option Blk} {f:FuncId} {K L n m:Nat} {xs:List Av} {args:List Value} {b d b0 d0 b1 d1:Blk} {r:Tv} (hx:xs.all (Oi K L)=true) (hKL:Nat.beq K L=false) (hnm':n≠m) (hs:Std M σ w hh) (hn:hh n=some b) (hm:hh m=some d) (hnil:(σ n).nil=false) (hnil2:(σ m).nil=false) (hblk:∀ σ',(∀ q,q≠K->q≠L->σ' q=σ q)->Bq M σ' w (σ n) b0) (hblk2:∀ σ',Bq M σ' w (σ m) d0)
  (hargs:L2 (RA M σ) (xs.map (Fe K n L m)) args) (h:Wr2 P f K L xs b0 d0 r b1 d1):Calls P f args.toArray w (fun en w'=>∃ U,en=.returned U/\∃ M',Fp w w' M M' (fun b=>only (σ n) b\/only (σ m) b)/\(∀ σ',RT M' σ' r U)/\(∀ σ',Bq M' σ' w' (σ n) b1)/\∀ σ',Bq M' σ' w' (σ m) d1):=by
 have hne:K≠L:=fun e=>by rw [e,Nat.beq_refl] at hKL;cases hKL
 have hM:M (σ n).b=none:=by
  rcases hs.loc n _ hn with h | h
  ·rw [hnil] at h;cases h
  exact h
 have hM2:M (σ m).b=none:=by
  rcases hs.loc m _ hm with h | h
  ·rw [hnil2] at h;cases h
  exact h
 have hbne:(σ n).b≠(σ m).b:=by
  rcases hs.inj n m _ _ hn hm hnm' with h | h | h
  ·rw [hnil] at h;cases h
  ·rw [hnil2] at h;cases h
  exact h
 let σ2:Nat->Loc:=upd (upd σ K (σ n)) L (σ m)
 have hL:σ2 L=σ m:=BX _ _ _
 have hK:σ2 K=σ n:=by
  show upd _ L _ K=_
  rw [CK _ _ hne];exact BX _ _ _
 have hrest:∀ q,q≠K->q≠L->σ2 q=σ q:=fun q h1 h2=>by
  show upd _ L _ q=_
  rw [CK _ _ h2,CK _ _ h1]
 have hargs2:L2 (RA M σ2) xs args:=by
  refine L2.of (by have:=hargs.length;simpa using this) fun i x V hxi hV => ?_
  obtain ⟨V',hV',hR⟩:=hargs.get i (Fe K n L m x) (by rw [List.getElem?_map,hxi];rfl)
  rw [hV] at hV';injection hV' with hV';subst hV'
  have hok:=(List.all_eq_true.1 hx) x (List.mem_of_getElem? hxi)
  unfold Oi at hok
  split at hok
  ·rename_i q off
   by_cases hq:q=K
   ·subst hq
    simp only [Fe,Nat.beq_refl,cond_true] at hR
    have hR':V=.pointer (some ⟨(σ n).b,off,none⟩):=hR
    show V=.pointer (some ⟨(σ2 q).b,off,none⟩)
    rw [hK];exact hR'
   have hqb:Nat.beq q K=false:=by
    cases hb:Nat.beq q K with
    | false=>rfl
    | true=>exact absurd (Nat.eq_of_beq_eq_true hb) hq
   rw [hqb] at hok
   have:=Nat.eq_of_beq_eq_true hok
   subst this
   simp only [Fe,hqb,Nat.beq_refl,cond_true,cond_false] at hR
   have hR':V=.pointer (some ⟨(σ m).b,off,none⟩):=hR
   show V=.pointer (some ⟨(σ2 q).b,off,none⟩)
   rw [hL];exact hR'
  rename_i hnp
  have:Fe K n L m x=x:=by
   unfold Fe
   split
   ·rename_i q off;exact (hnp q off rfl).elim
   rfl
  rw [this] at hR
  exact G4 (σ':=σ2) (r:=.av x) hok hR
 refine (h M σ2 w args hs.imm (by rw [hK];exact ⟨hblk σ2 hrest,hnil,hM⟩) (by rw [hL];exact ⟨hblk2 σ2,hnil2,hM2⟩) (by rw [hK,hL];exact hbne) hargs2).mono ?_
 rintro en w' ⟨U,hU,M',hk,hR,hb,hb2⟩
 rw [hK,hL] at hk
 refine ⟨U,hU,M',hk,hR,fun σ' => ?_,fun σ' => ?_⟩
 ·have:=hb σ';rw [hK] at this;exact this
 have:=hb2 σ';rw [hL] at this;exact this
def wqV (n m:Nat) (is:List Nat) (l0:List Cl) (ty:TypeId) (d0:Blk) (r:Tv) (d1:Blk):Ef:=.wq m n fun y x=>match x with
 | .cells l ty'=>bif Nat.beq l.length l0.length then some ([Blk.cells l ty'=.cells (Pk is 0 l l0) ty,y=d0],r,d1) else none
 | _=>none
theorem IZ {f:FuncId} {K L n m:Nat} {xs:List Av} {is:List Nat} {l0:List Cl} {ty:TypeId} {d0 d1:Blk} {r:Tv} {B0:(Nat->Value)->List Cl} (h1:∀ args w,(callFunc f args).run P w=.ok (.enter f args) w) (hx:xs.all (Oi K L)=true) (hKL:Nat.beq K L=false) (hnm:Nat.beq n m=false) (hd2:JP d0=true) (hdl:∀ vs,(WJ is vs 0 l0).all Cl.dv=true)
  (e0:∀ vs,WJ is vs 0 l0=B0 vs) (h:∀ vs,Wr2 P f K L xs (.cells (B0 vs) ty) d0 r (.cells (B0 vs) ty) d1):Ed P f (xs.map (Fe K n L m)) (wqV n m is l0 ty d0 r d1):=by
 have hnm':n≠m:=fun e=>by rw [e,Nat.beq_refl] at hnm;cases hnm
 refine .inl ⟨h1,fun M σ w hh args cs' g hs hargs hres hc => ?_⟩
 simp only [wqV,res] at hres
 cases hm:hh m with
 | none=>rw [hm] at hres;cases hres
 | some d =>
  cases hn:hh n with
  | none=>rw [hn,hm] at hres;cases hres
  | some b =>
   rw [hn,hm] at hres
   cases b with
   | row=>simp at hres
   | omap=>simp at hres
   | rowx=>simp at hres
   | cells l ty' =>
    simp only at hres
    cases hlen:Nat.beq l.length l0.length with
    | false=>rw [hlen] at hres;simp at hres
    | true =>
     have hmn:Nat.beq m n=false:=by
      cases hb:Nat.beq m n with
      | false=>rfl
      | true=>exact absurd (Nat.eq_of_beq_eq_true hb).symm hnm'
     rw [hlen,hmn] at hres
     simp only [cond_true,Option.some.injEq,Prod.mk.injEq] at hres
     obtain ⟨rfl,rfl⟩:=hres
     have hlen0:=Nat.eq_of_beq_eq_true hlen
     have hbd:=hc.head
     have hdd:=hc.tail.head
     subst hdd
     injection hbd with hl hty
     subst hty
     obtain ⟨hnil,c,hheap,hL⟩:=hs.blk n _ hn
     have hblk2:=hs.blk m _ hm
     have hnil2:(σ m).nil=false:=by
      cases d with
      | row=>cases hd2
      | omap=>cases hd2
      | rowx=>cases hd2
      | cells l ty=>exact hblk2.1
     let vs:Nat->Value:=fun k=>c.getD k undef
     have hvs:∀ j,j<c.length->vs (0+j)=c.getD j undef:=fun j _=>by simp only [vs,Nat.zero_add]
     have hin:L2 (R M σ) (WJ is vs 0 l0) c:=Xp is vs 0 l l0 c hl hlen0 hvs (fun _ _=>.inr trivial) hL
     have hcall:=iK (b0:=Blk.cells (B0 vs) ty') (b1:=Blk.cells (B0 vs) ty') hx hKL hnm' hs hn hm hnil hnil2 (fun σ' _=>⟨hnil,c,hheap,by rw [<- e0 vs];exact hin.mono fun a ha v hv=>(Ju ((List.all_eq_true.1 (hdl vs)) a ha)).2 ((Ju ((List.all_eq_true.1 (hdl vs)) a ha)).1 hv)⟩) (fun σ'=>Fu hd2 hblk2) hargs (h vs)
     refine hcall.mono ?_
     rintro en w' ⟨U,hU,M',hk,hR,hb,hb2⟩
     refine ⟨U,hU,fun dst _=>⟨M',σ,QQ hk fun b hb=>hb.symm,rfl,hR σ,hb2 σ,?_⟩⟩
     obtain ⟨k1,c',k2,k3⟩:=hb σ
     refine ⟨k1,c',k2,?_⟩
     rw [<- e0 vs] at k3
     have k4:=T7 is vs hk.sub 0 l l0 c c' hlen0 hvs hL k3
     rw [<- hl] at k4
     exact k4
end
end
section
open Go.RowKit Go.MapKept
def lT (P:Program) (V:Env P) (N:Nat) (o:Oper) (G:Prop) (s:AS):Option (List Prop×AS):=match eff P V o.dst o.op (evG (get s.t) (Gr o.op)) with
 | some e=>match res (get s.h) e with
  | some (cs,g)=>bif IH N s o.dst g then some (J3 (get s.t) G (Gr o.op)++cs,Uw s o.dst g) else none
  | none=>none
 | none=>none
section
variable {P:Program} {rd:Option Nat} {N:Nat} {W0:World} {X:Nat→Option Loc} {M0:Nat→Option Obj} {s:AS}
theorem PY {E:TypeId->Option (List Kd)} (hE:Jv P ⟨fun _=>none,E,fun _=>false,fun _=>none⟩) {ops:Array Oper} {o:Oper} {l:List Oper} {K:AS->Prop} (j:Nat) (want:Bool) (G:Prop) (qs:List (Nat×(Bool×Nat))) (tbl:List (Nat×FuncId×List Av×Ef)) (cs:List Prop) (S:AS) (hg:o.guard=some (j,want)) (hG:HZ (get s.t) ops j want=some G) (hGp:G) (htbl:G3 P tbl)
  (hst:lT P ⟨Ez tbl,E,A6 [],get qs⟩ N o G s=some (cs,S)) (hc:CY cs) (h:AWL P rd N W0 X M0 ops l K S):AWL P rd N W0 X M0 ops (o::l) K s:=by
 have hV:=htbl.env (O:=A6 []) (q:=get qs) hE
 intro M σ a w hs Q' hQ'
 refine wpListIn_step fun K0 hK' => ?_
 rw [if_pos ((GW hs.tmps hs.room hg hG).2 hGp)]
 unfold lT at hst
 split at hst
 ·rename_i e he
  split at hst
  ·rename_i cs' g hr
   cases hok:IH N s o.dst g with
   | false=>rw [hok] at hst;cases hst
   | true =>
    rw [hok] at hst
    simp only [cond_true,Option.some.injEq,Prod.mk.injEq] at hst
    obtain ⟨rfl,rfl⟩:=hst
    obtain ⟨hc1,hc2⟩:=hc.append
    have hgo0:=LQ hok (fun n v b hg=>by subst hg;exact WK hr) (fun l v hg=>by subst hg;exact Sc hr) (fun n q v b bq hg=>by subst hg;exact WL hr) (fun n b v hg=>by subst hg;exact Sd hr)
    refine (XE hV (fun x v hv=>fY hGp hc1 hs.tmps hv) he hs.std hr hc2 (YQ hgo0)).wp ?_ (fun c hc=>by rw [hc] at he;cases he)
    rintro U w' ⟨M',σ',ho⟩
    have hsim:=OZ hs ho hgo0
    rw [<- (Gx s o.dst g).1,<- (Gx s o.dst g).2] at hsim
    exact hK' _ _ (h M' σ' _ w' hsim Q' hQ')
  cases hst
 cases hst
theorem PZ {ops:Array Oper} {o:Oper} {l:List Oper} {K:AS->Prop} (j:Nat) (want:Bool) (G:Prop) (S:AS) (hg:o.guard=some (j,want)) (hG:HZ (get s.t) ops j want=some G) (hGn:¬ G) (hok:IH N s o.dst (.val (.av (.one (.val (.bool false)))))=true) (hS:NH s o.dst (.grd G (.one (.val (.bool false))))=S)
  (h:AWL P rd N W0 X M0 ops l K S):AWL P rd N W0 X M0 ops (o::l) K s:=by
 subst hS
 intro M σ a w hs Q' hQ'
 refine wpListIn_step fun K0 hK' => ?_
 rw [if_neg (fun h=>hGn ((GW hs.tmps hs.room hg hG).1 h))]
 refine ⟨fun _ _=>trivial,?_⟩
 have hgo0:=LQ hok (fun n v b hg=>by cases hg) (fun l v hg=>by cases hg) (fun n q v b bq hg=>by cases hg) (fun n b v hg=>by cases hg)
 have hsim:=OZ hs (g:=.val (.grd G (.one (.val (.bool false))))) (V:=undef) (w':=w) (M':=M) (σ':=σ) ⟨Fp.refl hs.imm _,rfl,fun h=>absurd h hGn,fun _=>rfl⟩ ⟨hgo0.1,trivial⟩
 rw [<- (Gx s o.dst _).1,<- (Gx s o.dst _).2] at hsim
 exact hK' _ _ (h M σ _ w hsim Q' hQ')
end
end
section
open Go.RowKit
def BkN:Blk->Prop
 | .cells l _=>∀ c∈l,NM c
 | .row _ _ f _=>∀ i j,NM (f i j)
 | .omap _ _ _ _ vf=>∀ i j,NM (vf i j)
 | .rowx .. => False
theorem XX {M M':Nat->Option Obj} (h:∀ b c t f,M b=some (.cells c t f)->M' b=some (.cells c t f)) {σ:Nat->Loc} {w:World} {x:Loc} {b:Blk} (hr:Bq M σ w x b) (hn:BkN b):Bq M' σ w x b:=by
 cases b with
 | cells l ty =>
  obtain ⟨h0,c,hc,hl⟩:=hr
  exact ⟨h0,c,hc,hl.mono fun a ha b hb=>Yj h hb (hn a ha)⟩
 | row sz len f ty =>
  rcases hr with hr | ⟨h0,c,hc,h1,h2,h3,g,hg⟩
  ·exact .inl hr
  exact .inr ⟨h0,c,hc,h1,h2,h3,g,fun i j hi hj=>⟨(hg i j hi hj).1,Td h (hg i j hi hj).2 (hn i j)⟩⟩
 | omap agg nv len kf vf =>
  obtain ⟨h0,es,ck,g,hc,h1,h2,h3⟩:=hr
  exact ⟨h0,es,ck,g,hc,h1,h2,fun i j hi hj=>Td h (h3 i j hi hj) (hn i j)⟩
 | rowx=>exact hn.elim
def Blk.isP:Blk->Bool
 | .cells .. => true
 | .omap .. => true
 | _=>false
def Blk.isR:Blk->Bool
 | .row .. => true
 | _=>false
def slV:Value->Bool
 | .slice (some _) _ _=>true
 | _=>false
def Sw (o:Obj) (k:Nat):Option Value:=match o with
 | .cells c _ _=>c[k]?
 | _=>none
def Im (bq off:Nat) (W:World) (b:Nat):Prop:=∃ o len cap,W.heap[bq]? = some o/\Sw o off=some (.slice (some ⟨b,0,none⟩) len cap)
def PG (q off r:Nat) (h:List (Nat×Blk)):Bool:=match get h q with
 | some (.cells l _)=>(match get h r with
  | some (.row ..)=>(match l[off]? with
   | some (.own r' _ _)=>Nat.beq r' r
   | _=>false)
  | none=>(match l[off]? with
   | none=>true
   | some (.val v) => !slV v
   | some (.ptr ..)=>true
   | _=>false)
  | _=>false)
 | _=>false
def PXr (pids:List Nat) (r:Nat) (G:Prop) (X:Nat->Option Loc):Prop:=∀ m x,X m=some x->(∃ q,A6 pids q=true/\∃ y,X q=some y/\y.b=x.b)\/(m=r/\G/\x.nil=false)
section
variable {N:Nat} {W0 W W':World} {X XA:Nat→Option Loc} {M0 M M' M3:Nat→Option Obj} {σ σ' σ3:Nat→Loc} {T T':Nat→Option Tv} {H H':Nat→Option Blk} {a a':Act} {h:List (Nat×Blk)} {q off r:Nat}
theorem TG (hs:Sim N W0 X M0 M σ T (get h) a W) (hb:PG q off r h=true) {b:Nat} (hh:Im (σ q).b off W b):(∃ x,get h r=some x)/\(σ r).nil=false/\(σ r).b=b:=by
 unfold PG at hb
 cases hq:get h q with
 | none=>rw [hq] at hb;cases hb
 | some bq =>
  rw [hq] at hb
  cases bq with
  | cells l ty =>
   obtain ⟨hn,c,hc,hl⟩:=hs.blk q _ hq
   obtain ⟨o,len,cap,ho,hcell⟩:=hh
   rw [hc] at ho;injection ho with ho;subst ho
   have hcl:c[off]? = some (.slice (some ⟨b,0,none⟩) len cap):=by simpa [Sw] using hcell
   have hoff:off<l.length:=by rw [hl.length];exact (List.getElem?_eq_some_iff.1 hcl).1
   have hcl2:l[off]? = some l[off]:=List.getElem?_eq_getElem hoff
   obtain ⟨v,hv,hR⟩:=hl.get off _ hcl2
   rw [hcl] at hv;injection hv with hv;subst hv
   generalize l[off]=cl at hcl2 hR
   cases hr:get h r with
   | none =>
    simp only [hr,hcl2] at hb
    exfalso
    cases cl with
    | val u =>
     obtain ⟨h1,_⟩:=hR
     subst h1
     simp [slV] at hb
    | ptr n o=>cases hR
    | _=>cases hb
   | some br =>
    simp only [hr,hcl2] at hb
    cases br with
    | row sz len' f ty' =>
     cases cl with
     | own r' sz' len'' =>
      have:=Nat.eq_of_beq_eq_true hb
      subst this
      unfold R at hR
      split at hR
      ·cases hR.2
      rename_i hnil
      injection hR with h1
      injection h1 with h1
      injection h1 with h1
      exact ⟨⟨_,rfl⟩,by simpa using hnil,h1.symm⟩
     | _=>cases hb
    | _=>cases hb
  | _=>cases hb
theorem Uv (hs:Sim N W0 X M0 M σ T (get h) a W) (hb:PG q off r h=true) {x:Blk} (hr:get h r=some x) (hn:(σ r).nil=false):Im (σ q).b off W (σ r).b:=by
 unfold PG at hb
 cases hq:get h q with
 | none=>rw [hq] at hb;cases hb
 | some bq =>
  rw [hq] at hb
  cases bq with
  | cells l ty =>
   obtain ⟨_,c,hc,hl⟩:=hs.blk q _ hq
   simp only [hr] at hb
   cases x with
   | row sz len' f ty' =>
    cases hcl:l[off]? with
    | none=>simp only [hcl] at hb;cases hb
    | some cl =>
     simp only [hcl] at hb
     cases cl with
     | own r' sz' len'' =>
      have:=Nat.eq_of_beq_eq_true hb
      subst this
      obtain ⟨v,hv,hR⟩:=hl.get off _ hcl
      unfold R at hR
      rw [hn] at hR
      exact ⟨_,len'',(σ r').cap,hc,by simp only [Sw,List.getElem?_toArray];rw [hv];exact congrArg some hR⟩
     | _=>cases hb
   | _=>cases hb
  | _=>cases hb
theorem cR {Xr X2:Nat->Option Loc} (hs:Sim N W0 XA M0 M' σ' T H a W) (hr:Sim N W Xr M' M3 σ3 T' H' a' W') (hin:∀ b,inX Xr b->inX XA b\/W0.heap.size<=b)
  {H2:Nat->Option Blk} (hH2:∀ n b,H2 n=some b->H' n=some b) (hH:∀ n b,H2 n=some b->BkN b) {a2:Act} {T2:Nat->Option Tv} (hsz:a2.tmps.size=N) (hT2:∀ i v,T2 i=some v->RT (Js M' M3) σ3 v (a2.tmps.getD i undef)) (hX2:∀ n x,X2 n=some x->N<=n/\σ3 n=x) (hX3:∀ b,inX XA b↔inX X2 b) (hd:Hx X2 M0 (Js M' M3) a2.defers) :
  Sim N W0 X2 M0 (Js M' M3) σ3 T2 H2 a2 W':=by
 have hsub:∀ b o,M' b=some o->M3 b=some o:=hr.sub
 refine ⟨hr.os.trans hs.os,hr.tape.trans hs.tape,hr.output.trans hs.output,Nat.le_trans hs.size hr.size,fun b hb hx => ?_,fun b o h=>Ql (hs.sub b o h),fun b o h h' => ?_,hX2,hd,hsz,hT2,fun b o h=>hr.imm b o (Hr hsub h),fun n b h=>XX (PT hsub) (hr.blk n b (hH2 n b h)) (hH n b h),fun n b h => ?_,fun n m b c hb hc hne=>hr.inj n m b c (hH2 n b hb) (hH2 m c hc) hne⟩
 ·have h1:¬ inX XA b:=fun h=>hx ((hX3 b).1 h)
  refine (hr.old b (Nat.lt_of_lt_of_le hb hs.size) fun h => ?_).trans (hs.old b hb h1)
  rcases hin b h with h | h
  ·exact h1 h
  omega
 ·cases h1:M' b with
  | some o'=>exact hs.new b o' h1 h'
  | none=>exact Nat.le_trans hs.size (hr.new b o (Hr hsub h) h1)
 refine (hr.loc n b (hH2 n b h)).imp id fun h=>⟨?_,?_⟩
 ·cases hc:Js M' M3 (σ3 n).b with
  | none=>rfl
  | some o=>have:=Hr hsub hc;rw [h.1] at this;cases this
 rcases h.2 with h | h
 ·exact .inl (Nat.le_trans hs.size h)
 rcases hin _ h with h | h
 ·exact .inr ((hX3 _).1 h)
 exact .inl h
theorem WG (hs:Sim N W0 X M0 M σ T H a W) {row:Option Nat} (hH:∀ n b,H n=some b->b.isM=true->∀ r,row=some r->(σ n).b<r) (hg:W.grownBy W' row) (hr:∀ r,row=some r->W0.heap.size<=r/\(∃ o:Obj,W.heap[r]? = some o/\o.isCells=false)/\M r=none):Sim N W0 X M0 M σ T H a W':=by
 have hsame:∀ b (o:Obj),W.heap[b]? = some o->(o.isCells=true\/M b=some o\/b<W0.heap.size)->W'.heap[b]? = some o:=fun b o hb hc=>by
  refine (hg.block b (Array.getElem?_eq_some_iff.1 hb).1 fun e => ?_).trans hb
  obtain ⟨h1,⟨o',h2,h3⟩,h4⟩:=hr b e.symm
  rw [hb] at h2;injection h2 with h2;subst h2
  rcases hc with h | h | h
  ·rw [h3] at h;cases h
  ·rw [h4] at h;cases h
  omega
 refine ⟨hg.os.trans hs.os,hg.tape.trans hs.tape,hg.output.trans hs.output,Nat.le_trans hs.size hg.size,fun b hb hx => ?_,hs.sub,hs.new,hs.pin,hs.defers,hs.room,hs.tmps,fun b o h=>hsame b o (hs.imm b o h) (.inr (.inl h)),fun n b h => ?_,hs.loc,hs.inj⟩
 ·have h1:=hs.old b hb hx
  have h2:W0.heap[b]? = some W0.heap[b]:=Array.getElem?_eq_getElem hb
  rw [h2] at h1 ⊢
  exact hsame b _ h1 (.inr (.inr hb))
 refine (hs.blk n b h).mono (fun _ _ h=>h) (fun _ _=>rfl) fun hn => ?_
 have hb:=hs.blk n b h
 cases b with
 | cells l ty=>obtain ⟨_,c,hc,_⟩:=hb;rw [hc];exact hsame _ _ hc (.inl rfl)
 | row sz len f ty =>
  rcases hb with ⟨h0,_⟩ | ⟨_,c,hc,_⟩
  ·rw [hn] at h0;cases h0
  rw [hc];exact hsame _ _ hc (.inl rfl)
 | omap =>
  obtain ⟨_,es,ck,g,hc,_⟩:=hb
  exact hg.block _ (Array.getElem?_eq_some_iff.1 hc).1 fun e=>by have:=hH n _ h rfl _ e.symm;omega
 | rowx sz len f ty hh=>obtain ⟨_,c,hc,_⟩:=hb;rw [hc];exact hsame _ _ hc (.inl rfl)
theorem P4 {fid:Nat} {XB:Nat->Option Loc} {σ2:Nat->Loc} (hs:Sim N W0 XA M0 M' σ' T H a W) {a2:Act} (hd:a2.defers=[]) (hr:a2.tmps.size=N) (hpin:∀ n x,XB n=some x->N<=n/\σ2 n=x) (hσ:∀ n,n≠fid->σ2 n=σ' n)
  (hT:∀ i v,T' i=some v->RT M' σ' v (a2.tmps.getD i undef)/\v.no fid=true) (hHf:∀ n b,H n=some b->n≠fid/\b.no fid=true/\((σ' n).nil=true\/inX XB (σ' n).b)):Sim N W XB M' M' σ2 T' H a2 W:=by
 refine ⟨rfl,rfl,rfl,Nat.le_refl _,fun _ _ _=>rfl,fun _ _ h=>h,fun b o h h'=>by (rw [h] at h';cases h'),hpin,⟨by rw [hd];trivial,fun _=>hd⟩,hr,fun i v hv=>De (fun _ _ h=>h) (fun d hd=>hσ d fun e => ?_) (hT i v hv).1,hs.imm,fun n b hb => ?_,fun n b hb => ?_,fun n m b c hb hc hne => ?_⟩
 ·subst e;rw [(hT i v hv).2] at hd;cases hd
 ·obtain ⟨h1,h2,h3⟩:=hHf n b hb
  rw [hσ n h1]
  exact (hs.blk n b hb).mono (fun _ _ h=>h) (fun d hd=>hσ d fun e=>by subst e;rw [h2] at hd;cases hd) (fun _=>rfl)
 ·obtain ⟨h1,h2,h3⟩:=hHf n b hb
  rw [hσ n h1]
  rcases hs.loc n b hb with h4 | h4
  ·exact .inl h4
  exact h3.imp id fun h=>⟨h4.1,.inr h⟩
 rw [hσ n (hHf n b hb).1,hσ m (hHf m c hc).1]
 exact hs.inj n m b c hb hc hne
end
end
section
open Go.RowKit
def Xv (N:Nat) (pids:List Nat) (fid q r:Nat) (t0:List (Nat×Tv)) (ps:Array Tmp):Bool :=
 t0.all (fun p=>pvT pids p.2)&&(pids.all (fun m=>Nat.ble N m)&&(!A6 pids fid&&(!A6 pids r&&(!Nat.beq r fid&&(Nat.ble N fid&&(Nat.ble N r&&(A6 pids q&&ps.toList.all (fun p=>Nat.blt p N))))))))
def famB (pids:List Nat) (fid q off r:Nat) (h:List (Nat×Blk)):Bool :=
 h.all (fun p=>(A6 pids p.1&&p.2.isP||Nat.beq p.1 r&&p.2.isR)&&p.2.no fid)&&(pids.all (fun m=>(get h m).isSome)&&PG q off r h)
def HsN (h:List (Nat×Blk)):Prop:=∀ n b,get h n=some b->BkN b
theorem VE {l:List Cl} {ty:TypeId} (h:∀ c∈l,NM c):BkN (.cells l ty):=h
theorem bkN_r {α:Type} [Inhabited α] {sz len:Nat} {c:α->List Cl} {xs:List α} {ty:TypeId} (h:∀ x,∀ y∈c x,NM y):BkN (.row sz len (AP c xs) ty):=fun i j=>by
 unfold AP
 rw [List.getD_eq_getElem?_getD]
 cases hj:(c (xs.getD i default))[j]? with
 | none=>exact .val _
 | some y=>exact h _ y (List.mem_of_getElem? hj)
theorem mD {κ α:Type} [Inhabited κ] [Inhabited α] {agg:Bool} {nv len:Nat} {kf:Nat->Value} {c:α->List Cl} {xs:List (κ×α)} (h:∀ x,∀ y∈c x,NM y):BkN (.omap agg nv len kf (vfG c xs)):=fun i j=>by
 unfold vfG
 rw [List.getD_eq_getElem?_getD]
 cases hj:(c (xs.getD i default).2)[j]? with
 | none=>exact .val _
 | some y=>exact h _ y (List.mem_of_getElem? hj)
def iA (pids:List Nat) (n r:Nat) (s:AS):Bool := !Nat.beq r n&&pids.all fun q => !Nat.beq q n&&match get s.h q with | some (.cells ..)=>true | some (.omap ..)=>true | _=>false
section
variable {P:Program} {N:Nat} {W0:World} {X:Nat→Option Loc} {M0:Nat→Option Obj} {s:AS}
theorem PS (S:AS) (n:Nat) (l:List Cl) (ty:TypeId) (pids:List Nat) (r:Nat) {G:Prop} (hX:PXr pids r G X) (hK:iA pids n r s=true) (hG:G->∃ b,get s.h r=some b) (hn:get s.h n=some (.cells l ty)) (hdv:l.all Cl.dv=true) (hS:fxS n l s=S):Cv N W0 X M0 s S:=by
 subst hS
 intro M σ a w hs
 simp only [iA,Bool.and_eq_true,Bool.not_eq_true'] at hK
 obtain ⟨hrn,hK⟩:=hK
 obtain ⟨M',h1⟩:=Xo n l ty (fun hnil=>by
  rintro ⟨m,x,h1,h2⟩
  exfalso
  have key:∀ q y bk,q≠n->X q=some y->y.b=x.b->(σ q).nil=false->get s.h q=some bk->False:=fun q y bk hqn hy hyx h4 hb=>by
   have h5:=(hs.pin q y hy).2
   rcases hs.inj q n _ _ hb hn hqn with h6 | h6 | h6
   ·rw [h4] at h6;cases h6
   ·rw [hnil] at h6;cases h6
   exact h6 (by rw [h5,hyx,h2])
  rcases hX m x h1 with ⟨q,hq,y,hy,hyx⟩ | ⟨rfl,hg,hxn⟩
  ·have h3:=List.all_eq_true.1 hK q (Jc hq)
   simp only [Bool.and_eq_true,Bool.not_eq_true'] at h3
   have hqn:q≠n:=fun e=>by have:=h3.1;rw [e,Nat.beq_refl] at this;cases this
   cases hb:get s.h q with
   | none=>rw [hb] at h3;cases h3.2
   | some bk =>
    rw [hb] at h3
    refine key q y bk hqn hy hyx ?_ hb
    have h4:=hs.blk q _ hb
    cases bk with
    | row=>cases h3.2
    | rowx=>cases h3.2
    | omap=>exact h4.1
    | cells lq tq=>exact h4.1
  obtain ⟨bk,hb⟩:=hG hg
  refine key m x bk (fun e=>by rw [e,Nat.beq_refl] at hrn;cases hrn) h1 rfl ?_ hb
  rw [(hs.pin m x h1).2];exact hxn) hn hdv hs
 exact ⟨M',σ,h1⟩
end
end
section
open Go.RowKit
theorem LI:Try.prog.follows .mixedOrders=true:=by kernel_rfl
structure AE where
 X:Int
 Y:Int
 deriving Inhabited
def AE.c (x:AE):List Cl:=[.i x.X,.i x.Y]
structure Al where
 At:AE
 Turn:Int
 Mirror:Bool
 deriving Inhabited
def Al.c (x:Al):List Cl:=[.i x.At.X,.i x.At.Y,.i x.Turn,.b x.Mirror]
structure AQ where
 Kind:Int
 A:AE
 B:AE
 C:AE
 deriving Inhabited
def AQ.c (x:AQ):List Cl:=[.i x.Kind,.i x.A.X,.i x.A.Y,.i x.B.X,.i x.B.Y,.i x.C.X,.i x.C.Y]
structure Ai where
 X0:Int
 Y0:Int
 X1:Int
 Y1:Int
 deriving Inhabited
def Ai.c (x:Ai):List Cl:=[.i x.X0,.i x.Y0,.i x.X1,.i x.Y1]
structure AD where
 L:(List Int)
 At:Int
 deriving Inhabited
def AD.c (x:AD):List Cl:=[lst 1 (fun x=>[.i x]) x.L,.i x.At]
structure OpL where
 len:Nat
 f:Nat->Nat->Cl
 deriving Inhabited
abbrev opL (x:OpL):Cl:=.list false 8 x.len x.f
structure AU where
 Ref:ByteArray
 Pad:ByteArray
 deriving Inhabited
def AU.c (x:AU):List Cl:=[.s x.Ref,.s x.Pad]
structure A7 where
 Name:ByteArray
 Pins:(List AU)
 deriving Inhabited
def A7.c (x:A7):List Cl:=[.s x.Name,lst 2 AU.c x.Pins]
structure AG where
 Id:Int
 Ref:ByteArray
 Type':ByteArray
 At:AE
 Turn:Int
 Under:Bool
 deriving Inhabited
def AG.c (x:AG):List Cl:=[.i x.Id,.s x.Ref,.s x.Type',.i x.At.X,.i x.At.Y,.i x.Turn,.b x.Under]
structure A2 where
 Kind:Int
 Edges:(List AQ)
 R:Int
 deriving Inhabited
def A2.c (x:A2):List Cl:=[.i x.Kind,lst 7 AQ.c x.Edges,.i x.R]
structure BJ where
 Name:ByteArray
 Shape:A2
 At:AE
 Drill:Int
 deriving Inhabited
def BJ.c (x:BJ):List Cl:=[.s x.Name,.i x.Shape.Kind,lst 7 AQ.c x.Shape.Edges,.i x.Shape.R,.i x.At.X,.i x.At.Y,.i x.Drill]
structure Bw where
 Pad:ByteArray
 Group:Int
 deriving Inhabited
def Bw.c (x:Bw):List Cl:=[.s x.Pad,.i x.Group]
structure BL where
 Kind:Int
 Legs:(List Bw)
 deriving Inhabited
def BL.c (x:BL):List Cl:=[.i x.Kind,lst 2 Bw.c x.Legs]
structure AV where
 Name:ByteArray
 Pads:(List BJ)
 Gates:(List BL)
 deriving Inhabited
def AV.c (x:AV):List Cl:=[.s x.Name,lst 7 BJ.c x.Pads,lst 2 BL.c x.Gates]
structure Ap where
 Id:Int
 Net:ByteArray
 Layer:Int
 Shape:A2
 deriving Inhabited
def Ap.c (x:Ap):List Cl:=[.i x.Id,.s x.Net,.i x.Layer,.i x.Shape.Kind,lst 7 AQ.c x.Shape.Edges,.i x.Shape.R]
structure Bo where
 Id:Int
 Net:ByteArray
 At:AE
 R:Int
 Drill:Int
 From:Int
 To:Int
 deriving Inhabited
def Bo.c (x:Bo):List Cl:=[.i x.Id,.s x.Net,.i x.At.X,.i x.At.Y,.i x.R,.i x.Drill,.i x.From,.i x.To]
structure A4 where
 Id:Int
 Net:ByteArray
 Layer:Int
 Pitch:Int
 Priority:Int
 Relief:Int
 Spoke:Int
 Rects:(List Ai)
 deriving Inhabited
def A4.c (x:A4):List Cl:=[.i x.Id,.s x.Net,.i x.Layer,.i x.Pitch,.i x.Priority,.i x.Relief,.i x.Spoke,lst 4 Ai.c x.Rects]
structure BT where
 Id:Int
 Layer:Int
 Shape:A2
 deriving Inhabited
def BT.c (x:BT):List Cl:=[.i x.Id,.i x.Layer,.i x.Shape.Kind,lst 7 AQ.c x.Shape.Edges,.i x.Shape.R]
structure Bi where
 Id:Int
 Shape:A2
 deriving Inhabited
def Bi.c (x:Bi):List Cl:=[.i x.Id,.i x.Shape.Kind,lst 7 AQ.c x.Shape.Edges,.i x.Shape.R]
structure BQ where
 Name:ByteArray
 Nets:(List ByteArray)
 deriving Inhabited
def BQ.c (x:BQ):List Cl:=[.s x.Name,lst 1 (fun x=>[.s x]) x.Nets]
structure Bg where
 Op:Int
 Text:ByteArray
 N:Int
 Box:Ai
 L:OpL
 deriving Inhabited
def Bg.c (x:Bg):List Cl:=[.i x.Op,.s x.Text,.i x.N,.i x.Box.X0,.i x.Box.Y0,.i x.Box.X1,.i x.Box.Y1,opL x.L]
structure Az where
 Name:ByteArray
 Priority:Int
 What:Int
 A:Bg
 B:Bg
 Value:Int
 deriving Inhabited
def Az.c (x:Az):List Cl:=[.s x.Name,.i x.Priority,.i x.What,.i x.A.Op,.s x.A.Text,.i x.A.N,.i x.A.Box.X0,.i x.A.Box.Y0,.i x.A.Box.X1,.i x.A.Box.Y1,opL x.A.L,.i x.B.Op,.s x.B.Text,.i x.B.N,.i x.B.Box.X0,.i x.B.Box.Y0,.i x.B.Box.X1,.i x.B.Box.Y1,opL x.B.L,.i x.Value]
structure BF where
 A:Int
 B:Int
 Rule:ByteArray
 deriving Inhabited
def BF.c (x:BF):List Cl:=[.i x.A,.i x.B,.s x.Rule]
structure Ba where
 Name:ByteArray
 Nets:(List ByteArray)
 Within:Int
 deriving Inhabited
def Ba.c (x:Ba):List Cl:=[.s x.Name,lst 1 (fun x=>[.s x]) x.Nets,.i x.Within]
structure AC where
 Layers:Int
 Outline:A2
 Parts:(List AG)
 Nets:(List A7)
 Tracks:(List Ap)
 Vias:(List Bo)
 Pours:(List A4)
 Keeps:(List BT)
 Slots:(List Bi)
 Classes:(List BQ)
 Rules:(List Az)
 Waivers:(List BF)
 Matches:(List Ba)
 deriving Inhabited
def AC.c (x:AC):List Cl:=[.i x.Layers,.i x.Outline.Kind,lst 7 AQ.c x.Outline.Edges,.i x.Outline.R,lst 7 AG.c x.Parts,lst 2 A7.c x.Nets,lst 6 Ap.c x.Tracks,lst 8 Bo.c x.Vias,lst 8 A4.c x.Pours,lst 5 BT.c x.Keeps,lst 4 Bi.c x.Slots,lst 2 BQ.c x.Classes,lst 20 Az.c x.Rules,lst 3 BF.c x.Waivers,lst 3 Ba.c x.Matches]
structure CV where
 Id:Int
 Pad:ByteArray
 Kind:Int
 Net:ByteArray
 From:Int
 To:Int
 Shape:A2
 deriving Inhabited
def CV.c (x:CV):List Cl:=[.i x.Id,.s x.Pad,.i x.Kind,.s x.Net,.i x.From,.i x.To,.i x.Shape.Kind,lst 7 AQ.c x.Shape.Edges,.i x.Shape.R]
structure mI where
 deriving Inhabited
def mI.c (x:mI):List Cl:=[]
structure C5 where
 e0:Int
 e1:Int
 e2:Int
 deriving Inhabited
def C5.c (x:C5):List Cl:=[.i x.e0,.i x.e1,.i x.e2]
def eqE:TypeId->Option (List Kd):=fun T=>get [(25,[.str,.str]),(52,[.int .i64,.int .i64]),(66,[.int .i64,.int .i64,.int .i64,.bool]),(76,[.int .i64,.int .i64,.int .i64,.int .i64]),(133,[.int .i64,.int .i64,.int .i64,.int .i64,.int .i64,.int .i64,.int .i64])] T
theorem DV:Jv Try.prog ⟨fun _=>none,eqE,fun _=>false,fun _=>none⟩:=by
 intro T ks h
 have hm:(T,ks)∈_:=Cz h
 simp only [List.mem_cons,Prod.mk.injEq,List.not_mem_nil,or_false] at hm
 rcases hm with ⟨rfl,rfl⟩ | ⟨rfl,rfl⟩ | ⟨rfl,rfl⟩ | ⟨rfl,rfl⟩ | ⟨rfl,rfl⟩
 all_goals exact ⟨by kernel_rfl,by kernel_rfl,_,rfl,rfl⟩
theorem rg {rd:Option Nat} {N:Nat} {W0:World} {X:Nat→Option Loc} {M0:Nat→Option Obj} {Q:Exit→AS→Prop} {s:AS} {id:Nat} {l:List Oper} (S:AS) (h:Q .normal S) (hr:Of Try.prog ⟨Ez [],eqE,A6 [],get []⟩ N l (S.t.map Prod.fst) (S.h.map Prod.fst) s=some ([],S):=by kernel_rfl):AWp Try.prog rd N W0 X M0 (.region id l.toArray false) Q s:=C4 DV [] [] [] _ _ [] S .nil hr .nil h
theorem rn {rd:Option Nat} {N:Nat} {W0:World} {X:Nat→Option Loc} {M0:Nat→Option Obj} {K:AS→Prop} {Q:Exit→AS→Prop} {s:AS} {id:Nat} {l:List Oper} (S:AS) (h:K S) (hr:Of Try.prog ⟨Ez [],eqE,A6 [],get []⟩ N l (S.t.map Prod.fst) (S.h.map Prod.fst) s=some ([],S):=by kernel_rfl):AWp Try.prog rd N W0 X M0 (.region id l.toArray false) (ATh K Q) s:=rg S (AF h) hr
theorem rc {rd:Option Nat} {N:Nat} {W0:World} {X:Nat→Option Loc} {M0:Nat→Option Obj} {Q:Exit→AS→Prop} {s:AS} {id:Nat} {l:List Oper} (tbl:List (Nat×FuncId×List Av×Ef)) (cs:List Prop) (S:AS) (htbl:G3 Try.prog tbl) (hc:CY cs) (h:Q .normal S) (hr:Of Try.prog ⟨Ez tbl,eqE,A6 [],get []⟩ N l (S.t.map Prod.fst) (S.h.map Prod.fst) s=some (cs,S):=by kernel_rfl):AWp Try.prog rd N W0 X M0 (.region id l.toArray false) Q s:=C4 DV [] [] tbl _ _ cs S htbl hr hc h
abbrev gi (c:Bool):Prop:=c=false→c=false
abbrev gt (c:Bool):Prop:=c=true→c=true
abbrev gj (c:Bool) (p:Prop):Prop:=c=false→p
abbrev gk (c:Bool) (p:Prop):Prop:=c=true→p
theorem ci {p:Prop} {l:List Prop} (h:CY l):CY ((p→p)::l):=.cons id h
abbrev tO (c:Cl):Tv:=.av (.one c)
abbrev gD (l:List Cl):Nat→Nat→Cl:=fun _ j_=>l.getD j_ default
theorem rr {a:Cl} {x y:List Cl} (h:L2 ClE x y):L2 ClE (a::x) (a::y):=.cons (.refl _) h
theorem oT {p:Prop} [Decidable p] (h:decide p=true):p:=of_decide_eq_true h
theorem oF {p:Prop} [Decidable p] (h:decide p=false):¬ p:=of_decide_eq_false h
theorem vk {N:Nat} {W0:World} {X:Nat→Option Loc} {M0:Nat→Option Obj} {s:AS} (ts ns:List Nat):Cv N W0 X M0 s (J6 ts ns s):=B4 ts ns _ rfl
theorem ck {N:Nat} {W0:World} {X:Nat→Option Loc} {M0:Nat→Option Obj} {s:AS} (S:AS) (h:J6 (S.t.map Prod.fst) (S.h.map Prod.fst) s=S:=by kernel_rfl):Cv N W0 X M0 s S:=B4 _ _ S h
theorem wr {N:Nat} {W0:World} {X:Nat→Option Loc} {M0:Nat→Option Obj} {s:AS} {K:List Nat} (S:AS) (q d:Nat) (hX:Cu X W0 K) (h1:MD K q=true:=by kernel_rfl) (h2:MD K d=true:=by kernel_rfl) (hd:noD d s=true:=by kernel_rfl) (hS:iZ q d s=S:=by kernel_rfl):Cv N W0 X M0 s S:=CC S q d hX h1 h2 hd hS
theorem vr {N:Nat} {W0:World} {X:Nat→Option Loc} {M0:Nat→Option Obj} {s:AS} {K:List Nat} (q d:Nat) (hX:Cu X W0 K) (h1:MD K q=true:=by kernel_rfl) (h2:MD K d=true:=by kernel_rfl) (hd:noD d s=true:=by kernel_rfl):Cv N W0 X M0 s (iZ q d s):=wr _ q d hX h1 h2 hd rfl
theorem vf {N:Nat} {W0:World} {X:Nat→Option Loc} {M0:Nat→Option Obj} {s:AS} {K:List Nat} (n:Nat) (hX:Cu X W0 K) (hk:fzK K n s=true:=by kernel_rfl) (he:prS n s=fzE n s:=by kernel_rfl):Cv N W0 X M0 s (fzN n s):=XG n hX hk he
theorem wg {N:Nat} {W0:World} {X:Nat→Option Loc} {M0:Nat→Option Obj} {s:AS} {K:List Nat} (S:AS) (d sz:Nat) (f:Nat→Nat→Cl) (ty:TypeId) (it ih:List (Nat×List Nat)) (hX:Cu X W0 K) (h2:MD K d=true:=by kernel_rfl) (hd:noD d s=true:=by kernel_rfl) (hS:ghS d sz f ty it ih s=S:=by kernel_rfl):Cv N W0 X M0 s S:=FP S d sz f ty it ih hX h2 hd hS
theorem vg {N:Nat} {W0:World} {X:Nat→Option Loc} {M0:Nat→Option Obj} {s:AS} {K:List Nat} (d sz:Nat) (f:Nat→Nat→Cl) (ty:TypeId) (it ih:List (Nat×List Nat)) (hX:Cu X W0 K) (h2:MD K d=true:=by kernel_rfl) (hd:noD d s=true:=by kernel_rfl):Cv N W0 X M0 s (ghS d sz f ty it ih s):=wg _ d sz f ty it ih hX h2 hd rfl
theorem rs {rd:Option Nat} {N:Nat} {W0:World} {X:Nat→Option Loc} {M0:Nat→Option Obj} {Q:Exit→AS→Prop} {s:AS} {id:Nat} {l:List Oper} (d:Nat) (c:FuncId×List Av×Ef) (S:AS) (hx:Ed Try.prog c.1 c.2.1 c.2.2) (h:Q .normal S) (hr:Of Try.prog ⟨Ez [(d,c)],eqE,A6 [],get []⟩ N l (S.t.map Prod.fst) (S.h.map Prod.fst) s=some ([A0 c.2.1],S):=by kernel_rfl):AWp Try.prog rd N W0 X M0 (.region id l.toArray false) Q s:=rc _ _ S (.cons hx .nil) (.cons rfl .nil) h hr
theorem rb {rd:Option Nat} {N:Nat} {W0:World} {X:Nat→Option Loc} {M0:Nat→Option Obj} {Q:Exit→AS→Prop} {s:AS} {id:Nat} {l:List Oper} (d:Nat) (c:FuncId×List Av×Ef) (b:Blk) (S:AS) (hx:Ed Try.prog c.1 c.2.1 c.2.2) (h:Q .normal S) (hr:Of Try.prog ⟨Ez [(d,c)],eqE,A6 [],get []⟩ N l (S.t.map Prod.fst) (S.h.map Prod.fst) s=some ([A0 c.2.1,CB b],S):=by kernel_rfl):AWp Try.prog rd N W0 X M0 (.region id l.toArray false) Q s:=rc _ _ S (.cons hx .nil) (.cons rfl (.cons rfl .nil)) h hr
theorem nz {a:Nat} {p:Prop} (h:a<0):p:=absurd h (Nat.not_lt_zero _)
abbrev gp (p:Prop):Prop:=p→p
abbrev t2 (c:Bool) (l:List Prop):List Prop:=gt c::gt c::l
abbrev i2 (c:Bool) (l:List Prop):List Prop:=gi c::gi c::l
theorem c2 {p:Prop} {l:List Prop} (h:CY l):CY ((p→p)::(p→p)::l):=ci (ci h)
abbrev t3 (c:Bool) (l:List Prop):List Prop:=gt c::gt c::gt c::l
abbrev i3 (c:Bool) (l:List Prop):List Prop:=gi c::gi c::gi c::l
theorem c3 {p:Prop} {l:List Prop} (h:CY l):CY ((p→p)::(p→p)::(p→p)::l):=ci (ci (ci h))
abbrev t4 (c:Bool) (l:List Prop):List Prop:=gt c::gt c::gt c::gt c::l
abbrev i4 (c:Bool) (l:List Prop):List Prop:=gi c::gi c::gi c::gi c::l
theorem c4 {p:Prop} {l:List Prop} (h:CY l):CY ((p→p)::(p→p)::(p→p)::(p→p)::l):=ci (ci (ci (ci h)))
abbrev t5 (c:Bool) (l:List Prop):List Prop:=gt c::gt c::gt c::gt c::gt c::l
abbrev i5 (c:Bool) (l:List Prop):List Prop:=gi c::gi c::gi c::gi c::gi c::l
theorem c5 {p:Prop} {l:List Prop} (h:CY l):CY ((p→p)::(p→p)::(p→p)::(p→p)::(p→p)::l):=ci (ci (ci (ci (ci h))))
theorem xl {P:Program} {N:Nat} {W0:World} {X:Nat→Option Loc} {M0:Nat→Option Obj} {fn:Func} {φ:Tv→AS→Prop} {s:AS} (V:Tv) (h:φ V s) (hr:Oh P s fn.results.toList=some V:=by kernel_rfl):K6 P N W0 X M0 fn φ .ret s:=⟨_,Cv.refl _,.inl rfl,V,hr,h⟩
theorem xn {P:Program} {N:Nat} {W0:World} {X:Nat→Option Loc} {M0:Nat→Option Obj} {fn:Func} {φ:Tv→AS→Prop} {s:AS} (V:Tv) (h:φ V s) (hr:Oh P s fn.results.toList=some V:=by kernel_rfl):K6 P N W0 X M0 fn φ .normal s:=⟨_,Cv.refl _,.inr rfl,V,hr,h⟩
theorem yl {P:Program} {N:Nat} {W0:World} {X:Nat→Option Loc} {M0:Nat→Option Obj} {fn:Func} {φ:Tv→AS→Prop} {s t:AS} (cv:Cv N W0 X M0 s t) (V:Tv) (h:φ V t) (hr:Oh P t fn.results.toList=some V:=by kernel_rfl):K6 P N W0 X M0 fn φ .ret s:=⟨_,cv,.inl rfl,V,hr,h⟩
theorem yn {P:Program} {N:Nat} {W0:World} {X:Nat→Option Loc} {M0:Nat→Option Obj} {fn:Func} {φ:Tv→AS→Prop} {s t:AS} (cv:Cv N W0 X M0 s t) (V:Tv) (h:φ V t) (hr:Oh P t fn.results.toList=some V:=by kernel_rfl):K6 P N W0 X M0 fn φ .normal s:=⟨_,cv,.inr rfl,V,hr,h⟩
theorem dw {rd:Option Nat} {N:Nat} {W0:World} {X:Nat→Option Loc} {M0:Nat→Option Obj} {Q:Exit→AS→Prop} {s:AS} {id:Nat} {l:List Oper} (ow:List Nat) (tbl:List (Nat×FuncId×List Av×Ef)) (cs:List Prop) (S:AS) (htbl:G3 Try.prog tbl) (hc:CY cs) (h:Q .normal S) (hr:Of Try.prog ⟨Ez tbl,eqE,A6 ow,get []⟩ N l (S.t.map Prod.fst) (S.h.map Prod.fst) s=some (cs,S):=by kernel_rfl) (hd:VB Try.prog ⟨Ez tbl,eqE,A6 ow,get []⟩ N l s=true:=by kernel_rfl):AWp Try.prog rd N W0 X M0 (.region id l.toArray true) Q s:=TZ LI DV ow [] tbl _ _ cs S htbl hr hd hc h
def runW (P:Program) (V:Env P) (N:Nat) (l:List Oper) (s:AS):AS:=match Kf P V N l.toArray l s with
  | some (_,t)=>t
  | none=>s
def runC (P:Program) (V:Env P) (N:Nat) (l:List Oper) (s:AS):Option (List Prop):=match Kf P V N l.toArray l s with
  | some (c,_)=>some c
  | none=>none
theorem runWC {P:Program} {V:Env P} {N:Nat} {l:List Oper} {s:AS} {c:List Prop} (h:runC P V N l s=some c):Kf P V N l.toArray l s=some (c,runW P V N l s):=by
  unfold runC at h
  unfold runW
  split at h
  · rename_i h1
    rw [h1]
    injection h with h
    subst h
    rfl
  · cases h
theorem oc {rd:Option Nat} {N:Nat} {W0:World} {X:Nat→Option Loc} {M0:Nat→Option Obj} {Q:Exit→AS→Prop} {s:AS} {id:Nat} {l:List Oper} (tbl:List (Nat×FuncId×List Av×Ef)) (cs:List Prop) (htbl:G3 Try.prog tbl) (hc:CY cs) (h:Q .normal (runW Try.prog ⟨Ez tbl,eqE,A6 [],get []⟩ N l s)) (hr:runC Try.prog ⟨Ez tbl,eqE,A6 [],get []⟩ N l s=some cs:=by kernel_rfl):AWp Try.prog rd N W0 X M0 (.region id l.toArray false) Q s:=by
  have hV:=htbl.env (O:=A6 []) (q:=get []) DV
  intro M σ a w hs
  exact wpIn_region_lit (NO hV l s _ cs (runWC hr) hc M σ a w hs fun M' σ' a' w' hs'=>⟨_,M',σ',h,hs'⟩)
theorem og {rd:Option Nat} {N:Nat} {W0:World} {X:Nat→Option Loc} {M0:Nat→Option Obj} {Q:Exit→AS→Prop} {s:AS} {id:Nat} {l:List Oper} (h:Q .normal (runW Try.prog ⟨Ez [],eqE,A6 [],get []⟩ N l s)) (hr:runC Try.prog ⟨Ez [],eqE,A6 [],get []⟩ N l s=some []:=by kernel_rfl):AWp Try.prog rd N W0 X M0 (.region id l.toArray false) Q s:=oc [] [] .nil .nil h hr
theorem on {rd:Option Nat} {N:Nat} {W0:World} {X:Nat→Option Loc} {M0:Nat→Option Obj} {K:AS→Prop} {Q:Exit→AS→Prop} {s:AS} {id:Nat} {l:List Oper} (h:K (runW Try.prog ⟨Ez [],eqE,A6 [],get []⟩ N l s)) (hr:runC Try.prog ⟨Ez [],eqE,A6 [],get []⟩ N l s=some []:=by kernel_rfl):AWp Try.prog rd N W0 X M0 (.region id l.toArray false) (ATh K Q) s:=og (AF h) hr
theorem oq {rd:Option Nat} {N:Nat} {W0:World} {X:Nat→Option Loc} {M0:Nat→Option Obj} {Q:Exit→AS→Prop} {s:AS} {id:Nat} {l:List Oper} (d:Nat) (c:FuncId×List Av×Ef) (hx:Ed Try.prog c.1 c.2.1 c.2.2) (h:Q .normal (runW Try.prog ⟨Ez [(d,c)],eqE,A6 [],get []⟩ N l s)) (hr:runC Try.prog ⟨Ez [(d,c)],eqE,A6 [],get []⟩ N l s=some [A0 c.2.1]:=by kernel_rfl):AWp Try.prog rd N W0 X M0 (.region id l.toArray false) Q s:=oc [(d,c)] [A0 c.2.1] (.cons hx .nil) (.cons rfl .nil) h hr
theorem od {rd:Option Nat} {N:Nat} {W0:World} {X:Nat→Option Loc} {M0:Nat→Option Obj} {Q:Exit→AS→Prop} {s:AS} {id:Nat} {l:List Oper} (ow:List Nat) (tbl:List (Nat×FuncId×List Av×Ef)) (cs:List Prop) (htbl:G3 Try.prog tbl) (hc:CY cs) (h:Q .normal (J6 (runW Try.prog ⟨Ez tbl,eqE,A6 ow,get []⟩ N l s |>.t.map Prod.fst) (runW Try.prog ⟨Ez tbl,eqE,A6 ow,get []⟩ N l s |>.h.map Prod.fst) (runW Try.prog ⟨Ez tbl,eqE,A6 ow,get []⟩ N l s))) (hr:runC Try.prog ⟨Ez tbl,eqE,A6 ow,get []⟩ N l s=some cs:=by kernel_rfl) (hd:VB Try.prog ⟨Ez tbl,eqE,A6 ow,get []⟩ N l s=true:=by kernel_rfl):AWp Try.prog rd N W0 X M0 (.region id l.toArray true) Q s:=TZ LI DV ow [] tbl _ _ cs _ htbl (by unfold Of;rw [runWC hr]) hd hc h
theorem zl {P:Program} {N:Nat} {W0:World} {X:Nat→Option Loc} {M0:Nat→Option Obj} {fn:Func} {s:AS} {r:Tv} (hr:Oh P s fn.results.toList=some r:=by kernel_rfl):K6 P N W0 X M0 fn (fun r' _=>TvE r' r) .ret s:=xl r (.refl r) hr
theorem zn {P:Program} {N:Nat} {W0:World} {X:Nat→Option Loc} {M0:Nat→Option Obj} {fn:Func} {s:AS} {r:Tv} (hr:Oh P s fn.results.toList=some r:=by kernel_rfl):K6 P N W0 X M0 fn (fun r' _=>TvE r' r) .normal s:=xn r (.refl r) hr
theorem zy {P:Program} {N:Nat} {W0:World} {X:Nat→Option Loc} {M0:Nat→Option Obj} {fn:Func} {s t:AS} {r:Tv} (cv:Cv N W0 X M0 s t) (hr:Oh P t fn.results.toList=some r:=by kernel_rfl):K6 P N W0 X M0 fn (fun r' _=>TvE r' r) .ret s:=yl cv r (.refl r) hr
theorem zx {P:Program} {N:Nat} {W0:World} {X:Nat→Option Loc} {M0:Nat→Option Obj} {fn:Func} {s t:AS} {r:Tv} (cv:Cv N W0 X M0 s t) (hr:Oh P t fn.results.toList=some r:=by kernel_rfl):K6 P N W0 X M0 fn (fun r' _=>TvE r' r) .normal s:=yn cv r (.refl r) hr
abbrev CT:=FuncId×List Av×Ef
theorem hk0 {W0:World}:Cu noX W0 []:=fun k x h=>by cases h
abbrev OKc (c:CT):Prop:=Ed Try.prog c.1 c.2.1 c.2.2
abbrev dfc:Nat→Cl:=fun _=>default
abbrev eIn:Int→List Cl:=fun x=>[.i x]
theorem oM {p:Prop} (h:p:=by omega):p:=h
abbrev PuP (f:FuncId) (xs:List Av) (r:Tv):Prop:=Fo Try.prog f xs r
theorem pwf {f:FuncId} {fn:Func} {c:Code} (hf:Try.prog.funcs[f]? = some fn) {xs:List Av} {r:Tv}
    (h:∀ (W0:World) (M0:Nat→Option Obj),AWp Try.prog none fn.ntmps W0 noX M0 c (K6 Try.prog fn.ntmps W0 noX M0 fn fun r' _=>TvE r' r) ⟨Et 0 xs,[]⟩) (hb:fn.body=some c:=by rfl) (hN:Nat.ble xs.length fn.ntmps=true:=by kernel_rfl) (hd:r.dv=true:=by kernel_rfl):PuP f xs r:=UH hf hb hN hd h
theorem cWr {f:FuncId} {K n:Nat} {xs:List Av} {b0 b1:Blk} {r:Tv} (h:Wr Try.prog f K xs b0 r b1) (h1:∀ args w,(callFunc f args).run Try.prog w=.ok (.enter f args) w:=by intros;kernel_rfl) (hx:xs.all (cZ K)=true:=by kernel_rfl) (hd0:JP b0=true:=by kernel_rfl):Ed Try.prog f (xs.map (B3 K n)) (wrI n b0 r b1):=Zl h1 hx hd0 h
theorem cPu {f:FuncId} {xs:List Av} {cs:List Prop} {r:Tv} (h:Fo Try.prog f xs r) (h1:∀ args w,(callFunc f args).run Try.prog w=.ok (.enter f args) w:=by intros;kernel_rfl):Ed Try.prog f xs (.val cs r):=VD h1 fun _=>h
theorem rr2 {a b:Cl} {x y:List Cl} (q:L2 ClE x y):L2 ClE (a::b::x) (a::b::y):=rr (rr q)
theorem rr3 {a b c:Cl} {x y:List Cl} (q:L2 ClE x y):L2 ClE (a::b::c::x) (a::b::c::y):=rr (rr (rr q))
theorem rr4 {a b c d:Cl} {x y:List Cl} (q:L2 ClE x y):L2 ClE (a::b::c::d::x) (a::b::c::d::y):=rr (rr (rr (rr q)))
theorem rr5 {a b c d e:Cl} {x y:List Cl} (q:L2 ClE x y):L2 ClE (a::b::c::d::e::x) (a::b::c::d::e::y):=rr (rr (rr (rr (rr q))))
theorem rr9 {a b c d e f g h i:Cl} {x y:List Cl} (q:L2 ClE x y):L2 ClE (a::b::c::d::e::f::g::h::i::x) (a::b::c::d::e::f::g::h::i::y):=rr (rr (rr (rr (rr (rr (rr (rr (rr q))))))))

def DJ (x0:AE):Bool:=bif decide (((max x0.X x0.Y):Int)<=67108864) then decide ((((-67108864)):Int)<=(min x0.X x0.Y)) else false
def DH (x0:AE):CT:=(90,[.agg (AE.c x0)],.val [] (.av (.one (.b (DJ x0)))))
theorem Yz (x0:AE):PuP 90 (DH x0).2.1 (tO (.b (DJ x0))):=by
 refine pwf Try.func90 fun W0 M0 => ?_
 refine AB<|rn ⟨[(1,tP 1 0)],[(1,.cells (AE.c x0) 52)]⟩<|AB ?_
 refine rc [] ((gt (decide (((max x0.X x0.Y):Int)<=67108864)))::(t5 (decide (((max x0.X x0.Y):Int)<=67108864)) [])) ⟨[(2,tB (bif decide (((max x0.X x0.Y):Int)<=67108864) then decide ((((-67108864)):Int)<=(min x0.X x0.Y)) else false))],[]⟩ .nil (ci (c5 .nil))<|AF<|Ac ?_
 exact xl (tO (.b (bif decide (((max x0.X x0.Y):Int)<=67108864) then decide ((((-67108864)):Int)<=(min x0.X x0.Y)) else false))) (Bz (by rfl))
theorem Fh (x0:AE):OKc (DH x0):=cPu<|Yz x0
def Bs (x0:AE) (x1:AE):AE:=AE.mk (W64 (x0.X-x1.X)) (W64 (x0.Y-x1.Y))
def LW (x0:AE) (x1:AE):CT:=(110,[.agg (AE.c x0),.agg (AE.c x1)],.val [] (.av (.agg (AE.c (Bs x0 x1)))))
theorem jC (x0:AE) (x1:AE):PuP 110 (LW x0 x1).2.1 (.av (.agg (AE.c (Bs x0 x1)))):=by
 refine pwf Try.func110 fun W0 M0 => ?_
 refine AB<|rn ⟨[(2,tP 2 0),(3,tP 3 0),(4,tP 4 0)],[(2,.cells (AE.c x0) 52),(3,.cells (AE.c x1) 52),(4,.cells [.i 0,.i 0] 52)]⟩<|AB ?_
 refine rn ⟨[(4,tP 4 0)],[(4,.cells [.i (W64 (x0.X-x1.X)),.i (W64 (x0.Y-x1.Y))] 52)]⟩<|Ac ?_
 exact xl (.av (.agg [.i (W64 (x0.X-x1.X)),.i (W64 (x0.Y-x1.Y))])) (Bz (by rfl))
theorem UP (x0:AE) (x1:AE):OKc (LW x0 x1):=cPu<|jC x0 x1
def Gd (x0:AE) (x1:AE):AE:=AE.mk (W64 (x0.X+x1.X)) (W64 (x0.Y+x1.Y))
def TQ (x0:AE) (x1:AE):CT:=(65,[.agg (AE.c x0),.agg (AE.c x1)],.val [] (.av (.agg (AE.c (Gd x0 x1)))))
theorem jD (x0:AE) (x1:AE):PuP 65 (TQ x0 x1).2.1 (.av (.agg (AE.c (Gd x0 x1)))):=by
 refine pwf Try.func65 fun W0 M0 => ?_
 refine AB<|rn ⟨[(2,tP 2 0),(3,tP 3 0),(4,tP 4 0)],[(2,.cells (AE.c x0) 52),(3,.cells (AE.c x1) 52),(4,.cells [.i 0,.i 0] 52)]⟩<|AB ?_
 refine rn ⟨[(4,tP 4 0)],[(4,.cells [.i (W64 (x0.X+x1.X)),.i (W64 (x0.Y+x1.Y))] 52)]⟩<|Ac ?_
 exact xl (.av (.agg [.i (W64 (x0.X+x1.X)),.i (W64 (x0.Y+x1.Y))])) (Bz (by rfl))
theorem dX (x0:AE) (x1:AE):OKc (TQ x0 x1):=cPu<|jD x0 x1
def Ca (m:Al):Int:=A64 m.Turn 3
variable (a0 a1 a2:AE) (e:AQ) (m:Al) (k:Int) (p:AE) (x0:AQ)
def MS:CT:=(64,[.agg (Al.c m)],.val [] (.av (.one (.i (Ca m)))))
theorem Yy (m:Al):PuP 64 (MS m).2.1 (tO (.i (Ca m))):=by
 refine pwf Try.func64 fun W0 M0 => ?_
 refine AB<|rn ⟨[(1,tP 1 0)],[(1,.cells (Al.c m) 66)]⟩<|AB ?_
 refine rn ⟨[(2,tI (A64 m.Turn 3))],[]⟩<|Ac ?_
 exact xl (tO (.i (A64 m.Turn 3))) (Bz (by rfl))
theorem Wd (m:Al):OKc (MS m):=cPu<|Yy m
theorem A64_3 (t:Int):0<=A64 t 3/\A64 t 3<=3:=by
 unfold A64
 rw [IntKind.wrap_i64]
 have h:((BitVec.ofInt 64 t &&& BitVec.ofInt 64 3).toNat)<=3:=by
  rw [BitVec.toNat_and]
  exact Nat.le_trans Nat.and_le_right (by decide)
 generalize (BitVec.ofInt 64 t &&& BitVec.ofInt 64 3).toNat=n at *
 omega
theorem Xj (m:Al):0<=Ca m/\Ca m<=3:=A64_3 m.Turn
def CR (m:Al) (p:AE):Nat->AE->Int->AE
 | 0,_,_=>default
 | n0+1,p',v13=>bif decide ((v13:Int)<(Ca m)) then ((CR m p n0) (AE.mk (W64 (0-p'.Y)) p'.X) (v13+1)) else (Gd p' m.At)
def Ah (m:Al) (p:AE):AE:=CR m p ((((Ca m))-0).toNat+1) (AE.mk (bif m.Mirror then (W64 (0-p.X)) else p.X) p.Y) 0
def CJ:CT:=(33,[.agg (Al.c m),.agg (AE.c p)],.val [] (.av (.agg (AE.c (Ah m p)))))
theorem kr {p:Prop} (h:p:=by kernel_rfl):p:=h
theorem at0 {p:Prop} (h:p:=by simp only [List.length_append,List.length_cons,List.length_nil];omega):p:=h
theorem at1 {p:Prop} (h:p:=by simp only [List.length_set,List.length_append,List.length_cons,List.length_nil];omega):p:=h
theorem at2 {p:Prop} (h:p:=by simp only [EA];omega):p:=h
theorem ax0 {p:Prop} (h:p:=by first | omega | (dsimp only <;> first | trivial | omega | exact at0 | exact at1 | exact at2 | (simp;omega) | simp) | (first | trivial | omega | exact at0 | exact at1 | exact at2 | (simp;omega) | simp)):p:=h
theorem Y3 (m:Al) (p:AE):PuP 33 (CJ m p).2.1 (.av (.agg (AE.c (Ah m p)))):=by
 refine pwf Try.func33 fun W0 M0 => ?_
 refine AB<|rn ⟨[(2,tP 2 0),(3,tP 3 0),(4,tP 4 0)],[(2,.cells (Al.c m) 66),(3,.cells (AE.c p) 52),(4,.cells [.i 0,.i 0] 52)]⟩ ?_
 refine AB<|AB ?_
 refine rn ⟨[(2,tP 2 0),(3,tP 3 0),(4,tP 4 0),(6,tB m.Mirror)],[(2,.cells (Al.c m) 66),(3,.cells (AE.c p) 52),(4,.cells [.i 0,.i 0] 52)]⟩ ?_
 refine CD (⟨[(2,tP 2 0),(3,tP 3 0),(4,tP 4 0)],[(2,.cells (Al.c m) 66),(3,.cells [.i (bif m.Mirror then (W64 (0-p.X)) else p.X),.i p.Y] 52),(4,.cells [.i 0,.i 0] 52)]⟩) ?_ ?_
 ·refine AL _ rfl (fun h1 => ?_) (fun h1 => ?_)
  ·refine rn ⟨[(2,tP 2 0),(3,tP 3 0),(4,tP 4 0)],[(2,.cells (Al.c m) 66),(3,.cells [.i (W64 (0-p.X)),.i p.Y] 52),(4,.cells [.i 0,.i 0] 52)]⟩ ?_
   refine BM ?_
   first | rfl | (simp only [h1,cond_true,cond_false] <;> rfl)
  refine Af<|AF ?_
  refine Cv.trans (ck (⟨[(2,tP 2 0),(3,tP 3 0),(4,tP 4 0)],[(2,.cells (Al.c m) 66),(3,.cells (AE.c p) 52),(4,.cells [.i 0,.i 0] 52)]⟩)) (BM ?_)
  first | rfl | (simp only [h1,cond_true,cond_false] <;> rfl)
 refine AB<|AB ?_
 refine rs 12 (MS m) ⟨[(2,tP 2 0),(3,tP 3 0),(4,tP 4 0),(12,tI (Ca m)),(13,tI 0)],[(2,.cells (Al.c m) 66),(3,.cells [.i (bif m.Mirror then (W64 (0-p.X)) else p.X),.i p.Y] 52),(4,.cells [.i 0,.i 0] 52)]⟩ (Wd m)<|AF<|AX ?_
 refine Bc (ι:=Nat×AE×Int) (fun x=>⟨[(2,tP 2 0),(3,tP 3 0),(4,tP 4 0),(12,tI (Ca m)),(13,tI x.2.2)],[(2,.cells (Al.c m) 66),(3,.cells (AE.c x.2.1) 52),(4,.cells [.i 0,.i 0] 52)]⟩) (fun x=>(((Ca m))-x.2.2).toNat<x.1/\(0<=x.2.2/\x.2.2<=Ca m)/\CR m p x.1 x.2.1 x.2.2=Ah m p) (fun x=>x.1) ?_ ((((Ca m))-0).toNat+1,AE.mk (bif m.Mirror then (W64 (0-p.X)) else p.X) p.Y,0) ⟨Nat.lt_succ_self _,(by show 0<=0/\0<=Ca m;(have:=Xj m;omega)),(by simp only [Ah,cond_true,cond_false])⟩
 rintro ⟨n0,p',v13⟩ ⟨hm0,hinv0,hF0⟩
 try dsimp only at hm0 hinv0 hF0
 cases n0 with | zero=>exact nz hm0 | succ n0 => ?_
 have ht:=Xj m
 have e1:W64 (v13+1)=v13+1:=A1 oM oM
 refine AB<|rn ⟨[(2,tP 2 0),(3,tP 3 0),(4,tP 4 0),(12,tI (Ca m)),(13,tI v13),(14,tB (decide ((v13:Int)<(Ca m))))],[(2,.cells (Al.c m) 66),(3,.cells (AE.c p') 52),(4,.cells [.i 0,.i 0] 52)]⟩<|AB ?_
 refine AL _ rfl (fun h1 => ?_) (fun h1 => ?_)
 ·have g1:=oT h1
  refine Af<|AF ?_
  refine AB<|AX ?_
  refine rg ⟨[(2,tP 2 0),(3,tP 3 0),(4,tP 4 0),(12,tI (Ca m)),(13,tI v13)],[(2,.cells (Al.c m) 66),(3,.cells [.i (W64 (0-p'.Y)),.i p'.X] 52),(4,.cells [.i 0,.i 0] 52)]⟩<|A8<|AF ?_
  refine rg ⟨[(2,tP 2 0),(3,tP 3 0),(4,tP 4 0),(12,tI (Ca m)),(13,tI (W64 (v13+1)))],[(2,.cells (Al.c m) 66),(3,.cells [.i (W64 (0-p'.Y)),.i p'.X] 52),(4,.cells [.i 0,.i 0] 52)]⟩ ?_
  (try rw [e1])
  refine AF ?_
  refine ⟨(n0,AE.mk (W64 (0-p'.Y)) p'.X,v13+1),⟨?_,?_,(by rw [<- hF0];simp only [CR,h1,cond_true,cond_false])⟩,Nat.lt_succ_self _,BM kr⟩
  ·show (((Ca m))-(v13+1)).toNat<n0;omega
  exact ax0
 refine BU<|BE ?_
 refine BE<|BV ?_
 refine AF<|AB ?_
 refine rs 25 (TQ p' m.At) ⟨[(4,tP 4 0)],[(4,.cells (AE.c (Gd p' m.At)) 52)]⟩ (dX p' m.At)<|AF<|Ac ?_
 exact xl (.av (.agg (AE.c (Gd p' m.At)))) (Bz (by rw [<- hF0];first | (simp only [CR,h1,cond_true,cond_false] <;> rfl)))
theorem Dl (m:Al) (p:AE):OKc (CJ m p):=cPu<|Y3 m p
def DF (x0:AQ):Ai:=Ai.mk (min x0.A.X x0.B.X) (min x0.A.Y x0.B.Y) (max x0.A.X x0.B.X) (max x0.A.Y x0.B.Y)
def JO:CT:=(51,[.agg (AQ.c x0)],.val [] (.av (.agg (Ai.c (DF x0)))))
theorem dM (x0:AQ):PuP 51 (JO x0).2.1 (.av (.agg (Ai.c (DF x0)))):=by
 refine pwf Try.func51 fun W0 M0 => ?_
 refine AB<|rn ⟨[(1,tP 1 0),(2,tP 2 0)],[(1,.cells (AQ.c x0) 133),(2,.cells [.i 0,.i 0,.i 0,.i 0] 76)]⟩<|AB ?_
 refine rn ⟨[(2,tP 2 0)],[(2,.cells [.i (min x0.A.X x0.B.X),.i (min x0.A.Y x0.B.Y),.i (max x0.A.X x0.B.X),.i (max x0.A.Y x0.B.Y)] 76)]⟩<|Ac ?_
 exact xl (.av (.agg [.i (min x0.A.X x0.B.X),.i (min x0.A.Y x0.B.Y),.i (max x0.A.X x0.B.X),.i (max x0.A.Y x0.B.Y)])) (Bz (by rfl))
theorem QG (x0:AQ):OKc (JO x0):=cPu<|dM x0
def Dk (x0:AQ) (x1:Int):Bool:=bif !((decide ((((Bs x0.A x0.C).X):Int)=0))==(decide ((((Bs x0.A x0.C).Y):Int)=0))) then (decide (((Bs x0.B x0.C).X)=((Ah (Al.mk (AE.mk 0 0) x1 false) (Bs x0.A x0.C)).X))&&(decide (((Bs x0.B x0.C).Y)=((Ah (Al.mk (AE.mk 0 0) x1 false) (Bs x0.A x0.C)).Y))&&true)) else false
def Gb (x1:Int):CT:=(106,[.agg (AQ.c x0),.one (.i x1)],.val [] (.av (.one (.b (Dk x0 x1)))))
theorem Sm (x0:AQ) (x1:Int):PuP 106 (Gb x0 x1).2.1 (tO (.b (Dk x0 x1))):=by
 refine pwf Try.func106 fun W0 M0 => ?_
 refine AB<|rn ⟨[(1,tI x1),(2,tP 2 0)],[(2,.cells (AQ.c x0) 133)]⟩<|AB ?_
 refine rs 10 (LW x0.A x0.C) ⟨[(1,tI x1),(2,tP 2 0),(5,tP 5 0)],[(2,.cells (AQ.c x0) 133),(5,.cells (AE.c (Bs x0.A x0.C)) 52)]⟩ (UP x0.A x0.C)<|AF<|AB ?_
 refine dw [] [(23,LW x0.B x0.C),(27,CJ (Al.mk (AE.mk 0 0) x1 false) (Bs x0.A x0.C))] (t4 (!((decide ((((Bs x0.A x0.C).X):Int)=0))==(decide ((((Bs x0.A x0.C).Y):Int)=0)))) ((gk (!((decide ((((Bs x0.A x0.C).X):Int)=0))==(decide ((((Bs x0.A x0.C).Y):Int)=0)))) (A0 (LW x0.B x0.C).2.1))::(t3 (!((decide ((((Bs x0.A x0.C).X):Int)=0))==(decide ((((Bs x0.A x0.C).Y):Int)=0)))) ((gk (!((decide ((((Bs x0.A x0.C).X):Int)=0))==(decide ((((Bs x0.A x0.C).Y):Int)=0)))) (A0 (CJ (Al.mk (AE.mk 0 0) x1 false) (Bs x0.A x0.C)).2.1))::(t3 (!((decide ((((Bs x0.A x0.C).X):Int)=0))==(decide ((((Bs x0.A x0.C).Y):Int)=0)))) []))))) ⟨[(4,tB (bif !((decide ((((Bs x0.A x0.C).X):Int)=0))==(decide ((((Bs x0.A x0.C).Y):Int)=0))) then (decide (((Bs x0.B x0.C).X)=((Ah (Al.mk (AE.mk 0 0) x1 false) (Bs x0.A x0.C)).X))&&(decide (((Bs x0.B x0.C).Y)=((Ah (Al.mk (AE.mk 0 0) x1 false) (Bs x0.A x0.C)).Y))&&true)) else false))],[]⟩ (.cons (UP x0.B x0.C) (.cons (Dl (Al.mk (AE.mk 0 0) x1 false) (Bs x0.A x0.C)) .nil)) (c4 (.cons (fun _=>rfl) (c3 (.cons (fun _=>rfl) (c3 .nil)))))<|AF<|Ac ?_
 exact xl (tO (.b (bif !((decide ((((Bs x0.A x0.C).X):Int)=0))==(decide ((((Bs x0.A x0.C).Y):Int)=0))) then (decide (((Bs x0.B x0.C).X)=((Ah (Al.mk (AE.mk 0 0) x1 false) (Bs x0.A x0.C)).X))&&(decide (((Bs x0.B x0.C).Y)=((Ah (Al.mk (AE.mk 0 0) x1 false) (Bs x0.A x0.C)).Y))&&true)) else false))) (Bz (by rfl))
theorem J1 (x0:AQ) (x1:Int):OKc (Gb x0 x1):=cPu<|Sm x0 x1
def Mf (x0:AQ):Bool:=(decide (x0.C.X=0)&&(decide (x0.C.Y=0)&&true))
def MX:CT:=(95,[.agg (AQ.c x0)],.val [] (.av (.one (.b (Mf x0)))))
theorem Y8 (x0:AQ):PuP 95 (MX x0).2.1 (tO (.b (Mf x0))):=by
 refine pwf Try.func95 fun W0 M0 => ?_
 refine AB<|rn ⟨[(1,tP 1 0)],[(1,.cells (AQ.c x0) 133)]⟩<|AB ?_
 refine rn ⟨[(2,tB ((decide (x0.C.X=0)&&(decide (x0.C.Y=0)&&true))))],[]⟩<|Ac ?_
 exact xl (tO (.b ((decide (x0.C.X=0)&&(decide (x0.C.Y=0)&&true))))) (Bz (by rfl))
theorem Wg (x0:AQ):OKc (MX x0):=cPu<|Y8 x0
def G5 (x0:AQ):Bool:=Dk x0 1
def G1:CT:=(98,[.agg (AQ.c x0)],.val [] (.av (.one (.b (G5 x0)))))
theorem Ot (x0:AQ):PuP 98 (G1 x0).2.1 (tO (.b (G5 x0))):=by
 refine pwf Try.func98 fun W0 M0 => ?_
 refine AB<|rn ⟨[(1,tP 1 0)],[(1,.cells (AQ.c x0) 133)]⟩<|AB ?_
 refine rs 4 (Gb x0 1) ⟨[(2,tB (Dk x0 1))],[]⟩ (J1 x0 1)<|AF<|Ac ?_
 exact xl (tO (.b (Dk x0 1))) (Bz (by rfl))
theorem NK (x0:AQ):OKc (G1 x0):=cPu<|Ot x0
def GO (x0:AQ):Bool:=Dk x0 3
def GN:CT:=(101,[.agg (AQ.c x0)],.val [] (.av (.one (.b (GO x0)))))
theorem NI (x0:AQ):PuP 101 (GN x0).2.1 (tO (.b (GO x0))):=by
 refine pwf Try.func101 fun W0 M0 => ?_
 refine AB<|rn ⟨[(1,tP 1 0)],[(1,.cells (AQ.c x0) 133)]⟩<|AB ?_
 refine rs 4 (Gb x0 3) ⟨[(2,tB (Dk x0 3))],[]⟩ (J1 x0 3)<|AF<|Ac ?_
 exact xl (tO (.b (Dk x0 3))) (Bz (by rfl))
theorem MC (x0:AQ):OKc (GN x0):=cPu<|NI x0
def Kt:CT:=(89,[.one (.i 1)],.val [] (.tup [.agg [.clo 95 0 dfc,.clo 96 0 dfc,.clo 97 0 dfc,.i 1],.one (.b true)]))
theorem WX  : Fo Try.prog 89 (Kt ).2.1 (.tup [.agg [.clo 95 0 dfc,.clo 96 0 dfc,.clo 97 0 dfc,.i 1],.one (.b true)]):=by
 refine pwf Try.func89 fun W0 M0 => ?_
 refine AB<|rn ⟨[(0,tI 1),(2,tP 2 0)],[(2,.cells [.val .nilFunc,.val .nilFunc,.val .nilFunc,.i 0] 173)]⟩ ?_
 refine AB<|AB ?_
 refine rn ⟨[(0,tI 1),(2,tP 2 0),(4,tI 1)],[(2,.cells [.val .nilFunc,.val .nilFunc,.val .nilFunc,.i 0] 173)]⟩ ?_
 refine AX<|AB ?_
 refine rn ⟨[(0,tI 1),(2,tP 2 0),(4,tI 1),(5,tB true)],[(2,.cells [.val .nilFunc,.val .nilFunc,.val .nilFunc,.i 0] 173)]⟩ ?_
 refine DZ kr<|AB ?_
 refine rn ⟨[(2,tP 2 0),(3,tB true)],[(2,.cells [.clo 95 0 dfc,.clo 96 0 dfc,.clo 97 0 dfc,.i 1] 173)]⟩ ?_
 refine Ac<|Cb<|Bf ?_
 exact xl (.tup [.agg [.clo 95 0 dfc,.clo 96 0 dfc,.clo 97 0 dfc,.i 1],.one (.b true)]) (Bz rfl)
theorem UT  : OKc (Kt ):=cPu<|WX
def Ks:CT:=(89,[.one (.i 2)],.val [] (.tup [.agg [.clo 98 0 dfc,.clo 99 0 dfc,.clo 100 0 dfc,.i 3],.one (.b true)]))
theorem WW  : Fo Try.prog 89 (Ks ).2.1 (.tup [.agg [.clo 98 0 dfc,.clo 99 0 dfc,.clo 100 0 dfc,.i 3],.one (.b true)]):=by
 refine pwf Try.func89 fun W0 M0 => ?_
 refine AB<|rn ⟨[(0,tI 2),(2,tP 2 0)],[(2,.cells [.val .nilFunc,.val .nilFunc,.val .nilFunc,.i 0] 173)]⟩ ?_
 refine AB<|AB ?_
 refine rn ⟨[(0,tI 2),(2,tP 2 0),(4,tI 2)],[(2,.cells [.val .nilFunc,.val .nilFunc,.val .nilFunc,.i 0] 173)]⟩ ?_
 refine AX<|AB ?_
 refine rn ⟨[(0,tI 2),(2,tP 2 0),(4,tI 2),(5,tB false)],[(2,.cells [.val .nilFunc,.val .nilFunc,.val .nilFunc,.i 0] 173)]⟩ ?_
 refine Dz kr<|AB ?_
 refine rn ⟨[(0,tI 2),(2,tP 2 0),(4,tI 2),(8,tB true)],[(2,.cells [.val .nilFunc,.val .nilFunc,.val .nilFunc,.i 0] 173)]⟩ ?_
 refine DZ kr<|AB ?_
 refine rn ⟨[(2,tP 2 0),(3,tB true)],[(2,.cells [.clo 98 0 dfc,.clo 99 0 dfc,.clo 100 0 dfc,.i 3] 173)]⟩ ?_
 refine Ac<|Cb<|Bf ?_
 exact xl (.tup [.agg [.clo 98 0 dfc,.clo 99 0 dfc,.clo 100 0 dfc,.i 3],.one (.b true)]) (Bz rfl)
theorem US  : OKc (Ks ):=cPu<|WW
def Kr:CT:=(89,[.one (.i 3)],.val [] (.tup [.agg [.clo 101 0 dfc,.clo 99 0 dfc,.clo 100 0 dfc,.i 2],.one (.b true)]))
theorem WV  : Fo Try.prog 89 (Kr ).2.1 (.tup [.agg [.clo 101 0 dfc,.clo 99 0 dfc,.clo 100 0 dfc,.i 2],.one (.b true)]):=by
 refine pwf Try.func89 fun W0 M0 => ?_
 refine AB<|rn ⟨[(0,tI 3),(2,tP 2 0)],[(2,.cells [.val .nilFunc,.val .nilFunc,.val .nilFunc,.i 0] 173)]⟩ ?_
 refine AB<|AB ?_
 refine rn ⟨[(0,tI 3),(2,tP 2 0),(4,tI 3)],[(2,.cells [.val .nilFunc,.val .nilFunc,.val .nilFunc,.i 0] 173)]⟩ ?_
 refine AX<|AB ?_
 refine rn ⟨[(0,tI 3),(2,tP 2 0),(4,tI 3),(5,tB false)],[(2,.cells [.val .nilFunc,.val .nilFunc,.val .nilFunc,.i 0] 173)]⟩ ?_
 refine Dz kr<|AB ?_
 refine rn ⟨[(0,tI 3),(2,tP 2 0),(4,tI 3),(8,tB false)],[(2,.cells [.val .nilFunc,.val .nilFunc,.val .nilFunc,.i 0] 173)]⟩ ?_
 refine Dz kr<|AB ?_
 refine rn ⟨[(0,tI 3),(2,tP 2 0),(11,tB true)],[(2,.cells [.val .nilFunc,.val .nilFunc,.val .nilFunc,.i 0] 173)]⟩ ?_
 refine DZ kr<|AB ?_
 refine rn ⟨[(2,tP 2 0),(3,tB true)],[(2,.cells [.clo 101 0 dfc,.clo 99 0 dfc,.clo 100 0 dfc,.i 2] 173)]⟩ ?_
 refine Ac<|Cb<|Bf ?_
 exact xl (.tup [.agg [.clo 101 0 dfc,.clo 99 0 dfc,.clo 100 0 dfc,.i 2],.one (.b true)]) (Bz rfl)
theorem UR  : OKc (Kr ):=cPu<|WV
def Kq:CT:=(89,[.one (.i k)],.val [] (.tup [.agg [.val .nilFunc,.val .nilFunc,.val .nilFunc,.i k],.one (.b false)]))
theorem WU (k:Int) (k1:¬ k=1) (k2:¬ k=2) (k3:¬ k=3):PuP 89 (Kq k).2.1 (.tup [.agg [.val .nilFunc,.val .nilFunc,.val .nilFunc,.i k],.one (.b false)]):=by
 refine pwf Try.func89 fun W0 M0 => ?_
 refine AB<|rn ⟨[(0,tI k),(2,tP 2 0)],[(2,.cells [.val .nilFunc,.val .nilFunc,.val .nilFunc,.i 0] 173)]⟩ ?_
 refine AB<|AB ?_
 refine rn ⟨[(0,tI k),(2,tP 2 0),(4,tI k)],[(2,.cells [.val .nilFunc,.val .nilFunc,.val .nilFunc,.i 0] 173)]⟩ ?_
 refine AX<|AB ?_
 refine rn ⟨[(0,tI k),(2,tP 2 0),(4,tI k),(5,tB (decide ((k:Int)=1)))],[(2,.cells [.val .nilFunc,.val .nilFunc,.val .nilFunc,.i 0] 173)]⟩ ?_
 refine AL _ rfl (fun h=>absurd ((decide_eq_false k1).symm.trans h) (by decide)) (fun _ => ?_)
 refine AB<|rn ⟨[(0,tI k),(2,tP 2 0),(4,tI k),(8,tB (decide ((k:Int)=2)))],[(2,.cells [.val .nilFunc,.val .nilFunc,.val .nilFunc,.i 0] 173)]⟩ ?_
 refine AL _ rfl (fun h=>absurd ((decide_eq_false k2).symm.trans h) (by decide)) (fun _ => ?_)
 refine AB<|rn ⟨[(0,tI k),(2,tP 2 0),(11,tB (decide ((k:Int)=3)))],[(2,.cells [.val .nilFunc,.val .nilFunc,.val .nilFunc,.i 0] 173)]⟩ ?_
 refine AL _ rfl (fun h=>absurd ((decide_eq_false k3).symm.trans h) (by decide)) (fun _ => ?_)
 refine Af<|A8 ?_
 refine AF<|AB ?_
 refine rn ⟨[(2,tP 2 0),(3,tB false)],[(2,.cells [.val .nilFunc,.val .nilFunc,.val .nilFunc,.i k] 173)]⟩<|Ac ?_
 exact xl (.tup [.agg [.val .nilFunc,.val .nilFunc,.val .nilFunc,.i k],.one (.b false)]) (Bz rfl)
theorem UQ (k:Int) (k1:¬ k=1) (k2:¬ k=2) (k3:¬ k=3):OKc (Kq k):=cPu<|WU k k1 k2 k3
def Z00:Bool:=bif DJ a0 then DJ a1 else false
def Z01:Bool:=bif Z00 a0 a1 then DJ a2 else false
def Z02:Bool:=bif Z01 a0 a1 a2 then Mf (AQ.mk 1 a0 a1 a2) else false
def pJ:CT:=(73,[.agg [.i 1,.i a0.X,.i a0.Y,.i a1.X,.i a1.Y,.i a2.X,.i a2.Y]],.val [] (.tup [.agg [.clo 95 0 dfc,.clo 96 0 dfc,.clo 97 0 dfc,.i 1],.one (.b (Z02 a0 a1 a2))]))
theorem oP {p:Prop} (h:p:=by
 refine pwf Try.func73 fun W0 M0 => ?_
 refine AB<|rn ⟨[(1,tP 1 0),(2,tP 2 0)],[(1,.cells [.i mp0,.i a0.X,.i a0.Y,.i a1.X,.i a1.Y,.i a2.X,.i a2.Y] 133),(2,.cells [.val .nilFunc,.val .nilFunc,.val .nilFunc,.i 0] 173)]⟩<|AB ?_
 refine rs 9 mp1 ⟨[(1,tP 1 0),(2,tP 2 0),(4,tP 4 0),(5,tB true)],[(1,.cells [.i mp0,.i a0.X,.i a0.Y,.i a1.X,.i a1.Y,.i a2.X,.i a2.Y] 133),(2,.cells [.val .nilFunc,.val .nilFunc,.val .nilFunc,.i 0] 173),(4,.cells [.clo mp2 0 (fun _=>default),.clo mp3 0 (fun _=>default),.clo mp4 0 (fun _=>default),.i mp5] 173)]⟩ (mp6)<|AF<|AB ?_
 refine dw [] [(17,DH a0),(22,DH a1),(27,DH a2),(33,mp7 (AQ.mk mp0 a0 a1 a2))] ((((true)=true)->((true)=true))::(((true)=true)->((true)=true))::(((true)=true)->(A0 (DH a0).2.1))::((true)=true->((true)=true))::(t2 (DJ a0) ((gk (DJ a0) (A0 (DH a1).2.1))::(gt (DJ a0))::(gp ((mp8 a0 a1)=true))::(gp ((mp8 a0 a1)=true))::(((mp8 a0 a1)=true)->(A0 (DH a2).2.1))::(gp ((mp8 a0 a1)=true))::(t3 (mp9 a0 a1 a2) [gk (mp9 a0 a1 a2) (A0 (mp7 (AQ.mk mp0 a0 a1 a2)).2.1),gt (mp9 a0 a1 a2)])))) ⟨[(2,tP 2 0),(3,tB (mp10 a0 a1 a2))],[(2,.cells [.clo mp2 0 (fun _=>default),.clo mp3 0 (fun _=>default),.clo mp4 0 (fun _=>default),.i mp5] 173)]⟩ (.cons (Fh a0) (.cons (Fh a1) (.cons (Fh a2) (.cons (mp11 (AQ.mk mp0 a0 a1 a2)) .nil)))) (ci (ci (.cons (fun _=>rfl) (ci (c2 (.cons (fun _=>rfl) (ci (ci (ci (.cons (fun _=>rfl) (ci (c3 (.cons (fun _=>rfl) (ci .nil))))))))))))))<|AF<|Ac ?_
 exact xl (.tup [.agg [.clo mp2 0 (fun _=>default),.clo mp3 0 (fun _=>default),.clo mp4 0 (fun _=>default),.i mp5],.one (.b (mp10 a0 a1 a2))]) (Bz rfl)):p:=h
section
 open Go.Proofs.Ytdbampcfmjbgmaa renaming ni1→mp0,Kt→mp1,nn95→mp2,nn96→mp3,nn97→mp4,ni1→mp5,UT→mp6,MX→mp7,Z00→mp8,Z01→mp9,Z02→mp10,Wg→mp11
theorem pof1 (a0:AE) (a1:AE) (a2:AE):PuP 73 (pJ a0 a1 a2).2.1 (.tup [.agg [.clo 95 0 dfc,.clo 96 0 dfc,.clo 97 0 dfc,.i 1],.one (.b (Z02 a0 a1 a2))]):=oP
end
theorem okof1 (a0:AE) (a1:AE) (a2:AE):OKc (pJ a0 a1 a2):=cPu<|pof1 a0 a1 a2
def Z03:Bool:=bif DJ a0 then DJ a1 else false
def Z04:Bool:=bif Z03 a0 a1 then DJ a2 else false
def Z05:Bool:=bif Z04 a0 a1 a2 then G5 (AQ.mk 2 a0 a1 a2) else false
def pI:CT:=(73,[.agg [.i 2,.i a0.X,.i a0.Y,.i a1.X,.i a1.Y,.i a2.X,.i a2.Y]],.val [] (.tup [.agg [.clo 98 0 dfc,.clo 99 0 dfc,.clo 100 0 dfc,.i 3],.one (.b (Z05 a0 a1 a2))]))
section
 open Go.Proofs.Ytdbampcfmjbgmaa renaming ni2→mp0,Ks→mp1,nn98→mp2,nn99→mp3,mA→mp4,ni3→mp5,US→mp6,G1→mp7,Z03→mp8,Z04→mp9,Z05→mp10,NK→mp11
theorem pof2 (a0:AE) (a1:AE) (a2:AE):PuP 73 (pI a0 a1 a2).2.1 (.tup [.agg [.clo 98 0 dfc,.clo 99 0 dfc,.clo 100 0 dfc,.i 3],.one (.b (Z05 a0 a1 a2))]):=oP
end
theorem okof2 (a0:AE) (a1:AE) (a2:AE):OKc (pI a0 a1 a2):=cPu<|pof2 a0 a1 a2
def Z06:Bool:=bif DJ a0 then DJ a1 else false
def Z07:Bool:=bif Z06 a0 a1 then DJ a2 else false
def Z08:Bool:=bif Z07 a0 a1 a2 then GO (AQ.mk 3 a0 a1 a2) else false
def pH:CT:=(73,[.agg [.i 3,.i a0.X,.i a0.Y,.i a1.X,.i a1.Y,.i a2.X,.i a2.Y]],.val [] (.tup [.agg [.clo 101 0 dfc,.clo 99 0 dfc,.clo 100 0 dfc,.i 2],.one (.b (Z08 a0 a1 a2))]))
section
 open Go.Proofs.Ytdbampcfmjbgmaa renaming ni3→mp0,Kr→mp1,lZ→mp2,nn99→mp3,mA→mp4,ni2→mp5,UR→mp6,GN→mp7,Z06→mp8,Z07→mp9,Z08→mp10,MC→mp11
theorem pof3 (a0:AE) (a1:AE) (a2:AE):PuP 73 (pH a0 a1 a2).2.1 (.tup [.agg [.clo 101 0 dfc,.clo 99 0 dfc,.clo 100 0 dfc,.i 2],.one (.b (Z08 a0 a1 a2))]):=oP
end
theorem okof3 (a0:AE) (a1:AE) (a2:AE):OKc (pH a0 a1 a2):=cPu<|pof3 a0 a1 a2
def pG:CT:=(73,[.agg (AQ.c e)],.val [] (.tup [.agg [.val .nilFunc,.val .nilFunc,.val .nilFunc,.i e.Kind],.one (.b false)]))
theorem pofN (e:AQ) (k1:¬ e.Kind=1) (k2:¬ e.Kind=2) (k3:¬ e.Kind=3):PuP 73 (pG e).2.1 (.tup [.agg [.val .nilFunc,.val .nilFunc,.val .nilFunc,.i e.Kind],.one (.b false)]):=by
 refine pwf Try.func73 fun W0 M0 => ?_
 refine AB<|rn ⟨[(1,tP 1 0),(2,tP 2 0)],[(1,.cells (AQ.c e) 133),(2,.cells [.val .nilFunc,.val .nilFunc,.val .nilFunc,.i 0] 173)]⟩<|AB ?_
 refine rs 9 (Kq e.Kind) ⟨[(1,tP 1 0),(2,tP 2 0),(4,tP 4 0),(5,tB false)],[(1,.cells (AQ.c e) 133),(2,.cells [.val .nilFunc,.val .nilFunc,.val .nilFunc,.i 0] 173),(4,.cells [.val .nilFunc,.val .nilFunc,.val .nilFunc,.i e.Kind] 173)]⟩ (UQ e.Kind k1 k2 k3)<|AF<|AB ?_
 refine dw [] [(17,DH e.A),(22,DH e.B),(27,DH e.C)] [((false)=true)->((false)=true),((false)=true)->((false)=true),((false)=true)->(A0 (DH e.A).2.1),(false)=true->((false)=true),((false)=true)->((false)=true),((false)=true)->((false)=true),((false)=true)->(A0 (DH e.B).2.1),(false)=true->((false)=true),((false)=true)->((false)=true),((false)=true)->((false)=true),((false)=true)->(A0 (DH e.C).2.1),(false)=true->((false)=true),((false)=true)->((false)=true),¬ ((false)=true),(false)=true->((false)=true)] ⟨[(2,tP 2 0),(3,tB false)],[(2,.cells [.val .nilFunc,.val .nilFunc,.val .nilFunc,.i e.Kind] 173)]⟩ (.cons (Fh e.A) (.cons (Fh e.B) (.cons (Fh e.C) .nil))) (ci (ci (.cons (fun _=>rfl) (ci (ci (ci (.cons (fun _=>rfl) (ci (ci (ci (.cons (fun _=>rfl) (ci (ci (.cons (by simp) (ci .nil)))))))))))))))<|AF<|Ac ?_
 exact xl (.tup [.agg [.val .nilFunc,.val .nilFunc,.val .nilFunc,.i e.Kind],.one (.b false)]) (Bz rfl)
theorem okofN (e:AQ) (k1:¬ e.Kind=1) (k2:¬ e.Kind=2) (k3:¬ e.Kind=3):OKc (pG e):=cPu<|pofN e k1 k2 k3
def Tm (a0:AE) (a1:AE) (a2:AE) (m:Al):AQ:=AQ.mk 1 (Ah m a0) (Ah m a1) a2
def pR:CT:=(44,[.agg [.i 1,.i a0.X,.i a0.Y,.i a1.X,.i a1.Y,.i a2.X,.i a2.Y],.agg (Al.c m)],.val [] (.av (.agg (AQ.c (Tm a0 a1 a2 m)))))
theorem nL (a0:AE) (a1:AE) (a2:AE) (m:Al):PuP 44 (pR a0 a1 a2 m).2.1 (.av (.agg (AQ.c (Tm a0 a1 a2 m)))):=by
 refine pwf Try.func44 fun W0 M0 => ?_
 refine AB<|rn ⟨[(2,tP 2 0),(3,tP 3 0),(4,tP 4 0)],[(2,.cells [.i 1,.i a0.X,.i a0.Y,.i a1.X,.i a1.Y,.i a2.X,.i a2.Y] 133),(3,.cells (Al.c m) 66),(4,.cells [.i 0,.i 0,.i 0,.i 0,.i 0,.i 0,.i 0] 133)]⟩ ?_
 refine AB<|AB ?_
 refine rs 9 (pJ a0 a1 a2) ⟨[(2,tP 2 0),(3,tP 3 0),(4,tP 4 0),(5,tP 5 0)],[(2,.cells [.i 1,.i a0.X,.i a0.Y,.i a1.X,.i a1.Y,.i a2.X,.i a2.Y] 133),(3,.cells (Al.c m) 66),(4,.cells [.i 0,.i 0,.i 0,.i 0,.i 0,.i 0,.i 0] 133),(5,.cells [.clo 95 0 dfc,.clo 96 0 dfc,.clo 97 0 dfc,.i 1] 173)]⟩ (okof1 a0 a1 a2)<|AF<|AB ?_
 refine rn ⟨[(2,tP 2 0),(3,tP 3 0),(4,tP 4 0),(5,tP 5 0),(13,tB m.Mirror)],[(2,.cells [.i 1,.i a0.X,.i a0.Y,.i a1.X,.i a1.Y,.i a2.X,.i a2.Y] 133),(3,.cells (Al.c m) 66),(4,.cells [.i 0,.i 0,.i 0,.i 0,.i 0,.i 0,.i 0] 133),(5,.cells [.clo 95 0 dfc,.clo 96 0 dfc,.clo 97 0 dfc,.i 1] 173)]⟩ ?_
 refine CD (⟨[(2,tP 2 0),(3,tP 3 0),(4,tP 4 0)],[(2,.cells [.i 1,.i a0.X,.i a0.Y,.i a1.X,.i a1.Y,.i a2.X,.i a2.Y] 133),(3,.cells (Al.c m) 66),(4,.cells [.i 0,.i 0,.i 0,.i 0,.i 0,.i 0,.i 0] 133)]⟩) ?_ ?_
 ·refine AL _ rfl (fun h1 => ?_) (fun h1 => ?_)
  ·refine rn ⟨[(2,tP 2 0),(3,tP 3 0),(4,tP 4 0)],[(2,.cells [.i 1,.i a0.X,.i a0.Y,.i a1.X,.i a1.Y,.i a2.X,.i a2.Y] 133),(3,.cells (Al.c m) 66),(4,.cells [.i 0,.i 0,.i 0,.i 0,.i 0,.i 0,.i 0] 133)]⟩ ?_
   refine BM ?_
   first | rfl | (simp only [h1,cond_true,cond_false] <;> rfl)
  refine Af<|AF ?_
  refine Cv.trans (ck (⟨[(2,tP 2 0),(3,tP 3 0),(4,tP 4 0)],[(2,.cells [.i 1,.i a0.X,.i a0.Y,.i a1.X,.i a1.Y,.i a2.X,.i a2.Y] 133),(3,.cells (Al.c m) 66),(4,.cells [.i 0,.i 0,.i 0,.i 0,.i 0,.i 0,.i 0] 133)]⟩)) (BM ?_)
  first | rfl | (simp only [h1,cond_true,cond_false] <;> rfl)
 refine AB<|AB ?_
 refine rn ⟨[(2,tP 2 0),(3,tP 3 0),(4,tP 4 0),(19,tB false)],[(2,.cells [.i 1,.i a0.X,.i a0.Y,.i a1.X,.i a1.Y,.i a2.X,.i a2.Y] 133),(3,.cells (Al.c m) 66),(4,.cells [.i 0,.i 0,.i 0,.i 0,.i 0,.i 0,.i 0] 133)]⟩ ?_
 refine Dz kr<|Af ?_
 refine AF<|AB ?_
 refine dw [] [(28,CJ m a0),(32,CJ m a1)] [A0 (CJ m a0).2.1,A0 (CJ m a1).2.1] ⟨[(2,tP 2 0),(4,tP 4 0)],[(2,.cells [.i 1,.i ((Ah m a0).X),.i ((Ah m a0).Y),.i ((Ah m a1).X),.i ((Ah m a1).Y),.i a2.X,.i a2.Y] 133),(4,.cells [.i 0,.i 0,.i 0,.i 0,.i 0,.i 0,.i 0] 133)]⟩ (.cons (Dl m a0) (.cons (Dl m a1) .nil)) (.cons rfl (.cons rfl .nil))<|AF<|AB ?_
 refine rn ⟨[(4,tP 4 0)],[(4,.cells [.i 1,.i ((Ah m a0).X),.i ((Ah m a0).Y),.i ((Ah m a1).X),.i ((Ah m a1).Y),.i a2.X,.i a2.Y] 133)]⟩<|Ac ?_
 exact xl (.av (.agg [.i 1,.i ((Ah m a0).X),.i ((Ah m a0).Y),.i ((Ah m a1).X),.i ((Ah m a1).Y),.i a2.X,.i a2.Y])) (Bz (by rfl))
def Tl (a0:AE) (a1:AE) (a2:AE) (m:Al):AQ:=AQ.mk (bif m.Mirror then 3 else 2) (Ah m a0) (Ah m a1) (AE.mk (bif !decide (((bif m.Mirror then 3 else 2):Int)=1) then ((Ah m a2).X) else a2.X) (bif !decide (((bif m.Mirror then 3 else 2):Int)=1) then ((Ah m a2).Y) else a2.Y))
def pQ:CT:=(44,[.agg [.i 2,.i a0.X,.i a0.Y,.i a1.X,.i a1.Y,.i a2.X,.i a2.Y],.agg (Al.c m)],.val [] (.av (.agg (AQ.c (Tl a0 a1 a2 m)))))
theorem mac1 {p:Prop} (h:p:=by
 refine pwf Try.func44 fun W0 M0 => ?_
 refine AB<|rn ⟨[(2,tP 2 0),(3,tP 3 0),(4,tP 4 0)],[(2,.cells [.i mp0,.i a0.X,.i a0.Y,.i a1.X,.i a1.Y,.i a2.X,.i a2.Y] 133),(3,.cells (Al.c m) 66),(4,.cells [.i 0,.i 0,.i 0,.i 0,.i 0,.i 0,.i 0] 133)]⟩ ?_
 refine AB<|AB ?_
 refine rs 9 (mp1 a0 a1 a2) ⟨[(2,tP 2 0),(3,tP 3 0),(4,tP 4 0),(5,tP 5 0)],[(2,.cells [.i mp0,.i a0.X,.i a0.Y,.i a1.X,.i a1.Y,.i a2.X,.i a2.Y] 133),(3,.cells (Al.c m) 66),(4,.cells [.i 0,.i 0,.i 0,.i 0,.i 0,.i 0,.i 0] 133),(5,.cells [.clo mp2 0 (fun _=>default),.clo 99 0 dfc,.clo 100 0 dfc,.i mp3] 173)]⟩ (mp4 a0 a1 a2)<|AF<|AB ?_
 refine rn ⟨[(2,tP 2 0),(3,tP 3 0),(4,tP 4 0),(5,tP 5 0),(13,tB m.Mirror)],[(2,.cells [.i mp0,.i a0.X,.i a0.Y,.i a1.X,.i a1.Y,.i a2.X,.i a2.Y] 133),(3,.cells (Al.c m) 66),(4,.cells [.i 0,.i 0,.i 0,.i 0,.i 0,.i 0,.i 0] 133),(5,.cells [.clo mp2 0 (fun _=>default),.clo 99 0 dfc,.clo 100 0 dfc,.i mp3] 173)]⟩ ?_
 refine CD (⟨[(2,tP 2 0),(3,tP 3 0),(4,tP 4 0)],[(2,.cells [.i (bif m.Mirror then mp5 else mp6),.i a0.X,.i a0.Y,.i a1.X,.i a1.Y,.i a2.X,.i a2.Y] 133),(3,.cells (Al.c m) 66),(4,.cells [.i 0,.i 0,.i 0,.i 0,.i 0,.i 0,.i 0] 133)]⟩) ?_ ?_
 ·refine AL _ rfl (fun h1 => ?_) (fun h1 => ?_)
  ·refine rn ⟨[(2,tP 2 0),(3,tP 3 0),(4,tP 4 0)],[(2,.cells [.i mp3,.i a0.X,.i a0.Y,.i a1.X,.i a1.Y,.i a2.X,.i a2.Y] 133),(3,.cells (Al.c m) 66),(4,.cells [.i 0,.i 0,.i 0,.i 0,.i 0,.i 0,.i 0] 133)]⟩ ?_
   refine BM ?_
   first | rfl | (simp only [h1,cond_true,cond_false] <;> rfl)
  refine Af<|AF ?_
  refine Cv.trans (ck (⟨[(2,tP 2 0),(3,tP 3 0),(4,tP 4 0)],[(2,.cells [.i mp0,.i a0.X,.i a0.Y,.i a1.X,.i a1.Y,.i a2.X,.i a2.Y] 133),(3,.cells (Al.c m) 66),(4,.cells [.i 0,.i 0,.i 0,.i 0,.i 0,.i 0,.i 0] 133)]⟩)) (BM ?_)
  first | rfl | (simp only [h1,cond_true,cond_false] <;> rfl)
 refine AB<|AB ?_
 refine rn ⟨[(2,tP 2 0),(3,tP 3 0),(4,tP 4 0),(19,tB (!decide (((bif m.Mirror then mp5 else mp6):Int)=1)))],[(2,.cells [.i (bif m.Mirror then mp5 else mp6),.i a0.X,.i a0.Y,.i a1.X,.i a1.Y,.i a2.X,.i a2.Y] 133),(3,.cells (Al.c m) 66),(4,.cells [.i 0,.i 0,.i 0,.i 0,.i 0,.i 0,.i 0] 133)]⟩ ?_
 refine CD (⟨[(2,tP 2 0),(3,tP 3 0),(4,tP 4 0)],[(2,.cells [.i (bif m.Mirror then mp5 else mp6),.i a0.X,.i a0.Y,.i a1.X,.i a1.Y,.i (bif !decide (((bif m.Mirror then mp5 else mp6):Int)=1) then ((Ah m a2).X) else a2.X),.i (bif !decide (((bif m.Mirror then mp5 else mp6):Int)=1) then ((Ah m a2).Y) else a2.Y)] 133),(3,.cells (Al.c m) 66),(4,.cells [.i 0,.i 0,.i 0,.i 0,.i 0,.i 0,.i 0] 133)]⟩) ?_ ?_
 ·refine AL _ rfl (fun h1 => ?_) (fun h1 => ?_)
  ·have g1:=Gu h1
   refine rs 23 (CJ m a2) ⟨[(2,tP 2 0),(3,tP 3 0),(4,tP 4 0)],[(2,.cells [.i (bif m.Mirror then mp5 else mp6),.i a0.X,.i a0.Y,.i a1.X,.i a1.Y,.i ((Ah m a2).X),.i ((Ah m a2).Y)] 133),(3,.cells (Al.c m) 66),(4,.cells [.i 0,.i 0,.i 0,.i 0,.i 0,.i 0,.i 0] 133)]⟩ (Dl m a2)<|AF ?_
   refine BM ?_
   first | rfl | (simp only [h1,cond_true,cond_false] <;> rfl)
  have g1:=GS h1
  refine Af<|AF ?_
  refine Cv.trans (ck (⟨[(2,tP 2 0),(3,tP 3 0),(4,tP 4 0)],[(2,.cells [.i (bif m.Mirror then mp5 else mp6),.i a0.X,.i a0.Y,.i a1.X,.i a1.Y,.i a2.X,.i a2.Y] 133),(3,.cells (Al.c m) 66),(4,.cells [.i 0,.i 0,.i 0,.i 0,.i 0,.i 0,.i 0] 133)]⟩)) (BM ?_)
  first | rfl | (simp only [h1,cond_true,cond_false] <;> rfl)
 refine AB<|dw [] [(28,CJ m a0),(32,CJ m a1)] [A0 (CJ m a0).2.1,A0 (CJ m a1).2.1] ⟨[(2,tP 2 0),(4,tP 4 0)],[(2,.cells [.i (bif m.Mirror then mp5 else mp6),.i ((Ah m a0).X),.i ((Ah m a0).Y),.i ((Ah m a1).X),.i ((Ah m a1).Y),.i (bif !decide (((bif m.Mirror then mp5 else mp6):Int)=1) then ((Ah m a2).X) else a2.X),.i (bif !decide (((bif m.Mirror then mp5 else mp6):Int)=1) then ((Ah m a2).Y) else a2.Y)] 133),(4,.cells [.i 0,.i 0,.i 0,.i 0,.i 0,.i 0,.i 0] 133)]⟩ (.cons (Dl m a0) (.cons (Dl m a1) .nil)) (.cons rfl (.cons rfl .nil))<|AF<|AB ?_
 refine rn ⟨[(4,tP 4 0)],[(4,.cells [.i (bif m.Mirror then mp5 else mp6),.i ((Ah m a0).X),.i ((Ah m a0).Y),.i ((Ah m a1).X),.i ((Ah m a1).Y),.i (bif !decide (((bif m.Mirror then mp5 else mp6):Int)=1) then ((Ah m a2).X) else a2.X),.i (bif !decide (((bif m.Mirror then mp5 else mp6):Int)=1) then ((Ah m a2).Y) else a2.Y)] 133)]⟩<|Ac ?_
 exact xl (.av (.agg [.i (bif m.Mirror then mp5 else mp6),.i ((Ah m a0).X),.i ((Ah m a0).Y),.i ((Ah m a1).X),.i ((Ah m a1).Y),.i (bif !decide (((bif m.Mirror then mp5 else mp6):Int)=1) then ((Ah m a2).X) else a2.X),.i (bif !decide (((bif m.Mirror then mp5 else mp6):Int)=1) then ((Ah m a2).Y) else a2.Y)])) (Bz (by rfl))):p:=h
section
 open Go.Proofs.Ytdbampcfmjbgmaa renaming ni2→mp0,pI→mp1,nn98→mp2,ni3→mp3,okof2→mp4,nn3→mp5,nn2→mp6
theorem nK (a0:AE) (a1:AE) (a2:AE) (m:Al):PuP 44 (pQ a0 a1 a2 m).2.1 (.av (.agg (AQ.c (Tl a0 a1 a2 m)))):=mac1
end
def Tk (a0:AE) (a1:AE) (a2:AE) (m:Al):AQ:=AQ.mk (bif m.Mirror then 2 else 3) (Ah m a0) (Ah m a1) (AE.mk (bif !decide (((bif m.Mirror then 2 else 3):Int)=1) then ((Ah m a2).X) else a2.X) (bif !decide (((bif m.Mirror then 2 else 3):Int)=1) then ((Ah m a2).Y) else a2.Y))
def pP:CT:=(44,[.agg [.i 3,.i a0.X,.i a0.Y,.i a1.X,.i a1.Y,.i a2.X,.i a2.Y],.agg (Al.c m)],.val [] (.av (.agg (AQ.c (Tk a0 a1 a2 m)))))
section
 open Go.Proofs.Ytdbampcfmjbgmaa renaming ni3→mp0,pH→mp1,lZ→mp2,ni2→mp3,okof3→mp4,nn2→mp5,nn3→mp6
theorem nJ (a0:AE) (a1:AE) (a2:AE) (m:Al):PuP 44 (pP a0 a1 a2 m).2.1 (.av (.agg (AQ.c (Tk a0 a1 a2 m)))):=mac1
end
def Tj (e:AQ) (m:Al):AQ:=AQ.mk e.Kind (Ah m e.A) (Ah m e.B) (AE.mk (bif !decide ((e.Kind:Int)=1) then ((Ah m e.C).X) else e.C.X) (bif !decide ((e.Kind:Int)=1) then ((Ah m e.C).Y) else e.C.Y))
def pO:CT:=(44,[.agg (AQ.c e),.agg (Al.c m)],.val [] (.av (.agg (AQ.c (Tj e m)))))
theorem nI (e:AQ) (m:Al) (k1:¬ e.Kind=1) (k2:¬ e.Kind=2) (k3:¬ e.Kind=3):PuP 44 (pO e m).2.1 (.av (.agg (AQ.c (Tj e m)))):=by
 refine pwf Try.func44 fun W0 M0 => ?_
 refine AB<|rn ⟨[(2,tP 2 0),(3,tP 3 0),(4,tP 4 0)],[(2,.cells (AQ.c e) 133),(3,.cells (Al.c m) 66),(4,.cells [.i 0,.i 0,.i 0,.i 0,.i 0,.i 0,.i 0] 133)]⟩ ?_
 refine AB<|AB ?_
 refine rs 9 (pG e) ⟨[(2,tP 2 0),(3,tP 3 0),(4,tP 4 0),(5,tP 5 0)],[(2,.cells (AQ.c e) 133),(3,.cells (Al.c m) 66),(4,.cells [.i 0,.i 0,.i 0,.i 0,.i 0,.i 0,.i 0] 133),(5,.cells [.val .nilFunc,.val .nilFunc,.val .nilFunc,.i e.Kind] 173)]⟩ (okofN e k1 k2 k3)<|AF<|AB ?_
 refine rn ⟨[(2,tP 2 0),(3,tP 3 0),(4,tP 4 0),(5,tP 5 0),(13,tB m.Mirror)],[(2,.cells (AQ.c e) 133),(3,.cells (Al.c m) 66),(4,.cells [.i 0,.i 0,.i 0,.i 0,.i 0,.i 0,.i 0] 133),(5,.cells [.val .nilFunc,.val .nilFunc,.val .nilFunc,.i e.Kind] 173)]⟩ ?_
 refine CD (⟨[(2,tP 2 0),(3,tP 3 0),(4,tP 4 0)],[(2,.cells (AQ.c e) 133),(3,.cells (Al.c m) 66),(4,.cells [.i 0,.i 0,.i 0,.i 0,.i 0,.i 0,.i 0] 133)]⟩) ?_ ?_
 ·refine AL _ rfl (fun h4 => ?_) (fun h4 => ?_)
  ·refine rn ⟨[(2,tP 2 0),(3,tP 3 0),(4,tP 4 0)],[(2,.cells (AQ.c e) 133),(3,.cells (Al.c m) 66),(4,.cells [.i 0,.i 0,.i 0,.i 0,.i 0,.i 0,.i 0] 133)]⟩ ?_
   refine BM ?_
   first | rfl | (simp only [h4,cond_true,cond_false] <;> rfl)
  refine Af<|AF ?_
  refine Cv.trans (ck (⟨[(2,tP 2 0),(3,tP 3 0),(4,tP 4 0)],[(2,.cells (AQ.c e) 133),(3,.cells (Al.c m) 66),(4,.cells [.i 0,.i 0,.i 0,.i 0,.i 0,.i 0,.i 0] 133)]⟩)) (BM ?_)
  first | rfl | (simp only [h4,cond_true,cond_false] <;> rfl)
 refine AB<|AB ?_
 refine rn ⟨[(2,tP 2 0),(3,tP 3 0),(4,tP 4 0),(19,tB (!decide ((e.Kind:Int)=1)))],[(2,.cells (AQ.c e) 133),(3,.cells (Al.c m) 66),(4,.cells [.i 0,.i 0,.i 0,.i 0,.i 0,.i 0,.i 0] 133)]⟩ ?_
 refine CD (⟨[(2,tP 2 0),(3,tP 3 0),(4,tP 4 0)],[(2,.cells [.i e.Kind,.i e.A.X,.i e.A.Y,.i e.B.X,.i e.B.Y,.i (bif !decide ((e.Kind:Int)=1) then ((Ah m e.C).X) else e.C.X),.i (bif !decide ((e.Kind:Int)=1) then ((Ah m e.C).Y) else e.C.Y)] 133),(3,.cells (Al.c m) 66),(4,.cells [.i 0,.i 0,.i 0,.i 0,.i 0,.i 0,.i 0] 133)]⟩) ?_ ?_
 ·refine AL _ rfl (fun h4 => ?_) (fun h4 => ?_)
  ·have g4:=Gu h4
   refine rs 23 (CJ m e.C) ⟨[(2,tP 2 0),(3,tP 3 0),(4,tP 4 0)],[(2,.cells [.i e.Kind,.i e.A.X,.i e.A.Y,.i e.B.X,.i e.B.Y,.i ((Ah m e.C).X),.i ((Ah m e.C).Y)] 133),(3,.cells (Al.c m) 66),(4,.cells [.i 0,.i 0,.i 0,.i 0,.i 0,.i 0,.i 0] 133)]⟩ (Dl m e.C)<|AF ?_
   refine BM ?_
   first | rfl | (simp only [h4,cond_true,cond_false] <;> rfl)
  have g4:=GS h4
  refine Af<|AF ?_
  refine Cv.trans (ck (⟨[(2,tP 2 0),(3,tP 3 0),(4,tP 4 0)],[(2,.cells (AQ.c e) 133),(3,.cells (Al.c m) 66),(4,.cells [.i 0,.i 0,.i 0,.i 0,.i 0,.i 0,.i 0] 133)]⟩)) (BM ?_)
  first | rfl | (simp only [h4,cond_true,cond_false] <;> rfl)
 refine AB<|dw [] [(28,CJ m e.A),(32,CJ m e.B)] [A0 (CJ m e.A).2.1,A0 (CJ m e.B).2.1] ⟨[(2,tP 2 0),(4,tP 4 0)],[(2,.cells [.i e.Kind,.i ((Ah m e.A).X),.i ((Ah m e.A).Y),.i ((Ah m e.B).X),.i ((Ah m e.B).Y),.i (bif !decide ((e.Kind:Int)=1) then ((Ah m e.C).X) else e.C.X),.i (bif !decide ((e.Kind:Int)=1) then ((Ah m e.C).Y) else e.C.Y)] 133),(4,.cells [.i 0,.i 0,.i 0,.i 0,.i 0,.i 0,.i 0] 133)]⟩ (.cons (Dl m e.A) (.cons (Dl m e.B) .nil)) (.cons rfl (.cons rfl .nil))<|AF<|AB ?_
 refine rn ⟨[(4,tP 4 0)],[(4,.cells [.i e.Kind,.i ((Ah m e.A).X),.i ((Ah m e.A).Y),.i ((Ah m e.B).X),.i ((Ah m e.B).Y),.i (bif !decide ((e.Kind:Int)=1) then ((Ah m e.C).X) else e.C.X),.i (bif !decide ((e.Kind:Int)=1) then ((Ah m e.C).Y) else e.C.Y)] 133)]⟩<|Ac ?_
 exact xl (.av (.agg [.i e.Kind,.i ((Ah m e.A).X),.i ((Ah m e.A).Y),.i ((Ah m e.B).X),.i ((Ah m e.B).Y),.i (bif !decide ((e.Kind:Int)=1) then ((Ah m e.C).X) else e.C.X),.i (bif !decide ((e.Kind:Int)=1) then ((Ah m e.C).Y) else e.C.Y)])) (Bz (by rfl))
def GC (e:AQ) (m:Al):AQ:=if e.Kind=1 then Tm e.A e.B e.C m else if e.Kind=2 then Tl e.A e.B e.C m else if e.Kind=3 then Tk e.A e.B e.C m else Tj e m
def Ye:CT:=(44,[.agg (AQ.c e),.agg (Al.c m)],.val [] (.av (.agg (AQ.c (GC e m)))))
theorem pMove (e:AQ) (m:Al):PuP 44 (Ye e m).2.1 (.av (.agg (AQ.c (GC e m)))):=by
 by_cases k1:e.Kind=1
 ·have hF:GC e m=Tm e.A e.B e.C m:=by unfold GC;rw [if_pos k1]
  rw [hF];obtain ⟨k,a0,a1,a2⟩:=e;simp only at k1;subst k1;exact nL a0 a1 a2 m
 by_cases k2:e.Kind=2
 ·have hF:GC e m=Tl e.A e.B e.C m:=by unfold GC;rw [if_neg k1];rw [if_pos k2]
  rw [hF];obtain ⟨k,a0,a1,a2⟩:=e;simp only at k2;subst k2;exact nK a0 a1 a2 m
 by_cases k3:e.Kind=3
 ·have hF:GC e m=Tk e.A e.B e.C m:=by unfold GC;rw [if_neg k1];rw [if_neg k2];rw [if_pos k3]
  rw [hF];obtain ⟨k,a0,a1,a2⟩:=e;simp only at k3;subst k3;exact nJ a0 a1 a2 m
 have hF:GC e m=Tj e m:=by unfold GC;rw [if_neg k1,if_neg k2,if_neg k3]
 rw [hF];exact nI e m k1 k2 k3
theorem oA (e:AQ) (m:Al):OKc (Ye e m):=cPu<|pMove e m
end
section
open Go.ChangeShapes Go.WideShapes Go.ChangeAt Go.RowKit
theorem own:ownKnob Try.prog.godebug=none:=by kernel_rfl
theorem kK:laidOutB Try.prog=true:=by kernel_rfl
theorem opT82:GT Try.prog 82 (fun xs:List Int=>[lst 1 eIn xs]) (fun xs=>xs.length<=maxLen/\∀ x∈xs,WF .i64 x):=Ms 1 Try.underlying82 kr (by decide) (QF Try.underlying3)
theorem opT22:GT Try.prog 22 (fun xs:List (List Int)=>[lst 1 (fun x=>[lst 1 eIn x]) xs]) (fun xs=>xs.length<=maxLen/\∀ x∈xs,(x.length<=maxLen/\∀ y∈x,WF .i64 y)):=Ms 1 Try.underlying22 kr (by decide) opT82
def C5.ok (x:C5):Prop:=WF .i64 x.e0/\WF .i64 x.e1/\WF .i64 x.e2/\True
theorem opT23:GT Try.prog 23 C5.c C5.ok:=by
 refine QE (UL Try.underlying23 kr (QF Try.underlying3)) ?_
 rintro xs ⟨hl,hx⟩
 match xs,hl with
 | [a0,a1,a2],_=>exact ⟨⟨a0,a1,a2⟩,⟨hx _ (by simp),hx _ (by simp),hx _ (by simp),trivial⟩,rfl⟩
def AU.ok (x:AU):Prop:=x.Ref.size<=maxLen/\x.Pad.size<=maxLen/\True
theorem opT25:GT Try.prog 25 AU.c AU.ok:=by
 refine QE (Sp Try.underlying25 kr (Mt 1 kr rfl (LF Try.underlying9) (Mt 1 kr rfl (LF Try.underlying9) Wc))) ?_
 rintro ⟨a0,a1,_⟩ ⟨h0,h1,_⟩
 exact ⟨⟨a0,a1⟩,⟨h0,h1,trivial⟩,rfl⟩
end
section
open Go.RowKit
def IWL (P:Program) (N:Nat) (Ow:World->Nat->Prop) (n0:Nat) (ops:Array Oper) (l:List Oper) (Q:IQ) (s:AS) (J:World->Prop) (al:Bool):Prop :=
 ∀ W0 M σ a w,(J W0/\a.defers=[]/\IOk Ow n0 al M W0)->Sim N W0 noX M M σ (get s.t) (get s.h) a w->wpListIn (FW none) 0 P ops (fun e a' w'=>∃ s' J' al' W0' M' σ',Q e s' J' al'/\(J' W0'/\a'.defers=[]/\IOk Ow n0 al' M' W0')/\Sim N W0' noX M' M' σ' (get s'.t) (get s'.h) a' w') l a w
section
variable {P:Program} {N:Nat} {Ow:World→Nat→Prop} {n0:Nat} {Q:IQ} {s:AS} {J:World→Prop} {al:Bool} {ops:Array Oper} {l:List Oper} {o:Oper}
theorem PD {id:Nat} (h:IWL P N Ow n0 l.toArray l Q s J al):IWp P N Ow n0 (.region id l.toArray false) Q s J al:=fun W0 M σ a w hJ hs=>wpIn_region_lit (h W0 M σ a w hJ hs)
theorem LM (hO:OwS Ow n0) {E:TypeId->Option (List Kd)} (hE:Jv P ⟨fun _=>none,E,fun _=>false,fun _=>none⟩) (k:Nat) (ts:List Nat) (cs:List Prop) (T:List (Nat×Tv)) (hr:P7 P ⟨Ez [],E,A6 [],get []⟩ N ops (l.take k) ts [] s=some (cs,⟨T,[]⟩)) (hc:CY cs)
  (hdv:∀ i v,get s.t i=some v->v.dv=true) (hh:s.h=[]) (h:IWL P N Ow n0 ops (l.drop k) Q ⟨T,[]⟩ J al):IWL P N Ow n0 ops l Q s J al:=by
 have hV:Li P ⟨Ez [],E,A6 [],get []⟩:=(G3.nil (P:=P)).env (O:=A6 []) (q:=get []) hE
 intro W0 M σ a w hJ hs
 unfold P7 at hr
 split at hr
 ·rename_i cs1 s1 h1
  simp only [Option.some.injEq,Prod.mk.injEq] at hr
  obtain ⟨rfl,hS⟩:=hr
  have key:=Oe (rd:=none) (ops:=ops) (Q':=fun e a' w'=>∃ s' J' al' W0' M' σ',Q e s' J' al'/\(J' W0'/\a'.defers=[]/\IOk Ow n0 al' M' W0')/\Sim N W0' noX M' M' σ' (get s'.t) (get s'.h) a' w') hV (l.drop k) (l.take k) s s1 cs1 h1 hc M _ a w (Oa hdv hh hJ.2.1 hs) fun M' σ' a' w' hs'=>by
   have hs2:=F4 hs' ts []
   rw [hS] at hs2
   obtain ⟨hd,hs3⟩:=Ke hs2
   exact h W0 M' σ' a' w' ⟨hJ.1,hd,LO hJ.2.2 hO hs2⟩ hs3
  rw [List.take_append_drop] at key
  exact key
 cases hr
theorem S9 (h:Q .normal s J al):IWL P N Ow n0 ops [] Q s J al:=fun W0 M σ a w hJ hs=>⟨s,J,al,W0,M,σ,h,hJ,hs⟩
theorem PC (ts:List Nat) (S:AS) (hS:J6 ts [] s=S) (h:IWL P N Ow n0 ops l Q S J al):IWL P N Ow n0 ops l Q s J al:=by
 subst hS
 exact fun W0 M σ a w hJ hs=>h W0 M σ a w hJ (F4 hs ts [])
theorem Wu (hO:OwS Ow n0) (hwant:∀ (M:Nat->Option Obj) (σ:Nat->Loc) (a:Act),(∀ i v,get s.t i=some v->RT M σ v (a.tmps.getD i undef))->a.tmps.size=N->Region.wanted o (yielded ops a.tmps)=true) {c:Call} {f:Operand} {ly d:Nat} (xs:List Av) (ho:o.op=.call c) (hcf:c.callee=.value f)
  (hf:evT (get s.t) f=some (.av (.one (.val (.func (.yield ly) #[] #[]))))) (hxs:Ep (evT (get s.t)) c.args.toList=some xs) (hv:xs.all Av.isV=true) (hod:o.dst=some d) (hdN:Nat.blt d N=true) (hT1:∀ i v,get s.t i=some v->v.dv=true/\TvM v)
  (hJg:∀ A B,J A->A.grownBy B none->J B) (Jt Jf:World->Prop)
  (hY:∀ W,J W->YieldAt (FW none) 0 P ly (xs.map Av.toV).toArray W (fun e W'=>(e=.returned (.bool true)/\Jt W'/\KpS Ow W W')\/(e=.returned (.bool false)/\Jf W')))
  (tf:List Nat) (htf:∀ i v,get (FD s.t tf) i=some v->∃ u,v=.av (.one (.val u))) (hh:s.h=[])
  (ht:IWL P N Ow n0 ops l Q ⟨(d,tB true)::s.t,[]⟩ Jt true) (hff:IWL P N Ow n0 ops l Q ⟨(d,tB false)::FD s.t tf,[]⟩ Jf false):IWL P N Ow n0 ops (o::l) Q s J true:=by
 intro W0 M σ a w hJ hs
 refine wpListIn_step fun K0 hK' => ?_
 rw [if_pos (hwant M σ a hs.tmps hs.room)]
 have hgrow:W0.grownBy w none:={ os:=hs.os,tape:=hs.tape,output:=hs.output,size:=hs.size,block:=fun b hb _=>hs.old b hb (Fv b) }
 have hiok:=hJ.2.2
 have hdN':d<N:=by have:=Nat.le_of_ble_eq_true hdN;omega
 have hput:∀ (b:Bool) (T:List (Nat×Tv)) (M':Nat->Option Obj) (σ':Nat->Loc),(∀ i v,get T i=some v->RT M' σ' v (a.tmps.getD i undef))->∀ i v,get ((d,tB b)::T) i=some v->RT M' σ' v ((a.put o.dst (.bool b)).tmps.getD i undef):=fun b T M' σ' hT i v hv=>by
  have hds:d<a.tmps.size:=by rw [hs.room];exact hdN'
  simp only [get,CI] at hv
  rw [hod]
  by_cases hi:d=i
  ·subst hi
   simp at hv;subst hv
   have:(a.put (some d) (.bool b)).tmps.getD d undef=.bool b:=by simp [Act.put,Array.getD_eq_getD_getElem?,hds]
   rw [this]
   exact ⟨rfl,rfl⟩
  simp [hi] at hv
  have:(a.put (some d) (.bool b)).tmps.getD i undef=a.tmps.getD i undef:=by simp [Act.put,Array.getD_eq_getD_getElem?,Array.getElem?_setIfInBounds,hi]
  rw [this];exact hT i v hv
 have hsize:∀ b:Bool,(a.put o.dst (.bool b)).tmps.size=N:=fun b=>by rw [hod];simpa [Act.put] using hs.room
 have hdef:∀ b:Bool,(a.put o.dst (.bool b)).defers=[]:=fun b=>by rw [hod];simpa [Act.put] using hJ.2.1
 have hnew:∀ (b:Bool) (w2:World) (T:List (Nat×Tv)) (Mn:Nat->Option Obj),(∀ i v,get T i=some v->RT Mn σ v (a.tmps.getD i undef))->(∀ b o,Mn b=some o->w2.heap[b]? = some o)->Sim N w2 noX Mn Mn σ (get ((d,tB b)::T)) (get []) (a.put o.dst (.bool b)) w2:=fun b w2 T Mn hT himm =>
  ⟨rfl,rfl,rfl,Nat.le_refl _,fun _ _ _=>rfl,fun _ _ h=>h,fun b o h h'=>(by rw [h] at h';cases h'),fun m x hx=>(by cases hx),⟨by rw [hdef b];trivial,fun _=>hdef b⟩,hsize b,hput b T Mn σ hT,himm,fun n b hb=>(by cases hb),fun n b hb=>(by cases hb),fun n m b c hb=>(by cases hb)⟩
 refine cE hs.tmps ho hcf hf hxs hv (hY w (hJg W0 w hJ.1 hgrow)) fun e w2 he => ?_
 rcases he with ⟨rfl,h5,h6⟩ | ⟨rfl,h5⟩
 ·have hst:∀ b,Ow w b->Ow W0 b:=hO.st W0 w (hiok rfl).1 fun b hb=>hs.old b hb (Fv b)
  refine ⟨_,rfl,hK' _ _ (ht w2 (TT M) σ _ w2 ⟨h5,hdef true,fun _=>⟨Nat.le_trans (hiok rfl).1 (Nat.le_trans hs.size h6.1),fun b h=>(h6.2.2 b h).elim (fun h7=>Nat.lt_of_lt_of_le ((hiok rfl).2.1 b (hst b h7)) (Nat.le_trans hs.size h6.1)) And.right,fun b o' h hw2 => ?_⟩⟩ (hnew true w2 s.t (TT M) (fun i v hv=>XS Ku (hs.tmps i v hv) (hT1 i v hv).2) fun b o' h => ?_))⟩
  ·rcases h6.2.2 b hw2 with h7 | h7
   ·exact (hiok rfl).2.2 b o' (Ei h).1 (hst b h7)
   have:=(Array.getElem?_eq_some_iff.1 (hs.imm b o' (Ei h).1)).1;omega
  exact h6.2.1 b o' (hs.imm b o' (Ei h).1) (Ei h).2 fun h7=>(hiok rfl).2.2 b o' (Ei h).1 (hst b h7)
 refine ⟨_,rfl,hK' _ _ (hff w2 noM σ _ w2 ⟨h5,hdef false,fun h=>by cases h⟩ (hnew false w2 (FD s.t tf) noM (fun i v hv => ?_) fun b o' h=>by cases h))⟩
 obtain ⟨u,rfl⟩:=htf i v hv
 exact hs.tmps i _ (Fl _ _ _ _ hv)
theorem Ww (hO:OwS Ow n0) (hgn:o.guard=none) {c:Call} {f:Operand} {ly d:Nat} (xs:List Av) (ho:o.op=.call c) (hcf:c.callee=.value f)
  (hf:evT (get s.t) f=some (.av (.one (.val (.func (.yield ly) #[] #[]))))) (hxs:Ep (evT (get s.t)) c.args.toList=some xs) (hv:xs.all Av.isV=true) (hod:o.dst=some d) (hdN:Nat.blt d N=true) (hT1:∀ i v,get s.t i=some v->v.dv=true/\TvM v)
  (hJg:∀ A B,J A->A.grownBy B none->J B) (Jt Jf:World->Prop)
  (hY:∀ W,J W->YieldAt (FW none) 0 P ly (xs.map Av.toV).toArray W (fun e W'=>(e=.returned (.bool true)/\Jt W'/\KpS Ow W W')\/(e=.returned (.bool false)/\Jf W')))
  (tf:List Nat) (htf:∀ i v,get (FD s.t tf) i=some v->∃ u,v=.av (.one (.val u))) (hh:s.h=[])
  (ht:IWL P N Ow n0 ops l Q ⟨(d,tB true)::s.t,[]⟩ Jt true) (hff:IWL P N Ow n0 ops l Q ⟨(d,tB false)::FD s.t tf,[]⟩ Jf false):IWL P N Ow n0 ops (o::l) Q s J true :=
 Wu hO (fun M σ a h1 h2=>by simp [Region.wanted,hgn]) xs ho hcf hf hxs hv hod hdN hT1 hJg Jt Jf hY tf htf hh ht hff
theorem T5 {W0 w:World} {M0 M:Nat->Option Obj} {σ:Nat->Loc} {T:Nat->Option Tv} {H:Nat->Option Blk} {a:Act} (h:Sim N W0 noX M0 M σ T H a w) (hd:a.defers=[]):Sim N W0 noX M M σ T H a w :=
 ⟨h.os,h.tape,h.output,h.size,h.old,fun _ _ h=>h,fun b o h h'=>(by rw [h] at h';cases h'),h.pin,⟨by rw [hd];trivial,fun _=>hd⟩,h.room,h.tmps,h.imm,h.blk,h.loc,h.inj⟩
theorem fE {c:Code} {S:AS} (hO:OwS Ow n0) (h:∀ W0 M1,Cv N W0 noX M1 s S) (k:IWp P N Ow n0 c Q S J al):IWp P N Ow n0 c Q s J al:=by
 intro W0 M σ a w hJ hs
 obtain ⟨M',σ',h2⟩:=h W0 M M σ a w hs
 exact k W0 M' σ' a w ⟨hJ.1,hJ.2.1,LO hJ.2.2 hO h2⟩ (T5 h2 hJ.2.1)
end
end
theorem iF {M:Nat->Option Obj} {c:Cl} {V:Value} (h:RC M c V):V.oneCell'=true:=by
 cases h with
 | val v h=>exact h
 | any V h=>exact h
 | _=>rfl
abbrev gR (t:Bool) (sz len:Nat) (f:Nat->Nat->Cl):Cl:=.eptr 1 1 (fun _ j=>([.list t sz len f]:List Cl).getD j default) 0 0
theorem jB {M:Nat->Option Obj} {t:Bool} {sz len:Nat} {f:Nat->Nat->Cl} {v:Value} (h:RC M (.list t sz len f) v):∃ g:Nat->Nat->Value,RC M (.list t sz len (fun i j=>.val (g i j))) v/\∀ i j,i<len->j<sz->RC M (f i j) (g i j):=by
 cases h with
 | nil _ _ _ h0=>exact ⟨fun _ _=>undef,.nil _ _ _ h0,fun i j hi=>by omega⟩
 | mt _ _ _ a cap h5=>exact ⟨fun _ _=>undef,.mt _ _ _ a cap h5,fun i j hi=>by omega⟩
 | list _ _ _ _ b off cap g h1 h2 h4 h5=>exact ⟨g,.list _ _ _ _ b off cap g h1 (fun i j hi hj=>.val _ (iF (h2 i j hi hj))) h4 h5,h2⟩
theorem WM {M:Nat->Option Obj} {t:Bool} {sz len:Nat} {f:Nat->Nat->Cl} {V:Value} (h:RC M (gR t sz len f) V):∃ g:Nat->Nat->Value,RC M (gR t sz len (fun i j=>.val (g i j))) V/\∀ i j,i<len->j<sz->RC M (f i j) (g i j):=by
 cases h with
 | eptr _ _ _ _ _ b base g0 h1 h2 =>
  obtain ⟨g,hg1,hg2⟩:=jB (h2 0 (by decide))
  exact ⟨g,.eptr _ _ _ _ _ _ _ g0 h1 (fun j hj=>by
   have:j=0:=by omega
   subst this;exact hg1),hg2⟩
section
open Go.RowKit
section
variable {P:Program}
def WrR (P:Program) (f:FuncId) (K:Nat) (xs:List Av) (sz len:Nat) (F0:Nat->Nat->Cl) (ty:TypeId) (r:Tv) (F1:Nat->Nat->Cl):Prop:=∀ (M:Nat->Option Obj) (σ:Nat->Loc) (w:World) (args:List Value),(∀ b o,M b=some o->w.heap[b]? = some o)->Bq M σ w (σ K) (.row sz len F0 ty)->((σ K).nil=true\/M (σ K).b=none)->L2 (RA M σ) xs args ->
 Calls P f args.toArray w fun en w'=>∃ U,en=.returned U/\∃ M',Fp w w' M M' (only (σ K))/\(∀ σ',RT M' σ' r U)/\∀ σ',Bq M' σ' w' (σ K) (.row sz len F1 ty)
theorem Ka {f:FuncId} {fn:Func} {c:Code} (hf:P.funcs[f]? = some fn) (hb:fn.body=some c) {K:Nat} {xs:List Av} {sz len:Nat} {F0 F1:Nat->Nat->Cl} {ty:TypeId} {r:Tv} (hN:Nat.ble xs.length fn.ntmps=true) (hK:Nat.ble fn.ntmps K=true) (hd:r.dv=true)
  (h:∀ (W0:World) (M0:Nat->Option Obj) (X:Nat->Option Loc),Cu X W0 [K]->AWp P none fn.ntmps W0 X M0 c (K6 P fn.ntmps W0 X M0 fn fun r' s'=>TvE r' r/\∃ b,get s'.h K=some b/\HB b (.row sz len F1 ty)) ⟨Et 0 xs,[(K,.row sz len F0 ty)]⟩):WrR P f K xs sz len F0 ty r F1:=by
 intro M σ w args himm hblk hM hargs
 have one:∀ n b,get [(K,Blk.row sz len F0 ty)] n=some b->n=K/\b=.row sz len F0 ty:=fun n b hn=>by
  simp only [get,CI] at hn
  by_cases hk:K=n
  ·simp [hk] at hn;exact ⟨hk.symm,hn.symm⟩
  simp [hk] at hn
 by_cases hnil:(σ K).nil=true
 ·have hlen:len=0:=by
   rcases hblk with h0 | ⟨h0,_⟩
   ·exact h0.2
   rw [hnil] at h0;cases h0
  refine EZ (X:=noX) (σ:=σ) (h0:=[(K,.row sz len F0 ty)]) hf hb (Nat.le_of_ble_eq_true hN) himm hargs (fun n b hn => ?_) (fun n b hn => ?_) (fun n x hx=>by cases hx) (fun n m b c hn hm hne => ?_) (EF (h w M noX (fun k x hk=>by cases hk))) ?_
  ·obtain ⟨rfl,rfl⟩:=one n b hn;exact hblk
  ·obtain ⟨rfl,rfl⟩:=one n b hn;exact .inl hnil
  ·exact absurd ((one n b hn).1.trans (one m c hm).1.symm) hne
  rintro r' s' M' σ' a' w' U ⟨he,b,hb1,hbe⟩ hs hR
  exact ⟨U,rfl,M',⟨hs.os,hs.tape,hs.output,hs.size,fun b hb hne=>hs.old b hb (Fv b),hs.sub,hs.new,hs.imm⟩,fun σ''=>G4 hd (JV he hR),fun σ''=>.inl ⟨hnil,hlen⟩⟩
 have hnil:(σ K).nil=false:=by simpa using hnil
 have hMK:M (σ K).b=none:=by
  rcases hM with h1 | h1
  ·rw [hnil] at h1;cases h1
  exact h1
 let X:Nat->Option Loc:=upd noX K (some (σ K))
 have hX:X K=some (σ K):=BX _ _ _
 have pins:∀ n x,X n=some x->n=K/\x=σ K:=fun n x hx=>by
  by_cases hk:n=K
  ·subst hk;rw [hX] at hx;injection hx with hx;exact ⟨rfl,hx.symm⟩
  simp only [X] at hx;rw [CK _ _ hk] at hx;cases hx
 have hXK:∀ k x,X k=some x->A6 [K] k=true:=fun k x hk=>by rw [(pins k x hk).1];exact LJ _
 refine EZ (X:=X) (σ:=σ) (h0:=[(K,.row sz len F0 ty)]) hf hb (Nat.le_of_ble_eq_true hN) himm hargs (fun n b hn => ?_) (fun n b hn => ?_) (fun n x hx => ?_) (fun n m b c hn hm hne => ?_) (EF (h w M X fun k x hk=>.inl (hXK k x hk))) ?_
 ·obtain ⟨rfl,rfl⟩:=one n b hn;exact hblk
 ·obtain ⟨rfl,rfl⟩:=one n b hn;exact .inr ⟨hMK,n,σ n,hX,rfl⟩
 ·obtain ⟨rfl,rfl⟩:=pins n x hx;exact ⟨Nat.le_of_ble_eq_true hK,rfl⟩
 ·exact absurd ((one n b hn).1.trans (one m c hm).1.symm) hne
 rintro r' s' M' σ' a' w' U ⟨he,b,hb1,hbe⟩ hs hR
 have hpin:=(hs.pin K _ hX).2
 have hbk:=hs.blk K _ hb1
 rw [hpin] at hbk
 refine ⟨U,rfl,M',⟨hs.os,hs.tape,hs.output,hs.size,fun b hb hne=>hs.old b hb ?_,hs.sub,hs.new,hs.imm⟩,fun σ''=>G4 hd (JV he hR),fun σ''=>(Ih hbe hbk:Bq M' σ' w' (σ K) (.row sz len F1 ty))⟩
 rintro ⟨n,x,hx,rfl⟩
 obtain ⟨rfl,rfl⟩:=pins n x hx
 exact hne ⟨hnil,rfl⟩
theorem Kx {α:Type} [Inhabited α] {c:α->List Cl} {xs ys:List α} {sz n:Nat} {ty:TypeId} (h:xs=ys) (hl:xs.length=n):HB (.row sz xs.length (AP c xs) ty) (.row sz n (AP c ys) ty):=by
 subst h hl
 exact .refl _
def UF (K n:Nat):Av->Av
 | .one (.own m sz len)=>bif Nat.beq m K then .one (.own n sz len) else .one (.own m sz len)
 | x=>x
def cY (K:Nat):Av->Bool
 | .one (.own m _ _)=>Nat.beq m K
 | x=>x.dv
theorem Kv {f:FuncId} {K n:Nat} {xs:List Av} {sz len:Nat} {F0 F1:Nat->Nat->Cl} {ty:TypeId} {r:Tv} (h1:∀ args w,(callFunc f args).run P w=.ok (.enter f args) w) (hx:xs.all (cY K)=true) (h:WrR P f K xs sz len F0 ty r F1):Ed P f (xs.map (UF K n)) (wrI n (.row sz len F0 ty) r (.row sz len F1 ty)):=by
 refine .inl ⟨h1,fun M σ w hh args cs' g hs hargs hres hc => ?_⟩
 simp only [wrI,res,FZ] at hres
 cases hn:hh n with
 | none=>rw [hn] at hres;cases hres
 | some b =>
  rw [hn] at hres
  simp only [Option.some.injEq,Prod.mk.injEq] at hres
  obtain ⟨rfl,rfl⟩:=hres
  have:=hc.head
  subst this
  have hblk:=hs.blk n _ hn
  let σ2:Nat->Loc:=upd σ K (σ n)
  have hK:σ2 K=σ n:=BX _ _ _
  have hargs2:L2 (RA M σ2) xs args:=by
   refine L2.of (by have:=hargs.length;simpa using this) fun i x V hxi hV => ?_
   obtain ⟨V',hV',hR⟩:=hargs.get i (UF K n x) (by rw [List.getElem?_map,hxi];rfl)
   rw [hV] at hV';injection hV' with hV';subst hV'
   have hok:=(List.all_eq_true.1 hx) x (List.mem_of_getElem? hxi)
   unfold cY at hok
   split at hok
   ·rename_i m sz' len'
    simp only [UF,hok,cond_true] at hR
    have:=Nat.eq_of_beq_eq_true hok
    subst this
    have hR':R M σ (.own n sz' len') V:=hR
    show R M σ2 (.own m sz' len') V
    unfold R at hR' ⊢
    rw [hK];exact hR'
   rename_i hne
   have:UF K n x=x:=by
    unfold UF
    split
    ·rename_i m a b;exact (hne m a b rfl).elim
    rfl
   rw [this] at hR
   exact G4 (σ':=σ2) (r:=.av x) hok hR
  refine (h M σ2 w args hs.imm (by rw [hK];exact hblk) (by rw [hK];exact hs.loc n _ hn) hargs2).mono ?_
  rintro en w' ⟨U,hU,M',hk,hR,hb⟩
  rw [hK] at hk
  refine ⟨U,hU,fun dst _=>⟨M',σ,hk,rfl,hR σ,?_⟩⟩
  have:=hb σ
  rw [hK] at this
  exact this
end
end
section
section
variable {α:Type} [Inhabited α]
def Ki (lt:α->Bool) (out:List α):Nat->Nat
 | 0=>0
 | k+1=>bif lt (out.getD k default) then Ki lt out k else k+1
def Wz (lt:α->α->Bool) (out:List α) (x:α):List α:=out.take (Ki (lt x) out out.length)++x::out.drop (Ki (lt x) out out.length)
def JG (lt:α->α->Bool) (l:List α):List α:=l.foldl (Wz lt) []
theorem Zd (lt:α->α->Bool) (out:List α) (x:α):(Wz lt out x).Perm (x::out):=by
 unfold Wz
 refine List.perm_middle.trans ?_
 rw [List.take_append_drop]
theorem Ur (lt:α->α->Bool) (l:List α) (x:α):JG lt (l++[x])=Wz lt (JG lt l) x:=by
 unfold JG
 rw [List.foldl_append];rfl
theorem Us (lt:α->α->Bool) (l:List α):(JG lt l).Perm l:=by
 have key:∀ (l out:List α),(l.foldl (Wz lt) out).Perm (out++l):=by
  intro l
  induction l with
  | nil=>intro out;simp
  | cons x l ih =>
   intro out
   rw [List.foldl_cons]
   refine (ih _).trans ?_
   refine ((Zd lt out x).append_right l).trans ?_
   exact List.perm_middle.symm
 exact key l []
theorem PF (lt:α->α->Bool) (l:List α):(JG lt l).length=l.length:=(Us lt l).length_eq
theorem Yt (A:List α) (x y:α) (R:List α) :
  (A++y::x::R).getD A.length default=y/\(A++y::x::R).getD (A.length+1) default=x/\((A++y::x::R).set (A.length+1) y).set A.length x=A++x::y::R:=by
 refine ⟨?_,?_,?_⟩
 ·rw [List.getD_eq_getElem?_getD,List.getElem?_append_right (by omega)];simp
 ·rw [List.getD_eq_getElem?_getD,List.getElem?_append_right (by omega)];simp
 rw [List.set_append_right _ _ (by omega),List.set_append_right _ _ (by omega)];simp
theorem Ff (out:List α) (j:Nat) (h:j<out.length):out.take (j+1)=out.take j++[out.getD j default]/\out.drop j=out.getD j default::out.drop (j+1):=by
 constructor
 ·rw [List.take_add_one,List.getElem?_eq_getElem h,List.getD_eq_getElem?_getD,List.getElem?_eq_getElem h];rfl
 rw [List.drop_eq_getElem_cons h,List.getD_eq_getElem?_getD,List.getElem?_eq_getElem h];rfl
theorem oX {β:Type} (lt:α->α->Bool) (f:Nat->List α->Int->β) (K:List α->β)
  (hf:∀ m d (j:Nat),f (m+1) d j=bif (bif decide ((0:Int)<j) then lt (d.getD j default) (d.getD (j-1) default) else false) then f m ((d.set j (d.getD (j-1) default)).set (j-1) (d.getD j default)) ((j:Int)-1) else K d)
  (out rest:List α) (x:α):∀ (j m:Nat),j<=out.length->j<m->f m (out.take j++x::(out.drop j++rest)) j=K (out.take (Ki (lt x) out j)++x::(out.drop (Ki (lt x) out j)++rest)):=by
 intro j
 induction j with
 | zero =>
  intro m hj hm
  obtain ⟨m,rfl⟩:∃ k,m=k+1:=⟨m-1,by omega⟩
  rw [hf]
  simp [Ki]
 | succ j ih =>
  intro m hj hm
  obtain ⟨m,rfl⟩:∃ k,m=k+1:=⟨m-1,by omega⟩
  obtain ⟨e1,e2⟩:=Ff out j (by omega)
  have hl:(out.take j).length=j:=by rw [List.length_take];omega
  obtain ⟨s1,s2,s3⟩:=Yt (out.take j) x (out.getD j default) (out.drop (j+1)++rest)
  rw [hl] at s1 s2 s3
  have hd:out.take (j+1)++x::(out.drop (j+1)++rest)=out.take j++out.getD j default::x::(out.drop (j+1)++rest):=by rw [e1];simp
  rw [hf,hd,Nat.add_sub_cancel,s1,s2,s3]
  have h0:decide ((0:Int)<((j+1:Nat):Int))=true:=decide_eq_true (by omega)
  rw [h0,cond_true]
  conv=>rhs;unfold Ki
  cases hlt:lt x (out.getD j default) with
  | true =>
   rw [cond_true,cond_true]
   have:=ih m (by omega) (by omega)
   rw [e2] at this
   rw [show ((j+1:Nat):Int)-1=(j:Int) by omega,<- this]
   rfl
  | false =>
   rw [cond_false,cond_false,hd]
theorem oY {β:Type} (lt:α->α->Bool) (l:List α) (g:Nat->List α->Int->β) (K:List α->β) (hK:∀ m d (i:Nat),l.length<=i->g (m+1) d i=K d)
  (hg:∀ m (i:Nat) (out rest:List α) x,i<l.length->out.length=i->g (m+1) (out++x::rest) i=g m (Wz lt out x++rest) ((i:Int)+1)) :
  ∀ (k m i:Nat),l.length-i=k->i<=l.length->k<m->g m (JG lt (l.take i)++l.drop i) i=K (JG lt l):=by
 intro k
 induction k with
 | zero =>
  intro m i hk hi hm
  obtain ⟨m,rfl⟩:∃ k,m=k+1:=⟨m-1,by omega⟩
  rw [hK m _ i (by omega),List.drop_eq_nil_of_le (by omega),List.take_of_length_le (by omega),List.append_nil]
 | succ k ih =>
  intro m i hk hi hm
  obtain ⟨m,rfl⟩:∃ k,m=k+1:=⟨m-1,by omega⟩
  obtain ⟨e1,e2⟩:=Ff l i (by omega)
  rw [e2,hg m i _ _ _ (by omega) (by rw [PF,List.length_take];omega),<- Ur,<- e1]
  have:=ih m (i+1) (by omega) (by omega) (by omega)
  rw [show ((i+1:Nat):Int)=(i:Int)+1 by omega] at this
  exact this
theorem cp_l {β:Type} (xs:List α) (g:Nat->List α->Int->β) (K:List α->Int->β) (h:∀ m acc (v:Nat),g (m+1) acc v=bif decide ((v:Int)<(xs.length:Int)) then g m (acc++[xs.getD v default]) ((v:Int)+1) else K acc v) :
  ∀ (k v m:Nat) (acc:List α),xs.length-v=k->v<=xs.length->k<m->g m acc v=K (acc++xs.drop v) (xs.length:Int):=by
 intro k
 induction k with
 | zero =>
  intro v m acc hk hv hm
  obtain ⟨m,rfl⟩:∃ k,m=k+1:=⟨m-1,by omega⟩
  rw [h,decide_eq_false (by omega),cond_false,List.drop_eq_nil_of_le (by omega),List.append_nil,show v=xs.length by omega]
 | succ k ih =>
  intro v m acc hk hv hm
  obtain ⟨m,rfl⟩:∃ k,m=k+1:=⟨m-1,by omega⟩
  obtain ⟨_,e2⟩:=Ff xs v (by omega)
  rw [h,decide_eq_true (by omega),cond_true,e2]
  have:=ih (v+1) m (acc++[xs.getD v default]) (by omega) (by omega) (by omega)
  rw [show ((v+1:Nat):Int)=(v:Int)+1 by omega] at this
  rw [this,List.append_assoc];rfl
def ixI (f:α->Bool) (xs:List α):Int:=match xs.findIdx? f with
 | some i=>(i:Int)
 | none => -1
omit [Inhabited α] in
theorem YO {f:α->Bool} {xs:List α} (h:¬ ixI f xs<0):0<=ixI f xs/\ixI f xs<(xs.length:Int):=by
 unfold ixI at *
 cases hk:xs.findIdx? f with
 | none=>rw [hk] at h;exact absurd (by decide) h
 | some i =>
  rw [hk] at h
  have:=(List.findIdx?_eq_some_iff_getElem.1 hk).1
  simp only
  omega
theorem Uo {f:α->Bool} {xs:List α} (h:¬ ixI f xs<0):f (xs.getD (ixI f xs).toNat default)=true/\xs.find? f=some (xs.getD (ixI f xs).toNat default):=by
 unfold ixI at *
 cases hk:xs.findIdx? f with
 | none=>rw [hk] at h;exact absurd (by decide) h
 | some i =>
  obtain ⟨h1,h2,h3⟩:=List.findIdx?_eq_some_iff_getElem.1 hk
  have e:xs.getD ((i:Int)).toNat default=xs[i]:=by rw [Int.toNat_natCast,List.getD_eq_getElem?_getD,List.getElem?_eq_getElem h1];rfl
  simp only [e]
  refine ⟨h2,?_⟩
  rw [List.find?_eq_some_iff_getElem]
  exact ⟨h2,i,h1,rfl,fun j hj=>by have:=h3 j hj;simpa using this⟩
omit [Inhabited α] in
theorem Up {f:α->Bool} {xs:List α} (h:ixI f xs<0):xs.find? f=none:=by
 unfold ixI at h
 cases hk:xs.findIdx? f with
 | some i=>rw [hk] at h;exact absurd h (by simp only;omega)
 | none =>
  rw [List.find?_eq_none]
  rw [List.findIdx?_eq_none_iff] at hk
  intro x hx;rw [hk x hx];decide
theorem YN (f:α->Bool) (xs:List α) (g:Nat->Int->Int) (hg:∀ m (v:Nat),g (m+1) v=bif decide ((v:Int)<(xs.length:Int)) then (bif f (xs.getD v default) then (v:Int) else g m ((v:Int)+1)) else -1) :
  ∀ (k v m:Nat),xs.length-v=k->v<=xs.length->k<m->g m v=match (xs.drop v).findIdx? f with | some i=>((v+i:Nat):Int) | none => -1:=by
 intro k
 induction k with
 | zero =>
  intro v m hk hv hm
  obtain ⟨m,rfl⟩:∃ k,m=k+1:=⟨m-1,by omega⟩
  rw [hg,decide_eq_false (by omega),cond_false,List.drop_eq_nil_of_le (by omega)]
  rfl
 | succ k ih =>
  intro v m hk hv hm
  obtain ⟨m,rfl⟩:∃ k,m=k+1:=⟨m-1,by omega⟩
  obtain ⟨_,e2⟩:=Ff xs v (by omega)
  rw [hg,decide_eq_true (by omega),cond_true,e2,List.findIdx?_cons]
  cases hf:f (xs.getD v default) with
  | true=>simp
  | false =>
   have:=ih (v+1) m (by omega) (by omega) (by omega)
   rw [show ((v+1:Nat):Int)=(v:Int)+1 by omega] at this
   rw [cond_false,this]
   cases (xs.drop (v+1)).findIdx? f with
   | none=>simp
   | some i =>
    simp only [Option.map_some]
    rw [show v+1+i=v+(i+1) by omega]
    rfl
end
end
def SeqV (P:Program) (gf:Nat) (lb:Array Value) (V:Nat->Array Value->World->Prop) (Kp:World->World->Prop) (n:Nat) (w:World):Prop :=
 ∀ (l:Nat) (J:Nat->World->Prop) (W:World),Below w.heap.size w W->(∀ j A B,J j A->A.grownBy B none->J j B) ->
  (∀ j v A,j<n->J j A->V j v A->YieldAt (FW none) 0 P l v A fun e B=>e=.returned (.bool true)/\J (j+1) B/\Kp A B)->J 0 W ->
  CallsIn (FW none) 1 P gf (#[.func (.yield l) #[] #[]]++lb) W fun e B=>(∃ u,e=.returned u)/\J n B
theorem Yq {P:Program} {g:Operand} {ps:Array Tmp} {assign body:Code} {Q:Exit->Act->World->Prop} {a:Act} {w:World} {gf:Nat} {lb:Array Value} (hg:a.eval g=.func (.func gf) #[] lb) (eg:∀ args w,(callFunc gf args).run P w=.ok (.enter gf args) w)
  {V:Nat->Array Value->World->Prop} {Kp:World->World->Prop} {n:Nat} (hseq:SeqV P gf lb V Kp n w) (hKt:∀ {A B C:World},Kp A B->Kp B C->Kp A C)
  (hKb:∀ (W:World) (l:Nat) (o o':Obj),w.heap.size<=l->W.heap[l]? = some o->o.isCells=false->Kp W (W.putObj l o')) (hsz:∀ j v W,V j v W->v.size=ps.size)
  (I:Nat->World->Prop) (hI:OwnFrom w.heap.size I) (h0:I 0 w) (Ax:Nat->Act->World->Prop) (hAx:∀ j a',OwnFrom w.heap.size fun (_:Unit) W=>Ax j a' W)
  (hassign:∀ (l j:Nat) (v:Array Value) (W:World) (K:Act->World->Prop),j<n->I j W->V j v W->(∀ a' W',KeepsFrom w.heap.size W W'->Kp W W'->I j W'->Ax j a' W'->K a' W') ->
   assign.wpIn ((FW none).inRound l) 0 P (Exit.then K fun _ _ _=>False) { tmps:=(ps.zip v).foldl (fun t (p,u)=>t.setIfInBounds p u) a.tmps,defers:=[] } W)
  (hbody:∀ (l j:Nat) (a':Act) (W:World),j<n->I j W->Ax j a' W->body.wpIn ((FW none).inRound l) 0 P (fun e _ W'=>e=.normal/\KeepsFrom w.heap.size W W'/\Kp W W'/\I (j+1) W') a' W)
  (hdone:∀ (D:Nat) (W:World),w.heap.size<=D->I n W->W.heap[D]? = some (.deferred (some []))->Q .normal { a with defers:={ target:=.collected D,args := #[] }::a.defers } W):(Code.rangeFunc g ps assign body).wpIn (FW none) 2 P Q a w:=by
 refine wpIn_rangeFunc fun fn hfn => ?_
 -- the two blocks of the statement: the mark's and the record's
 generalize hD:w.heap.size=D at *
 let rc:LoopState->Obj:=fun st=>.loop { state:=st,pending:=none,fn:=fn,tmps:=a.tmps,params:=ps,assign:=assign,body:=body,defers:=D }
 have hcell:∀ st,(rc st).isCells=false:=fun _=>rfl
 let U:=w.alloc (.deferred (some []))
 let Z:=U.alloc (rc .ready)
 have sU:U.heap.size=D+1:=by show (w.alloc _).heap.size=_;rw [World.size_alloc,hD]
 have zL:Z.heap[D+1]? = some (rc .ready):=by rw [<- sU];exact World.alloc_heap_new U _
 have zD:Z.heap[D]? = some (.deferred (some [])):=(Below.heap_alloc U _ _ (by omega)).trans (by rw [<- hD];exact World.alloc_heap_new w _)
 have hIa:∀ {j:Nat} {W:World} (o:Obj),I j W->I j (W.alloc o):=fun o h=>hI.alloc o h
 let J:Nat->World->Prop:=fun j W=>I j W/\W.heap[D+1]? = some (rc .ready)/\W.heap[D]? = some (.deferred (some []))
 refine ⟨D+1,[{ target:=.collected D,args := #[] }],Z,{ target:=.fn (.func gf) lb,args := #[.func (.yield (D+1)) #[] #[]] },Z,gf,#[.func (.yield (D+1)) #[] #[]]++lb,Z,?_,?_,?_,?_,fun _=>by decide,?_⟩
 ·have:=run_enterLoop_outer (P:=P) (w:=w) fn a.tmps ps assign body
  rw [hD] at this
  exact this
 ·simp only [resolve,hg]
  simp [go_sem]
 ·intro f' _;trivial
 ·simp [invoke,go_sem,eg]
 refine (hseq (D+1) J Z ?_ ?_ ?_ ⟨hIa _ (hIa _ h0),zL,zD⟩).mono ?_
 ·rw [hD]
  exact (((Below.refl D w).alloc (by omega) _).alloc (by rw [show (w.alloc (.deferred (some []))).heap.size=D+1 from sU];omega) _)
 ·rintro j A B ⟨h1,h2,h3⟩ hgr
  have keep:∀ b (o:Obj),A.heap[b]? = some o->B.heap[b]? = some o:=fun b o h=>(hgr.block b (Array.getElem?_eq_some_iff.1 h).1 (fun e=>by cases e)).trans h
  exact ⟨hI j A B none h1 hgr (fun r e=>by cases e),keep _ _ h2,keep _ _ h3⟩
 ·rintro j v A hj ⟨h1,h2,h3⟩ hv
  refine ⟨fn,_,assign,body,run_yield h2 (hsz j v A hv),roundIn_of_wpIn hfn (hassign (D+1) j v A _ hj h1 hv ?_)⟩
  intro a' B kf kp i1 ax
  have l1:B.heap[D+1]? = some (rc .ready):=kf.same _ _ (by omega) h2 rfl
  have d1:B.heap[D]? = some (.deferred (some [])):=kf.same _ _ (Nat.le_refl _) h3 rfl
  have hlt:D+1<B.heap.size:=(Array.getElem?_eq_some_iff.1 l1).1
  refine ⟨_,run_beginRound l1 rfl,?_⟩
  generalize hC:B.putObj (D+1) (.loop { state:=.busy,pending:=none,fn:=fn,tmps:=a.tmps,params:=ps,assign:=assign,body:=body,defers:=D })=C
  have l2:C.heap[D+1]? = some (rc .busy):=by rw [<- hC];exact World.putObj_heap_same hlt
  have d2:C.heap[D]? = some (.deferred (some [])):=by rw [<- hC];exact (World.putObj_heap_other (by omega)).trans d1
  have kp2:Kp B C:=by rw [<- hC];exact hKb _ _ _ _ (by omega) l1 rfl
  have i2:I j C:=by rw [<- hC];exact hI.putObj _ i1 (by omega) l1 rfl
  have ax2:Ax j a' C:=by rw [<- hC];exact (hAx j a').putObj (s:=()) _ ax (by omega) l1 rfl
  refine wpIn_mono (hbody (D+1) j a' C hj i2 ax2) ?_
  rintro e a3 G ⟨rfl,kf3,kp3,i3⟩
  have l3:G.heap[D+1]? = some (rc .busy):=kf3.same _ _ (by omega) l2 rfl
  have d3:G.heap[D]? = some (.deferred (some [])):=kf3.same _ _ (Nat.le_refl _) d2 rfl
  have kp4:=hKb G (D+1) _ (rc .ready) (by omega) l3 rfl
  exact ⟨_,_,run_endRound none l3,rfl,⟨hI.putObj _ i3 (by omega) l3 rfl,World.putObj_heap_same (Array.getElem?_eq_some_iff.1 l3).1,(World.putObj_heap_other (by omega)).trans d3⟩,hKt kp (hKt (hKt kp2 kp3) kp4)⟩
 rintro e B ⟨⟨u,rfl⟩,h1,h2,h3⟩
 exact ⟨none,_,run_endLoop h2 (fun e=>by cases e),hdone D _ (Nat.le_refl _) (hI.putObj _ h1 (by omega) h2 rfl) ((World.putObj_heap_other (by omega)).trans h3)⟩
section
open Go.RowKit
def lJ (M:Nat->Option Obj) (Ow:World->Nat->Prop) (E:List Av) (v:Array Value) (W:World):Prop:=∃ Mj:Nat->Option Obj,E.length=v.size/\(∀ b o,Mj b=some o->W.heap[b]? = some o/\o.isCells=true/\¬ Ow W b) /\
 ∀ MM:Nat->Option Obj,(∀ b o,M b=some o->MM b=some o)->(∀ b o,Mj b=some o->MM b=some o)->L2 (fun e u=>∀ σ,RA MM σ e u) E v.toList
def JW (P:Program) (gf:FuncId) (k:Nat) (caps:Nat->Cl) (n:Nat) (E:Fin n->List Av):Prop :=
 ∀ (M:Nat->Option Obj) (w:World) (cs:Array Value) (Ow:World->Nat->Prop),(∀ b o,M b=some o->w.heap[b]? = some o)->OwS Ow w.heap.size->(∀ b,Ow w b->b<w.heap.size/\M b=none)->cs.size=k->(∀ i,i<k->RC M (caps i) (cs.getD i undef)) ->
  SeqV P gf cs (fun j v W=>∃ hj:j<n,lJ M Ow (E ⟨j,hj⟩) v W) (KpS Ow) n w
section
variable {P:Program} {N:Nat} {W0:World} {X:Nat→Option Loc} {M0:Nat→Option Obj}
theorem Zn {ι:Type} {Q:Exit->AS->Prop} {g:Operand} {ps:Array Tmp} {assign body:Code} {t0:List (Nat×Tv)} (pids:List Nat) (fid q off r:Nat) {gf:FuncId} {k:Nat} {caps:Nat->Cl} {n:Nat} {E:Fin n->List Av} (H:ι->List (Nat×Blk)) (t1:Fin n->List (Nat×Tv)) (Inv Fm:Nat->ι->Prop) (x0:ι)
  (hX0:∀ m,X m=none) (hg:evT (get t0) g=some (.av (.one (.clo gf k caps)))) (hcd:(Cl.clo gf k caps).dv=true) (eg:∀ args w,(callFunc gf args).run P w=.ok (.enter gf args) w)
  (It:JW P gf k caps n E) (hE:∀ x,(E x).length=ps.size) (hps:∀ p∈ps.toList,p<N)
  (hpv:∀ i v,get t0 i=some v->pvT pids v=true) (hh:∀ x m b,get (H x) m=some b->((A6 pids m=true/\b.isP=true)\/(m=r/\b.isR=true))/\b.no fid=true)
  (hpc:∀ x m,A6 pids m=true->∃ b,get (H x) m=some b) (hfp:A6 pids fid=false) (hrp:A6 pids r=false) (hrf:r≠fid) (hfN:N<=fid) (hrN:N<=r) (hpN:∀ m∈pids,N<=m) (hmem:∀ m∈pids,A6 pids m=true) (hq:A6 pids q=true)
  (hEd:∀ x i v,get (P5 t0 ps.toList (E x)) i=some v->v.no fid=true)
  (hheld:∀ x,PG q off r (H x)=true) (hm:∀ x m b,get (H x) m=some b->BkN b)
  (ht1:∀ x,TsM (t1 x)) (ht1p:∀ x i v,get (t1 x) i=some v->pvT pids v=true)
  (hI0:Inv 0 x0) (hF0:Fm 0 x0)
  (hassign:∀ l W1 M1 X1 k j x,Inv j x->PXr pids r (∃ bb,get (H x) r=some bb) X1->AWp P (some l) N W1 X1 M1 assign (fun e s'=>e=.normal/\s'=⟨t1 k,H x⟩) ⟨P5 t0 ps.toList (E k),H x⟩)
  (hbody:∀ l W1 M1 X1 (k:Fin n) j x,(∀ m z,X1 m=some z->A6 (fid::pids) m=true)->j<n->Inv j x->AWp P (some l) N W1 X1 M1 body (fun e s'=>e=.normal/\∃ y,Inv (j+1) y/\(k.val=j->Fm j x->Fm (j+1) y)/\∀ m b,get (H y) m=some b->get s'.h m=some b) ⟨t1 k,H x⟩)
  (hdone:∀ x,Inv n x->Fm n x->Q .normal ⟨t0,H x⟩):AWp P none N W0 X M0 (.rangeFunc g ps assign body) Q ⟨t0,H x0⟩:=by
 intro M σ a w hs
 have hnof:∀ v:Tv,pvT pids v=true->v.no fid=true:=fun v h=>by
  cases hn:v.no fid with
  | true=>rfl
  | false=>have:=hmem fid (Oj h hn);rw [hfp] at this;cases this
 have hpne:∀ m,A6 pids m=true->m≠fid/\m≠r:=fun m h=>⟨fun e=>(by rw [e,hfp] at h;cases h),fun e=>(by rw [e,hrp] at h;cases h)⟩
 have hPb:∀ x m,A6 pids m=true->∃ b,get (H x) m=some b/\b.isP=true:=fun x m h=>by
  obtain ⟨b,hb⟩:=hpc x m h
  rcases (hh x m b hb).1 with h1 | h1
  ·exact ⟨b,hb,h1.2⟩
  exact absurd h1.1 (hpne m h).2
 have hPn:∀ {X':Nat->Option Loc} {W1:World} {Mb M1:Nat->Option Obj} {σ1:Nat->Loc} {T:Nat->Option Tv} {b:Act} {A:World} {x:ι},Sim N W1 X' Mb M1 σ1 T (get (H x)) b A->∀ m,A6 pids m=true->(σ1 m).nil=false/\(σ1 m).b<A.heap.size/\M1 (σ1 m).b=none:=fun {X' W1 Mb M1 σ1 T b A x} h1 m hmm=>by
  obtain ⟨bk,hbk,hp⟩:=hPb x m hmm
  have h2:=h1.blk m bk hbk
  have hn:(σ1 m).nil=false:=by
   cases bk with
   | cells l ty=>exact h2.1
   | omap=>exact h2.1
   | row=>cases hp
   | rowx=>cases hp
  refine ⟨hn,h2.lt hn,?_⟩
  rcases h1.loc m bk hbk with h | h
  ·rw [hn] at h;cases h
  exact h.1
 have hplt:∀ m,A6 pids m=true->(σ m).b<w.heap.size:=fun m hmm=>(hPn hs m hmm).2.1
 -- the iterator's value
 obtain ⟨cs,hgv1,hgv2,hgv3⟩:=GL hs.tmps hg
 have hcaps:∀ i,i<k->RC M (caps i) (cs.getD i undef):=fun i hi=>(Ju (List.all_eq_true.1 hcd i (List.mem_range.2 hi))).1 (hgv3 i hi)
 obtain ⟨Ow,hOw⟩:∃ Ow:World->Nat->Prop,Ow=fun W b=>((∃ m,A6 pids m=true/\(σ m).b=b)\/Im (σ q).b off W b)\/(b<w.heap.size/\M b=none):=⟨_,rfl⟩
 have hOi:∀ {W b},Ow W b->((∃ m,A6 pids m=true/\(σ m).b=b)\/Im (σ q).b off W b)\/(b<w.heap.size/\M b=none):=fun h=>by rw [hOw] at h;exact h
 have hOr:∀ {W b},((∃ m,A6 pids m=true/\(σ m).b=b)\/Im (σ q).b off W b)\/(b<w.heap.size/\M b=none)->Ow W b:=fun h=>by rw [hOw];exact h
 have hOo:∀ {W b},(∃ m,A6 pids m=true/\(σ m).b=b)\/Im (σ q).b off W b->Ow W b:=fun h=>by rw [hOw];exact .inl h
 have hHeldSame:∀ {A B:World},B.heap[(σ q).b]? = A.heap[(σ q).b]? -> ∀ b,Im (σ q).b off B b->Im (σ q).b off A b:=fun h b ⟨o,len,cap,h1,h2⟩=>⟨o,len,cap,by rw [<- h];exact h1,h2⟩
 have hOg:∀ {A B:World},w.heap.size<=A.heap.size->B.heap[(σ q).b]? = A.heap[(σ q).b]? -> ∀ b,Ow B b->Ow A b:=fun _ hB b hb=>hOr ((hOi hb).imp (Or.imp id (hHeldSame hB b)) id)
 have hseq:=It M w cs Ow hs.imm ⟨fun A B hA hB b hb=>hOg hA (hB _ (Nat.lt_of_lt_of_le (hplt q hq) hA)) b hb⟩ (fun b hb=>by
  rcases hOi hb with (⟨m,hmm,rfl⟩ | hb) | hb
  ·exact ⟨hplt m hmm,(hPn hs m hmm).2.2⟩
  ·obtain ⟨⟨bk,hbk⟩,hn,rfl⟩:=TG hs (hheld x0) hb
   refine ⟨(hs.blk r bk hbk).lt hn,?_⟩
   rcases hs.loc r bk hbk with h | h
   ·rw [hn] at h;cases h
   exact h.1
  exact hb) hgv2 hcaps
 -- names
 have hXPm:∀ m x,Pn pids σ X m=some x->A6 pids m=true/\x=σ m:=fun m x hx=>by
  unfold Pn at hx
  cases hmm:A6 pids m with
  | true=>rw [hmm] at hx;injection hx with hx;exact ⟨rfl,hx.symm⟩
  | false=>rw [hmm] at hx;have:X m=some x:=hx;rw [hX0] at this;cases this
 have hPp:∀ m,A6 pids m=true->Pn pids σ X m=some (σ m):=fun m h=>by unfold Pn;rw [h];rfl
 obtain ⟨XP,hXPd⟩:∃ XP,XP=Pn pids σ X:=⟨_,rfl⟩
 have hXPi:∀ b,inX XP b↔∃ m,A6 pids m=true/\(σ m).b=b:=fun b=>by
  rw [hXPd]
  constructor
  ·rintro ⟨m,x,h1,h2⟩
   obtain ⟨h3,rfl⟩:=hXPm m x h1
   exact ⟨m,h3,h2⟩
  rintro ⟨m,h1,h2⟩
  exact ⟨m,_,hPp m h1,h2⟩
 have hnfP:∀ l M4,(∀ b o,M b=some o->M4 b=some o)->l=a.defers->Hx XP M0 M4 l:=fun l M4 h4 e=>⟨by rw [e];exact HA.mono h4 hs.defers.1,fun ⟨m,x,h1,h2,_⟩=>by
  rw [hXPd] at h1
  obtain ⟨h3,rfl⟩:=hXPm m x h1
  rw [(hPn hs m h3).1] at h2;cases h2⟩
 have hT0:∀ (M4:Nat->Option Obj) (σ4:Nat->Loc),(∀ b o,M b=some o->M4 b=some o)->(∀ m,A6 pids m=true->σ4 m=σ m)->∀ i v,get t0 i=some v->RT M4 σ4 v (a.tmps.getD i undef):=fun M4 σ4 h4 hσ i v hv =>
  De h4 (fun d hd=>hσ d (hmem d (Oj (hpv i v hv) hd))) (hs.tmps i v hv)
 have hs0:Sim N W0 XP M0 M σ (get t0) (get (H x0)) a w:=⟨hs.os,hs.tape,hs.output,hs.size,fun b hb hx=>hs.old b hb fun ⟨m,x,h1,h2⟩=>(by rw [hX0] at h1;cases h1),hs.sub,hs.new,fun m x hx=>by
   rw [hXPd] at hx
   obtain ⟨h3,rfl⟩:=hXPm m x hx
   exact ⟨hpN m (Ex h3),rfl⟩,hnfP _ M (fun _ _ h=>h) rfl,hs.room,hs.tmps,hs.imm,hs.blk,fun m b hb=>(hs.loc m b hb).imp id fun h=>⟨h.1,.inl (h.2.elim id fun ⟨m,x,h1,_⟩=>by rw [hX0] at h1;cases h1)⟩,hs.inj⟩
 have hlt:∀ b o,M b=some o->b<w.heap.size:=fun b o h=>(Array.getElem?_eq_some_iff.1 (hs.imm b o h)).1
 have hσP:∀ {X':Nat->Option Loc} {M1:Nat->Option Obj} {σ1:Nat->Loc} {T:Nat->Option Tv} {HH:Nat->Option Blk} {b:Act} {A W1:World} {Mb:Nat->Option Obj},Sim N W1 X' Mb M1 σ1 T HH b A->(∀ m,A6 pids m=true->X' m=some (σ m))->∀ m,A6 pids m=true->σ1 m=σ m:=fun h1 h2 m hmm=>(h1.pin m _ (h2 m hmm)).2
 have hXPp:∀ m,A6 pids m=true->XP m=some (σ m):=fun m h=>by rw [hXPd];exact hPp m h
 let SI:Nat->World->Prop:=fun j W=>∃ x M' σ',Sim N W0 XP M0 M' σ' (get t0) (get (H x)) a W/\Cln M M'/\Inv j x/\Fm j x/\w.heap.size<=W.heap.size
 let Ax:Nat->Act->World->Prop:=fun j a' W=>∃ (hj:j<n) (Mn:Nat->Option Obj),w.heap.size<=W.heap.size/\a'.tmps.size=N/\a'.defers=[]/\(∀ i v,get (t1 ⟨j,hj⟩) i=some v->RT Mn σ v (a'.tmps.getD i undef))/\∀ b o,Mn b=some o->W.heap[b]? = some o/\(o.isCells=true\/M b=some o)/\(M b=none->W0.heap.size<=b)/\¬ ((∃ m,A6 pids m=true/\(σ m).b=b)\/Im (σ q).b off W b)
 -- one piece of a round
 have step:∀ {XA:Nat->Option Loc} {M' M3:Nat->Option Obj} {σ' σ3:Nat->Loc} {W W':World} {x y:ι} {T':Nat->Option Tv} {h':List (Nat×Blk)} {a':Act},Sim N W0 XP M0 M' σ' (get t0) (get (H x)) a W->Cln M M'->Sim N W XA M' M3 σ3 T' (get h') a' W'->(∀ m b,get (H y) m=some b->get h' m=some b) ->
   (∀ b,inX XA b->(∃ m,A6 pids m=true/\(σ m).b=b)\/((∃ bb,get (H x) r=some bb)/\(σ' r).nil=false/\(σ' r).b=b))->(∀ m,A6 pids m=true->σ3 m=σ m) ->
   KeepsFrom w.heap.size W W'/\KpS Ow W W'/\Sim N W0 XP M0 (Js M' M3) σ3 (get t0) (get (H y)) a W'/\Cln M (Js M' M3):=by
  intro XA M' M3 σ' σ3 W W' x y T' h' a' h1 h2 hr hy hX hσ3
  have hσ':=hσP h1 hXPp
  have hC:=gH h2 hr.sub
  have hXO:∀ b,inX XA b->Ow W b:=fun b hb=>by
   rcases hX b hb with h | ⟨⟨bb,hbb⟩,hn,rfl⟩
   ·exact hOo (.inl h)
   have:=Uv h1 (hheld x) hbb hn
   rw [hσ' q hq] at this
   exact hOo (.inr this)
  have hsim:Sim N W0 XP M0 (Js M' M3) σ3 (get t0) (get (H y)) a W':=by
   refine cR h1 hr (fun b hb => ?_) hy (hm y) hs.room (hT0 _ σ3 hC.1 hσ3) (fun m z hz => ?_) (fun b=>Iff.rfl) (hnfP _ _ hC.1 rfl)
   ·rcases hX b hb with h | ⟨⟨bb,hbb⟩,hn,rfl⟩
    ·exact .inl ((hXPi b).2 h)
    rcases h1.loc r bb hbb with h3 | h3
    ·rw [hn] at h3;cases h3
    exact h3.2.symm
   rw [hXPd] at hz
   obtain ⟨h3,rfl⟩:=hXPm m z hz
   exact ⟨hpN m (Ex h3),hσ3 m h3⟩
  refine ⟨⟨hr.size,fun b o hb ho hoc => ?_⟩,⟨hr.size,fun b o hb hc ho=>(hr.old b (Array.getElem?_eq_some_iff.1 hb).1 fun h=>ho (hXO b h)).trans hb,fun b hb => ?_⟩,hsim,hC⟩
  ·refine (hr.old b (Array.getElem?_eq_some_iff.1 ho).1 fun hX' => ?_).trans ho
   rcases hX b hX' with ⟨m,hmm,rfl⟩ | ⟨⟨bb,hbb⟩,hn,rfl⟩
   ·have:=hplt m hmm;omega
   have h3:=h1.blk r bb hbb
   have h4:=(hh x r bb hbb).1
   cases bb with
   | row sz len f ty =>
    rcases h3 with ⟨h5,_⟩ | ⟨_,c,hc,_⟩
    ·rw [hn] at h5;cases h5
    rw [ho] at hc;injection hc with hc;subst hc;cases hoc
   | cells=>rcases h4 with h4 | h4 <;> first | (rw [hrp] at h4;cases h4.1) | cases h4.2
   | omap=>rcases h4 with h4 | h4 <;> first | (rw [hrp] at h4;cases h4.1) | cases h4.2
   | rowx=>rcases h4 with h4 | h4 <;> first | cases h4.2 | (rw [hrp] at h4;cases h4.1)
  rcases hOi hb with (h | h) | h
  ·exact .inl (hOo (.inl h))
  rotate_left
  ·exact .inl (hOr (.inr h))
  rw [<- hσ3 q hq] at h
  obtain ⟨⟨bk,hbk⟩,hn,rfl⟩:=TG hsim (hheld y) h
  rcases hr.loc r bk (hy r bk hbk) with h3 | ⟨_,h3 | h3⟩
  ·rw [hn] at h3;cases h3
  ·exact .inr ⟨h3,(hr.blk r bk (hy r bk hbk)).lt hn⟩
  exact .inl (hXO _ h3)
 -- what else is known to lie in the world
 have merge:∀ {M' Mn:Nat->Option Obj} {σ':Nat->Loc} {W:World} {x:ι},Sim N W0 XP M0 M' σ' (get t0) (get (H x)) a W->Cln M M'->(∀ b o,Mn b=some o->W.heap[b]? = some o/\(o.isCells=true\/M b=some o)/\(M b=none->W0.heap.size<=b)/\¬ ((∃ m,A6 pids m=true/\(σ m).b=b)\/Im (σ q).b off W b)) ->
   ∃ MM:Nat->Option Obj,(∀ b o,M' b=some o->MM b=some o)/\(∀ b o,Mn b=some o->MM b=some o)/\Cln M MM/\Sim N W0 XP M0 MM σ' (get t0) (get (H x)) a W:=by
  intro M' Mn σ' W x h1 h2 hA4
  have hσ':=hσP h1 hXPp
  obtain ⟨MM,hMM⟩:∃ MM:Nat->Option Obj,MM=fun b=>match M' b with | some o=>some o | none=>Mn b:=⟨_,rfl⟩
  have hM1:∀ b o,M' b=some o->MM b=some o:=fun b o h=>by rw [hMM];simp only [h]
  have hM3:∀ b o,MM b=some o->M' b=some o\/Mn b=some o:=fun b o h=>by
   rw [hMM] at h
   cases h3:M' b with
   | some o'=>simp only [h3] at h;exact .inl h
   | none=>simp only [h3] at h;exact .inr h
  have hM2:∀ b o,Mn b=some o->MM b=some o:=fun b o h=>by
   cases h3:M' b with
   | some o' =>
    have h4:=h1.imm b o' h3
    rw [(hA4 b o h).1] at h4
    rw [h4];exact hM1 b o' h3
   | none=>rw [hMM];simp only [h3];exact h
  have hCM:Cln M MM:=⟨fun b o h=>hM1 b o (h2.1 b o h),fun b o h ho=>(hM3 b o h).elim (fun h'=>h2.2 b o h' ho) fun h'=>(hA4 b o h').2.1.elim (fun hc=>by rw [ho] at hc;cases hc) id⟩
  have h1M:Sim N W0 XP M0 MM σ' (get t0) (get (H x)) a W:=by
   refine ⟨h1.os,h1.tape,h1.output,h1.size,h1.old,fun b o h=>hM1 b o (h1.sub b o h),fun b o h h0 => ?_,h1.pin,hnfP _ MM hCM.1 rfl,h1.room,fun i v hv=>De hM1 (fun _ _=>rfl) (h1.tmps i v hv),fun b o h=>(hM3 b o h).elim (h1.imm b o) fun h'=>(hA4 b o h').1,fun m b hb=>(h1.blk m b hb).mono hM1 (fun _ _=>rfl) (fun _=>rfl),fun m b hb => ?_,h1.inj⟩
   ·rcases hM3 b o h with h | h
    ·exact h1.new b o h h0
    cases hMb:M b with
    | none=>exact (hA4 b o h).2.2.1 hMb
    | some o'=>exact hs.new b o' hMb h0
   cases hn:(σ' m).nil with
   | true=>exact .inl rfl
   | false =>
    rcases h1.loc m b hb with h | h
    ·rw [hn] at h;cases h
    refine .inr ⟨?_,h.2⟩
    cases hc:MM (σ' m).b with
    | none=>rfl
    | some o =>
     rcases hM3 _ o hc with h3 | h3
     ·rw [h.1] at h3;cases h3
     refine absurd ?_ (hA4 _ o h3).2.2.2
     rcases (hh x m b hb).1 with h4 | ⟨rfl,h4⟩
     ·exact .inl ⟨m,h4.1,by rw [hσ' m h4.1]⟩
     have:=Uv h1 (hheld x) hb hn
     rw [hσ' q hq] at this
     exact .inr this
  exact ⟨MM,hM1,hM2,hCM,h1M⟩
 have hgr:∀ {A B:World} {row:Option Nat},A.grownBy B row->(∀ r,row=some r->w.heap.size<=r/\∃ o:Obj,A.heap[r]? = some o/\o.isCells=false)->w.heap.size<=A.heap.size->∀ b,((∃ m,A6 pids m=true/\(σ m).b=b)\/Im (σ q).b off B b)->((∃ m,A6 pids m=true/\(σ m).b=b)\/Im (σ q).b off A b):=fun {A B row} hg' hr hA b hb=>hb.imp id (hHeldSame (hg'.block _ (Nat.lt_of_lt_of_le (hplt q hq) hA) fun e=>by
  have:=(hr _ e.symm).1
  have:=hplt q hq
  omega) b)
 refine wpIn_wide.2 ((wpIn_wide (n:=2)).1 ?_)
 refine Yq hgv1 eg hseq KpS.trans (fun W l o o' hl ho hoc=>⟨by simp,fun b o2 hb hb2 _ => ?_,fun b hb => ?_⟩) (fun j v W hv => ?hsz)
  SI ?hI ⟨x0,M,σ,hs0,⟨fun _ _ h=>h,fun _ _ h _=>h⟩,hI0,hF0,Nat.le_refl _⟩ Ax ?hAx ?assign ?body ?done
 ·rw [World.putObj_heap_other (fun e=>by subst e;rw [ho] at hb;injection hb with hb;subst hb;rw [hoc] at hb2;cases hb2)]
  exact hb
 ·refine .inl (hOr ((hOi hb).imp (Or.imp id (hHeldSame (World.putObj_heap_other (fun e => ?_)) b)) id))
  have:=hplt q hq
  omega
 case hsz =>
  obtain ⟨hj,Mj,hL,_⟩:=hv
  rw [hE] at hL
  exact hL.symm
 case hI =>
  rintro j A B row ⟨x,M',σ',h1,h2,h3,h4,h5⟩ hg' hr
  refine ⟨x,M',σ',WG h1 (fun m b hb hbm rr e => ?_) hg' (fun rr e => ?_),h2,h3,h4,Nat.le_trans h5 hg'.size⟩
  ·have h6:=(hr rr e).1
   have hmm:A6 pids m=true:=by
    rcases (hh x m b hb).1 with h | h
    ·exact h.1
    cases b <;> first | (exfalso;cases hbm;done) | (exfalso;exact absurd h.2 (by simp [Blk.isR])) | exact absurd hbm (by simp [Blk.isM])
   rw [hσP h1 hXPp m hmm]
   have:=hplt m hmm
   omega
  obtain ⟨h6,o,h7,h8⟩:=hr rr e
  refine ⟨Nat.le_trans hs.size h6,⟨o,h7,h8⟩,?_⟩
  cases hM1:M' rr with
  | none=>rfl
  | some o' =>
   have h9:=h1.imm rr o' hM1
   rw [h7] at h9;injection h9 with h9;subst h9
   have:=hlt rr _ (h2.2 rr _ hM1 h8)
   omega
 case hAx =>
  rintro j a' _ A B row ⟨hj,Mn,h1,h2,h3,h4,h5⟩ hg' hr
  refine ⟨hj,Mn,Nat.le_trans h1 hg'.size,h2,h3,h4,fun b o hb => ?_⟩
  obtain ⟨h6,h7,h8,h9⟩:=h5 b o hb
  refine ⟨(hg'.block b (Array.getElem?_eq_some_iff.1 h6).1 fun e => ?_).trans h6,h7,h8,fun h=>h9 (hgr hg' hr h1 b h)⟩
  obtain ⟨h10,o',h11,h12⟩:=hr b e.symm
  rw [h6] at h11;injection h11 with h11;subst h11
  rcases h7 with h7 | h7
  ·rw [h12] at h7;cases h7
  have:=hlt b _ h7;omega
 case assign =>
  rintro l j vals W K hjn ⟨x,M'',σ',h1',h2',hinv,hfm,hws⟩ ⟨hj,Mj,_,hMj,hL⟩ hK
  obtain ⟨M',_,hMjM,h2,h1⟩:=merge h1' h2' (fun b o hb=>⟨(hMj b o hb).1,.inl (hMj b o hb).2.1,fun hMb=>by
   have h3:=(hMj b o hb).2.2
   have:¬ b<w.heap.size:=fun h=>h3 (hOr (.inr ⟨h,hMb⟩))
   have:=hs.size
   omega,fun h=>(hMj b o hb).2.2 (hOo h)⟩)
  obtain ⟨kx,hkx⟩:∃ kx:Fin n,kx=⟨j,hj⟩:=⟨_,rfl⟩
  rw [<- hkx] at hL
  have hσ':=hσP h1 hXPp
  obtain ⟨hfs,hft⟩:=YT ps.toList (E kx) vals.toList t0 a.tmps (hT0 M' σ' h2.1 hσ') hs.room ((hL M' h2.1 hMjM).mono fun e _ v hv=>hv σ') (by simpa using (hE kx).symm) hps
  have efold:(ps.zip vals).foldl (fun t (p,v)=>t.setIfInBounds p v) a.tmps=(ps.toList.zip vals.toList).foldl (fun t (y:Tmp×Value)=>t.setIfInBounds y.1 y.2) a.tmps:=by
   rw [<- Array.foldl_toList,Array.toList_zip]
  rw [efold]
  obtain ⟨pr,hpr1,hpr2,hpr3⟩:∃ pr:List Nat,(∀ m,A6 pr m=true->A6 pids m=true\/(m=r/\(∃ bb,get (H x) r=some bb)/\(σ' r).nil=false))/\(∀ m,A6 pids m=true->A6 pr m=true)/\((∃ bb,get (H x) r=some bb)/\(σ' r).nil=false->A6 pr r=true):=by
   by_cases hrow:(∃ bb,get (H x) r=some bb)/\(σ' r).nil=false
   ·refine ⟨r::pids,fun m h => ?_,fun m h => ?_,fun _ => ?_⟩
    ·rcases List.mem_cons.1 (Ex h) with e | e
     ·exact .inr ⟨e,hrow⟩
     exact .inl (hmem m e)
    ·exact Hl (List.mem_cons_of_mem _ (Ex h))
    exact Hl (List.mem_cons_self ..)
   exact ⟨pids,fun m h=>.inl h,fun m h=>h,fun h=>absurd h hrow⟩
  obtain ⟨XA,hXA⟩:∃ XA,XA=M6 fid ⟨(σ q).b,424242,true⟩ (Pn pr σ' X):=⟨_,rfl⟩
  have hprf:∀ m,A6 pr m=true->m≠fid:=fun m h=>(hpr1 m h).elim (fun h=>(hpne m h).1) fun h=>by rw [h.1];exact hrf
  have hXAf:∀ m z,XA m=some z->(m=fid/\z=⟨(σ q).b,424242,true⟩)\/(m≠fid/\A6 pr m=true/\z=σ' m):=fun m z hz=>by
   rw [hXA] at hz
   unfold M6 at hz
   cases hb:Nat.beq m fid with
   | true=>rw [hb] at hz;injection hz with hz;exact .inl ⟨Nat.eq_of_beq_eq_true hb,hz.symm⟩
   | false =>
    rw [hb] at hz
    have hz:Pn pr σ' X m=some z:=hz
    unfold Pn at hz
    cases hp:A6 pr m with
    | true=>rw [hp] at hz;injection hz with hz;exact .inr ⟨hprf m hp,rfl,hz.symm⟩
    | false=>rw [hp] at hz;have hz:X m=some z:=hz;rw [hX0] at hz;cases hz
  have hXAp:∀ m,A6 pr m=true->XA m=some (σ' m):=fun m h=>by
   rw [hXA]
   unfold M6
   rw [show Nat.beq m fid=false by rw [CI];simp [hprf m h]]
   show Pn pr σ' X m=_
   unfold Pn
   rw [h];rfl
  have hflat:Ph XA:=⟨fid,⟨(σ q).b,424242,true⟩,by rw [hXA];unfold M6;rw [Nat.beq_refl];rfl,rfl,rfl⟩
  have hin:=P4 (fid:=fid) (XB:=XA) (σ2:=upd σ' fid ⟨(σ q).b,424242,true⟩) h1 (a2:={ tmps:=_,defers:=[] }) rfl hfs (fun m z hz=>by
   rcases hXAf m z hz with ⟨rfl,rfl⟩ | ⟨h3,h4,rfl⟩
   ·exact ⟨hfN,BX _ _ _⟩
   ·refine ⟨(hpr1 m h4).elim (fun h=>hpN m (Ex h)) fun h=>by rw [h.1];exact hrN,CK _ _ h3⟩) (fun m h=>CK _ _ h) (fun i v hv=>⟨hft i v hv,hEd kx i v hv⟩) (fun m b hb=>by
   obtain ⟨h3,h4⟩:=hh x m b hb
   rcases h3 with h3 | ⟨rfl,h3⟩
   ·exact ⟨(hpne m h3.1).1,h4,.inr ⟨m,_,hXAp m (hpr2 m h3.1),rfl⟩⟩
   refine ⟨hrf,h4,?_⟩
   cases hn:(σ' m).nil with
   | true=>exact .inl rfl
   | false=>exact .inr ⟨m,_,hXAp m (hpr3 ⟨⟨b,hb⟩,hn⟩),rfl⟩)
  refine wpIn_mono (hassign l W M' XA kx j x hinv (fun m z hz=>by
   rcases hXAf m z hz with ⟨rfl,rfl⟩ | ⟨h3,h4,rfl⟩
   ·exact .inl ⟨q,hq,_,hXAp q (hpr2 q hq),by rw [hσ' q hq]⟩
   rcases hpr1 m h4 with h5 | ⟨rfl,h6,h5⟩
   ·exact .inl ⟨m,h5,_,hXAp m h4,rfl⟩
   exact .inr ⟨rfl,h6,h5⟩) M' _ _ W hin) ?_
  rintro e a' W' ⟨s',M3,σ3,⟨rfl,rfl⟩,hr⟩
  have hσ3:∀ m,A6 pids m=true->σ3 m=σ m:=fun m hmm=>(hr.pin m _ (hXAp m (hpr2 m hmm))).2.trans (hσ' m hmm)
  obtain ⟨k1,k2,k3,k4⟩:=step h1 h2 hr (y:=x) (fun _ _ h=>h) (fun b hb=>by
   obtain ⟨m,z,hz,hzb⟩:=hb
   rcases hXAf m z hz with ⟨rfl,rfl⟩ | ⟨h3,h4,rfl⟩
   ·exact .inl ⟨q,hq,hzb⟩
   rcases hpr1 m h4 with h5 | ⟨rfl,h5,h6⟩
   ·exact .inl ⟨m,h5,by rw [<- hσ' m h5];exact hzb⟩
   exact .inr ⟨h5,h6,hzb⟩) hσ3
  refine hK a' W' k1 k2 ⟨x,_,σ3,k3,k4,hinv,hfm,Nat.le_trans hws hr.size⟩ ⟨hj,Js M' M3,Nat.le_trans hws hr.size,hr.room,hr.defers.2 hflat,fun i v hv => ?_,fun b o hb=>⟨hr.imm b o (Hr hr.sub hb),?_,fun hMb => ?_,fun ho => ?_⟩⟩
  ·rw [<- hkx] at hv
   exact De (fun _ _ h=>h) (fun d hd=>(hσ3 d (hmem d (Oj (ht1p kx i v hv) hd))).symm) (XS (PT hr.sub) (hr.tmps i v hv) (ht1 kx i v hv))
  ·cases hc:o.isCells with
   | true=>exact .inl rfl
   | false=>exact .inr (k4.2 b o hb hc)
  ·cases h3:M' b with
   | some o' =>
    refine h1.new b o' h3 ?_
    cases h0:M0 b with
    | none=>rfl
    | some o2=>rw [hs.sub b o2 h0] at hMb;cases hMb
   | none=>exact Nat.le_trans h1.size (hr.new b o (Hr hr.sub hb) h3)
  have h3:=Hr hr.sub hb
  rcases ho with ⟨m,hmm,rfl⟩ | ho
  ·have:=(hPn hr m hmm).2.2
   rw [hσ3 m hmm,h3] at this;cases this
  rw [<- hσ3 q hq] at ho
  obtain ⟨⟨bk,hbk⟩,hn,rfl⟩:=TG hr (hheld x) ho
  rcases hr.loc r bk hbk with h | h
  ·rw [hn] at h;cases h
  rw [h.1] at h3;cases h3
 case body =>
  rintro l j a' W hjn ⟨x,M',σ',h1,h2,hinv,hfm,hws⟩ ⟨hj,Mn,_,hA1,hA2,hA3,hA4⟩
  obtain ⟨kx,hkx⟩:∃ kx:Fin n,kx=⟨j,hj⟩:=⟨_,rfl⟩
  rw [<- hkx] at hA3
  have hσ':=hσP h1 hXPp
  obtain ⟨MM,hM1,hM2,hCM,h1M⟩:=merge h1 h2 hA4
  obtain ⟨fl,hfl1,hfl2,hfl3,hfl4⟩:∃ fl:Loc,fl.nil=true/\fl.cap=424242/\(fl.b=(σ q).b\/(((∃ bb,get (H x) r=some bb)/\(σ' r).nil=false)/\fl.b=(σ' r).b))/\((∃ bb,get (H x) r=some bb)/\(σ' r).nil=false->fl.b=(σ' r).b):=by
   by_cases hrow:(∃ bb,get (H x) r=some bb)/\(σ' r).nil=false
   ·exact ⟨⟨(σ' r).b,424242,true⟩,rfl,rfl,.inr ⟨hrow,rfl⟩,fun _=>rfl⟩
   exact ⟨⟨(σ q).b,424242,true⟩,rfl,rfl,.inl rfl,fun h=>absurd h hrow⟩
  obtain ⟨XB,hXB⟩:∃ XB,XB=M6 fid fl XP:=⟨_,rfl⟩
  have hXBf:∀ m z,XB m=some z->(m=fid/\z=fl)\/(m≠fid/\A6 pids m=true/\z=σ m):=fun m z hz=>by
   rw [hXB] at hz
   unfold M6 at hz
   cases hb:Nat.beq m fid with
   | true=>rw [hb] at hz;injection hz with hz;exact .inl ⟨Nat.eq_of_beq_eq_true hb,hz.symm⟩
   | false =>
    rw [hb] at hz
    have hz:XP m=some z:=hz
    rw [hXPd] at hz
    obtain ⟨h3,h4⟩:=hXPm m z hz
    exact .inr ⟨(hpne m h3).1,h3,h4⟩
  have hXBp:∀ m,A6 pids m=true->XB m=some (σ m):=fun m h=>by
   rw [hXB]
   unfold M6
   rw [show Nat.beq m fid=false by rw [CI];simp [(hpne m h).1]]
   exact hXPp m h
  have hXBfid:XB fid=some fl:=by rw [hXB];unfold M6;rw [Nat.beq_refl];rfl
  have hin:=P4 (fid:=fid) (XB:=XB) (σ2:=upd σ' fid fl) h1M (a2:=a') hA2 hA1 (fun m z hz=>by
   rcases hXBf m z hz with ⟨rfl,rfl⟩ | ⟨h3,h4,rfl⟩
   ·exact ⟨hfN,BX _ _ _⟩
   ·exact ⟨hpN m (Ex h4),(CK _ _ h3).trans (hσ' m h4)⟩) (fun m h=>CK _ _ h) (fun i v hv=>⟨De hM2 (fun d hd=>hσ' d (hmem d (Oj (ht1p kx i v hv) hd))) (hA3 i v hv),hnof v (ht1p kx i v hv)⟩) (fun m b hb=>by
   obtain ⟨h3,h4⟩:=hh x m b hb
   rcases h3 with h3 | ⟨rfl,h3⟩
   ·exact ⟨(hpne m h3.1).1,h4,.inr ⟨m,_,hXBp m h3.1,by rw [hσ' m h3.1]⟩⟩
   refine ⟨hrf,h4,?_⟩
   cases hn:(σ' m).nil with
   | true=>exact .inl rfl
   | false=>exact .inr ⟨fid,fl,hXBfid,hfl4 ⟨⟨b,hb⟩,hn⟩⟩)
  refine wpIn_mono (hbody l W MM XB kx j x (fun m z hz=>Hl ((hXBf m z hz).elim (fun h=>by rw [h.1];exact List.mem_cons_self ..) fun h=>List.mem_cons_of_mem _ (Ex h.2.1))) hjn hinv MM _ a' W hin) ?_
  rintro e a2 W' ⟨s',M3,σ3,⟨rfl,y,hy1,hy2,hy3⟩,hr⟩
  have hσ3:∀ m,A6 pids m=true->σ3 m=σ m:=fun m hmm=>(hr.pin m _ (hXBp m hmm)).2
  obtain ⟨k1,k2,k3,k4⟩:=step h1M hCM hr hy3 (fun b hb=>by
   obtain ⟨m,z,hz,hzb⟩:=hb
   rcases hXBf m z hz with ⟨rfl,rfl⟩ | ⟨h3,h4,rfl⟩
   ·rcases hfl3 with h5 | ⟨h5,h6⟩
    ·exact .inl ⟨q,hq,by rw [<- h5];exact hzb⟩
    exact .inr ⟨h5.1,h5.2,by rw [<- h6];exact hzb⟩
   exact .inl ⟨m,h4,hzb⟩) hσ3
  exact ⟨rfl,k1,k2,y,_,σ3,k3,k4,hy1,hy2 (by rw [hkx]) hfm,Nat.le_trans hws hr.size⟩
 case done =>
  rintro D W hD ⟨x,M',σ',h1,h2,hinv,hfm,hws⟩ hK
  refine ⟨⟨t0,H x⟩,_,σ',hdone x hinv hfm,cS h1 hK ?_ (Nat.le_trans hs.size hD) (fun d' hd' e => ?_) (fun m x hx=>by rw [hX0] at hx;cases hx) (fun b hb => ?_) (fun ⟨m,x,h3,_⟩=>by rw [hX0] at h3;cases h3)⟩
  ·cases h0D:M0 D with
   | none=>rfl
   | some o=>have:=hlt D o (hs.sub D o h0D);omega
  ·obtain ⟨D',h3,h4⟩:=YY hs.defers.1 hd'
   rw [h3] at e
   injection e with e1 _
   injection e1 with e1
   subst e1
   have:=hlt _ _ h4
   omega
  obtain ⟨m,hmm,rfl⟩:=(hXPi b).1 hb
  obtain ⟨bk,hbk,_⟩:=hPb x0 m hmm
  rcases hs.loc m bk hbk with h | ⟨_,h⟩
  ·rw [(hPn hs m hmm).1] at h;cases h
  exact h
end
end
section
open Go.RowKit
section
variable {P:Program} {N:Nat} {W0:World} {X:Nat→Option Loc} {M0:Nat→Option Obj}
theorem Pa {ι:Type} {Q:Exit->AS->Prop} {g:Operand} {ps:Array Tmp} {assign body:Code} {t0:List (Nat×Tv)} (pids:List Nat) (fid q off r:Nat) {gf:FuncId} {k:Nat} {caps:Nat->Cl} {n:Nat} {E:Fin n->List Av} (H:ι->List (Nat×Blk)) (t1:Fin n->List (Nat×Tv)) (Inv Fm:Nat->ι->Prop) (x0:ι)
  (hX0:∀ m,X m=none) (hg:evT (get t0) g=some (.av (.one (.clo gf k caps)))) (hcd:(Cl.clo gf k caps).dv=true) (eg:∀ args w,(callFunc gf args).run P w=.ok (.enter gf args) w)
  (It:JW P gf k caps n E) (hck:Xv N pids fid q r t0 ps=true) (hfam:∀ x,famB pids fid q off r (H x)=true) (hE:∀ x,(E x).length=ps.size) (hEd:∀ x,(E x).all Av.dv=true) (hm:∀ x,HsN (H x))
  (ht1:∀ x,TsM (t1 x)) (ht1p:∀ x,(t1 x).all (fun p=>pvT pids p.2)=true) (hI0:Inv 0 x0) (hF0:Fm 0 x0)
  (hassign:∀ l W1 M1 X1 k j x,Inv j x->PXr pids r (∃ bb,get (H x) r=some bb) X1->AWp P (some l) N W1 X1 M1 assign (fun e s'=>e=.normal/\s'=⟨t1 k,H x⟩) ⟨P5 t0 ps.toList (E k),H x⟩)
  (hbody:∀ l W1 M1 X1 (k:Fin n) j x,(∀ m z,X1 m=some z->A6 (fid::pids) m=true)->j<n->Inv j x->AWp P (some l) N W1 X1 M1 body (fun e s'=>e=.normal/\∃ y,Inv (j+1) y/\(k.val=j->Fm j x->Fm (j+1) y)/\∀ m b,get (H y) m=some b->get s'.h m=some b) ⟨t1 k,H x⟩)
  (hdone:∀ x,Inv n x->Fm n x->Q .normal ⟨t0,H x⟩):AWp P none N W0 X M0 (.rangeFunc g ps assign body) Q ⟨t0,H x0⟩:=by
 unfold Xv at hck
 simp only [Bool.and_eq_true,Bool.not_eq_true'] at hck
 obtain ⟨c1,c2,c3,c4,c5,c6,c7,c8,c9⟩:=hck
 have hpv:∀ i v,get t0 i=some v->pvT pids v=true:=fun i v hv=>List.all_eq_true.1 c1 (i,v) (Cz hv)
 have hno:∀ v:Tv,pvT pids v=true->v.no fid=true:=fun v h=>by
  cases hn:v.no fid with
  | true=>rfl
  | false=>have:=Hl (Oj h hn);rw [c3] at this;cases this
 have hf:∀ x,(∀ m b,get (H x) m=some b->((A6 pids m=true/\b.isP=true)\/(m=r/\b.isR=true))/\b.no fid=true)/\(∀ m,A6 pids m=true->∃ b,get (H x) m=some b)/\PG q off r (H x)=true:=fun x=>by
  have h:=hfam x
  unfold famB at h
  simp only [Bool.and_eq_true] at h
  obtain ⟨h1,h2,h3⟩:=h
  refine ⟨fun m b hb => ?_,fun m hmm=>Option.isSome_iff_exists.1 (List.all_eq_true.1 h2 m (Ex hmm)),h3⟩
  have:=List.all_eq_true.1 h1 (m,b) (Cz hb)
  simp only [Bool.and_eq_true,Bool.or_eq_true] at this
  exact ⟨this.1.imp id fun h=>⟨Nat.eq_of_beq_eq_true h.1,h.2⟩,this.2⟩
 exact Zn pids fid q off r H t1 Inv Fm x0 hX0 hg hcd eg It hE (fun p hp=>Nat.le_of_ble_eq_true (List.all_eq_true.1 c9 p hp)) hpv (fun x=>(hf x).1) (fun x=>(hf x).2.1) c3 c4 (fun e=>by rw [e,Nat.beq_refl] at c5;cases c5) (Nat.le_of_ble_eq_true c6) (Nat.le_of_ble_eq_true c7) (fun m hmm=>Nat.le_of_ble_eq_true (List.all_eq_true.1 c2 m hmm)) (fun m hmm=>Hl hmm) c8 (fun x i v hv=>T6 _ _ _ (fun j u hu=>hno u (hpv j u hu)) (hEd x) i v hv) (fun x=>(hf x).2.2) hm ht1 (fun x i v hv=>List.all_eq_true.1 (ht1p x) (i,v) (Cz hv)) hI0 hF0 hassign hbody hdone
end
section
variable {P:Program} {N:Nat} {Ow:World→Nat→Prop} {n0:Nat} {Q:IQ} {s:AS} {J:World→Prop} {al:Bool} {ops:Array Oper} {l:List Oper} {o:Oper}
theorem Yp {M:Nat->Option Obj} {σ:Nat->Loc} {w:World} {a:Act} {o:Oper} {c:Call} {f:Operand} {ly:Nat} {xs:List Av} {T:Nat->Option Tv} (hT:∀ i v,T i=some v->RT M σ v (a.tmps.getD i undef)) (ho:o.op=.call c) (hcf:c.callee=.value f) (hf:evT T f=some (.av (.one (.val (.func (.yield ly) #[] #[]))))) (hxs:Ep (evT T) c.args.toList=some xs)
  {R:Ending->World->Prop} (hY:∀ v:Array Value,L2 (RA M σ) xs v.toList->YieldAt (FW none) 0 P ly v w R) {K:Act->World->Prop} {Q:Exit->Act->World->Prop} (hK:∀ e w',R e w'->∃ V,e=.returned V/\K (a.put o.dst V) w'):o.wpIn (FW none) 0 P a w K Q:=by
 have hargs:=Ib (fun x v=>GL hT) _ _ hxs
 obtain ⟨fn,tmps,assign,body,hy,hR⟩:=hY (c.args.map a.eval) (by simpa using hargs)
 refine ⟨fun _ _=>trivial,?_⟩
 rw [Oper.semAt_eq _ _ _ (fun d h=>by rw [ho] at h;cases h)]
 have hfv:=(GL hT hf).1
 have hres:(execOp a.eval o).run P w=.ok (.round ly fn tmps assign body) w:=by
  simp only [execOp,ho,Sem.run_bind,resolve,hcf,hfv,Deferred.ofValue]
  simpa [invoke] using hy
 rw [hres,Oper.uponIn_round]
 refine ⟨fun h=>(by cases h),?_⟩
 have h1:RoundIn (FW none) (0-1) P ly fn tmps assign body w R:=hR
 refine h1.mono ?_
 rintro e w' he
 obtain ⟨V,rfl,hk⟩:=hK e w' he
 exact hk
theorem Wv (hO:OwS Ow n0) (hgn:o.guard=none) {c:Call} {f:Operand} {ly d:Nat} (xs:List Av) (ho:o.op=.call c) (hcf:c.callee=.value f)
  (hf:evT (get s.t) f=some (.av (.one (.val (.func (.yield ly) #[] #[]))))) (hxs:Ep (evT (get s.t)) c.args.toList=some xs) (hv:xs.all Av.dv=true) (hvm:∀ x∈xs,AvM x) (hod:o.dst=some d) (hdN:Nat.blt d N=true) (hT1:∀ i v,get s.t i=some v->v.dv=true/\TvM v)
  (hJg:∀ A B,J A->A.grownBy B none->J B) (Jt:World->Prop)
  (hY:∀ W v,J W->lJ (fun _=>none) Ow xs v W->YieldAt (FW none) 0 P ly v W (fun e W'=>e=.returned (.bool true)/\Jt W'/\KpS Ow W W')) (hh:s.h=[])
  (ht:IWL P N Ow n0 ops l Q ⟨(d,tB true)::s.t,[]⟩ Jt true):IWL P N Ow n0 ops (o::l) Q s J true:=by
 intro W0 M σ a w hJ hs
 refine wpListIn_step fun K0 hK' => ?_
 rw [if_pos (by simp [Region.wanted,hgn])]
 have hgrow:W0.grownBy w none:={ os:=hs.os,tape:=hs.tape,output:=hs.output,size:=hs.size,block:=fun b hb _=>hs.old b hb (Fv b) }
 have hiok:=hJ.2.2
 have hdN':d<N:=by have:=Nat.le_of_ble_eq_true hdN;omega
 have hst:∀ b,Ow w b->Ow W0 b:=hO.st W0 w (hiok rfl).1 fun b hb=>hs.old b hb (Fv b)
 have hput:∀ (b:Bool) (T:List (Nat×Tv)) (M':Nat->Option Obj) (σ':Nat->Loc),(∀ i v,get T i=some v->RT M' σ' v (a.tmps.getD i undef))->∀ i v,get ((d,tB b)::T) i=some v->RT M' σ' v ((a.put o.dst (.bool b)).tmps.getD i undef):=fun b T M' σ' hT i v hv=>by
  have hds:d<a.tmps.size:=by rw [hs.room];exact hdN'
  simp only [get,CI] at hv
  rw [hod]
  by_cases hi:d=i
  ·subst hi
   simp at hv;subst hv
   have:(a.put (some d) (.bool b)).tmps.getD d undef=.bool b:=by simp [Act.put,Array.getD_eq_getD_getElem?,hds]
   rw [this]
   exact ⟨rfl,rfl⟩
  simp [hi] at hv
  have:(a.put (some d) (.bool b)).tmps.getD i undef=a.tmps.getD i undef:=by simp [Act.put,Array.getD_eq_getD_getElem?,Array.getElem?_setIfInBounds,hi]
  rw [this];exact hT i v hv
 have hsize:∀ b:Bool,(a.put o.dst (.bool b)).tmps.size=N:=fun b=>by rw [hod];simpa [Act.put] using hs.room
 have hdef:∀ b:Bool,(a.put o.dst (.bool b)).defers=[]:=fun b=>by rw [hod];simpa [Act.put] using hJ.2.1
 refine Yp hs.tmps ho hcf hf hxs (fun v hL=>hY w v (hJg W0 w hJ.1 hgrow) ⟨TT M,by have:=hL.length;simpa using this,fun b o' hb=>⟨hs.imm b o' (Ei hb).1,(Ei hb).2,fun h=>(hiok rfl).2.2 b o' (Ei hb).1 (hst b h)⟩,fun MM _ hMM => ?_⟩) fun e w2 he => ?_
 ·refine hL.mono fun x hx u hu σ' => ?_
  have h1:RA M σ' x u:=G4 (r:=.av x) (List.all_eq_true.1 hv x hx) hu
  exact NW hMM (fun _ _=>rfl) (Tf Ku h1 (hvm x hx))
 obtain ⟨rfl,h5,h6⟩:=he
 refine ⟨_,rfl,hK' _ _ (ht w2 (TT M) σ _ w2 ⟨h5,hdef true,fun _=>⟨Nat.le_trans (hiok rfl).1 (Nat.le_trans hs.size h6.1),fun b h=>(h6.2.2 b h).elim (fun h7=>Nat.lt_of_lt_of_le ((hiok rfl).2.1 b (hst b h7)) (Nat.le_trans hs.size h6.1)) And.right,fun b o' h hw2 => ?_⟩⟩ ?_)⟩
 ·rcases h6.2.2 b hw2 with h7 | h7
  ·exact (hiok rfl).2.2 b o' (Ei h).1 (hst b h7)
  have:=(Array.getElem?_eq_some_iff.1 (hs.imm b o' (Ei h).1)).1;omega
 exact ⟨rfl,rfl,rfl,Nat.le_refl _,fun _ _ _=>rfl,fun _ _ h=>h,fun b o h h'=>(by rw [h] at h';cases h'),fun m x hx=>(by cases hx),⟨by rw [hdef true];trivial,fun _=>hdef true⟩,hsize true,hput true s.t (TT M) σ (fun i v hv=>XS Ku (hs.tmps i v hv) (hT1 i v hv).2),fun b o' h=>h6.2.1 b o' (hs.imm b o' (Ei h).1) (Ei h).2 fun h7=>(hiok rfl).2.2 b o' (Ei h).1 (hst b h7),fun n b hb=>(by cases hb),fun n b hb=>(by cases hb),fun n m b c hb=>(by cases hb)⟩
end
def IEndV (n:Nat) (JJ:Nat->World->Prop):IQ:=fun e s' J' al'=>(e=.ret\/e=.normal)/\J'=JJ n
theorem Uq {P:Program} {gf:FuncId} {fn:Func} {c:Code} (hf:P.funcs[gf]? = some fn) (hb:fn.body=some c) (hnr:fn.results.toList=[]) {k:Nat} {caps:Nat->Cl} {n:Nat} {E:Fin n->List Av} (hN:Nat.ble (k+1) fn.ntmps=true) (hcd:∀ i,i<k->(caps i).dv=true)
  (h:∀ (Ow:World->Nat->Prop) (n0 ly:Nat) (JJ:Nat->World->Prop),OwS Ow n0->(∀ j A B,JJ j A->A.grownBy B none->JJ j B) ->
   (∀ j (hj:j<n) W v,JJ j W->lJ (fun _=>none) Ow (E ⟨j,hj⟩) v W->YieldAt (FW none) 0 P ly v W (fun e W'=>e=.returned (.bool true)/\JJ (j+1) W'/\KpS Ow W W')) ->
   IWp P fn.ntmps Ow n0 c (IEndV n JJ) ⟨Et 0 (.one (.val (.func (.yield ly) #[] #[]))::D9 k caps),[]⟩ (JJ 0) true):JW P gf k caps n E:=by
 intro M w cs Ow himm hOs hOw hcs hcaps l J W hB hJ hY h0
 have hlt:∀ b o,M b=some o->b<w.heap.size:=fun b o hb=>(Array.getElem?_eq_some_iff.1 (himm b o hb)).1
 have himmW:∀ b o,M b=some o->W.heap[b]? = some o:=fun b o hb=>(hB.block b (hlt b o hb)).trans (himm b o hb)
 have hst:∀ b,Ow W b->Ow w b:=hOs.st w W (Nat.le_refl _) fun b hb=>hB.block b hb
 have hbody:=h Ow w.heap.size l J hOs hJ (fun j hj W1 v h1 ⟨Mj,e1,e2,e3⟩=>hY j v W1 hj h1 ⟨hj,Mj,e1,e2,fun MM _ h3=>e3 MM (fun _ _ h=>by cases h) h3⟩)
 obtain ⟨a0,ha0⟩:∃ a0:Act,a0={ tmps:=(#[Value.func (.yield l) #[] #[]]++cs)++Array.replicate (fn.ntmps-(#[Value.func (.yield l) #[] #[]]++cs).size) undef,defers:=[] }:=⟨_,rfl⟩
 have hs0:Sim fn.ntmps W noX M M (fun _=>⟨0,0,false⟩) (get (Et 0 (.one (.val (.func (.yield l) #[] #[]))::D9 k caps))) (get []) a0 W := ?hs0
 ·have hbod:=hbody W M (fun _=>⟨0,0,false⟩) a0 W ⟨h0,by rw [ha0],fun _=>⟨hB.size,fun b hb=>Nat.lt_of_lt_of_le (hOw b (hst b hb)).1 hB.size,fun b o hb ho=>by rw [(hOw b (hst b ho)).2] at hb;cases hb⟩⟩ hs0
  rw [ha0] at hbod
  refine callsIn_wide.2 (callsIn_wide.1 (callsIn_of_wp_marks (F:=FW none) (n:=0) hf hb trivial (wpIn_mono hbod ?_)))
  clear hbod hs0
  rintro e a' w' ⟨s',J',al',W0',M',σ',⟨he,rfl⟩,⟨hJ',hd,_⟩,hs'⟩
  have hgrow:W0'.grownBy w' none:={ os:=hs'.os,tape:=hs'.tape,output:=hs'.output,size:=hs'.size,block:=fun b hb _=>hs'.old b hb (Fv b) }
  obtain ⟨U,hU,_⟩:=Xs (P:=P) (fn:=fn) (r:=.tup []) hs' (by rw [hnr];rfl)
  have key:LeavesInM (FW none) 0 P fn a'.tmps (fun e W'=>(∃ v,e=.returned v)/\J n W') a'.defers .returning w':=by
   rw [hd]
   exact ⟨U,hU,⟨U,rfl⟩,hJ n W0' w' hJ' hgrow⟩
  rcases he with rfl | rfl
  ·exact key
  exact key
 case hs0 =>
  subst ha0
  have hsz:(#[Value.func (.yield l) #[] #[]]++cs).size=k+1:=by simp [hcs];omega
  have hNk:=Nat.le_of_ble_eq_true hN
  refine ⟨rfl,rfl,rfl,Nat.le_refl _,fun _ _ _=>rfl,fun _ _ h=>h,fun b o h h'=>(by rw [h] at h';cases h'),fun m x hx=>(by cases hx),Hx.nil,?_,fun i v hv => ?_,himmW,fun m b hb=>(by cases hb),fun m b hb=>(by cases hb),fun m m' b c hb=>(by cases hb)⟩
  ·simp only [Array.size_append,Array.size_replicate] at hsz ⊢
   omega
  obtain ⟨_,x,hx,rfl⟩:=Kj _ _ _ _ hv
  rw [Nat.sub_zero] at hx
  have hargs:L2 (RA M fun _=>⟨0,0,false⟩) (.one (.val (.func (.yield l) #[] #[]))::D9 k caps) (.func (.yield l) #[] #[]::cs.toList):=by
   refine .cons ⟨rfl,rfl⟩ (L2.of (by simp [D9,hcs]) fun i x y hx hy => ?_)
   have hi:i<k:=by have:=(List.getElem?_eq_some_iff.1 hx).1;simpa [D9] using this
   have:=(Ju (σ:=fun _=>⟨0,0,false⟩) (hcd i hi)).2 (hcaps i hi)
   simp only [D9,List.getElem?_map,List.getElem?_range hi,Option.map_some,Option.some.injEq] at hx
   subst hx
   have hy':cs.getD i undef=y:=by
    simp only [Array.getD_eq_getD_getElem?]
    rw [<- Array.getElem?_toList,hy];rfl
   rw [hy'] at this
   exact this
  obtain ⟨u,hu,hRu⟩:=hargs.get i x hx
  have:((#[Value.func (.yield l) #[] #[]]++cs)++Array.replicate (fn.ntmps-(#[Value.func (.yield l) #[] #[]]++cs).size) undef).getD i undef=u:=by
   have hu2:(#[Value.func (.yield l) #[] #[]]++cs)[i]? = some u:=by
    rw [<- Array.getElem?_toList]
    simpa using hu
   have hi:i<(#[Value.func (.yield l) #[] #[]]++cs).size:=(Array.getElem?_eq_some_iff.1 hu2).1
   rw [Array.getD_eq_getD_getElem?,Array.getElem?_append_left hi,hu2];rfl
  show RA M _ x _
  rw [this]
  exact hRu
theorem PE {P:Program} {N:Nat} {Ow:World->Nat->Prop} {n0:Nat} {Q:IQ} {s:AS} {J:World->Prop} {al:Bool} {c:Code} (ts:List Nat) (S:AS) (hS:J6 ts [] s=S) (h:IWp P N Ow n0 c Q S J al):IWp P N Ow n0 c Q s J al:=by
 subst hS
 exact fun W0 M σ a w hJ hs=>h W0 M σ a w hJ (F4 hs ts [])
theorem Ok {P:Program} {f:FuncId} {xs:List Av} {sz len:Nat} {F:Nat->Nat->Cl} {ty:TypeId} (h:Fr P f xs (.row sz len F ty) (fun d=>.av (.one (.own d sz len)))):Fo P f xs (.av (.one (.list false sz len F))):=by
 intro M σ w args himm hargs
 refine (h M σ w args himm hargs).mono ?_
 rintro en w' ⟨U,hU,M',x,hk,hx,hb,hR⟩
 refine ⟨U,hU,?_⟩
 have hV:R M' (fun _=>x) (.own 0 sz len) U:=hR (fun _=>x) 0 rfl
 unfold R at hV
 cases hn:x.nil with
 | true =>
  rw [hn] at hV
  obtain ⟨rfl,rfl⟩:len=0/\U=.slice none 0 0:=hV
  exact ⟨M',hk,fun σ'=>RC.nil _ _ _ rfl⟩
 | false =>
  rw [hn] at hV
  have hV:U=.slice (some ⟨x.b,0,none⟩) len x.cap:=hV
  subst hV
  obtain ⟨hx1,hx2⟩:w.heap.size<=x.b/\M' x.b=none:=by
   rcases hx with h0 | h0
   ·rw [hn] at h0;cases h0
   exact h0
  rcases hb (fun _=>x) with ⟨h0,_⟩ | ⟨_,c,hc,h1,h2,h3,g,hg⟩
  ·rw [hn] at h0;cases h0
  have key:∀ b o,M' b=some o->b≠x.b:=fun b o ho e=>by rw [e,hx2] at ho;cases ho
  refine ⟨fun b=>if b=x.b then some (.cells c ty) else M' b,⟨hk.os,hk.tape,hk.output,hk.size,hk.old,fun b o ho => ?_,fun b o ho h0 => ?_,fun b o ho => ?_⟩,fun σ' => ?_⟩
  ·have:=hk.sub b o ho
   simp only [if_neg (key b o this)];exact this
  ·by_cases e:b=x.b
   ·rw [e];exact hx1
   simp only [if_neg e] at ho;exact hk.new b o ho h0
  ·by_cases e:b=x.b
   ·simp only [if_pos e,Option.some.injEq] at ho;rw [e,<- ho];exact hc
   simp only [if_neg e] at ho;exact hk.imm b o ho
  show RC _ (.list false sz len F) _
  refine .list false sz len F x.b 0 x.cap g (fun i j hi hj => ?_) (fun i j hi hj=>ER (fun b o ho => ?_) (hg i j hi hj).2) h2 (fun h=>by cases h)
  ·simp only [Eo,if_pos]
   rw [Nat.zero_add]
   exact (hg i j hi hj).1
  simp only [if_neg (key b o ho)];exact ho
theorem Zc {P:Program} {gf:FuncId} {fn:Func} {c:Code} (hf:P.funcs[gf]? = some fn) (hb:fn.body=some c) (hnr:fn.results.toList=[]) {k:Nat} {caps:Nat->Cl} {n:Nat} {E:Fin n->List Av} (hE:∀ x,(E x).all Av.isV=true) (hE1:∀ x,∀ e∈E x,∀ c∈e.cells,c.toV.oneCell'=true) (hN:Nat.ble (k+1) fn.ntmps=true) (hcd:∀ i,i<k->(caps i).dv=true)
  (h:∀ (Ow:World->Nat->Prop) (n0 ly:Nat) (JJ Jx:Nat->World->Prop),OwS Ow n0->(∀ j A B,JJ j A->A.grownBy B none->JJ j B) ->
   (∀ j (hj:j<n) W,JJ j W->YieldAt (FW none) 0 P ly ((E ⟨j,hj⟩).map Av.toV).toArray W (fun e W'=>(e=.returned (.bool true)/\JJ (j+1) W'/\KpS Ow W W')\/(e=.returned (.bool false)/\Jx (j+1) W'))) ->
   IWp P fn.ntmps Ow n0 c (IEnd n JJ Jx) ⟨Et 0 (.one (.val (.func (.yield ly) #[] #[]))::D9 k caps),[]⟩ (JJ 0) true):JW P gf k caps n E :=
 Uq hf hb hnr hN hcd fun Ow n0 ly JJ hO hJ hY=>by
  have h1:=h Ow n0 ly JJ (fun _ _=>False) hO hJ (fun j hj W hW=>by
   obtain ⟨fn',tm,as',bd,hy,hR⟩:=hY j hj W ((E ⟨j,hj⟩).map Av.toV).toArray hW ⟨fun _=>none,by simp,(fun b o hb=>by cases hb),fun MM _ _=>by
    have e1:=hE ⟨j,hj⟩
    have e2:=hE1 ⟨j,hj⟩
    show L2 _ (E ⟨j,hj⟩) ((E ⟨j,hj⟩).map Av.toV)
    generalize E ⟨j,hj⟩=l at e1 e2 ⊢
    induction l with
    | nil=>exact .nil
    | cons e l ih =>
     simp only [List.all_cons,Bool.and_eq_true] at e1
     exact .cons (fun σ=>mW e1.1 (e2 e (List.mem_cons_self ..))) (ih e1.2 fun e he=>e2 e (List.mem_cons_of_mem _ he))⟩
   exact ⟨fn',tm,as',bd,hy,hR.mono fun e W' he=>.inl he⟩)
  intro W0 M σ a w hJ0 hs
  refine wpIn_mono (h1 W0 M σ a w hJ0 hs) ?_
  rintro e a' w' ⟨s',J',al',W0',M',σ',⟨he,hend⟩,hJ',hs'⟩
  rcases hend with rfl | ⟨j,hj,rfl⟩
  ·exact ⟨s',_,al',W0',M',σ',⟨he,rfl⟩,hJ',hs'⟩
  exact hJ'.1.elim
theorem Wx {P:Program} {gf:FuncId} {t:Bool} {sz len:Nat} {f:Nat->Nat->Cl} {k:Nat} {caps:Nat->Cl} {n:Nat} {E:Fin n->List Av} (E':(Nat->Nat->Value)->Fin n->List Av) (h0:caps 0=gR t sz len f) (hk:0<k)
  (hI:∀ g:Nat->Nat->Value,(∀ i j,i<len->j<sz->(g i j).oneCell'=true)->JW P gf k (fun i=>match i with | 0=>gR t sz len (fun i j=>.val (g i j)) | i+1=>caps (i+1)) n (E' g)) (hlen:∀ g x,(E' g x).length=(E x).length)
  (hE:∀ M g x (vs:List Value),(∀ i j,i<len->j<sz->RC M (f i j) (g i j))->L2 (fun e v=>∀ σ,RA M σ e v) (E' g x) vs->L2 (fun e v=>∀ σ,RA M σ e v) (E x) vs):JW P gf k caps n E:=by
 intro M w cs Ow himm hOs hOw hcs hcaps
 have h:=hcaps 0 hk
 rw [h0] at h
 obtain ⟨g,h1,h2⟩:=WM h
 have h3:=hI g (fun i j hi hj=>iF (h2 i j hi hj)) M w cs Ow himm hOs hOw hcs (fun i hi=>by
  cases i with
  | zero=>exact h1
  | succ i=>exact hcaps _ hi)
 intro l J W hB hJ hY hJ0
 exact h3 l J W hB hJ (fun j v A hj hJA ⟨hj',Mj,e1,e2,e3⟩=>hY j v A hj hJA ⟨hj',Mj,(hlen g _).symm.trans e1,e2,fun MM m1 m2=>hE MM g _ _ (fun i j hi hj=>ER m1 (h2 i j hi hj)) (e3 MM m1 m2)⟩) hJ0
theorem Wy {P:Program} {gf:FuncId} {k:Nat} {caps caps':Nat->Cl} {n:Nat} {E:Fin n->List Av} (h:∀ i,i<k->caps' i=caps i) (H:JW P gf k caps n E):JW P gf k caps' n E :=
 fun M w cs Ow a b c d e=>H M w cs Ow a b c d fun i hi=>by rw [<- h i hi];exact e i hi
theorem fD {P:Program} {N:Nat} {Ow:World->Nat->Prop} {n0:Nat} {Q:IQ} {s:AS} {J:World->Prop} {al:Bool} (hO:OwS Ow n0) {x y z:Code} (hdv:∀ i v,get s.t i=some v->v.dv=true) (hh:s.h=[])
  (h:∀ W0 X1 M1,(∀ k u,X1 k=some u->A6 [N] k=true)->AWp P none N W0 X1 M1 x (ATh (AWp P none N W0 X1 M1 y (fun e s'=>e=.normal/\∃ S,(∀ W2 M2,Cv N W2 noX M2 s' S)/\IWp P N Ow n0 z Q S J al)) (fun _ _=>False)) s):IWp P N Ow n0 (.seq x (.seq y z)) Q s J al:=by
 intro W0 M σ a w hJ hs
 have hX:∀ k u,M8 N W0.heap.size k=some u->A6 [N] k=true:=fun k u hk=>by rw [(PM hk).1];exact LJ _
 refine wpIn_seq (wpIn_mono (h W0 _ M hX M _ a w (Oa hdv hh hJ.2.1 hs)) ?_)
 rintro e a' w' ⟨s',M',σ',h1,h2⟩
 cases e with
 | normal =>
  refine wpIn_seq (wpIn_mono (h1 M' σ' a' w' h2) ?_)
  rintro e a2 w2 ⟨s2,M2,σ2,⟨rfl,S,h3,h4⟩,h5⟩
  have h6:=LO hJ.2.2 hO h5
  obtain ⟨hd,h7⟩:=Ke h5
  obtain ⟨M3,σ3,h8⟩:=h3 W0 M2 M2 σ2 a2 w2 h7
  exact h4 W0 M3 σ3 a2 w2 ⟨hJ.1,hd,LO h6 hO h8⟩ (T5 h8 hd)
 | _=>exact h1.elim
end
def CU (x0:AE) (x1:AE):AE:=AE.mk (W64 (x0.X+x1.X)) (W64 (x0.Y+x1.Y))
def FE (x0:AE) (x1:AE):CT:=(13,[.agg (AE.c x0),.agg (AE.c x1)],.val [] (.av (.agg (AE.c (CU x0 x1)))))
theorem Y7 (x0:AE) (x1:AE):PuP 13 (FE x0 x1).2.1 (.av (.agg (AE.c (CU x0 x1)))):=by
 refine pwf Try.func13 fun W0 M0 => ?_
 refine AB<|rn ⟨[(2,tP 2 0),(3,tP 3 0),(4,tP 4 0)],[(2,.cells (AE.c x0) 52),(3,.cells (AE.c x1) 52),(4,.cells [.i 0,.i 0] 52)]⟩<|AB ?_
 refine rn ⟨[(4,tP 4 0)],[(4,.cells [.i (W64 (x0.X+x1.X)),.i (W64 (x0.Y+x1.Y))] 52)]⟩<|Ac ?_
 exact xl (.av (.agg [.i (W64 (x0.X+x1.X)),.i (W64 (x0.Y+x1.Y))])) (Bz (by rfl))
theorem Kg (x0:AE) (x1:AE):OKc (FE x0 x1):=cPu<|Y7 x0 x1
def CG (x0:Int):Int:=Int.tmod (W64 ((Int.tmod x0 4)+4)) 4
def JN (x0:Int):CT:=(74,[.one (.i x0)],.val [] (.av (.one (.i (CG x0)))))
theorem au14 {p:Prop} (h:p:=by first | assumption | decide | omega):p:=h
theorem UI (x0:Int):PuP 74 (JN x0).2.1 (tO (.i (CG x0))):=by
 refine pwf Try.func74 fun W0 M0 => ?_
 refine AB<|rn ⟨[(0,tI x0)],[]⟩<|AB ?_
 refine rc [] [(4:Int)≠0,(4:Int)≠0] ⟨[(2,tI (Int.tmod (W64 ((Int.tmod x0 4)+4)) 4))],[]⟩ .nil (.cons au14 (.cons au14 .nil))<|AF<|Ac ?_
 exact xl (tO (.i (Int.tmod (W64 ((Int.tmod x0 4)+4)) 4))) (Bz (by rfl))
theorem Sr (x0:Int):OKc (JN x0):=cPu<|UI x0
def CS (x0:AE) (x1:Int):AE:=bif decide (((CG x1):Int)=1) then (AE.mk (W64 (0-x0.Y)) x0.X) else (bif decide (((CG x1):Int)=2) then (AE.mk (W64 (0-x0.X)) (W64 (0-x0.Y))) else (bif decide (((CG x1):Int)=3) then (AE.mk x0.Y (W64 (0-x0.X))) else (x0)))
def Ga (x0:AE) (x1:Int):CT:=(46,[.agg (AE.c x0),.one (.i x1)],.val [] (.av (.agg (AE.c (CS x0 x1)))))
theorem Sf (x0:AE) (x1:Int):PuP 46 (Ga x0 x1).2.1 (.av (.agg (AE.c (CS x0 x1)))):=by
 refine pwf Try.func46 fun W0 M0 => ?_
 refine AB<|rn ⟨[(1,tI x1),(2,tP 2 0),(4,tP 4 0)],[(2,.cells (AE.c x0) 52),(4,.cells [.i 0,.i 0] 52)]⟩ ?_
 refine AB<|AB ?_
 refine rs 6 (JN x1) ⟨[(2,tP 2 0),(4,tP 4 0),(6,tI (CG x1))],[(2,.cells (AE.c x0) 52),(4,.cells [.i 0,.i 0] 52)]⟩ (Sr x1)<|AF ?_
 refine AX<|AB ?_
 refine rn ⟨[(2,tP 2 0),(4,tP 4 0),(6,tI (CG x1)),(7,tB (decide (((CG x1):Int)=1)))],[(2,.cells (AE.c x0) 52),(4,.cells [.i 0,.i 0] 52)]⟩ ?_
 refine AL _ rfl (fun h1 => ?_) (fun h1 => ?_)
 ·refine AB<|rn ⟨[(4,tP 4 0)],[(4,.cells [.i (W64 (0-x0.Y)),.i x0.X] 52)]⟩ ?_
  refine Ac<|Cb<|Bf ?_
  exact xl (.av (.agg [.i (W64 (0-x0.Y)),.i x0.X])) (Bz (by simp only [CS,h1,cond_true,cond_false] <;> rfl))
 refine AB<|rn ⟨[(2,tP 2 0),(4,tP 4 0),(6,tI (CG x1)),(15,tB (decide (((CG x1):Int)=2)))],[(2,.cells (AE.c x0) 52),(4,.cells [.i 0,.i 0] 52)]⟩ ?_
 refine AL _ rfl (fun h2 => ?_) (fun h2 => ?_)
 ·refine AB<|rn ⟨[(4,tP 4 0)],[(4,.cells [.i (W64 (0-x0.X)),.i (W64 (0-x0.Y))] 52)]⟩ ?_
  refine Ac<|Cb<|Bf ?_
  exact xl (.av (.agg [.i (W64 (0-x0.X)),.i (W64 (0-x0.Y))])) (Bz (by simp only [CS,h1,h2,cond_true,cond_false] <;> rfl))
 refine AB<|rn ⟨[(2,tP 2 0),(4,tP 4 0),(24,tB (decide (((CG x1):Int)=3)))],[(2,.cells (AE.c x0) 52),(4,.cells [.i 0,.i 0] 52)]⟩ ?_
 refine AL _ rfl (fun h3 => ?_) (fun h3 => ?_)
 ·refine AB<|rn ⟨[(4,tP 4 0)],[(4,.cells [.i x0.Y,.i (W64 (0-x0.X))] 52)]⟩ ?_
  refine Ac<|Cb<|Bf ?_
  exact xl (.av (.agg [.i x0.Y,.i (W64 (0-x0.X))])) (Bz (by simp only [CS,h1,h2,h3,cond_true,cond_false] <;> rfl))
 refine Af<|A8 ?_
 refine AF<|AB ?_
 refine rn ⟨[(4,tP 4 0)],[(4,.cells (AE.c x0) 52)]⟩<|Ac ?_
 exact xl (.av (.agg (AE.c x0))) (Bz (by simp only [CS,h1,h2,h3,cond_true,cond_false] <;> rfl))
theorem Po (x0:AE) (x1:Int):OKc (Ga x0 x1):=cPu<|Sf x0 x1
def CE (x0:AE) (x1:Bool):AE:=AE.mk (bif x1 then (W64 (0-x0.X)) else x0.X) x0.Y
def FR (x0:AE) (x1:Bool):CT:=(47,[.agg (AE.c x0),.one (.b x1)],.val [] (.av (.agg (AE.c (CE x0 x1)))))
theorem Ol (x0:AE) (x1:Bool):PuP 47 (FR x0 x1).2.1 (.av (.agg (AE.c (CE x0 x1)))):=by
 refine pwf Try.func47 fun W0 M0 => ?_
 refine AB<|rn ⟨[(1,tB x1),(2,tP 2 0),(4,tP 4 0)],[(2,.cells (AE.c x0) 52),(4,.cells [.i 0,.i 0] 52)]⟩ ?_
 refine AB<|AB ?_
 refine rn ⟨[(2,tP 2 0),(4,tP 4 0),(5,tB x1)],[(2,.cells (AE.c x0) 52),(4,.cells [.i 0,.i 0] 52)]⟩ ?_
 refine CD (⟨[(2,tP 2 0),(4,tP 4 0)],[(2,.cells [.i (bif x1 then (W64 (0-x0.X)) else x0.X),.i x0.Y] 52),(4,.cells [.i 0,.i 0] 52)]⟩) ?_ ?_
 ·refine AL _ rfl (fun h1 => ?_) (fun h1 => ?_)
  ·refine rn ⟨[(2,tP 2 0),(4,tP 4 0)],[(2,.cells [.i (W64 (0-x0.X)),.i x0.Y] 52),(4,.cells [.i 0,.i 0] 52)]⟩ ?_
   refine BM ?_
   first | rfl | (simp only [h1,cond_true,cond_false] <;> rfl)
  refine Af<|AF ?_
  refine Cv.trans (ck (⟨[(2,tP 2 0),(4,tP 4 0)],[(2,.cells (AE.c x0) 52),(4,.cells [.i 0,.i 0] 52)]⟩)) (BM ?_)
  first | rfl | (simp only [h1,cond_true,cond_false] <;> rfl)
 refine AB<|rn ⟨[(4,tP 4 0)],[(4,.cells [.i (bif x1 then (W64 (0-x0.X)) else x0.X),.i x0.Y] 52)]⟩<|Ac ?_
 exact xl (.av (.agg [.i (bif x1 then (W64 (0-x0.X)) else x0.X),.i x0.Y])) (Bz (by rfl))
theorem NJ (x0:AE) (x1:Bool):OKc (FR x0 x1):=cPu<|Ol x0 x1
def Z09 (x1:AE) (x0:Al):AE:=CS (CE x1 x0.Mirror) x0.Turn
def Dj (x0:Al) (x1:AE):AE:=CU (Z09 x1 x0) x0.At
def D5 (x0:Al) (x1:AE):CT:=(17,[.agg (Al.c x0),.agg (AE.c x1)],.val [] (.av (.agg (AE.c (Dj x0 x1)))))
theorem UJ (x0:Al) (x1:AE):PuP 17 (D5 x0 x1).2.1 (.av (.agg (AE.c (Dj x0 x1)))):=by
 refine pwf Try.func17 fun W0 M0 => ?_
 refine AB<|rn ⟨[(2,tP 2 0),(3,tP 3 0),(4,tP 4 0)],[(2,.cells (Al.c x0) 66),(3,.cells (AE.c x1) 52),(4,.cells [.i 0,.i 0] 52)]⟩<|AB ?_
 refine dw [] [(8,FR x1 x0.Mirror),(11,Ga (CE x1 x0.Mirror) x0.Turn),(14,FE (Z09 x1 x0) x0.At)] [A0 (FR x1 x0.Mirror).2.1,A0 (Ga (CE x1 x0.Mirror) x0.Turn).2.1,A0 (FE (Z09 x1 x0) x0.At).2.1] ⟨[(4,tP 4 0)],[(4,.cells (AE.c (CU (Z09 x1 x0) x0.At)) 52)]⟩ (.cons (NJ x1 x0.Mirror) (.cons (Po (CE x1 x0.Mirror) x0.Turn) (.cons (Kg (Z09 x1 x0) x0.At) .nil))) (.cons rfl (.cons rfl (.cons rfl .nil)))<|AF<|Ac ?_
 exact xl (.av (.agg (AE.c (CU (Z09 x1 x0) x0.At)))) (Bz (by rfl))
theorem GX (x0:Al) (x1:AE):OKc (D5 x0 x1):=cPu<|UJ x0 x1
def Z0a (x2:Int) (x1:Int):AE:=Dj (Al.mk (AE.mk 0 0) x2 false) (AE.mk x1 0)
def Z0b (x3:Int) (x2:Int) (x1:Int):AE:=Dj (Al.mk (AE.mk 0 0) (bif decide ((x3:Int)=3) then (W64 (x2+3)) else (W64 (x2+1))) false) (AE.mk x1 0)
def FF (x0:AE) (x1:Int) (x2:Int) (x3:Int):AQ:=AQ.mk x3 (CU x0 (Z0a x2 x1)) (CU x0 (Z0b x3 x2 x1)) x0
def CP (x0:AE) (x1:Int) (x2:Int) (x3:Int):CT:=(79,[.agg (AE.c x0),.one (.i x1),.one (.i x2),.one (.i x3)],.val [] (.av (.agg (AQ.c (FF x0 x1 x2 x3)))))
theorem Y6 (x0:AE) (x1:Int) (x2:Int) (x3:Int):PuP 79 (CP x0 x1 x2 x3).2.1 (.av (.agg (AQ.c (FF x0 x1 x2 x3)))):=by
 refine pwf Try.func79 fun W0 M0 => ?_
 refine AB<|rn ⟨[(1,tI x1),(2,tI x2),(3,tI x3),(4,tP 4 0),(8,tP 8 0)],[(4,.cells (AE.c x0) 52),(8,.cells [.i 0,.i 0,.i 0,.i 0,.i 0,.i 0,.i 0] 133)]⟩<|AB ?_
 refine rs 16 (D5 (Al.mk (AE.mk 0 0) x2 false) (AE.mk x1 0)) ⟨[(1,tI x1),(2,tI x2),(3,tI x3),(4,tP 4 0),(8,tP 8 0),(9,tP 9 0)],[(4,.cells (AE.c x0) 52),(8,.cells [.i 0,.i 0,.i 0,.i 0,.i 0,.i 0,.i 0] 133),(9,.cells (AE.c (Z0a x2 x1)) 52)]⟩ (GX (Al.mk (AE.mk 0 0) x2 false) (AE.mk x1 0))<|AF<|AB ?_
 refine rn ⟨[(1,tI x1),(2,tI x2),(3,tI x3),(4,tP 4 0),(8,tP 8 0),(9,tP 9 0),(10,tI (W64 (x2+1)))],[(4,.cells (AE.c x0) 52),(8,.cells [.i 0,.i 0,.i 0,.i 0,.i 0,.i 0,.i 0] 133),(9,.cells (AE.c (Z0a x2 x1)) 52)]⟩ ?_
 refine AB<|AB ?_
 refine rn ⟨[(1,tI x1),(2,tI x2),(3,tI x3),(4,tP 4 0),(8,tP 8 0),(9,tP 9 0),(10,tI (W64 (x2+1))),(20,tB (decide ((x3:Int)=3)))],[(4,.cells (AE.c x0) 52),(8,.cells [.i 0,.i 0,.i 0,.i 0,.i 0,.i 0,.i 0] 133),(9,.cells (AE.c (Z0a x2 x1)) 52)]⟩ ?_
 refine CD (⟨[(1,tI x1),(3,tI x3),(4,tP 4 0),(8,tP 8 0),(9,tP 9 0),(10,tI (bif decide ((x3:Int)=3) then (W64 (x2+3)) else (W64 (x2+1))))],[(4,.cells (AE.c x0) 52),(8,.cells [.i 0,.i 0,.i 0,.i 0,.i 0,.i 0,.i 0] 133),(9,.cells (AE.c (Z0a x2 x1)) 52)]⟩) ?_ ?_
 ·refine AL _ rfl (fun h1 => ?_) (fun h1 => ?_)
  ·refine rn ⟨[(1,tI x1),(3,tI x3),(4,tP 4 0),(8,tP 8 0),(9,tP 9 0),(10,tI (W64 (x2+3)))],[(4,.cells (AE.c x0) 52),(8,.cells [.i 0,.i 0,.i 0,.i 0,.i 0,.i 0,.i 0] 133),(9,.cells (AE.c (Z0a x2 x1)) 52)]⟩ ?_
   refine BM ?_
   first | rfl | (simp only [h1,cond_true,cond_false] <;> rfl)
  refine Af<|AF ?_
  refine Cv.trans (ck (⟨[(1,tI x1),(3,tI x3),(4,tP 4 0),(8,tP 8 0),(9,tP 9 0),(10,tI (W64 (x2+1)))],[(4,.cells (AE.c x0) 52),(8,.cells [.i 0,.i 0,.i 0,.i 0,.i 0,.i 0,.i 0] 133),(9,.cells (AE.c (Z0a x2 x1)) 52)]⟩)) (BM ?_)
  first | rfl | (simp only [h1,cond_true,cond_false] <;> rfl)
 refine AB<|rs 27 (D5 (Al.mk (AE.mk 0 0) (bif decide ((x3:Int)=3) then (W64 (x2+3)) else (W64 (x2+1))) false) (AE.mk x1 0)) ⟨[(3,tI x3),(4,tP 4 0),(8,tP 8 0),(9,tP 9 0),(11,tP 11 0)],[(4,.cells (AE.c x0) 52),(8,.cells [.i 0,.i 0,.i 0,.i 0,.i 0,.i 0,.i 0] 133),(9,.cells (AE.c (Z0a x2 x1)) 52),(11,.cells (AE.c (Z0b x3 x2 x1)) 52)]⟩ (GX (Al.mk (AE.mk 0 0) (bif decide ((x3:Int)=3) then (W64 (x2+3)) else (W64 (x2+1))) false) (AE.mk x1 0))<|AF<|AB ?_
 refine dw [] [(31,FE x0 (Z0a x2 x1)),(34,FE x0 (Z0b x3 x2 x1))] [A0 (FE x0 (Z0a x2 x1)).2.1,A0 (FE x0 (Z0b x3 x2 x1)).2.1] ⟨[(8,tP 8 0)],[(8,.cells [.i x3,.i ((CU x0 (Z0a x2 x1)).X),.i ((CU x0 (Z0a x2 x1)).Y),.i ((CU x0 (Z0b x3 x2 x1)).X),.i ((CU x0 (Z0b x3 x2 x1)).Y),.i x0.X,.i x0.Y] 133)]⟩ (.cons (Kg x0 (Z0a x2 x1)) (.cons (Kg x0 (Z0b x3 x2 x1)) .nil)) (.cons rfl (.cons rfl .nil))<|AF<|Ac ?_
 exact xl (.av (.agg [.i x3,.i ((CU x0 (Z0a x2 x1)).X),.i ((CU x0 (Z0a x2 x1)).Y),.i ((CU x0 (Z0b x3 x2 x1)).X),.i ((CU x0 (Z0b x3 x2 x1)).Y),.i x0.X,.i x0.Y])) (Bz (by rfl))
theorem D8 (x0:AE) (x1:Int) (x2:Int) (x3:Int):OKc (CP x0 x1 x2 x3):=cPu<|Y6 x0 x1 x2 x3
def AK (n:Int) (m:Int):Int:=Int.tmod (W64 ((Int.tmod n m)+m)) m
def Ej (n:Int) (m:Int):CT:=(25,[.one (.i n),.one (.i m)],.val [] (.av (.one (.i (AK n m)))))
theorem pMod (n:Int) (m:Int) (hm:m≠0):PuP 25 (Ej n m).2.1 (tO (.i (AK n m))):=by
 refine pwf Try.func25 fun W0 M0 => ?_
 refine AB<|rn ⟨[(0,tI n),(1,tI m)],[]⟩<|AB ?_
 refine rc [] [(m:Int)≠0,(m:Int)≠0] ⟨[(4,tI (Int.tmod (W64 ((Int.tmod n m)+m)) m))],[]⟩ .nil (.cons au14 (.cons au14 .nil))<|AF<|Ac ?_
 exact xl (tO (.i (Int.tmod (W64 ((Int.tmod n m)+m)) m))) (Bz (by rfl))
theorem GR (n:Int) (m:Int) (hm:m≠0):OKc (Ej n m):=cPu<|pMod n m hm
def Br (d:AD):Prop:=0<=d.At/\d.At<=d.L.length/\(d.L.length:Int)<=9223372036854775807
def AA (d:AD) (n:Int):(Int×AD):=bif decide ((((d.L.length:Int)):Int)<=d.At) then ((0,d)) else ((AK (d.L.getD ((W64 ((W64 (d.At+1))-1)).toNat) default) n,AD.mk d.L (W64 (d.At+1))))
theorem au13 {p:Prop} (h:p:=by first | with_reducible assumption | omega | decide | (simp only [List.length_cons,List.length_nil,List.length_append];omega) | assumption):p:=h
theorem au1 {p:Prop} (h:p:=by first | decide | omega | exact JH (by first | omega | (simp only [EA];omega)) (by omega) | (simp only [EA];omega) | (constructor <;> omega) | (simp only [List.length_append,List.length_cons,List.length_nil];omega) | (simp only [List.length_append,List.length_cons,List.length_nil,List.length_drop,List.length_take] at *;omega)):p:=h
theorem Bj  (d:AD) (n:Int) (hd:Br d) (hn:n≠0):Wr Try.prog 54 1000 [.one (.ptr 1000 0),.one (.i n)] (.cells (AD.c d) 146) (tO (.i ((AA d n).1))) (.cells (AD.c ((AA d n).2)) 146):=by
 refine Hg Try.func54 rfl kr kr kr kr fun W0 M0 X hX => ?_
 obtain ⟨a1,a2,a3⟩:=hd
 refine AB<|rn ⟨[(0,tP 1000 0),(1,tI n)],[(1000,.cells (AD.c d) 146)]⟩ ?_
 refine AB<|AB ?_
 refine dw [] [] [] ⟨[(0,tP 1000 0),(1,tI n),(14,tB (decide ((((d.L.length:Int)):Int)<=d.At)))],[(1000,.cells (AD.c d) 146)]⟩ .nil .nil<|AF ?_
 refine AL _ rfl (fun h1 => ?_) (fun h1 => ?_)
 ·have g1:=oT h1
  refine AB<|rn ⟨[(4,tI 0)],[(1000,.cells (AD.c d) 146)]⟩ ?_
  refine Ac<|Bf ?_
  exact xl (tO (.i 0)) ⟨Bz (by simp only [AA,h1,cond_true,cond_false] <;> rfl),.cells (AD.c d) 146,by kernel_rfl,Dx (by first | (simp only [AA,h1,cond_true,cond_false];done) | (simp only [AA,h1,cond_true,cond_false];kernel_rfl))⟩
 have g1:=oF h1
 refine Af<|AF<|AB ?_
 refine rn ⟨[(0,tP 1000 0),(1,tI n)],[(1000,.cells [lst 1 eIn d.L,.i (W64 (d.At+1))] 146)]⟩<|AB ?_
 refine dw [] [(34,Ej (d.L.getD ((W64 ((W64 (d.At+1))-1)).toNat) default) n)] [0<=(W64 ((W64 (d.At+1))-1):Int)/\(W64 ((W64 (d.At+1))-1):Int)<((d.L.length:Nat):Int),A0 (Ej (d.L.getD ((W64 ((W64 (d.At+1))-1)).toNat) default) n).2.1] ⟨[(4,tI (AK (d.L.getD ((W64 ((W64 (d.At+1))-1)).toNat) default) n))],[(1000,.cells [lst 1 eIn d.L,.i (W64 (d.At+1))] 146)]⟩ (.cons (GR (d.L.getD ((W64 ((W64 (d.At+1))-1)).toNat) default) n au13) .nil) (.cons au1 (.cons rfl .nil))<|AF<|Ac ?_
 exact xl (tO (.i (AK (d.L.getD ((W64 ((W64 (d.At+1))-1)).toNat) default) n))) ⟨Bz (by simp only [AA,h1,cond_true,cond_false] <;> rfl),.cells [lst 1 eIn d.L,.i (W64 (d.At+1))] 146,by kernel_rfl,Dx (by first | (simp only [AA,h1,cond_true,cond_false];done) | (simp only [AA,h1,cond_true,cond_false];kernel_rfl))⟩
theorem C0 {l:List Int} (h:(l.length:Int)<=9223372036854775807):Br (AD.mk l 0):=⟨Int.le_refl _,by show (0:Int)<=(l.length:Int);omega,h⟩
theorem Be {d:AD} {n:Int} (h:Br d):Br (AA d n).2:=by
 obtain ⟨h1,h2,h3⟩:=h
 unfold AA
 by_cases hc:(d.L.length:Int)<=d.At
 ·simp only [hc,decide_true,cond_true];exact ⟨h1,h2,h3⟩
 simp only [hc,decide_false,cond_false]
 rw [A1 (by omega) (by omega)]
 exact ⟨by show 0<=d.At+1;omega,by show d.At+1<=(d.L.length:Int);omega,h3⟩
theorem Ik (n m:Int) (h0:0<m) (h1:m<=4611686018427387904):0<=AK n m/\AK n m<m:=by
 have e:AK n m=n % m:=by
  unfold AK W64
  rcases Int.lt_or_le n 0 with h | h
  ·have b1:=Int.emod_nonneg (-n) (show m≠0 by omega)
   have b2:=Int.emod_lt_of_pos (-n) h0
   rw [show n.tmod m = -((-n) % m) by rw [<- Int.tmod_eq_emod_of_nonneg (by omega),Int.neg_tmod,Int.neg_neg]]
   rw [IntKind.wrap_i64]
   rw [show (-((-n) % m)+m+9223372036854775808) % 18446744073709551616-9223372036854775808 = -((-n) % m)+m by omega]
   rw [Int.tmod_eq_emod_of_nonneg (by omega)]
   have e1:=Int.emod_add_mul_ediv (-n) m
   have e2 : -((-n) % m)+m=n+m*((-n)/m+1):=by grind
   rw [e2,Int.add_mul_emod_self_left]
  have b1:=Int.emod_nonneg n (show m≠0 by omega)
  have b2:=Int.emod_lt_of_pos n h0
  rw [Int.tmod_eq_emod_of_nonneg h,IntKind.wrap_i64]
  rw [show (n % m+m+9223372036854775808) % 18446744073709551616-9223372036854775808=n % m+m by omega]
  rw [Int.tmod_eq_emod_of_nonneg (by omega),Int.add_emod_right,Int.emod_emod_of_dvd _ (Int.dvd_refl m)]
 rw [e]
 exact ⟨Int.emod_nonneg n (by omega),Int.emod_lt_of_pos n h0⟩
theorem DU (d:AD) (n:Int) (h0:0<n) (h1:n<=4611686018427387904):0<=(AA d n).1/\(AA d n).1<n:=by
 unfold AA
 by_cases hc:(d.L.length:Int)<=d.At
 ·simp only [hc,decide_true,cond_true];omega
 simp only [hc,decide_false,cond_false]
 exact Ik _ n h0 h1
theorem S6 {v a:Int} {d:AD} {n:Int} (h:v<W64 (a+(AA d n).1)) (h0:0<n) (h1:n<=1000000) (ha:0<=a) (hb:a<=1000000):v<a+n:=by
 have:=DU d n h0 (by omega)
 rw [A1 (by omega) (by omega)] at h
 omega
theorem TK {v a:Int} {d:AD} {n:Int} (h:¬ v<W64 (a+(AA d n).1)) (h0:0<n) (h1:n<=1000000) (ha:0<=a) (hb:a<=1000000):W64 (a+(AA d n).1)<a+n:=by
 have:=DU d n h0 (by omega)
 rw [A1 (by omega) (by omega)]
 omega
theorem Ta {p q:Prop} [Decidable p] [Decidable q] (h:(bif decide p then decide q else false)=true):p/\q:=by
 by_cases hp:p
 ·rw [decide_eq_true hp] at h;exact ⟨hp,of_decide_eq_true h⟩
 rw [decide_eq_false hp] at h;cases h
theorem DD {c:Bool} {a b:AD} (ha:Br a) (hb:Br b):Br (bif c then a else b):=by cases c <;> assumption
theorem Je (d:AD) (n k:Int) (h0:0<n) (h1:n<=4611686018427387904) (h2:n<=k):0<=(AA d n).1/\(AA d n).1<k:=⟨(DU d n h0 h1).1,by have:=(DU d n h0 h1).2;omega⟩
def Ie (x:Int):Bool := !decide ((x:Int)=x)
def TS (x:Int):CT:=(88,[.one (.i x)],.val [] (.av (.one (.b (Ie x)))))
theorem nA (x:Int):PuP 88 (TS x).2.1 (tO (.b (Ie x))):=by
 refine pwf Try.func88 fun W0 M0 => ?_
 refine AB<|on<|AB ?_
 refine on<|Ac ?_
 exact zl
theorem X4 (x:Int):OKc (TS x):=cPu<|nA x
def FX (x:Int) (y:Int):Int:=bif Ie x then (bif Ie y then 0 else (-1)) else (bif Ie y then 1 else (bif decide ((x:Int)<y) then (-1) else (bif decide ((y:Int)<x) then 1 else 0)))
def PX (x:Int) (y:Int):CT:=(72,[.one (.i x),.one (.i y)],.val [] (.av (.one (.i (FX x y)))))
theorem dT (x:Int) (y:Int):PuP 72 (PX x y).2.1 (tO (.i (FX x y))):=by
 refine pwf Try.func72 fun W0 M0 => ?_
 refine AB<|on<|AB ?_
 refine oq 8 (TS x) (X4 x)<|AF<|AB ?_
 refine oq 10 (TS y) (X4 y)<|AF ?_
 refine AB<|AB ?_
 refine rn ⟨[(0,tI x),(1,tI y),(6,tB (Ie y)),(11,tB (Ie x))],[]⟩ ?_
 refine AL _ rfl (fun h1 => ?_) (fun h1 => ?_)
 ·refine AB<|AB ?_
  refine rn ⟨[(12,tB (Ie y))],[]⟩ ?_
  refine AL _ rfl (fun h2 => ?_) (fun h2 => ?_)
  ·refine AB<|on ?_
   refine Ac<|Bf<|Bf ?_
   exact zl (by simp only [FX,h1,h2,cond_true,cond_false] <;> kernel_rfl)
  refine Af<|AF<|AB ?_
  refine on ?_
  refine Ac<|Bf ?_
  exact zl (by simp only [FX,h1,h2,cond_true,cond_false] <;> kernel_rfl)
 refine Af<|AF ?_
 refine AB<|AB ?_
 refine rn ⟨[(0,tI x),(1,tI y),(13,tB (Ie y))],[]⟩ ?_
 refine AL _ rfl (fun h2 => ?_) (fun h2 => ?_)
 ·refine AB<|on ?_
  refine Ac<|Bf ?_
  exact zl (by simp only [FX,h1,h2,cond_true,cond_false] <;> kernel_rfl)
 refine Af<|AF ?_
 refine AB<|AB ?_
 refine rn ⟨[(0,tI x),(1,tI y),(16,tB (decide ((x:Int)<y)))],[]⟩ ?_
 refine AL _ rfl (fun h3 => ?_) (fun h3 => ?_)
 ·refine AB<|on ?_
  refine Ac<|Bf ?_
  exact zl (by simp only [FX,h1,h2,h3,cond_true,cond_false] <;> kernel_rfl)
 refine Af<|AF ?_
 refine AB<|AB ?_
 refine rn ⟨[(19,tB (decide ((y:Int)<x)))],[]⟩ ?_
 refine AL _ rfl (fun h4 => ?_) (fun h4 => ?_)
 ·refine AB<|on ?_
  refine Ac<|Bf ?_
  exact zl (by simp only [FX,h1,h2,h3,h4,cond_true,cond_false] <;> kernel_rfl)
 refine Af<|AF<|AB ?_
 refine on<|Ac ?_
 exact zl (by simp only [FX,h1,h2,h3,h4,cond_true,cond_false] <;> kernel_rfl)
theorem ZJ (x:Int) (y:Int):OKc (PX x y):=cPu<|dT x y
def Pj (x:AG) (y:AG):Int:=FX x.Id y.Id
def Ya (x:AG) (y:AG):CT:=(71,[.agg (AG.c x),.agg (AG.c y)],.val [] (.av (.one (.i (Pj x y)))))
theorem pcmpP (x:AG) (y:AG):PuP 71 (Ya x y).2.1 (tO (.i (Pj x y))):=by
 refine pwf Try.func71 fun W0 M0 => ?_
 refine AB<|on<|AB ?_
 refine oq 9 (PX x.Id y.Id) (ZJ x.Id y.Id)<|AF<|Ac ?_
 exact zl
theorem nY (x:AG) (y:AG):OKc (Ya x y):=cPu<|pcmpP x y
def G9 (l:(List AG)) (n:Int) (data:List AG) (i:Int) (K0:List AG->Int->(List AG)):Nat->List AG->Int->(List AG)
 | 0,_,_=>default
 | n1+1,data',j=>bif bif decide ((0:Int)<j) then decide (((Pj (data'.getD j.toNat default) (data'.getD (j-1).toNat default)):Int)<0) else false then ((G9 l n data i K0 n1) ((data'.set j.toNat (data'.getD (j-1).toNat default)).set (j-1).toNat (data'.getD j.toNat default)) (j-1)) else (K0 data' (i+1))
def Ec (l:(List AG)) (n:Int):Nat->List AG->Int->(List AG)
 | 0,_,_=>default
 | n0+1,data,i=>bif decide ((i:Int)<n) then (G9 l n data i (Ec l n n0) (i.toNat+1) data i) else data
def FG (l:(List AG)) (n:Int):(List AG):=Ec l n ((n-1).toNat+1) l 1
abbrev Gn (j:Int):Bool:=(decide ((0:Int)<j))
abbrev L1 (l:List AG):Cl:=.own 1000 7 l.length
abbrev VO (data':List AG) (j:Int):=data'.set j.toNat (data'.getD (j-1).toNat default)
theorem pInsP (l:(List AG)) (n:Int) (hn:n=(l.length:Int)) (hl:l.length<20):WrR Try.prog 93 1000 [.one (.own 1000 7 l.length),.one (.i 0),.one (.i n),.one (.clo 71 0 dfc)] 7 l.length (AP AG.c l) 59 (.tup []) (AP AG.c (FG l n)):=by
 refine Ka Try.func93 rfl kr kr kr fun W0 M0 X hX => ?_
 refine AB<|rn ⟨[(0,tO (L1 l)),(1,tI 0),(2,tI n),(3,.av (.one (.clo 71 0 dfc))),(8,tI 1)],[(1000,.row 7 l.length (AP AG.c l) 59)]⟩<|AX ?_
 refine Bc (ι:=Nat×List AG×Int) (fun x=>⟨[(0,tO (.own 1000 7 x.2.1.length)),(1,tI 0),(2,tI n),(3,.av (.one (.clo 71 0 dfc))),(8,tI x.2.2)],[(1000,.row 7 x.2.1.length (AP AG.c x.2.1) 59)]⟩) (fun x=>(n-x.2.2).toNat<x.1/\(1<=x.2.2/\x.2.1.length=l.length/\1<=x.2.2/\(x.2.2<=n\/x.2.2=1))/\Ec l n x.1 x.2.1 x.2.2=FG l n) (fun x=>x.1) ?_ ((n-1).toNat+1,l,1) ⟨Nat.lt_succ_self _,⟨ax0,ax0,ax0,ax0⟩,(by simp only [FG,cond_true,cond_false])⟩
 rintro ⟨n0,data,i⟩ ⟨hm0,hinv0,hF0⟩
 try dsimp only at hm0 hinv0 hF0
 cases n0 with | zero=>exact nz hm0 | succ n0 => ?_
 refine AB<|AB ?_
 refine rn ⟨[(0,tO (.own 1000 7 data.length)),(1,tI 0),(2,tI n),(3,.av (.one (.clo 71 0 dfc))),(8,tI i),(14,tB (decide ((i:Int)<n)))],[(1000,.row 7 data.length (AP AG.c data) 59)]⟩ ?_
 refine AL _ rfl (fun h1 => ?_) (fun h1 => ?_)
 ·have g1:=oT h1
  refine Af<|AF ?_
  refine AB<|AX<|AB ?_
  refine rn ⟨[(0,tO (.own 1000 7 data.length)),(1,tI 0),(2,tI n),(3,.av (.one (.clo 71 0 dfc))),(8,tI i),(9,tI i)],[(1000,.row 7 data.length (AP AG.c data) 59)]⟩<|AX ?_
  refine Bc (ι:=Nat×List AG×Int) (fun x=>⟨[(0,tO (.own 1000 7 x.2.1.length)),(1,tI 0),(2,tI n),(3,.av (.one (.clo 71 0 dfc))),(8,tI i),(9,tI x.2.2)],[(1000,.row 7 x.2.1.length (AP AG.c x.2.1) 59)]⟩) (fun x=>x.2.2.toNat<x.1/\(0<=x.2.2/\x.2.1.length=l.length/\x.2.2<n)/\G9 l n data i (Ec l n n0) x.1 x.2.1 x.2.2=FG l n) (fun x=>x.1) ?_ (i.toNat+1,data,i) ⟨Nat.lt_succ_self _,⟨ax0,ax0,ax0⟩,(by rw [<- hF0];simp only [Ec,h1,cond_true,cond_false])⟩
  rintro ⟨n1,data',j⟩ ⟨hm1,hinv1,hF1⟩
  try dsimp only at hm1 hinv1 hF1
  cases n1 with | zero=>exact nz hm1 | succ n1 => ?_
  refine AB<|AB ?_
  refine dw [] [(32,Ya (data'.getD j.toNat default) (data'.getD (W64 (j-1)).toNat default))] (t2 (Gn j) ((gk (Gn j) (0<=(j:Int)/\(j:Int)<((data'.length:Nat):Int)))::(gt (Gn j))::(gk (Gn j) (j.toNat<data'.length))::(t3 (Gn j) ((gk (Gn j) (0<=(W64 (j-1):Int)/\(W64 (j-1):Int)<((data'.length:Nat):Int)))::(gt (Gn j))::(gk (Gn j) ((W64 (j-1)).toNat<data'.length))::(t3 (Gn j) ((gk (Gn j) (A0 (Ya (data'.getD j.toNat default) (data'.getD (W64 (j-1)).toNat default)).2.1))::(t2 (Gn j) []))))))) ⟨[(0,tO (.own 1000 7 data'.length)),(1,tI 0),(2,tI n),(3,.av (.one (.clo 71 0 dfc))),(8,tI i),(9,tI j),(34,tB (bif decide ((0:Int)<j) then decide (((Pj (data'.getD j.toNat default) (data'.getD (W64 (j-1)).toNat default)):Int)<0) else false))],[(1000,.row 7 data'.length (AP AG.c data') 59)]⟩ (.cons (nY (data'.getD j.toNat default) (data'.getD (W64 (j-1)).toNat default)) .nil) (c2 (.cons (fun hG=>by first | exact au1 | (simp only [decide_eq_true_eq,decide_eq_false_iff_not,Bool.not_eq_true,Bool.and_eq_true] at hG <;> omega) | (simp at hG <;> omega) | (simp only [decide_eq_true_eq,decide_eq_false_iff_not] at hG;simp only [EA];omega)) (ci (.cons (fun hG=>by first | exact au1 | (simp only [decide_eq_true_eq,decide_eq_false_iff_not,Bool.not_eq_true,Bool.and_eq_true] at hG <;> omega) | (simp at hG <;> omega) | (simp only [decide_eq_true_eq,decide_eq_false_iff_not] at hG;simp only [EA];omega)) (c3 (.cons (fun hG=>by first | exact au1 | (simp only [decide_eq_true_eq,decide_eq_false_iff_not,Bool.not_eq_true,Bool.and_eq_true] at hG <;> omega) | (simp at hG <;> omega) | (simp only [decide_eq_true_eq,decide_eq_false_iff_not] at hG;simp only [EA];omega)) (ci (.cons (fun hG=>by first | exact au1 | (simp only [decide_eq_true_eq,decide_eq_false_iff_not,Bool.not_eq_true,Bool.and_eq_true] at hG <;> omega) | (simp at hG <;> omega) | (simp only [decide_eq_true_eq,decide_eq_false_iff_not] at hG;simp only [EA];omega)) (c3 (.cons (fun _=>rfl) (c2 .nil))))))))))) ?_
  (try rw [(show W64 (j-1)=j-1 from A1 oM oM)])
  refine AF ?_
  refine AL _ rfl (fun h2 => ?_) (fun h2 => ?_)
  ·have g2:=Ta h2
   refine Af<|AF ?_
   refine AB<|AX ?_
   refine dw [] [] [0<=(W64 (j-1):Int)/\(W64 (j-1):Int)<((data'.length:Nat):Int),(W64 (j-1)).toNat<data'.length,0<=(j:Int)/\(j:Int)<((data'.length:Nat):Int),j.toNat<data'.length,0<=(j:Int)/\(j:Int)<((data'.length:Nat):Int),j.toNat<data'.length,0<=(W64 (j-1):Int)/\(W64 (j-1):Int)<((data'.length:Nat):Int),(W64 (j-1)).toNat<data'.length] ⟨[(0,tO (.own 1000 7 data'.length)),(1,tI 0),(2,tI n),(3,.av (.one (.clo 71 0 dfc))),(8,tI i),(9,tI j)],[(1000,.row 7 data'.length (fun i_ j_=>if i_=(W64 (j-1)).toNat/\0<=j_/\j_<0+7 then ((AG.c (data'.getD j.toNat default)):List Cl).getD (j_-0) default else (fun i_ j_=>if i_=j.toNat/\0<=j_/\j_<0+7 then ((AG.c (data'.getD (W64 (j-1)).toNat default)):List Cl).getD (j_-0) default else (AP AG.c data') i_ j_) i_ j_) 59)]⟩ .nil (.cons au1 (.cons au1 (.cons au1 (.cons au1 (.cons au1 (.cons au1 (.cons au1 (.cons au1 .nil)))))))) ?_
   (try rw [(show W64 (j-1)=j-1 from A1 oM oM)])
   refine A8<|AF ?_
   refine Aq (Cr 1000 (EC (l:=(AG.c (data'.getD j.toNat default))) (off:=0) (q:=7) (k:=(j-1).toNat) (EC (l:=(AG.c (data'.getD (j-1).toNat default))) (off:=0) (q:=7) (k:=j.toNat) (An 7 AG.c data') au1 (data'.getD (j-1).toNat default) (Dq kr)) au1 (data'.getD j.toNat default) (Dq kr))) ?_
   refine rg ⟨[(0,tO (.own 1000 7 ((VO data' j).set (j-1).toNat (data'.getD j.toNat default)).length)),(1,tI 0),(2,tI n),(3,.av (.one (.clo 71 0 dfc))),(8,tI i),(9,tI (W64 (j-1)))],[(1000,.row 7 ((VO data' j).set (j-1).toNat (data'.getD j.toNat default)).length (AP AG.c ((VO data' j).set (j-1).toNat (data'.getD j.toNat default))) 59)]⟩ ?_
   (try rw [(show W64 (j-1)=j-1 from A1 oM oM)])
   refine AF ?_
   refine ⟨(n1,(data'.set j.toNat (data'.getD (j-1).toNat default)).set (j-1).toNat (data'.getD j.toNat default),j-1),⟨?_,?_,(by rw [<- hF1];simp only [G9,h2,cond_true,cond_false])⟩,Nat.lt_succ_self _,BM kr⟩
   ·show (j-1).toNat<n1;omega
   exact ⟨ax0,ax0,ax0⟩
  refine BU<|BE ?_
  refine BE<|BV ?_
  refine A8<|AF ?_
  refine rg ⟨[(0,tO (.own 1000 7 data'.length)),(1,tI 0),(2,tI n),(3,.av (.one (.clo 71 0 dfc))),(8,tI (W64 (i+1)))],[(1000,.row 7 data'.length (AP AG.c data') 59)]⟩ ?_
  (try rw [(show W64 (i+1)=i+1 from A1 oM oM)])
  refine AF ?_
  refine ⟨(n0,data',i+1),⟨?_,?_,(by rw [<- hF1];simp only [G9,h2,cond_true,cond_false])⟩,Nat.lt_succ_self _,BM kr⟩
  ·show (n-(i+1)).toNat<n0;omega
  exact ⟨ax0,ax0,ax0,ax0⟩
 have g1:=oF h1
 refine BU<|BE ?_
 refine BE<|BV ?_
 exact xn (.tup []) ⟨Bz rfl,.row 7 data.length (AP AG.c data) 59,by kernel_rfl,Kx (c:=AG.c) (xs:=data) (by rw [<- hF0];first | (simp only [Ec,h1,cond_true,cond_false] <;> rfl)) (by first | omega | (simp only [List.length_set];omega) | simp)⟩
theorem iJ (l:List AG) (n:Int) (hn:n=(l.length:Int)):FG l n=JG (fun x y=>decide (Pj x y<0)) l:=by
 unfold FG
 cases l with
 | nil=>subst hn;rfl
 | cons a l =>
  have h:=oY (fun x y=>decide (Pj x y<0)) (a::l) (Ec (a::l) n) id (fun m d i hi=>by
   rw [Ec,decide_eq_false (by omega),cond_false];rfl) (fun m i out rest x hi ho=>by
   rw [Ec,decide_eq_true (by omega),cond_true]
   have h1:=oX (fun x y=>decide (Pj x y<0)) (G9 (a::l) n (out++x::rest) i (Ec (a::l) n m)) (fun d=>Ec (a::l) n m d ((i:Int)+1)) (fun m d j=>by
    rw [G9,Int.toNat_natCast,show ((j:Int)-1).toNat=j-1 by omega]) out rest x i ((i:Int).toNat+1) (by omega) (by omega)
   subst ho
   rw [List.take_length,List.drop_length,List.nil_append] at h1
   rw [h1]
   unfold Wz
   rw [List.append_assoc];rfl) ((a::l).length-1) ((n-1).toNat+1) 1 rfl (by simp) (by omega)
  exact h
theorem Ml (l:List AG) (n:Int) (hn:n=(l.length:Int)) (hl:l.length<20):(FG l n).length=l.length:=by rw [iJ l n hn,PF]
abbrev Nz (l:List AG):Blk:=.row 7 l.length (AP AG.c l) 59
def Z0c (l:(List AG)) (n:Int):CT:=(93,([.one (L1 l),.one (.i 0),.one (.i n),.one (.clo 71 0 dfc)]:List Av).map (UF 1000 1000),wrI 1000 (Nz l) (.tup []) (.row 7 l.length (AP AG.c (FG l n)) 59))
def KD (l:(List AG)) (n:Int):(List AG):=FG l n
theorem pStaP (l:(List AG)) (n:Int) (hn:n=(l.length:Int)) (hl:l.length<20):WrR Try.prog 87 1000 [.one (.own 1000 7 l.length),.one (.i n),.one (.clo 71 0 dfc)] 7 l.length (AP AG.c l) 59 (.tup []) (AP AG.c (KD l n)):=by
 refine Ka Try.func87 rfl kr kr kr fun W0 M0 X hX => ?_
 refine AB<|on<|AB ?_
 refine rn ⟨[(0,tO (L1 l)),(1,tI n),(2,.av (.one (.clo 71 0 dfc))),(6,tI 20),(7,tI 0),(8,tI 20)],[(1000,.row 7 l.length (AP AG.c l) 59)]⟩ ?_
 refine AB<|AX ?_
 refine Dy 1 ?_
 refine B7<|AB<|AB ?_
 refine rn ⟨[(0,tO (L1 l)),(1,tI n),(2,.av (.one (.clo 71 0 dfc))),(6,tI 20),(7,tI 0),(8,tI 20),(13,tB (decide ((20:Int)<=n)))],[(1000,.row 7 l.length (AP AG.c l) 59)]⟩ ?_
 have h1:(decide ((20:Int)<=n))=false:=decide_eq_false oM
 have g1:=oF h1
 refine AL _ rfl (fun h=>absurd (h1.symm.trans h) (by decide)) (fun _ => ?_)
 refine BU<|BE ?_
 refine BE<|BV ?_
 refine AF<|AB ?_
 refine rb 27 (Z0c l n) (Nz l) ⟨[(0,tO (L1 l)),(1,tI n),(2,.av (.one (.clo 71 0 dfc))),(6,tI 20)],[(1000,.row 7 l.length (AP AG.c (FG l n)) 59)]⟩ (Kv (fun _ _=>kr) kr (pInsP l n au13 au13))<|AF ?_
 refine Aq (Cv.trans (Fx (⟨[(0,tO (.own 1000 7 (FG l n).length)),(1,tI n),(2,.av (.one (.clo 71 0 dfc))),(6,tI 20)],[(1000,.row 7 (FG l n).length (AP AG.c (FG l n)) 59)]⟩) 1000 (Sb 7 AG.c (FG l n) (Ml l n au13 au13))) (Cv.refl _))<|AX ?_
 refine Dy 1 ?_
 refine B7<|AB<|AB ?_
 refine rn ⟨[(0,tO (.own 1000 7 (FG l n).length)),(1,tI n),(2,.av (.one (.clo 71 0 dfc))),(6,tI 20),(30,tB (decide ((20:Int)<n)))],[(1000,.row 7 (FG l n).length (AP AG.c (FG l n)) 59)]⟩ ?_
 have h2:(decide ((20:Int)<n))=false:=decide_eq_false oM
 have g2:=oF h2
 refine AL _ rfl (fun h=>absurd (h2.symm.trans h) (by decide)) (fun _ => ?_)
 refine BU<|BE ?_
 refine BE<|BV ?_
 exact xn (.tup []) ⟨Bz rfl,.row 7 (FG l n).length (AP AG.c (FG l n)) 59,by kernel_rfl,Kx (c:=AG.c) (xs:=FG l n) (by simp only [KD,h1,h2,cond_true,cond_false] <;> rfl) (Ml l n hn hl)⟩
theorem Mg (l:List AG) (n:Int) (hn:n=(l.length:Int)) (hl:l.length<20):(KD l n).length=l.length:=Ml l n hn hl
def Z0d (l:(List AG)):CT:=(87,([.one (L1 l),.one (.i ((l.length:Nat):Int)),.one (.clo 71 0 dfc)]:List Av).map (UF 1000 1000),wrI 1000 (Nz l) (.tup []) (.row 7 l.length (AP AG.c (KD l ((l.length:Nat):Int))) 59))
def C3 (l:(List AG)):(List AG):=KD l ((l.length:Nat):Int)
theorem pSrtP (l:(List AG)) (hl:l.length<20):WrR Try.prog 70 1000 [.one (.own 1000 7 l.length),.one (.clo 71 0 dfc)] 7 l.length (AP AG.c l) 59 (.tup []) (AP AG.c (C3 l)):=by
 refine Ka Try.func70 rfl kr kr kr fun W0 M0 X hX => ?_
 refine rb 8 (Z0d l) (Nz l) ⟨[],[(1000,.row 7 l.length (AP AG.c (KD l ((l.length:Nat):Int))) 59)]⟩ (Kv (fun _ _=>kr) kr (pStaP l ((l.length:Nat):Int) au13 au13)) ?_
 exact yn (Cv.trans (Cr 1000 (Sb 7 AG.c (KD l ((l.length:Nat):Int)) (Mg l ((l.length:Nat):Int) au13 au13))) (Cv.refl _)) (.tup []) ⟨Bz rfl,.row 7 (KD l ((l.length:Nat):Int)).length (AP AG.c (KD l ((l.length:Nat):Int))) 59,by kernel_rfl,Kx (c:=AG.c) (xs:=KD l ((l.length:Nat):Int)) (by rfl) (Mg l _ rfl hl)⟩
theorem Qw (l:List AG) (hl:l.length<20):(C3 l).length=l.length:=Mg l _ rfl hl
section
open Go.RowKit
def VH (p:BJ):Prop:=(p.Shape.Edges.length:Int)<=1000000
def Kz (g:BL):Prop:=(g.Legs.length:Int)<=1000000
def Ky (t:AV):Prop:=(t.Pads.length:Int)<=1000000/\(t.Gates.length:Int)<=1000000/\(∀ p∈t.Pads,VH p)/\∀ g∈t.Gates,Kz g
def Cd (l:List AV):Prop:=(l.length:Int)<=1000000/\∀ t∈l,Ky t
theorem HI {α:Type} [Inhabited α] {p:α->Prop} {l:List α} (hd:p default) (h:∀ x∈l,p x) (k:Nat):p (l.getD k default):=by
 rw [List.getD_eq_getElem?_getD]
 cases hk:l[k]? with
 | none=>exact hd
 | some x=>exact h x (List.mem_of_getElem? hk)
theorem V9 {l:List AV} (h:Cd l) (k:Nat):Ky (l.getD k default):=HI (p:=Ky) ⟨by decide,by decide,(fun p hp=>by cases hp),fun p hp=>by cases hp⟩ h.2 k
theorem Ov {t:AV} (h:Ky t) (k:Nat):((t.Pads.getD k default).Shape.Edges.length:Int)<=1000000:=HI (p:=VH) (by unfold VH;decide) h.2.2.1 k
theorem Qb {t:AV} (h:Ky t) (k:Nat):((t.Gates.getD k default).Legs.length:Int)<=1000000:=HI (p:=Kz) (by unfold Kz;decide) h.2.2.2 k
theorem au3 {p:Prop} (h:p:=by first | (unfold maxLen;omega) | (unfold maxLen;simp only [List.length_append,List.length_cons,List.length_nil];omega) | first | omega | (simp only [List.length_append,List.length_cons,List.length_nil];omega) | (simp only [ZM,ZL,ZK];omega)):p:=h
theorem au0 {p:Prop} (h:p:=by first | (simp;done) | (simp;omega)):p:=h
theorem oO {p:Prop} (h:p:=by
 refine MO mp0 rfl kr (Ox _ _) fun W0 M0 => ?_
 refine AB<|on ?_
 refine AB<|AB ?_
 refine rn ⟨[(0,.av (.one (.list true mp1 l.length (AP mp2 l)))),(4,tB false)],[]⟩ ?_
 refine Dz kr<|Af ?_
 refine AF<|AB ?_
 refine C4 DV [5] [] [] [2] [7] [0=0,0+l.length<=maxLen,(0+l.length)*mp3<=140737488355328] ⟨[(2,tO (.own 7 mp1 (0+l.length)))],[(7,.row mp1 (0+l.length) (fun i_ j_=>if i_<0 then (As mp1 0 []) i_ j_ else (AP mp2 l) (i_-0) j_) mp4)]⟩ .nil kr (.cons rfl (.cons au3 (.cons au3 .nil)))<|AF ?_
 refine Aq (Cv.trans (BS (⟨[(2,tO (.own 7 mp1 l.length))],[(7,.row mp1 l.length (AP mp2 l) mp4)]⟩) (.cons ⟨rfl,.av (.one (.own _ _ au0))⟩ .nil) (.cons ⟨rfl,Ao mp4 (Au (Ae (c:=mp2) (xs:=(([]:List mp5):List mp5)) rfl kr) (An mp1 mp2 l))⟩ .nil)) (Cv.refl _))<|Ac ?_
 exact xl (tO (.own 7 mp1 l.length)) (frE (c:=mp2) (xs:=l) (by rfl) kr)):p:=h
section
 open Go.Proofs.Ytdbampcfmjbgmaa renaming nn7→mp1,AQ.c→mp2,ZL→mp3,lY→mp4,AQ→mp5
 open Go.Proofs.Try renaming func43→mp0
theorem dF (l:(List AQ)) (h0:(l.length:Int)<=1000000):Fr Try.prog 43 [.one (.list true 7 l.length (AP AQ.c l))] (.row 7 l.length (AP AQ.c l) 133) (fun d=>tO (.own d 7 l.length)):=oO
end
abbrev vN:Cl:=.val (.slice none 0 0)
theorem oN {p:Prop} (h:p:=by
 refine MO mp0 rfl kr (Ox _ _) fun W0 M0 => ?_
 cases l with
 | cons a l=>cases h0
 | nil =>
 refine AB<|on ?_
 refine AB<|AB ?_
 refine rn ⟨[(0,.av (.one vN)),(4,tB true)],[]⟩ ?_
 refine DZ kr<|AB ?_
 refine rn ⟨[(2,.av (.one vN))],[]⟩ ?_
 refine Ac<|Bf ?_
 exact yl (Cv.trans (vg 100000 mp1 (fun _ _=>default) mp2 [(2,[0])] [] hk0) (Cv.trans (Cr 100000 (CL mp1 (fun _ _=>default) mp3)) (Cv.refl _))) (tO (.own 100000 mp1 ([]:List mp4).length)) (frE (c:=mp3) (xs:=([]:List mp4)) (by rfl) kr)):p:=h
section
 open Go.Proofs.Ytdbampcfmjbgmaa renaming nn7→mp1,lY→mp2,AQ.c→mp3,AQ→mp4
 open Go.Proofs.Try renaming func43→mp0
theorem dG (l:(List AQ)) (h0:l.length=0):Fr Try.prog 43 [.one vN] (.row 7 l.length (AP AQ.c l) 133) (fun d=>tO (.own d 7 l.length)):=oN
end
variable (types xs:List AV) (v8:Int) (name:ByteArray) (v7_1:List BJ) (l:List AQ) (pad:ByteArray) (pin:AU) (v26 v49:Int)
def NU:CT:=(43,[.one (lst 7 AQ.c l)],.new [] (.row 7 l.length (AP AQ.c l) 133) (fun d=>.av (.one (.own d 7 l.length))))
theorem O2 (l:(List AQ)) (h0:(l.length:Int)<=1000000):OKc (NU l):=Qr (fun _ _=>kr) (W6 (fun hz=>dG l hz) (dF l h0))
section
 open Go.Proofs.Ytdbampcfmjbgmaa renaming nn2→mp1,Bw.c→mp2,ZM→mp3,lX→mp4,Bw→mp5
 open Go.Proofs.Try renaming func61→mp0
theorem dD (l:(List Bw)) (h0:(l.length:Int)<=1000000):Fr Try.prog 61 [.one (.list true 2 l.length (AP Bw.c l))] (.row 2 l.length (AP Bw.c l) 160) (fun d=>tO (.own d 2 l.length)):=oO
end
section
 open Go.Proofs.Ytdbampcfmjbgmaa renaming nn2→mp1,lX→mp2,Bw.c→mp3,Bw→mp4
 open Go.Proofs.Try renaming func61→mp0
theorem dE (l:(List Bw)) (h0:l.length=0):Fr Try.prog 61 [.one vN] (.row 2 l.length (AP Bw.c l) 160) (fun d=>tO (.own d 2 l.length)):=oN
end
section
 open Go.Proofs.Ytdbampcfmjbgmaa renaming nn7→mp1,AG.c→mp2,ZK→mp3,nn59→mp4,AG→mp5
 open Go.Proofs.Try renaming func69→mp0
theorem dB (l:(List AG)) (h0:(l.length:Int)<=1000000):Fr Try.prog 69 [.one (.list true 7 l.length (AP AG.c l))] (.row 7 l.length (AP AG.c l) 59) (fun d=>tO (.own d 7 l.length)):=oO
end
section
 open Go.Proofs.Ytdbampcfmjbgmaa renaming nn7→mp1,nn59→mp2,AG.c→mp3,AG→mp4
 open Go.Proofs.Try renaming func69→mp0
theorem dC (l:(List AG)) (h0:l.length=0):Fr Try.prog 69 [.one vN] (.row 7 l.length (AP AG.c l) 59) (fun d=>tO (.own d 7 l.length)):=oN
end
def Yb (l:(List AG)):CT:=(69,[.one (lst 7 AG.c l)],.new [] (Nz l) (fun d=>.av (.one (.own d 7 l.length))))
theorem eA (l:(List AG)) (h0:(l.length:Int)<=1000000):OKc (Yb l):=Qr (fun _ _=>kr) (W6 (fun hz=>dC l hz) (dB l h0))
def G6 (l:List Bw):List Bw:=l
def PV (l:List Bw):CT:=(61,[.one (lst 2 Bw.c l)],.val [] (.av (.one (lst 2 Bw.c (G6 l)))))
theorem ZI (l:List Bw) (h0:(l.length:Int)<=1000000):OKc (PV l):=cPu<|Ok (W6 (fun hz=>dE l hz) (dD l h0))
def GU (t:AV) (name:ByteArray):Bool:=(t.Name.toList==name.toList)
theorem pisTy  (t:AV) (name:ByteArray):Fo Try.prog 60 [.agg (AV.c t),.one (.eptr 1 1 (gD [.s name]) 0 0)] (tO (.b (GU t name))):=by
 refine pwf Try.func60 fun W0 M0 => ?_
 refine AB<|on<|AB ?_
 refine on<|Ac ?_
 exact zl
def Z0e:CT:=(60,[.agg (AV.c (xs.getD v8.toNat default)),.one (.eptr 1 1 (fun _ j_=>([.s name]:List Cl).getD j_ default) 0 0)],.val [] (tB (GU (xs.getD v8.toNat default) name)))
def F8 (xs:(List AV)) (name:ByteArray):Nat->Int->Int
 | 0,_=>default
 | n0+1,v8=>bif decide ((v8:Int)<(xs.length:Int)) then (bif GU (xs.getD v8.toNat default) name then v8 else ((F8 xs name n0) (v8+1))) else (-1)
def Ck (xs:(List AV)) (name:ByteArray):Int:=F8 xs name (((xs.length:Int)-0).toNat+1) 0
abbrev bQ:Nat×Tv:=(1,.av (.one (.clo 60 1 (Co [.eptr 1 1 (gD [.s name]) 0 0]))))
abbrev RB (t_:List (Nat×Tv)):List (Nat×Tv):=(0,tO (lst 3 AV.c xs))::(bQ name)::(7,tI (xs.length:Int))::t_
theorem au9 {p:Prop} (h:p:=by first | omega | (simp only [List.length_drop,List.length_take] at *;omega)):p:=h
theorem pixTy  (xs:(List AV)) (name:ByteArray) (hx:(xs.length:Int)<=9223372036854775807):Fo Try.prog 59 [.one (lst 3 AV.c xs),.one (.clo 60 1 (Co [.eptr 1 1 (gD [.s name]) 0 0]))] (tO (.i (Ck xs name))):=by
 refine pwf Try.func59 fun W0 M0 => ?_
 refine AB<|on ?_
 refine AB<|AB ?_
 refine rn ⟨(RB xs name [(8,tI 0)]),[]⟩<|AX ?_
 refine Bc (ι:=Nat×Int) (fun x=>⟨(RB xs name [(8,tI x.2)]),[]⟩) (fun x=>((xs.length:Int)-x.2).toNat<x.1/\(0<=x.2/\(x.2<=(xs.length:Int)\/x.2=0))/\F8 xs name x.1 x.2=Ck xs name) (fun x=>x.1) ?_ (((xs.length:Int)-0).toNat+1,0) ⟨Nat.lt_succ_self _,⟨ax0,ax0⟩,(by simp only [Ck,cond_true,cond_false])⟩
 rintro ⟨n0,v8⟩ ⟨hm0,hinv0,hF0⟩
 try dsimp only at hm0 hinv0 hF0
 cases n0 with | zero=>exact nz hm0 | succ n0 => ?_
 refine AB<|rn ⟨(RB xs name [(8,tI v8),(9,tB (decide ((v8:Int)<(xs.length:Int))))]),[]⟩<|AB ?_
 refine AL _ rfl (fun h1 => ?_) (fun h1 => ?_)
 ·have g1:=oT h1
  refine Af<|AF ?_
  refine AB<|AX<|AB ?_
  refine on<|AB ?_
  refine rc [(16,(Z0e xs v8 name))] [0<=(v8:Int)/\(v8:Int)<((xs.length:Nat):Int),A0 (Z0e xs v8 name).2.1] ⟨[(0,tO (lst 3 AV.c xs)),(bQ name),(5,tI v8),(7,tI (xs.length:Int)),(8,tI v8),(16,tB (GU (xs.getD v8.toNat default) name))],[]⟩ (.cons (cPu<|pisTy (xs.getD v8.toNat default) name) .nil) (.cons au1 (.cons rfl .nil))<|AF ?_
  refine AL _ rfl (fun h2 => ?_) (fun h2 => ?_)
  ·refine AB<|on ?_
   refine Ac<|Cb ?_
   refine Bf<|Bf ?_
   refine Cb<|Bf ?_
   exact zl (by rw [<- hF0];simp only [F8,h1,h2,cond_true,cond_false] <;> kernel_rfl)
  refine Af<|A8<|AF ?_
  refine rg ⟨(RB xs name [(8,tI (W64 (v8+1)))]),[]⟩ ?_
  (try rw [(show W64 (v8+1)=v8+1 from A1 oM au9)])
  refine AF ?_
  refine ⟨(n0,v8+1),⟨?_,?_,(by rw [<- hF0];simp only [F8,h1,h2,cond_true,cond_false])⟩,Nat.lt_succ_self _,BM kr⟩
  ·show ((xs.length:Int)-(v8+1)).toNat<n0;omega
  exact ⟨ax0,ax0⟩
 refine BU<|BE ?_
 refine BE<|BV ?_
 refine AF<|AB ?_
 refine on<|Ac ?_
 exact zl (by rw [<- hF0];simp only [F8,h1,cond_true,cond_false] <;> kernel_rfl)
def KC (p:BJ) (pad:ByteArray):Bool:=(p.Name.toList==pad.toList)
theorem pisPd  (p:BJ) (pad:ByteArray):Fo Try.prog 63 [.agg (BJ.c p),.one (.eptr 1 1 (gD [.s pad]) 0 0)] (tO (.b (KC p pad))):=by
 refine pwf Try.func63 fun W0 M0 => ?_
 refine AB<|on<|AB ?_
 refine on<|Ac ?_
 exact zl
def Z0f (xs:(List BJ)) (v8:Int) (pad:ByteArray):CT:=(63,[.agg (BJ.c (xs.getD v8.toNat default)),.one (.eptr 1 1 (fun _ j_=>([.s pad]:List Cl).getD j_ default) 0 0)],.val [] (tB (KC (xs.getD v8.toNat default) pad)))
def GA (xs:(List BJ)) (pad:ByteArray):Nat->Int->Int
 | 0,_=>default
 | n0+1,v8=>bif decide ((v8:Int)<(xs.length:Int)) then (bif KC (xs.getD v8.toNat default) pad then v8 else ((GA xs pad n0) (v8+1))) else (-1)
def GB (xs:(List BJ)) (pad:ByteArray):Int:=GA xs pad (((xs.length:Int)-0).toNat+1) 0
abbrev bU:Nat×Tv:=(1,.av (.one (.clo 63 1 (Co [.eptr 1 1 (gD [.s pad]) 0 0]))))
abbrev RD (xs:List BJ) (pad:ByteArray) (t_:List (Nat×Tv)):List (Nat×Tv):=(0,tO (lst 7 BJ.c xs))::(bU pad)::(7,tI (xs.length:Int))::t_
theorem pixPd  (xs:(List BJ)) (pad:ByteArray) (hx:(xs.length:Int)<=9223372036854775807):Fo Try.prog 62 [.one (lst 7 BJ.c xs),.one (.clo 63 1 (Co [.eptr 1 1 (gD [.s pad]) 0 0]))] (tO (.i (GB xs pad))):=by
 refine pwf Try.func62 fun W0 M0 => ?_
 refine AB<|on ?_
 refine AB<|AB ?_
 refine rn ⟨(RD xs pad [(8,tI 0)]),[]⟩<|AX ?_
 refine Bc (ι:=Nat×Int) (fun x=>⟨(RD xs pad [(8,tI x.2)]),[]⟩) (fun x=>((xs.length:Int)-x.2).toNat<x.1/\(0<=x.2/\(x.2<=(xs.length:Int)\/x.2=0))/\GA xs pad x.1 x.2=GB xs pad) (fun x=>x.1) ?_ (((xs.length:Int)-0).toNat+1,0) ⟨Nat.lt_succ_self _,⟨ax0,ax0⟩,(by simp only [GB,cond_true,cond_false])⟩
 rintro ⟨n0,v8⟩ ⟨hm0,hinv0,hF0⟩
 try dsimp only at hm0 hinv0 hF0
 cases n0 with | zero=>exact nz hm0 | succ n0 => ?_
 refine AB<|rn ⟨(RD xs pad [(8,tI v8),(9,tB (decide ((v8:Int)<(xs.length:Int))))]),[]⟩<|AB ?_
 refine AL _ rfl (fun h1 => ?_) (fun h1 => ?_)
 ·have g1:=oT h1
  refine Af<|AF ?_
  refine AB<|AX<|AB ?_
  refine on<|AB ?_
  refine rc [(16,(Z0f xs v8 pad))] [0<=(v8:Int)/\(v8:Int)<((xs.length:Nat):Int),A0 (Z0f xs v8 pad).2.1] ⟨[(0,tO (lst 7 BJ.c xs)),(bU pad),(5,tI v8),(7,tI (xs.length:Int)),(8,tI v8),(16,tB (KC (xs.getD v8.toNat default) pad))],[]⟩ (.cons (cPu<|pisPd (xs.getD v8.toNat default) pad) .nil) (.cons au1 (.cons rfl .nil))<|AF ?_
  refine AL _ rfl (fun h2 => ?_) (fun h2 => ?_)
  ·refine AB<|on ?_
   refine Ac<|Cb ?_
   refine Bf<|Bf ?_
   refine Cb<|Bf ?_
   exact zl (by rw [<- hF0];simp only [GA,h1,h2,cond_true,cond_false] <;> kernel_rfl)
  refine Af<|A8<|AF ?_
  refine rg ⟨(RD xs pad [(8,tI (W64 (v8+1)))]),[]⟩ ?_
  (try rw [(show W64 (v8+1)=v8+1 from A1 oM au9)])
  refine AF ?_
  refine ⟨(n0,v8+1),⟨?_,?_,(by rw [<- hF0];simp only [GA,h1,h2,cond_true,cond_false])⟩,Nat.lt_succ_self _,BM kr⟩
  ·show ((xs.length:Int)-(v8+1)).toNat<n0;omega
  exact ⟨ax0,ax0⟩
 refine BU<|BE ?_
 refine BE<|BV ?_
 refine AF<|AB ?_
 refine on<|Ac ?_
 exact zl (by rw [<- hF0];simp only [GA,h1,cond_true,cond_false] <;> kernel_rfl)
def KB (x:AG) (pin:AU):Bool:=(x.Ref.toList==pin.Ref.toList)
theorem pisPl  (x:AG) (pin:AU):Fo Try.prog 30 [.agg (AG.c x),.one (.eptr 2 1 (gD (AU.c pin)) 0 0)] (tO (.b (KB x pin))):=by
 refine pwf Try.func30 fun W0 M0 => ?_
 refine AB<|on<|AB ?_
 refine on<|Ac ?_
 exact zl
def Z0g (xs:(List AG)) (v8:Int) (pin:AU):CT:=(30,[.agg (AG.c (xs.getD v8.toNat default)),.one (.eptr 2 1 (fun _ j_=>((AU.c pin):List Cl).getD j_ default) 0 0)],.val [] (tB (KB (xs.getD v8.toNat default) pin)))
def F9 (xs:(List AG)) (pin:AU):Nat->Int->Int
 | 0,_=>default
 | n0+1,v8=>bif decide ((v8:Int)<(xs.length:Int)) then (bif KB (xs.getD v8.toNat default) pin then v8 else ((F9 xs pin n0) (v8+1))) else (-1)
def ES (xs:(List AG)) (pin:AU):Int:=F9 xs pin (((xs.length:Int)-0).toNat+1) 0
abbrev bV:Nat×Tv:=(1,.av (.one (.clo 30 1 (Co [.eptr 2 1 (gD (AU.c pin)) 0 0]))))
abbrev RH (xs:List AG) (pin:AU) (t_:List (Nat×Tv)):List (Nat×Tv):=(0,tO (lst 7 AG.c xs))::(bV pin)::(7,tI (xs.length:Int))::t_
theorem pixPl  (xs:(List AG)) (pin:AU) (hx:(xs.length:Int)<=9223372036854775807):Fo Try.prog 29 [.one (lst 7 AG.c xs),.one (.clo 30 1 (Co [.eptr 2 1 (gD (AU.c pin)) 0 0]))] (tO (.i (ES xs pin))):=by
 refine pwf Try.func29 fun W0 M0 => ?_
 refine AB<|on ?_
 refine AB<|AB ?_
 refine rn ⟨(RH xs pin [(8,tI 0)]),[]⟩<|AX ?_
 refine Bc (ι:=Nat×Int) (fun x=>⟨(RH xs pin [(8,tI x.2)]),[]⟩) (fun x=>((xs.length:Int)-x.2).toNat<x.1/\(0<=x.2/\(x.2<=(xs.length:Int)\/x.2=0))/\F9 xs pin x.1 x.2=ES xs pin) (fun x=>x.1) ?_ (((xs.length:Int)-0).toNat+1,0) ⟨Nat.lt_succ_self _,⟨ax0,ax0⟩,(by simp only [ES,cond_true,cond_false])⟩
 rintro ⟨n0,v8⟩ ⟨hm0,hinv0,hF0⟩
 try dsimp only at hm0 hinv0 hF0
 cases n0 with | zero=>exact nz hm0 | succ n0 => ?_
 refine AB<|rn ⟨(RH xs pin [(8,tI v8),(9,tB (decide ((v8:Int)<(xs.length:Int))))]),[]⟩<|AB ?_
 refine AL _ rfl (fun h1 => ?_) (fun h1 => ?_)
 ·have g1:=oT h1
  refine Af<|AF ?_
  refine AB<|AX<|AB ?_
  refine on<|AB ?_
  refine rc [(16,(Z0g xs v8 pin))] [0<=(v8:Int)/\(v8:Int)<((xs.length:Nat):Int),A0 (Z0g xs v8 pin).2.1] ⟨[(0,tO (lst 7 AG.c xs)),(bV pin),(5,tI v8),(7,tI (xs.length:Int)),(8,tI v8),(16,tB (KB (xs.getD v8.toNat default) pin))],[]⟩ (.cons (cPu<|pisPl (xs.getD v8.toNat default) pin) .nil) (.cons au1 (.cons rfl .nil))<|AF ?_
  refine AL _ rfl (fun h2 => ?_) (fun h2 => ?_)
  ·refine AB<|on ?_
   refine Ac<|Cb ?_
   refine Bf<|Bf ?_
   refine Cb<|Bf ?_
   exact zl (by rw [<- hF0];simp only [F9,h1,h2,cond_true,cond_false] <;> kernel_rfl)
  refine Af<|A8<|AF ?_
  refine rg ⟨(RH xs pin [(8,tI (W64 (v8+1)))]),[]⟩ ?_
  (try rw [(show W64 (v8+1)=v8+1 from A1 oM au9)])
  refine AF ?_
  refine ⟨(n0,v8+1),⟨?_,?_,(by rw [<- hF0];simp only [F9,h1,h2,cond_true,cond_false])⟩,Nat.lt_succ_self _,BM kr⟩
  ·show ((xs.length:Int)-(v8+1)).toNat<n0;omega
  exact ⟨ax0,ax0⟩
 refine BU<|BE ?_
 refine BE<|BV ?_
 refine AF<|AB ?_
 refine on<|Ac ?_
 exact zl (by rw [<- hF0];simp only [F9,h1,cond_true,cond_false] <;> kernel_rfl)
theorem Pi (xs:List AV) (c:ByteArray):Ck xs c=ixI (fun x=>GU x c) xs:=by
 unfold Ck
 have h:=YN (fun x=>GU x c) xs (F8 xs c) (fun m v=>by rw [F8,Int.toNat_natCast]) xs.length 0 (((xs.length:Int)-0).toNat+1) rfl (Nat.zero_le _) (by omega)
 rw [List.drop_zero] at h
 refine h.trans ?_
 unfold ixI
 cases xs.findIdx? (fun x=>GU x c) with
 | none=>rfl
 | some i=>simp
theorem oR {xs:List AV} {c:ByteArray} (h:¬ Ck xs c<0):0<=Ck xs c/\Ck xs c<(xs.length:Int):=by
 rw [Pi] at *
 exact YO h
theorem VK (xs:List BJ) (c:ByteArray):GB xs c=ixI (fun x=>KC x c) xs:=by
 unfold GB
 have h:=YN (fun x=>KC x c) xs (GA xs c) (fun m v=>by rw [GA,Int.toNat_natCast]) xs.length 0 (((xs.length:Int)-0).toNat+1) rfl (Nat.zero_le _) (by omega)
 rw [List.drop_zero] at h
 refine h.trans ?_
 unfold ixI
 cases xs.findIdx? (fun x=>KC x c) with
 | none=>rfl
 | some i=>simp
theorem oU {xs:List BJ} {c:ByteArray} (h:¬ GB xs c<0):0<=GB xs c/\GB xs c<(xs.length:Int):=by
 rw [VK] at *
 exact YO h
theorem VJ (xs:List AG) (c:AU):ES xs c=ixI (fun x=>KB x c) xs:=by
 unfold ES
 have h:=YN (fun x=>KB x c) xs (F9 xs c) (fun m v=>by rw [F9,Int.toNat_natCast]) xs.length 0 (((xs.length:Int)-0).toNat+1) rfl (Nat.zero_le _) (by omega)
 rw [List.drop_zero] at h
 refine h.trans ?_
 unfold ixI
 cases xs.findIdx? (fun x=>KB x c) with
 | none=>rfl
 | some i=>simp
theorem oS {xs:List AG} {c:AU} (h:¬ ES xs c<0):0<=ES xs c/\ES xs c<(xs.length:Int):=by
 rw [VJ] at *
 exact YO h
def Z0h:BL:=(types.getD (Ck types name).toNat default).Gates.getD v49.toNat default
def Z0i:BJ:=(types.getD (Ck types name).toNat default).Pads.getD v26.toNat default
def Ig (types:(List AV)) (name:ByteArray) (v7_1:List BJ) (v26:Int) (K0:List BJ->Int->(AV×Bool)):Nat->List BL->Int->(AV×Bool)
 | 0,_,_=>default
 | n1+1,v7_2,v49=>bif decide ((v49:Int)<((types.getD (Ck types name).toNat default).Gates.length:Int)) then ((Ig types name v7_1 v26 K0 n1) (v7_2++[BL.mk (Z0h types name v49).Kind (G6 (Z0h types name v49).Legs)]) (v49+1)) else (AV.mk name v7_1 v7_2,true)
def Fz (types:(List AV)) (name:ByteArray):Nat->List BJ->Int->(AV×Bool)
 | 0,_,_=>default
 | n0+1,v7_1,v26=>bif decide ((v26:Int)<((types.getD (Ck types name).toNat default).Pads.length:Int)) then ((Fz types name n0) (v7_1++[BJ.mk (Z0i types name v26).Name (A2.mk (Z0i types name v26).Shape.Kind (Z0i types name v26).Shape.Edges (Z0i types name v26).Shape.R) (Z0i types name v26).At (Z0i types name v26).Drill]) (v26+1)) else (Ig types name v7_1 v26 (Fz types name n0) ((((types.getD (Ck types name).toNat default).Gates.length:Int)-0).toNat+1) ([]:List BL) 0)
def Ci (types:(List AV)) (name:ByteArray):(AV×Bool):=bif decide (((Ck types name):Int)<0) then (AV.mk (⟨#[]⟩) [] [],false) else (Fz types name ((((types.getD (Ck types name).toNat default).Pads.length:Int)-0).toNat+1) ([]:List BJ) 0)
abbrev Ii:=lst 3 AV.c types
def gO:CT:=(31,[.one (Ii types),.one (.s name)],.val [] (.tup [.agg (AV.c (Ci types name).1),.one (.b (Ci types name).2)]))
abbrev Pv (v7_1:List BJ) (types:List AV) (name:ByteArray) (v26:Int):=v7_1++[BJ.mk (Z0i types name v26).Name (A2.mk (Z0i types name v26).Shape.Kind (Z0i types name v26).Shape.Edges (Z0i types name v26).Shape.R) (Z0i types name v26).At (Z0i types name v26).Drill]
abbrev Xf:=types.getD (Ck types name).toNat default
abbrev Nv:List Cl:=[.s (⟨#[]⟩),vN,vN]
abbrev EP:Nat×Blk:=(4,.cells Nv 114)
abbrev Jw:Nat×Blk:=(100000,.row 7 v7_1.length (AP BJ.c v7_1) 118)
abbrev Vi:Nat×Tv:=(25,tI ((Xf types name).Pads.length:Int))
abbrev MA (v7_2:List BL) (types:List AV) (name:ByteArray) (v49:Int):=v7_2++[BL.mk (Z0h types name v49).Kind (G6 (Z0h types name v49).Legs)]
abbrev Vh:Nat×Tv:=(24,tO (lst 7 BJ.c (Xf types name).Pads))
abbrev mQ:Nat×Tv:=(48,tI ((Xf types name).Gates.length:Int))
abbrev mP:Nat×Tv:=(47,tO (lst 2 BL.c (Xf types name).Gates))
abbrev RY:Nat×Blk:=(7,.cells [.s name,.own 100000 7 v7_1.length,vN] 114)
abbrev H8:Nat×Tv:=(0,tO (Ii types))
abbrev Z8:List Av:=[.agg [.s (⟨#[]⟩),lst 7 BJ.c [],lst 2 BL.c []],.one (.b false)]
abbrev KI (t_:List (Nat×Tv)):List (Nat×Tv):=(H8 types)::(4,tP 4 0)::(6,tI (Ck types name))::(7,tP 7 0)::(Vh types name)::(Vi types name)::t_
abbrev KG (t_:List (Nat×Tv)):List (Nat×Tv):=(4,tP 4 0)::(7,tP 7 0)::(mP types name)::(mQ types name)::t_
theorem au21 {p:Prop} (h:p:=by first | (exact Ov (hta _) _) | (exact Qb (hta _) _) | with_reducible assumption | omega | decide | (simp only [List.length_cons,List.length_nil,List.length_append];omega) | assumption):p:=h
theorem au26 {p:Prop} (h:p:=by first | exact oR (by assumption) | omega):p:=h
theorem lr {p:Prop} (h:p:=by repeat (first | exact .nil | refine .cons ⟨rfl,.refl _⟩ ?_)):p:=h
theorem pGet (types:(List AV)) (name:ByteArray) (ht:Cd types):PuP 31 (gO types name).2.1 (.tup [.agg (AV.c (Ci types name).1),.one (.b (Ci types name).2)]):=by
 refine pwf Try.func31 fun W0 M0 => ?_
 have ht1:=ht.1
 have hta:=V9 ht
 have htp:=(hta (Ck types name).toNat).1
 have htg:=(hta (Ck types name).toNat).2.1
 refine AB<|on<|AB ?_
 refine oc [(14,(59,[.one (Ii types),.one (.clo 60 1 (Co [.ptr 3 0]))],rdI [3] [.cells [.s name] 9] (tI (Ck types name))))] [A0 [.one (lst 3 AV.c types),.one (.clo 60 1 (Co [.ptr 3 0]))],Tb [.cells [.s name] 9]] (.cons (MY (fun _ _=>kr) kr kr (Se (pixTy types name au21) (.cons (AvE.refl _) (.cons (.one (.clo 60 1 _ _ (Dq kr))) .nil)))) .nil) (.cons rfl (.cons rfl .nil))<|AF ?_
 refine AB<|AB ?_
 refine rn ⟨[(H8 types),(3,tP 3 0),(4,tP 4 0),(6,tI (Ck types name)),(16,tB (decide (((Ck types name):Int)<0)))],[(3,.cells [.s name] 9),EP]⟩ ?_
 refine AL _ rfl (fun h1 => ?_) (fun h1 => ?_)
 ·refine AB<|on ?_
  refine Ac<|Bf ?_
  exact xl (.tup [.agg Nv,.one (.b false)]) (DB (y:=.tup Z8) (.tup (.cons (.agg (rr (.cons (Cm 7 BJ.c) (.cons (Cm 2 BL.c) .nil)))) (.cons (AvE.refl _) .nil))) (by simp only [Ci,h1,cond_true,cond_false] <;> rfl))
 have g1:=oF h1
 refine Af<|AF<|AB ?_
 refine on ?_
 refine AB<|AB ?_
 refine rc [] [0<=(Ck types name:Int)/\(Ck types name:Int)<((types.length:Nat):Int)] ⟨(KI types name [(26,tI 0)]),[EP,(7,.cells [.s name,vN,vN] 114)]⟩ .nil (.cons au26 .nil)<|AF<|AX ?_
 refine Aq (Cv.trans (vg 100000 7 (fun _ _=>default) 118 [] [(7,[1])] hk0) (Cv.trans (Cr 100000 (CL 7 (fun _ _=>default) BJ.c)) (Cv.trans (ck (⟨(KI types name [(26,tI 0)]),[EP,(7,.cells [.s name,.own 100000 7 ([]:List BJ).length,vN] 114),(100000,.row 7 ([]:List BJ).length (AP BJ.c ([]:List BJ)) 118)]⟩)) (Cv.refl _)))) ?_
 refine Bc (ι:=Nat×List BJ×Int) (fun x=>⟨(KI types name [(26,tI x.2.2)]),[EP,(7,.cells [.s name,.own 100000 7 x.2.1.length,vN] 114),(100000,.row 7 x.2.1.length (AP BJ.c x.2.1) 118)]⟩) (fun x=>(((types.getD (Ck types name).toNat default).Pads.length:Int)-x.2.2).toNat<x.1/\(0<=x.2.2/\(x.2.2<=((types.getD (Ck types name).toNat default).Pads.length:Int)\/x.2.2=0)/\(x.2.1.length:Int)<=0+1*(x.2.2-0))/\Fz types name x.1 x.2.1 x.2.2=Ci types name) (fun x=>x.1) ?_ ((((types.getD (Ck types name).toNat default).Pads.length:Int)-0).toNat+1,([]:List BJ),0) ⟨Nat.lt_succ_self _,⟨ax0,ax0,ax0⟩,(by simp only [Ci,h1,cond_true,cond_false])⟩
 rintro ⟨n0,v7_1,v26⟩ ⟨hm0,hinv0,hF0⟩
 try dsimp only at hm0 hinv0 hF0
 cases n0 with | zero=>exact nz hm0 | succ n0 => ?_
 refine AB<|rn ⟨(KI types name [(26,tI v26),(27,tB (decide ((v26:Int)<((types.getD (Ck types name).toNat default).Pads.length:Int))))]),[EP,(RY name v7_1),(Jw v7_1)]⟩<|AB ?_
 refine AL _ rfl (fun h2 => ?_) (fun h2 => ?_)
 ·have g2:=oT h2
  refine Af<|AF ?_
  refine AB<|AX<|AB ?_
  refine oc [] [0<=(v26:Int)/\(v26:Int)<(((types.getD (Ck types name).toNat default).Pads.length:Nat):Int)] .nil (.cons au26 .nil)<|AF<|AB ?_
  refine rs 33 (NU (Z0i types name v26).Shape.Edges) ⟨[(H8 types),(4,tP 4 0),(6,tI (Ck types name)),(7,tP 7 0),(9,tP 9 0),(Vh types name),(Vi types name),(26,tI v26)],[EP,(RY name v7_1),(9,.cells [.s (Z0i types name v26).Name,.i (Z0i types name v26).Shape.Kind,.own 33 7 (Z0i types name v26).Shape.Edges.length,.i (Z0i types name v26).Shape.R,.i (Z0i types name v26).At.X,.i (Z0i types name v26).At.Y,.i (Z0i types name v26).Drill] 118),(33,.row 7 (Z0i types name v26).Shape.Edges.length (AP AQ.c (Z0i types name v26).Shape.Edges) 133),(Jw v7_1)]⟩ (O2 (Z0i types name v26).Shape.Edges au21)<|AF ?_
  refine Aq (Cv.trans (Hq (⟨[(H8 types),(4,tP 4 0),(6,tI (Ck types name)),(7,tP 7 0),(9,tP 9 0),(Vh types name),(Vi types name),(26,tI v26)],[EP,(RY name v7_1),(9,.cells (BJ.c (Z0i types name v26)) 118),(Jw v7_1)]⟩) 33 hk0) (Cv.refl _)) ?_
  refine rc [] [v7_1.length=v7_1.length,v7_1.length+1<=maxLen,(v7_1.length+1)*80<=140737488355328] ⟨(KI types name [(26,tI v26)]),[EP,(7,.cells [.s name,.own 40 7 (v7_1.length+1),vN] 114),(40,.row 7 (v7_1.length+1) (fun i_ j_=>if i_<v7_1.length then (AP BJ.c v7_1) i_ j_ else (As 7 1 (BJ.c (Z0i types name v26))) (i_-v7_1.length) j_) 118)]⟩ .nil (.cons rfl (.cons au3 (.cons au3 .nil)))<|A8<|AF ?_
  refine Aq (Cv.trans (BS (⟨(KI types name [(26,tI v26)]),[EP,(7,.cells [.s name,.own 40 7 (Pv v7_1 types name v26).length,vN] 114),(40,.row 7 (Pv v7_1 types name v26).length (AP BJ.c (Pv v7_1 types name v26)) 118)]⟩) lr (.cons ⟨rfl,.refl _⟩ (.cons ⟨rfl,.cells _ (rr (.cons (.own _ _ au0) (rr .nil)))⟩ (.cons ⟨rfl,Ao 118 (Au (An 7 BJ.c v7_1) (Ae (c:=BJ.c) (xs:=([BJ.mk (Z0i types name v26).Name (A2.mk (Z0i types name v26).Shape.Kind (Z0i types name v26).Shape.Edges (Z0i types name v26).Shape.R) (Z0i types name v26).At (Z0i types name v26).Drill]:List BJ)) rfl kr))⟩ .nil)))) (Cv.refl _)) ?_
  refine rg ⟨(KI types name [(26,tI (W64 (v26+1)))]),[EP,(7,.cells [.s name,.own 40 7 (Pv v7_1 types name v26).length,vN] 114),(40,.row 7 (Pv v7_1 types name v26).length (AP BJ.c (Pv v7_1 types name v26)) 118)]⟩ ?_
  (try rw [(show W64 (v26+1)=v26+1 from A1 oM au9)])
  refine AF ?_
  refine ⟨(n0,v7_1++[BJ.mk (Z0i types name v26).Name (A2.mk (Z0i types name v26).Shape.Kind (Z0i types name v26).Shape.Edges (Z0i types name v26).Shape.R) (Z0i types name v26).At (Z0i types name v26).Drill],v26+1),⟨?_,?_,(by rw [<- hF0];simp only [Fz,h2,cond_true,cond_false])⟩,Nat.lt_succ_self _,Cv.trans (vr 40 100000 hk0) (BM kr)⟩
  ·show (((types.getD (Ck types name).toNat default).Pads.length:Int)-(v26+1)).toNat<n0;omega
  exact ⟨ax0,ax0,ax0⟩
 have g2:=oF h2
 refine BU<|BE ?_
 refine BE<|BV ?_
 refine AF<|AB<|AB ?_
 refine rc [] [0<=(Ck types name:Int)/\(Ck types name:Int)<((types.length:Nat):Int)] ⟨(KG types name [(49,tI 0)]),[EP,(RY name v7_1),(Jw v7_1)]⟩ .nil (.cons au26 .nil)<|AF<|AX ?_
 refine Aq (Cv.trans (vg 100001 2 (fun _ _=>default) 157 [] [(7,[2])] hk0) (Cv.trans (Cr 100001 (CL 2 (fun _ _=>default) BL.c)) (Cv.trans (ck (⟨(KG types name [(49,tI 0)]),[EP,(7,.cells [.s name,.own 100000 7 v7_1.length,.own 100001 2 ([]:List BL).length] 114),(Jw v7_1),(100001,.row 2 ([]:List BL).length (AP BL.c ([]:List BL)) 157)]⟩)) (Cv.refl _)))) ?_
 refine Bc (ι:=Nat×List BL×Int) (fun x=>⟨(KG types name [(49,tI x.2.2)]),[EP,(7,.cells [.s name,.own 100000 7 v7_1.length,.own 100001 2 x.2.1.length] 114),(Jw v7_1),(100001,.row 2 x.2.1.length (AP BL.c x.2.1) 157)]⟩) (fun x=>(((types.getD (Ck types name).toNat default).Gates.length:Int)-x.2.2).toNat<x.1/\(0<=x.2.2/\(x.2.2<=((types.getD (Ck types name).toNat default).Gates.length:Int)\/x.2.2=0)/\(x.2.1.length:Int)<=0+1*(x.2.2-0))/\Ig types name v7_1 v26 (Fz types name n0) x.1 x.2.1 x.2.2=Ci types name) (fun x=>x.1) ?_ ((((types.getD (Ck types name).toNat default).Gates.length:Int)-0).toNat+1,([]:List BL),0) ⟨Nat.lt_succ_self _,⟨ax0,ax0,ax0⟩,(by rw [<- hF0];simp only [Fz,h2,cond_true,cond_false])⟩
 rintro ⟨n1,v7_2,v49⟩ ⟨hm1,hinv1,hF1⟩
 try dsimp only at hm1 hinv1 hF1
 cases n1 with | zero=>exact nz hm1 | succ n1 => ?_
 refine AB<|rn ⟨(KG types name [(49,tI v49),(50,tB (decide ((v49:Int)<((types.getD (Ck types name).toNat default).Gates.length:Int))))]),[EP,(7,.cells [.s name,.own 100000 7 v7_1.length,.own 100001 2 v7_2.length] 114),(Jw v7_1),(100001,.row 2 v7_2.length (AP BL.c v7_2) 157)]⟩<|AB ?_
 refine AL _ rfl (fun h3 => ?_) (fun h3 => ?_)
 ·have g3:=oT h3
  refine Af<|AF ?_
  refine AB<|AX<|AB ?_
  refine oc [] [0<=(v49:Int)/\(v49:Int)<(((types.getD (Ck types name).toNat default).Gates.length:Nat):Int)] .nil (.cons au26 .nil)<|AF ?_
  refine dw [] [(59,PV (Z0h types name v49).Legs)] [A0 (PV (Z0h types name v49).Legs).2.1,v7_2.length=v7_2.length,v7_2.length+1<=maxLen,(v7_2.length+1)*32<=140737488355328] ⟨(KG types name [(49,tI v49)]),[EP,(7,.cells [.s name,.own 100000 7 v7_1.length,.own 62 2 (v7_2.length+1)] 114),(62,.row 2 (v7_2.length+1) (fun i_ j_=>if i_<v7_2.length then (AP BL.c v7_2) i_ j_ else (As 2 1 [.i (Z0h types name v49).Kind,lst 2 Bw.c (G6 (Z0h types name v49).Legs)]) (i_-v7_2.length) j_) 157),(Jw v7_1)]⟩ (.cons (ZI (Z0h types name v49).Legs (by first | assumption | exact Qb (hta _) _ | exact Ov (hta _) _ | omega)) .nil) (.cons rfl (.cons rfl (.cons au3 (.cons au3 .nil))))<|A8<|AF ?_
  refine Aq (Cv.trans (BS (⟨(KG types name [(49,tI v49)]),[EP,(7,.cells [.s name,.own 100000 7 v7_1.length,.own 62 2 (MA v7_2 types name v49).length] 114),(62,.row 2 (MA v7_2 types name v49).length (AP BL.c (MA v7_2 types name v49)) 157),(Jw v7_1)]⟩) lr (.cons ⟨rfl,.refl _⟩ (.cons ⟨rfl,.cells _ (rr2 (.cons (.own _ _ au0) .nil))⟩ (.cons ⟨rfl,Ao 157 (Au (An 2 BL.c v7_2) (Ae (c:=BL.c) (xs:=([BL.mk (Z0h types name v49).Kind (G6 (Z0h types name v49).Legs)]:List BL)) rfl kr))⟩ lr)))) (Cv.refl _)) ?_
  refine rg ⟨(KG types name [(49,tI (W64 (v49+1)))]),[EP,(7,.cells [.s name,.own 100000 7 v7_1.length,.own 62 2 (MA v7_2 types name v49).length] 114),(62,.row 2 (MA v7_2 types name v49).length (AP BL.c (MA v7_2 types name v49)) 157),(Jw v7_1)]⟩ ?_
  (try rw [(show W64 (v49+1)=v49+1 from A1 oM au9)])
  refine AF ?_
  refine ⟨(n1,v7_2++[BL.mk (Z0h types name v49).Kind (G6 (Z0h types name v49).Legs)],v49+1),⟨?_,?_,(by rw [<- hF1];simp only [Ig,h3,cond_true,cond_false])⟩,Nat.lt_succ_self _,Cv.trans (vr 62 100001 hk0) (Cv.trans (vk [4,7,47,48,49] [4,7,100000,100001]) (BM kr))⟩
  ·show (((types.getD (Ck types name).toNat default).Gates.length:Int)-(v49+1)).toNat<n1;omega
  exact ⟨ax0,ax0,ax0⟩
 refine BU<|BE ?_
 refine BE<|BV ?_
 refine AF<|AB ?_
 refine on<|Ac ?_
 exact zy (Cv.trans (vf 100000 hk0) (Cv.trans (vf 100001 hk0) (Cv.refl _))) (by rw [<- hF1];simp only [Ig,h3,cond_true,cond_false] <;> kernel_rfl)
theorem lW (types:(List AV)) (name:ByteArray) (ht:Cd types):OKc (gO types name):=cPu<|pGet types name ht
def U4 (types:List AV) (name:ByteArray):AV×Bool:=match types.find? (fun t=>GU t name) with
 | some t=>(⟨name,t.Pads,t.Gates⟩,true)
 | none=>(⟨⟨#[]⟩,[],[]⟩,false)
theorem Jr (types:List AV) (name:ByteArray):Ci types name=U4 types name:=by
 unfold Ci U4
 rw [Pi]
 cases hc:decide ((ixI (fun x=>GU x name) types:Int)<0) with
 | true =>
  rw [Up (oT hc)]
  rfl
 | false =>
  obtain ⟨_,h2⟩:=Uo (oF hc)
  rw [h2,cond_false]
  have e:=Pi types name
  rw [<- e]
  generalize ht:types.getD (Ck types name).toNat default=t
  have h1:=fun (acc0:List BJ) (v0:Int) K0=>cp_l t.Gates (Ig types name acc0 v0 K0) (fun acc _=>(AV.mk name acc0 acc,true)) (fun m acc v=>by
   rw [Ig]
   unfold Z0h G6
   rw [ht,Int.toNat_natCast]) t.Gates.length 0 ((((t.Gates.length:Int))-0).toNat+1) [] rfl (Nat.zero_le _) (by omega)
  have h0:=cp_l t.Pads (Fz types name) (fun acc v=>(AV.mk name acc t.Gates,true)) (fun m acc v=>by
   rw [Fz]
   unfold Z0i
   rw [ht,Int.toNat_natCast]
   have:=h1 acc v (Fz types name m)
   rw [List.drop_zero,List.nil_append] at this
   cases decide ((v:Int)<(t.Pads.length:Int)) with
   | true=>rfl
   | false=>exact this) t.Pads.length 0 ((((t.Pads.length:Int))-0).toNat+1) [] rfl (Nat.zero_le _) (by omega)
  rw [List.drop_zero,List.nil_append] at h0
  exact h0
theorem LR {types:List AV} (h:Cd types) (name:ByteArray):((U4 types name).1.Pads.length:Int)<=1000000:=by
 unfold U4
 cases hf:types.find? (fun t=>GU t name) with
 | none=>exact (by decide:((0:Nat):Int)<=1000000)
 | some t=>exact (h.2 t (List.mem_of_find?_eq_some hf)).1
end
theorem kE:∀ x:AU,∀ y∈AU.c x,NM y:=by
 intro x y hy
 simp only [AU.c,List.mem_cons,List.not_mem_nil,or_false] at hy
 rcases hy with rfl | rfl <;> first | exact .val _
theorem Hk:∀ x:AQ,∀ y∈AQ.c x,NM y:=by
 intro x y hy
 simp only [AQ.c,List.mem_cons,List.not_mem_nil,or_false] at hy
 rcases hy with rfl | rfl | rfl | rfl | rfl | rfl | rfl <;> first | exact .val _
theorem Fi:∀ x:AG,∀ y∈AG.c x,NM y:=by
 intro x y hy
 simp only [AG.c,List.mem_cons,List.not_mem_nil,or_false] at hy
 rcases hy with rfl | rfl | rfl | rfl | rfl | rfl | rfl <;> first | exact .val _
theorem Sz:∀ x:A7,∀ y∈A7.c x,NM y:=by
 intro x y hy
 simp only [A7.c,List.mem_cons,List.not_mem_nil,or_false] at hy
 rcases hy with rfl | rfl <;> first | exact .val _ | exact Cq kE
theorem ZN:∀ x:Ap,∀ y∈Ap.c x,NM y:=by
 intro x y hy
 simp only [Ap.c,List.mem_cons,List.not_mem_nil,or_false] at hy
 rcases hy with rfl | rfl | rfl | rfl | rfl | rfl <;> first | exact .val _ | exact Cq Hk
theorem kD:∀ x:Bo,∀ y∈Bo.c x,NM y:=by
 intro x y hy
 simp only [Bo.c,List.mem_cons,List.not_mem_nil,or_false] at hy
 rcases hy with rfl | rfl | rfl | rfl | rfl | rfl | rfl | rfl <;> first | exact .val _
theorem eL:∀ x:Ai,∀ y∈Ai.c x,NM y:=by
 intro x y hy
 simp only [Ai.c,List.mem_cons,List.not_mem_nil,or_false] at hy
 rcases hy with rfl | rfl | rfl | rfl <;> first | exact .val _
theorem eM:∀ x:A4,∀ y∈A4.c x,NM y:=by
 intro x y hy
 simp only [A4.c,List.mem_cons,List.not_mem_nil,or_false] at hy
 rcases hy with rfl | rfl | rfl | rfl | rfl | rfl | rfl | rfl <;> first | exact .val _ | exact Cq eL
theorem eN:∀ x:BT,∀ y∈BT.c x,NM y:=by
 intro x y hy
 simp only [BT.c,List.mem_cons,List.not_mem_nil,or_false] at hy
 rcases hy with rfl | rfl | rfl | rfl | rfl <;> first | exact .val _ | exact Cq Hk
theorem eK:∀ x:Bi,∀ y∈Bi.c x,NM y:=by
 intro x y hy
 simp only [Bi.c,List.mem_cons,List.not_mem_nil,or_false] at hy
 rcases hy with rfl | rfl | rfl | rfl <;> first | exact .val _ | exact Cq Hk
theorem ZP:∀ x:BQ,∀ y∈BQ.c x,NM y:=by
 intro x y hy
 simp only [BQ.c,List.mem_cons,List.not_mem_nil,or_false] at hy
 rcases hy with rfl | rfl <;> first | exact .val _ | exact Cq (fun x y hy=>by rw [List.mem_singleton.1 hy];exact .val _)
theorem Wl:∀ x:BF,∀ y∈BF.c x,NM y:=by
 intro x y hy
 simp only [BF.c,List.mem_cons,List.not_mem_nil,or_false] at hy
 rcases hy with rfl | rfl | rfl <;> first | exact .val _
theorem ZO:∀ x:Ba,∀ y∈Ba.c x,NM y:=by
 intro x y hy
 simp only [Ba.c,List.mem_cons,List.not_mem_nil,or_false] at hy
 rcases hy with rfl | rfl | rfl <;> first | exact .val _ | exact Cq (fun x y hy=>by rw [List.mem_singleton.1 hy];exact .val _)
theorem eO:∀ x:CV,∀ y∈CV.c x,NM y:=by
 intro x y hy
 simp only [CV.c,List.mem_cons,List.not_mem_nil,or_false] at hy
 rcases hy with rfl | rfl | rfl | rfl | rfl | rfl | rfl | rfl | rfl <;> first | exact .val _ | exact Cq Hk
theorem Jb:∀ x:BJ,∀ y∈BJ.c x,NM y:=by
 intro x y hy
 simp only [BJ.c,List.mem_cons,List.not_mem_nil,or_false] at hy
 rcases hy with rfl | rfl | rfl | rfl | rfl | rfl | rfl <;> first | exact .val _ | exact Cq Hk
theorem kF:∀ x:Bw,∀ y∈Bw.c x,NM y:=by
 intro x y hy
 simp only [Bw.c,List.mem_cons,List.not_mem_nil,or_false] at hy
 rcases hy with rfl | rfl <;> first | exact .val _
theorem eP:∀ x:BL,∀ y∈BL.c x,NM y:=by
 intro x y hy
 simp only [BL.c,List.mem_cons,List.not_mem_nil,or_false] at hy
 rcases hy with rfl | rfl <;> first | exact .val _ | exact Cq kF
theorem O4:∀ x:AV,∀ y∈AV.c x,NM y:=by
 intro x y hy
 simp only [AV.c,List.mem_cons,List.not_mem_nil,or_false] at hy
 rcases hy with rfl | rfl | rfl <;> first | exact .val _ | exact Cq eP | exact Cq Jb
end Go.Proofs.Ytdbampcfmjbgmaa
