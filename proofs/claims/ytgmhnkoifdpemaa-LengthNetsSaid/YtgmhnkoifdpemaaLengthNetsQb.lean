/-
  No statement is proved in this text. It holds a part of what the proof of LengthNets needs.
-/
import Derived.Test.YtgmhnkoifdpemaaLengthNetsQa
namespace Go.Proofs.Ytgmhnkoifdpemaa
set_option maxRecDepth 100000
set_option linter.unusedVariables false
set_option linter.unusedSimpArgs false
open Go.RowKit
section
open Go.RowKit Go.MapKept
section
variable {P:Program}
def iF (dst:Option Nat):Eg->Prop
 | .new b _=>∃ d,dst=some d/\b.no d=true
 | .app _ b _=>∃ d,dst=some d/\b.no d=true
 | _=>True
def nL (P:Program) (f:FuncId) (xs:List Av) (e:Ef):Prop :=
 (∀ args w,(callFunc f args).run P w=.ok (.enter f args) w) /\
 ∀ (M:Nat->Option Obj) (σ:Nat->Loc) (w:World) (h:Nat->Option Blk) (args:List Value) (cs:List Prop) (g:Eg),Std M σ w h->L2 (RA M σ) xs args->res h e=some (cs,g)->CU cs ->
  Calls P f args.toArray w fun en w'=>∃ V,en=.returned V/\∀ dst,iF dst g->∃ M' σ',jF M σ w dst V w' M' σ' g
def jM (P:Program) (f:FuncId) (xs:List Av) (e:Ef):Prop:=∃ cs v,e=.val cs v/\∀ (M:Nat->Option Obj) (σ:Nat->Loc) (w:World) (args:List Value),(∀ b o,M b=some o->w.heap[b]? = some o)->CU cs->L2 (RA M σ) xs args->∃ V,(callFunc f args.toArray).run P w=.ok (.value V) w/\RT M σ v V
def FK (P:Program) (f:FuncId) (xs:List Av) (e:Ef):Prop:=nL P f xs e\/jM P f xs e
structure KY (P:Program) (V:Env P):Prop where
 eqs:Jr P V
 calls:∀ d f xs e,V.Γ d=some (f,xs,e)->FK P f xs e
variable {M:Nat→Option Obj} {σ:Nat→Loc} {w:World} {h:Nat→Option Blk} {a:Act} {o:Oper} {cs:List Prop} {g:Eg} {e:Ef}
theorem Z6 {h:Nat->Option Blk} {p:Prop} {e:Ef} {cs:List Prop} {g:Eg} (hr:res h (Pb p e)=some (cs,g)) (hc:CU cs):p/\∃ ds,res h e=some (ds,g)/\CU ds:=by
 cases e with
 | val ds v =>
  simp only [Pb,res,Option.some.injEq,Prod.mk.injEq] at hr
  obtain ⟨rfl,rfl⟩:=hr
  exact ⟨hc.head,ds,rfl,hc.tail⟩
 | rd ns k =>
  simp only [Pb,res] at hr ⊢
  split at hr
  ·rename_i bs hb
   cases hk:k bs with
   | none=>rw [hk] at hr;cases hr
   | some q =>
    rw [hk] at hr
    simp only [Option.some.injEq,Prod.mk.injEq] at hr
    obtain ⟨rfl,rfl⟩:=hr
    exact ⟨hc.head,q.1,by simp only [hk],hc.tail⟩
  cases hr
 | wr n ns k =>
  simp only [Pb,res] at hr ⊢
  split at hr
  ·rename_i b bs hb1 hb2
   cases hk:k b bs with
   | none=>rw [hk] at hr;cases hr
   | some q =>
    rw [hk] at hr
    obtain ⟨q1,q2,q3⟩:=q
    simp only [Option.some.injEq,Prod.mk.injEq] at hr
    obtain ⟨rfl,rfl⟩:=hr
    exact ⟨hc.head,q1,by simp only [hk],hc.tail⟩
  cases hr
 | wq n q k =>
  simp only [Pb,res] at hr ⊢
  split at hr
  ·rename_i b bq hb1 hb2
   cases hk:k b bq with
   | none=>rw [hk] at hr;cases hr
   | some t =>
    rw [hk] at hr
    obtain ⟨q1,q2,q3⟩:=t
    simp only at hr
    cases hl:Nat.beq n q with
    | true=>rw [hl] at hr;cases hr
    | false =>
     rw [hl] at hr
     simp only [Option.some.injEq,Prod.mk.injEq] at hr
     obtain ⟨rfl,rfl⟩:=hr
     exact ⟨hc.head,q1,by simp only [hk,hl],hc.tail⟩
  cases hr
 | wrs ns rs k =>
  simp only [Pb,res] at hr ⊢
  split at hr
  ·rename_i b bs hb1 hb2
   cases hk:k b bs with
   | none=>rw [hk] at hr;cases hr
   | some q =>
    rw [hk] at hr
    obtain ⟨q1,q2,q3⟩:=q
    simp only at hr
    cases hl:Nat.beq ns.length q3.length with
    | false=>rw [hl] at hr;cases hr
    | true =>
     rw [hl] at hr
     simp only [Option.some.injEq,Prod.mk.injEq] at hr
     obtain ⟨rfl,rfl⟩:=hr
     exact ⟨hc.head,q1,by simp only [hk,hl],hc.tail⟩
  cases hr
 | new ds b v =>
  simp only [Pb,res,Option.some.injEq,Prod.mk.injEq] at hr
  obtain ⟨rfl,rfl⟩:=hr
  exact ⟨hc.head,ds,rfl,hc.tail⟩
 | app n ns k =>
  simp only [Pb,res] at hr ⊢
  split at hr
  ·rename_i b bs hb1 hb2
   cases hk:k b bs with
   | none=>rw [hk] at hr;cases hr
   | some q =>
    rw [hk] at hr
    obtain ⟨q1,q2,q3⟩:=q
    simp only [Option.some.injEq,Prod.mk.injEq] at hr
    obtain ⟨rfl,rfl⟩:=hr
    exact ⟨hc.head,q1,by simp only [hk],hc.tail⟩
  cases hr
theorem iT {V:Env P} (hV:KY P V) {c:Call} {f:Operand} {ev:Operand->Option Tv} {xs:List Av} {q:FuncId} {k:Nat} {caps:Nat->Cl} (hev:∀ x v,ev x=some v->RT M σ v (a.eval x)) (ho:o.op=.call c) (hcf:c.callee=.value f) (hxs:Fd ev c.args.toList=some xs) (hf:ev f=some (.av (.one (.clo q k caps))))
  {d:Nat} {xs':List Av} (he:V.Γ d=some (q,xs',e)) (hs:Std M σ w h) (hr:res h (Pb (xs++E4 k caps=xs') e)=some (cs,g)) (hc:CU cs) (hn:iF o.dst g):FN P M σ o a w g:=by
 obtain ⟨hxe,ds,hr2,hc2⟩:=Z6 hr hc
 clear hr hc
 subst hxe
 have hcalls:=hV.calls _ _ _ _ he
 obtain ⟨caps',hfv,hsz,hcaps⟩:=hev f _ hf
 have hargs:=KD hev _ _ hxs
 have hcl:L2 (RA M σ) (E4 k caps) caps'.toList:=by
  refine L2.of (by simp [E4,hsz]) fun i x y hx hy => ?_
  have hi:i<k:=by have:=(List.getElem?_eq_some_iff.1 hx).1;simpa [E4] using this
  have:=hcaps i hi
  simp only [E4,List.getElem?_map,List.getElem?_range hi,Option.map_some,Option.some.injEq] at hx
  subst hx
  have hy':caps'.getD i undef=y:=by
   simp only [Array.getD_eq_getD_getElem?]
   rw [<- Array.getElem?_toList,hy];rfl
  rw [hy'] at this
  exact this
 have hmap:c.args.map a.eval=(c.args.toList.map a.eval).toArray:=by apply Array.ext';simp
 have happ:(c.args.toList.map a.eval).toArray++caps'=(c.args.toList.map a.eval++caps'.toList).toArray:=by apply Array.ext';simp
 have hres:(resolve a.eval c o.type).run P w=.ok { target:=.fn (.func q) caps',args:=(c.args.toList.map a.eval).toArray } w:=by
  simp only [resolve,hcf,hfv,Deferred.ofValue,hmap]
  simp
 rcases hcalls with ⟨h1,h2⟩ | ⟨cs1,v1,rfl,h2⟩
 ·have hfin:=h2 M σ w h (c.args.toList.map a.eval++caps'.toList) ds g hs (hargs.append hcl) hr2 hc2
  refine .inr (.inr ⟨q,(c.args.toList.map a.eval++caps'.toList).toArray,?_,?_⟩)
  ·simp only [execOp,ho,Sem.run_bind,hres,Result.andThen_ok,invoke,happ]
   exact h1 _ _
  exact hfin.mono fun en w' ⟨V,hV,hall⟩=>⟨V,hV,hall o.dst hn⟩
 obtain ⟨rfl,rfl⟩:=Bh hr2
 obtain ⟨V,e1,e2⟩:=h2 M σ w (c.args.toList.map a.eval++caps'.toList) hs.imm hc2 (hargs.append hcl)
 refine BD hs.imm (V:=V) ?_ e2
 simp only [execOp,ho,Sem.run_bind,hres,Result.andThen_ok,invoke,happ]
 exact e1
theorem Vh {V:Env P} (hV:KY P V) {ev:Operand->Option Tv} (hev:∀ x v,ev x=some v->RT M σ v (a.eval x)) (he:eff P V o.dst o.op ev=some e) (hs:Std M σ w h) (hr:res h e=some (cs,g)) (hc:CU cs) (hn:iF o.dst g):FN P M σ o a w g:=by
 have hdn:∀ b v,g=.new b v->∃ d,o.dst=some d/\b.no d=true:=fun b v hg=>by subst hg;exact hn
 have hda:∀ n b v,g=.app n b v->∃ d,o.dst=some d/\b.no d=true:=fun n b v hg=>by subst hg;exact hn
 cases hop:o.op <;> rw [hop] at he <;> simp only [eff,HX] at he <;> try (cases he;done)
 case move x =>
  obtain ⟨v,hv,rfl⟩:=Option.map_eq_some_iff.1 he
  obtain ⟨rfl,rfl⟩:=Bh hr
  exact BD hs.imm (V:=a.eval x) (by simp only [execOp,hop];rfl) (hev x v hv)
 case assign x =>
  obtain ⟨v,hv,rfl⟩:=Option.map_eq_some_iff.1 he
  obtain ⟨rfl,rfl⟩:=Bh hr
  exact BD hs.imm (V:=a.eval x) (by simp only [execOp,hop];rfl) (hev x v hv)
 case pick c x y =>
  split at he
  ·rename_i cb ta tb h1 h2 h3
   split at he
   ·rename_i ga xa gb xb h4 h5
    simp only [Option.some.injEq] at he
    subst he
    exact fX hop (hev _ _ h1) (hev _ _ h2) (hev _ _ h3) h4 h5 hs hr hc
   cases he
  cases he
 case alloc T =>
  split at he
  ·rename_i z hz
   simp only [Option.some.injEq] at he
   subst he
   simp only [res,Option.some.injEq,Prod.mk.injEq] at hr
   obtain ⟨rfl,rfl⟩:=hr
   obtain ⟨d,hd,_⟩:=hdn _ _ rfl
   exact eF hop hz hs hd
  cases he
 case box T x =>
  split at he
  ·rename_i v hv
   simp only [Option.some.injEq] at he
   subst he
   simp only [res,Option.some.injEq,Prod.mk.injEq] at hr
   obtain ⟨rfl,rfl⟩:=hr
   obtain ⟨d,hd,hno⟩:=hdn _ _ rfl
   exact nD hop (hev _ _ hv) hs hd hno
  cases he
 case build T parts=>exact dT hev hop he hs hr
 case buildSlice T len parts=>exact Pa hev hop he hs hr hdn
 case load T x =>
  split at he
  ·rename_i v hv;exact gW hop (hev _ _ hv) he hs hr hc
  cases he
 case store T x y =>
  split at he
  ·rename_i p v hp hv;exact Zt hop (hev _ _ hp) (hev _ _ hv) he hs hr hc
  cases he
 case fieldAddr T x k =>
  split at he
  ·rename_i v hv;exact R5 hop (hev _ _ hv) he hs hr
  cases he
 case field T x k =>
  split at he
  ·rename_i v hv;exact cT hop (hev _ _ hv) he hs hr
  cases he
 case indexAddr T x i =>
  split at he
  ·rename_i v j hv hj;exact Rz hop (hev _ _ hv) (hev _ _ hj) he hs hr hc
  cases he
 case binOp op T x y yT =>
  split at he
  ·rename_i u v hu hv;exact nE hV.eqs hop (hev _ _ hu) (hev _ _ hv) he hs hr hc
  cases he
 case unOp op T x =>
  split at he
  ·rename_i v hv
   obtain ⟨r,hr',rfl⟩:=Option.map_eq_some_iff.1 he
   exact un_ok hop (hev _ _ hv).1 hr' hs hr
  cases he
 case convert src dst x =>
  split at he
  ·rename_i v hv;exact Vk hop (hev _ _ hv) he hs hr hc
  cases he
 case extract x i =>
  split at he
  ·rename_i l hl
   obtain ⟨v,hv,rfl⟩:=Option.map_eq_some_iff.1 he
   exact Vd hop (hev _ _ hl) hv hs hr
  cases he
 case nilCheck x =>
  split at he <;> first | (cases he;done) | skip
  all_goals
   rename_i hv
   simp only [Option.some.injEq] at he
   subst he
   have hR:=hev _ _ hv
  ·exact Gm hop rfl (.inl ⟨_,hR⟩) hs hR hr
  ·refine Gm hop rfl (.inl ?_) hs hR hr
   have hp:=eK hR
   obtain ⟨b,base,hV,_⟩:=hp
   exact ⟨_,hV⟩
  ·exact Gm hop rfl (.inl ⟨_,hR⟩) hs hR hr
  have hR2:∃ c:Array Value,_:=hR
  obtain ⟨c,hV,_⟩:=hR2
  exact Gm hop rfl (.inr ⟨_,_,hV⟩) hs hR hr
 case makeFunc fn first captured =>
  cases fn <;> simp only [eff,HX] at he <;> try (cases he;done)
  rename_i f
  cases hf:first.toList.isEmpty with
  | false=>rw [hf] at he;cases he
  | true =>
   rw [hf] at he
   simp only [cond_true] at he
   split at he
   ·rename_i l hl
    obtain ⟨cl,hcl,rfl⟩:=Option.map_eq_some_iff.1 he
    exact TO hev hop hf hl hcl hs hr
   cases he
 case index T x i =>
  split at he
  ·rename_i v j hv hj;exact cD hop (hev _ _ hv) (hev _ _ hj) he hs hr hc
  cases he
 case makeSlice T x i =>
  split at he
  ·rename_i v j hv hj;exact Rs hop (hev _ _ hv) (hev _ _ hj) he hs hr hc (fun ⟨b,v,hg⟩=>let ⟨d,hd,_⟩:=hdn b v hg;⟨d,hd⟩)
  cases he
 case makeMap T r =>
  cases r <;> simp only [eff,HX] at he <;> try (cases he;done)
  have hnew:∃ b v,g=.new b v:=by
   unfold In at he
   split at he
   ·split at he
    ·simp only [Option.some.injEq] at he;subst he
     simp only [res,Option.some.injEq,Prod.mk.injEq] at hr
     exact ⟨_,_,hr.2.symm⟩
    cases he
   cases he
  obtain ⟨b,v,hg⟩:=hnew
  obtain ⟨d,hd,_⟩:=hdn b v hg
  exact VX hop he hs hr hd
 case mapUpdate T m k x =>
  split at he
  ·rename_i v kv xv hv hkv hxv
   exact Xq hV.eqs hop (hev _ _ hv) (hev _ _ hkv) (hev _ _ hxv) he hs hr hc
  cases he
 case lookup T x k cok =>
  split at he
  ·rename_i n kv d hv hkv _
   exact bQ hV.eqs hop (hev _ _ hv) (hev _ _ hkv) he hs hr hc
  ·rename_i v kv d _ hv hkv _
   exact Xt hop (hev _ _ hv) (hev _ _ hkv) he hs hr hc
  cases he
 case slice T x lo hi mx =>
  cases mx <;> simp only [eff,HX] at he <;> try (cases he;done)
  split at he
  ·rename_i v hv;exact Zw hev hop (hev _ _ hv) he hs hr hc
  cases he
 case call c =>
  split at he
  ·rename_i b xs hcb hxs
   exact Vs hev hop hcb hxs he hs hr hc (fun b hh=>by
    rcases hh with ⟨v,hg⟩ | ⟨n,v,hg⟩
    ·exact hdn b v hg
    exact hda n b v hg)
  ·rename_i f xs hcf hxs
   split at he
   ·rename_i q k caps hf
    split at he
    ·rename_i d hdst
     split at he
     ·rename_i g' xs' e' hg
      cases hb:Nat.beq g' q with
      | false=>rw [hb] at he;cases he
      | true =>
       rw [hb] at he
       have:=Nat.eq_of_beq_eq_true hb
       subst this
       simp only [cond_true,Option.some.injEq] at he
       subst he
       exact iT hV hev hop hcf hxs hf hg hs hr hc hn
     cases he
    cases he
   cases he
  cases he
def NP (s:AS) (dst:Option Nat) (v:Tv):AS:=match dst with
 | some d=>⟨put s.t d v,s.h⟩
 | none=>s
def fO {α:Type} (h:List (Nat×α)):List (Nat×α)->List (Nat×α)
 | []=>h
 | (n,b)::r=>put (fO h r) n b
def orL {α:Type} (l:List (Nat×α)) (H:Nat->Option α) (n:Nat):Option α:=match get l n with
 | some b=>some b
 | none=>H n
theorem Tf {α:Type} (h:List (Nat×α)):∀ (l:List (Nat×α)) (n:Nat),get (fO h l) n=orL l (get h) n
 | [],n=>rfl
 | (k,b)::r,n=>by
  simp only [fO,J0,orL,get,CQ]
  by_cases e:k=n
  ·simp [e]
  simp only [e,if_false,decide_false,cond_false]
  rw [Tf h r n]
  rfl
def Tc (s:AS) (dst:Option Nat):Eg->AS
 | .val v=>NP s dst v
 | .wr n v b=>NP ⟨s.t,put s.h n b⟩ dst v
 | .wrs l v=>NP ⟨s.t,fO s.h l⟩ dst v
 | .wq n _ v b _=>NP ⟨s.t,put s.h n b⟩ dst v
 | .new b v=>match dst with
  | some d=>⟨put s.t d (v d),put s.h d b⟩
  | none=>s
 | .app n b v=>match dst with
  | some d=>⟨put s.t d (v d),put (del s.h n) d b⟩
  | none=>s
def PV (T:Nat->Option Tv) (dst:Option Nat) (v:Tv):Nat->Option Tv:=match dst with
 | some d=>upd T d (some v)
 | none=>T
def goT (T:Nat->Option Tv) (dst:Option Nat):Eg->Nat->Option Tv
 | .val v=>PV T dst v
 | .wr _ v _=>PV T dst v
 | .wrs _ v=>PV T dst v
 | .wq _ _ v _ _=>PV T dst v
 | .new _ v=>match dst with
  | some d=>upd T d (some (v d))
  | none=>T
 | .app _ _ v=>match dst with
  | some d=>upd T d (some (v d))
  | none=>T
def goH (H:Nat->Option Blk) (dst:Option Nat):Eg->Nat->Option Blk
 | .val _=>H
 | .wr n _ b=>upd H n (some b)
 | .wrs l _=>orL l H
 | .wq n _ _ b _=>upd H n (some b)
 | .new b _=>match dst with
  | some d=>upd H d (some b)
  | none=>H
 | .app n b _=>match dst with
  | some d=>upd (upd H n none) d (some b)
  | none=>H
theorem HF (s:AS) (dst:Option Nat) (g:Eg):get (Tc s dst g).t=goT (get s.t) dst g/\get (Tc s dst g).h=goH (get s.h) dst g:=by
 cases g <;> cases dst <;> refine ⟨?_,?_⟩ <;> funext i <;> simp only [Tc,NP,goT,PV,goH,J0,Ig,DZ,Tf]
def PS (T:Nat->Option Tv) (H:Nat->Option Blk) (d:Nat):Prop:=(∀ i v,T i=some v->v.no d=true)/\∀ n b,H n=some b->n≠d/\b.no d=true
def jI (N:Nat) (T:Nat->Option Tv) (H:Nat->Option Blk) (dst:Option Nat) (g:Eg):Prop:=(∀ d,dst=some d->d<N)/\match g with
 | .val _=>True
 | .wr n _ _=>(H n).isSome
 | .wrs l _=>∀ n b,get l n=some b->(H n).isSome
 | .wq n q _ _ bq=>(H n).isSome/\H q=some bq/\n≠q
 | .new b _=>∃ d,dst=some d/\PS T H d/\b.no d=true
 | .app n b _=>∃ d,dst=some d/\PS T H d/\b.no d=true/\(H n).isSome
def O5 (s:AS) (d:Nat):Bool:=s.t.all (fun p=>p.2.no d)&&s.h.all (fun p => !Nat.beq p.1 d&&p.2.no d)
def Ie (N:Nat) (s:AS) (dst:Option Nat):Eg->Bool
 | .val _=>dst.all fun d=>Nat.ble (d+1) N
 | .wr _ _ _=>dst.all fun d=>Nat.ble (d+1) N
 | .wrs _ _=>dst.all fun d=>Nat.ble (d+1) N
 | .wq _ _ _ _ _=>dst.all fun d=>Nat.ble (d+1) N
 | .new b _=>dst.any fun d=>Nat.ble (d+1) N&&O5 s d&&b.no d
 | .app n b _=>dst.any fun d=>Nat.ble (d+1) N&&O5 s d&&b.no d
theorem HG {a:Act} {N d:Nat} (hN:a.tmps.size=N) (hd:d<N) (V:Value) (i:Nat):(a.put (some d) V).tmps.getD i undef=if d=i then V else a.tmps.getD i undef:=by
 simp only [Act.put,Array.getD_eq_getD_getElem?,Array.getElem?_setIfInBounds]
 by_cases h:d=i
 ·subst h;simp [show d<a.tmps.size by omega]
 simp [h]
theorem Je {s:AS} {d:Nat} (hf:O5 s d=true):PS (get s.t) (get s.h) d:=by
 simp only [O5,Bool.and_eq_true] at hf
 refine ⟨fun i v hv=>(List.all_eq_true.1 hf.1) _ (DL hv),fun n b hv => ?_⟩
 have:=(List.all_eq_true.1 hf.2) _ (DL hv)
 simp only [Bool.and_eq_true] at this
 exact ⟨Mu this.1,this.2⟩
theorem Lj {N:Nat} {s:AS} {dst:Option Nat} (hok:Ie N s dst g=true) (hwr:∀ n v b,g=.wr n v b->(get s.h n).isSome) (hws:∀ l v,g=.wrs l v->∀ n b,get l n=some b->(get s.h n).isSome) (hwq:∀ n q v b bq,g=.wq n q v b bq->(get s.h n).isSome/\get s.h q=some bq/\n≠q) (hap:∀ n b v,g=.app n b v->(get s.h n).isSome):jI N (get s.t) (get s.h) dst g:=by
 cases g with
 | val v=>exact ⟨fun d hd=>by subst hd;exact Nat.le_of_ble_eq_true hok,trivial⟩
 | wr n v b=>exact ⟨fun d hd=>by subst hd;exact Nat.le_of_ble_eq_true hok,hwr _ _ _ rfl⟩
 | wrs l v=>exact ⟨fun d hd=>by subst hd;exact Nat.le_of_ble_eq_true hok,hws _ _ rfl⟩
 | wq n q v b bq=>exact ⟨fun d hd=>by subst hd;exact Nat.le_of_ble_eq_true hok,hwq _ _ _ _ _ rfl⟩
 | new b v =>
  cases dst with
  | none=>cases hok
  | some d =>
   simp only [Ie,Option.any_some,Bool.and_eq_true] at hok
   exact ⟨fun d' hd=>by injection hd with hd;subst hd;exact Nat.le_of_ble_eq_true hok.1.1,d,rfl,Je hok.1.2,hok.2⟩
 | app n b v =>
  cases dst with
  | none=>cases hok
  | some d =>
   simp only [Ie,Option.any_some,Bool.and_eq_true] at hok
   exact ⟨fun d' hd=>by injection hd with hd;subst hd;exact Nat.le_of_ble_eq_true hok.1.1,d,rfl,Je hok.1.2,hok.2,hap _ _ _ rfl⟩
theorem Rp {T:Type} (no:Nat->T->Bool) {v:T} {d:Nat} (h:no d v=true) (σ:Nat->Loc) (x:Loc):∀ e,no e v=false->upd σ d x e=σ e:=fun e he=>C0 _ _ fun heq=>by subst heq;rw [h] at he;cases he
theorem Sim.std {N:Nat} {W0:World} {X:Nat->Option Loc} {M0:Nat->Option Obj} {T:Nat->Option Tv} {H:Nat->Option Blk} (hs:Sim N W0 X M0 M σ T H a w):Std M σ w H:=⟨hs.imm,hs.blk,fun n b hb=>(hs.loc n b hb).imp id (·.1),hs.inj⟩
theorem OU {N:Nat} {W0:World} {X:Nat->Option Loc} {M0:Nat->Option Obj} {T:Nat->Option Tv} {H:Nat->Option Blk} (hs:Sim N W0 X M0 M σ T H a w) {dst:Option Nat} {V:Value} {w':World} {M':Nat->Option Obj} {σ':Nat->Loc} (ho:jF M σ w dst V w' M' σ' g) (hok:jI N T H dst g) :
  Sim N W0 X M0 M' σ' (goT T dst g) (goH H dst g) (a.put dst V) w':=by
 have hdef:(∀ b o,M b=some o->M' b=some o)->IA X M0 M' (a.put dst V).defers:=fun h=>by cases dst <;> exact hs.defers.mono h
 have hroom:(a.put dst V).tmps.size=N:=by cases dst <;> simp [Act.put,hs.room]
 have hpin0:∀ n x,X n=some x->N<=n/\σ n=x:=hs.pin
 have hsub:(∀ b o,M b=some o->M' b=some o)->∀ b o,M0 b=some o->M' b=some o:=fun h b o hm=>h b o (hs.sub b o hm)
 have hnew:(∀ b o,M' b=some o->M b=none->w.heap.size<=b)->∀ b o,M' b=some o->M0 b=none->W0.heap.size<=b:=fun h b o hm h0=>by
  cases hm2:M b with
  | none=>exact Nat.le_trans hs.size (h b o hm hm2)
  | some y=>exact hs.new b y hm2 h0
 cases g with
 | val v =>
  obtain ⟨k,rfl,hv⟩:=ho
  have hpin:=hpin0
  have hold:∀ b,b<w.heap.size->w'.heap[b]? = w.heap[b]? := fun b hb=>k.old b hb (fun h=>h)
  have hblk:∀ n b,H n=some b->Bv M' σ' w' (σ' n) b:=fun n b hb=>(hs.blk n b hb).mono k.sub (fun _ _=>rfl) fun hn=>hold _ ((hs.blk n b hb).lt hn)
  have hloc:∀ n b,H n=some b->(σ' n).nil=true\/(M' (σ' n).b=none/\(W0.heap.size<=(σ' n).b\/inX X (σ' n).b)):=fun n b hb=>by
   cases hn:(σ' n).nil with
   | true=>exact .inl rfl
   | false =>
    rcases hs.loc n b hb with h | ⟨h1,h2⟩
    ·rw [hn] at h;cases h
    refine .inr ⟨?_,h2⟩
    cases hm:M' (σ' n).b with
    | none=>rfl
    | some y=>have:=k.new _ _ hm h1;have:=(hs.blk n b hb).lt hn;omega
  have htm:∀ i u,T i=some u->RT M' σ' u (a.tmps.getD i undef):=fun i u hu=>EP k.sub (fun _ _=>rfl) (hs.tmps i u hu)
  have base:∀ t:Nat->Option Tv,(∀ i u,t i=some u->RT M' σ' u ((a.put dst V).tmps.getD i undef))->Sim N W0 X M0 M' σ' t H (a.put dst V) w':=fun t ht =>
   ⟨k.os.trans hs.os,k.tape.trans hs.tape,k.output.trans hs.output,Nat.le_trans hs.size k.size,fun b hb hx=>(hold b (Nat.lt_of_lt_of_le hb hs.size)).trans (hs.old b hb hx),hsub k.sub,hnew k.new,hpin,hdef k.sub,hroom,ht,k.imm,hblk,hloc,hs.inj⟩
  cases dst with
  | none=>exact base T htm
  | some d =>
   refine base _ fun i u hu => ?_
   simp only [goT,PV] at hu
   rw [DZ] at hu
   rw [HG hs.room (hok.1 d rfl)]
   by_cases hdi:d=i
   ·simp only [hdi,if_true,Option.some.injEq] at hu ⊢;subst hu;exact hv
   simp only [hdi,if_false] at hu ⊢;exact htm i u hu
 | wr n v b0 =>
  obtain ⟨k,rfl,hv,hb0⟩:=ho
  have hpin:=hpin0
  obtain ⟨bn,hbn⟩:=Option.isSome_iff_exists.1 hok.2
  have hold:∀ b,b<w.heap.size->¬ only (σ' n) b->w'.heap[b]? = w.heap[b]? := fun b hb hne=>k.old b hb hne
  have hblk:∀ m b,upd H n (some b0) m=some b->Bv M' σ' w' (σ' m) b:=fun m b hb=>by
   rw [DZ] at hb
   by_cases hnm:n=m
   ·simp only [hnm,if_true,Option.some.injEq] at hb;subst hb;subst hnm;exact hb0
   simp only [hnm,if_false] at hb
   refine (hs.blk m b hb).mono k.sub (fun _ _=>rfl) fun hn=>hold _ ((hs.blk m b hb).lt hn) fun ho => ?_
   rcases hs.inj n m _ _ hbn hb hnm with h | h | h
   ·rw [ho.1] at h;cases h
   ·rw [hn] at h;cases h
   exact h ho.2.symm
  have hloc0:∀ m b,H m=some b->(σ' m).nil=true\/(M' (σ' m).b=none/\(W0.heap.size<=(σ' m).b\/inX X (σ' m).b)):=fun n b hb=>by
   cases hn:(σ' n).nil with
   | true=>exact .inl rfl
   | false =>
    rcases hs.loc n b hb with h | ⟨h1,h2⟩
    ·rw [hn] at h;cases h
    refine .inr ⟨?_,h2⟩
    cases hm:M' (σ' n).b with
    | none=>rfl
    | some y=>have:=k.new _ _ hm h1;have:=(hs.blk n b hb).lt hn;omega
  have dom:∀ m b,upd H n (some b0) m=some b->∃ b',H m=some b':=fun m b hb=>by
   rw [DZ] at hb
   by_cases hnm:n=m
   ·subst hnm;exact ⟨_,hbn⟩
   simp only [hnm,if_false] at hb;exact ⟨_,hb⟩
  have htm:∀ i u,T i=some u->RT M' σ' u (a.tmps.getD i undef):=fun i u hu=>EP k.sub (fun _ _=>rfl) (hs.tmps i u hu)
  have base:∀ t:Nat->Option Tv,(∀ i u,t i=some u->RT M' σ' u ((a.put dst V).tmps.getD i undef))->Sim N W0 X M0 M' σ' t (upd H n (some b0)) (a.put dst V) w':=fun t ht =>
   ⟨k.os.trans hs.os,k.tape.trans hs.tape,k.output.trans hs.output,Nat.le_trans hs.size k.size,fun b hb hx=>(hold b (Nat.lt_of_lt_of_le hb hs.size) fun ho=>by
     rcases hs.loc n _ hbn with h | ⟨_,h | h⟩
     ·rw [ho.1] at h;cases h
     ·have:=ho.2;omega
     exact hx (ho.2▸h)).trans (hs.old b hb hx),hsub k.sub,hnew k.new,hpin,hdef k.sub,hroom,ht,k.imm,hblk,fun m b hb=>(dom m b hb).elim fun b' hb'=>hloc0 m b' hb',fun m1 m2 b1 b2 h1 h2 hne=>(dom m1 b1 h1).elim fun b1' h1'=>(dom m2 b2 h2).elim fun b2' h2'=>hs.inj m1 m2 b1' b2' h1' h2' hne⟩
  cases dst with
  | none=>exact base T htm
  | some d =>
   refine base _ fun i u hu => ?_
   simp only [goT,PV] at hu
   rw [DZ] at hu
   rw [HG hs.room (hok.1 d rfl)]
   by_cases hdi:d=i
   ·simp only [hdi,if_true,Option.some.injEq] at hu ⊢;subst hu;exact hv
   simp only [hdi,if_false] at hu ⊢;exact htm i u hu
 | wq n q v b0 bq =>
  obtain ⟨k,rfl,hv,hb0,hbq0⟩:=ho
  have hpin:=hpin0
  obtain ⟨hsome,hqq,hnq⟩:=hok.2
  obtain ⟨bn,hbn⟩:=Option.isSome_iff_exists.1 hsome
  have hold:∀ b,b<w.heap.size->¬ (only (σ' n) b\/only (σ' q) b)->w'.heap[b]? = w.heap[b]? := fun b hb hne=>k.old b hb hne
  have hblk:∀ m b,upd H n (some b0) m=some b->Bv M' σ' w' (σ' m) b:=fun m b hb=>by
   rw [DZ] at hb
   by_cases hnm:n=m
   ·simp only [hnm,if_true,Option.some.injEq] at hb;subst hb;subst hnm;exact hb0
   simp only [hnm,if_false] at hb
   by_cases hqm:q=m
   ·subst hqm
    rw [hqq] at hb;injection hb with hb;subst hb
    exact hbq0
   refine (hs.blk m b hb).mono k.sub (fun _ _=>rfl) fun hn=>hold _ ((hs.blk m b hb).lt hn) fun ho => ?_
   rcases ho with ho | ho
   ·rcases hs.inj n m _ _ hbn hb hnm with h | h | h
    ·rw [ho.1] at h;cases h
    ·rw [hn] at h;cases h
    exact h ho.2.symm
   rcases hs.inj q m _ _ hqq hb hqm with h | h | h
   ·rw [ho.1] at h;cases h
   ·rw [hn] at h;cases h
   exact h ho.2.symm
  have hloc0:∀ m b,H m=some b->(σ' m).nil=true\/(M' (σ' m).b=none/\(W0.heap.size<=(σ' m).b\/inX X (σ' m).b)):=fun n b hb=>by
   cases hn:(σ' n).nil with
   | true=>exact .inl rfl
   | false =>
    rcases hs.loc n b hb with h | ⟨h1,h2⟩
    ·rw [hn] at h;cases h
    refine .inr ⟨?_,h2⟩
    cases hm:M' (σ' n).b with
    | none=>rfl
    | some y=>have:=k.new _ _ hm h1;have:=(hs.blk n b hb).lt hn;omega
  have dom:∀ m b,upd H n (some b0) m=some b->∃ b',H m=some b':=fun m b hb=>by
   rw [DZ] at hb
   by_cases hnm:n=m
   ·subst hnm;exact ⟨_,hbn⟩
   simp only [hnm,if_false] at hb;exact ⟨_,hb⟩
  have htm:∀ i u,T i=some u->RT M' σ' u (a.tmps.getD i undef):=fun i u hu=>EP k.sub (fun _ _=>rfl) (hs.tmps i u hu)
  have base:∀ t:Nat->Option Tv,(∀ i u,t i=some u->RT M' σ' u ((a.put dst V).tmps.getD i undef))->Sim N W0 X M0 M' σ' t (upd H n (some b0)) (a.put dst V) w':=fun t ht =>
   ⟨k.os.trans hs.os,k.tape.trans hs.tape,k.output.trans hs.output,Nat.le_trans hs.size k.size,fun b hb hx=>(hold b (Nat.lt_of_lt_of_le hb hs.size) fun ho=>by
     rcases ho with ho | ho
     ·rcases hs.loc n _ hbn with h | ⟨_,h | h⟩
      ·rw [ho.1] at h;cases h
      ·have:=ho.2;omega
      exact hx (ho.2▸h)
     rcases hs.loc q _ hqq with h | ⟨_,h | h⟩
     ·rw [ho.1] at h;cases h
     ·have:=ho.2;omega
     exact hx (ho.2▸h)).trans (hs.old b hb hx),hsub k.sub,hnew k.new,hpin,hdef k.sub,hroom,ht,k.imm,hblk,fun m b hb=>(dom m b hb).elim fun b' hb'=>hloc0 m b' hb',fun m1 m2 b1 b2 h1 h2 hne=>(dom m1 b1 h1).elim fun b1' h1'=>(dom m2 b2 h2).elim fun b2' h2'=>hs.inj m1 m2 b1' b2' h1' h2' hne⟩
  cases dst with
  | none=>exact base T htm
  | some d =>
   refine base _ fun i u hu => ?_
   simp only [goT,PV] at hu
   rw [DZ] at hu
   rw [HG hs.room (hok.1 d rfl)]
   by_cases hdi:d=i
   ·simp only [hdi,if_true,Option.some.injEq] at hu ⊢;subst hu;exact hv
   simp only [hdi,if_false] at hu ⊢;exact htm i u hu
 | wrs l v =>
  obtain ⟨k,rfl,hv,hb0⟩:=ho
  have hpin:=hpin0
  have hsome:∀ n b,get l n=some b->(H n).isSome:=hok.2
  have hold:∀ b,b<w.heap.size->¬ (∃ n,(get l n).isSome/\only (σ' n) b)->w'.heap[b]? = w.heap[b]? := fun b hb hne=>k.old b hb hne
  have hcase:∀ m b,orL l H m=some b->get l m=some b\/(get l m=none/\H m=some b):=fun m b hb=>by
   unfold orL at hb
   split at hb
   ·rename_i b' e;rw [e];exact .inl hb
   rename_i e;exact .inr ⟨e,hb⟩
  have hblk:∀ m b,orL l H m=some b->Bv M' σ' w' (σ' m) b:=fun m b hb=>by
   rcases hcase m b hb with h1 | ⟨h1,h2⟩
   ·exact hb0 m b h1
   refine (hs.blk m b h2).mono k.sub (fun _ _=>rfl) fun hn=>hold _ ((hs.blk m b h2).lt hn) ?_
   rintro ⟨n,hn1,ho⟩
   obtain ⟨bn,hbn⟩:=Option.isSome_iff_exists.1 hn1
   obtain ⟨b1,hb1⟩:=Option.isSome_iff_exists.1 (hsome n bn hbn)
   have hne:n≠m:=fun e=>by subst e;rw [h1] at hbn;cases hbn
   rcases hs.inj n m _ _ hb1 h2 hne with h | h | h
   ·rw [ho.1] at h;cases h
   ·rw [hn] at h;cases h
   exact h ho.2.symm
  have hloc0:∀ m b,H m=some b->(σ' m).nil=true\/(M' (σ' m).b=none/\(W0.heap.size<=(σ' m).b\/inX X (σ' m).b)):=fun n b hb=>by
   cases hn:(σ' n).nil with
   | true=>exact .inl rfl
   | false =>
    rcases hs.loc n b hb with h | ⟨h1,h2⟩
    ·rw [hn] at h;cases h
    refine .inr ⟨?_,h2⟩
    cases hm:M' (σ' n).b with
    | none=>rfl
    | some y=>have:=k.new _ _ hm h1;have:=(hs.blk n b hb).lt hn;omega
  have dom:∀ m b,orL l H m=some b->∃ b',H m=some b':=fun m b hb=>by
   rcases hcase m b hb with h1 | ⟨h1,h2⟩
   ·exact Option.isSome_iff_exists.1 (hsome m b h1)
   exact ⟨_,h2⟩
  have htm:∀ i u,T i=some u->RT M' σ' u (a.tmps.getD i undef):=fun i u hu=>EP k.sub (fun _ _=>rfl) (hs.tmps i u hu)
  have base:∀ t:Nat->Option Tv,(∀ i u,t i=some u->RT M' σ' u ((a.put dst V).tmps.getD i undef))->Sim N W0 X M0 M' σ' t (orL l H) (a.put dst V) w':=fun t ht =>
   ⟨k.os.trans hs.os,k.tape.trans hs.tape,k.output.trans hs.output,Nat.le_trans hs.size k.size,fun b hb hx=>(hold b (Nat.lt_of_lt_of_le hb hs.size) fun ⟨n,hn1,ho⟩=>by
     obtain ⟨bn,hbn⟩:=Option.isSome_iff_exists.1 hn1
     obtain ⟨b1,hb1⟩:=Option.isSome_iff_exists.1 (hsome n bn hbn)
     rcases hs.loc n _ hb1 with h | ⟨_,h | h⟩
     ·rw [ho.1] at h;cases h
     ·have:=ho.2;omega
     exact hx (ho.2▸h)).trans (hs.old b hb hx),hsub k.sub,hnew k.new,hpin,hdef k.sub,hroom,ht,k.imm,hblk,fun m b hb=>(dom m b hb).elim fun b' hb'=>hloc0 m b' hb',fun m1 m2 b1 b2 h1 h2 hne=>(dom m1 b1 h1).elim fun b1' h1'=>(dom m2 b2 h2).elim fun b2' h2'=>hs.inj m1 m2 b1' b2' h1' h2' hne⟩
  cases dst with
  | none=>exact base T htm
  | some d =>
   refine base _ fun i u hu => ?_
   simp only [goT,PV] at hu
   rw [DZ] at hu
   rw [HG hs.room (hok.1 d rfl)]
   by_cases hdi:d=i
   ·simp only [hdi,if_true,Option.some.injEq] at hu ⊢;subst hu;exact hv
   simp only [hdi,if_false] at hu ⊢;exact htm i u hu
 | new b0 v =>
  obtain ⟨x,d,rfl,k,hx,rfl,hb0,hv⟩:=ho
  obtain ⟨hdN,d',hdd,hf,hno⟩:=hok
  injection hdd with hdd
  subst hdd
  have hd:=hdN d rfl
  have hpin:∀ n y,X n=some y->N<=n/\upd σ d x n=y:=fun n y hy=>by
   obtain ⟨h1,h2⟩:=hpin0 n y hy
   exact ⟨h1,by rw [C0 _ _ (by omega)];exact h2⟩
  have hold:∀ b,b<w.heap.size->w'.heap[b]? = w.heap[b]? := fun b hb=>k.old b hb (fun h=>h)
  have hse:∀ n b,H n=some b->upd σ d x n=σ n:=fun n b hb=>C0 _ _ (hf.2 n b hb).1
  have cases_:∀ n b,upd H d (some b0) n=some b->(n=d/\b=b0)\/(n≠d/\H n=some b):=fun n b hb=>by
   rw [DZ] at hb
   by_cases hdn:d=n
   ·simp only [hdn,if_true,Option.some.injEq] at hb;exact .inl ⟨hdn.symm,hb.symm⟩
   simp only [hdn,if_false] at hb;exact .inr ⟨Ne.symm hdn,hb⟩
  refine ⟨k.os.trans hs.os,k.tape.trans hs.tape,k.output.trans hs.output,Nat.le_trans hs.size k.size,fun b hb hx=>(hold b (Nat.lt_of_lt_of_le hb hs.size)).trans (hs.old b hb hx),hsub k.sub,hnew k.new,hpin,hdef k.sub,hroom,fun i u hu => ?_,k.imm,fun n b hb => ?_,fun n b hb => ?_,fun n m b c hb hc hne => ?_⟩
  ·simp only [goT] at hu
   rw [DZ] at hu
   rw [HG hs.room hd]
   by_cases hdi:d=i
   ·simp only [hdi,if_true,Option.some.injEq] at hu ⊢;subst hu;subst hdi;exact hv
   simp only [hdi,if_false] at hu ⊢;exact EP k.sub (Rp Tv.no (hf.1 i u hu) σ x) (hs.tmps i u hu)
  ·rcases cases_ n b hb with ⟨rfl,rfl⟩ | ⟨_,hb⟩
   ·rw [BV];exact hb0
   rw [hse n b hb];exact (hs.blk n b hb).mono k.sub (Rp Blk.no (hf.2 n b hb).2 σ x) fun hn=>hold _ ((hs.blk n b hb).lt hn)
  ·rcases cases_ n b hb with ⟨rfl,rfl⟩ | ⟨_,hb⟩
   ·rw [BV]
    rcases hx with h | ⟨h1,h2⟩
    ·exact .inl h
    exact .inr ⟨h2,.inl (Nat.le_trans hs.size h1)⟩
   rw [hse n b hb]
   cases hn:(σ n).nil with
   | true=>exact .inl rfl
   | false =>
    rcases hs.loc n b hb with h | ⟨h1,h2⟩
    ·rw [hn] at h;cases h
    refine .inr ⟨?_,h2⟩
    cases hm:M' (σ n).b with
    | none=>rfl
    | some y=>have:=k.new _ _ hm h1;have:=(hs.blk n b hb).lt hn;omega
  have apart:∀ m c,H m=some c->x.nil=true\/(σ m).nil=true\/x.b≠(σ m).b:=fun m c hc=>by
   cases hn:(σ m).nil with
   | true=>exact .inr (.inl rfl)
   | false =>
    have:=(hs.blk m c hc).lt hn
    rcases hx with h | ⟨h1,_⟩
    ·exact .inl h
    exact .inr (.inr (by omega))
  rcases cases_ n b hb with ⟨e1,e2⟩ | ⟨_,hb'⟩ <;> rcases cases_ m c hc with ⟨e3,e4⟩ | ⟨_,hc'⟩
  ·exact absurd (e1.trans e3.symm) hne
  ·rw [e1,BV,hse m c hc'];exact apart m c hc'
  ·rw [e3,BV,hse n b hb']
   rcases apart n b hb' with h | h | h
   ·exact .inr (.inl h)
   ·exact .inl h
   exact .inr (.inr (Ne.symm h))
  rw [hse n b hb',hse m c hc'];exact hs.inj n m b c hb' hc' hne
 | app p b0 v =>
  obtain ⟨x,d,rfl,k,hx,rfl,hb0,hv⟩:=ho
  obtain ⟨hdN,d',hdd,hf,_,hbp⟩:=hok
  injection hdd with hdd
  subst hdd
  have hd:=hdN d rfl
  have hpin:∀ n y,X n=some y->N<=n/\upd σ d x n=y:=fun n y hy=>by
   obtain ⟨h1,h2⟩:=hpin0 n y hy
   exact ⟨h1,by rw [C0 _ _ (by omega)];exact h2⟩
  obtain ⟨bp,hbp⟩:=Option.isSome_iff_exists.1 hbp
  have hold:∀ b,b<w.heap.size->¬ only (σ p) b->w'.heap[b]? = w.heap[b]? := fun b hb hne=>k.old b hb hne
  have hse:∀ n b,H n=some b->upd σ d x n=σ n:=fun n b hb=>C0 _ _ (hf.2 n b hb).1
  have cases_:∀ n b,upd (upd H p none) d (some b0) n=some b->(n=d/\b=b0)\/(n≠d/\n≠p/\H n=some b):=fun n b hb=>by
   rw [DZ] at hb
   by_cases hdn:d=n
   ·simp only [hdn,if_true,Option.some.injEq] at hb;exact .inl ⟨hdn.symm,hb.symm⟩
   simp only [hdn,if_false,DZ] at hb
   by_cases hpn:p=n
   ·simp [hpn] at hb
   simp only [hpn,if_false] at hb;exact .inr ⟨Ne.symm hdn,Ne.symm hpn,hb⟩
  have apartp:∀ n b,H n=some b->n≠p->(σ n).nil=false->¬ only (σ p) (σ n).b:=fun n b hb hne hn ho=>by
   rcases hs.inj n p _ _ hb hbp hne with h | h | h
   ·rw [hn] at h;cases h
   ·rw [ho.1] at h;cases h
   exact h ho.2
  refine ⟨k.os.trans hs.os,k.tape.trans hs.tape,k.output.trans hs.output,Nat.le_trans hs.size k.size,fun b hb hX=>(hold b (Nat.lt_of_lt_of_le hb hs.size) fun ho => ?_).trans (hs.old b hb hX),hsub k.sub,hnew k.new,hpin,hdef k.sub,hroom,fun i u hu => ?_,k.imm,fun n b hb => ?_,fun n b hb => ?_,fun n m b c hb hc hne => ?_⟩
  ·rcases hs.loc p _ hbp with h | ⟨_,h | h⟩
   ·rw [ho.1] at h;cases h
   ·have:=ho.2;omega
   exact hX (ho.2▸h)
  ·simp only [goT] at hu
   rw [DZ] at hu
   rw [HG hs.room hd]
   by_cases hdi:d=i
   ·simp only [hdi,if_true,Option.some.injEq] at hu ⊢;subst hu;subst hdi;exact hv
   simp only [hdi,if_false] at hu ⊢;exact EP k.sub (Rp Tv.no (hf.1 i u hu) σ x) (hs.tmps i u hu)
  ·rcases cases_ n b hb with ⟨rfl,rfl⟩ | ⟨_,hnp,hb⟩
   ·rw [BV];exact hb0
   rw [hse n b hb];exact (hs.blk n b hb).mono k.sub (Rp Blk.no (hf.2 n b hb).2 σ x) fun hn=>hold _ ((hs.blk n b hb).lt hn) (apartp n b hb hnp hn)
  ·rcases cases_ n b hb with ⟨rfl,rfl⟩ | ⟨_,hnp,hb⟩
   ·rw [BV]
    rcases hx with h | ⟨h1,h2⟩ | ⟨h1,h2⟩
    ·exact .inl h
    ·refine .inr ⟨h2,?_⟩
     rcases hs.loc p _ hbp with h | ⟨_,h⟩
     ·rw [h1.1] at h;cases h
     rw [h1.2];exact h
    exact .inr ⟨h2,.inl (Nat.le_trans hs.size h1)⟩
   rw [hse n b hb]
   cases hn:(σ n).nil with
   | true=>exact .inl rfl
   | false =>
    rcases hs.loc n b hb with h | ⟨h1,h2⟩
    ·rw [hn] at h;cases h
    refine .inr ⟨?_,h2⟩
    cases hm:M' (σ n).b with
    | none=>rfl
    | some y=>have:=k.new _ _ hm h1;have:=(hs.blk n b hb).lt hn;omega
  have apart:∀ m c,m≠p->H m=some c->x.nil=true\/(σ m).nil=true\/x.b≠(σ m).b:=fun m c hmp hc=>by
   cases hn:(σ m).nil with
   | true=>exact .inr (.inl rfl)
   | false =>
    have:=(hs.blk m c hc).lt hn
    rcases hx with h | ⟨h1,_⟩ | ⟨h1,_⟩
    ·exact .inl h
    ·refine .inr (.inr fun e=>apartp m c hc hmp hn ⟨h1.1,?_⟩)
     rw [<- e];exact h1.2
    exact .inr (.inr (by omega))
  rcases cases_ n b hb with ⟨e1,e2⟩ | ⟨_,hnp,hb'⟩ <;> rcases cases_ m c hc with ⟨e3,e4⟩ | ⟨_,hmp,hc'⟩
  ·exact absurd (e1.trans e3.symm) hne
  ·rw [e1,BV,hse m c hc'];exact apart m c hmp hc'
  ·rw [e3,BV,hse n b hb']
   rcases apart n b hnp hb' with h | h | h
   ·exact .inr (.inl h)
   ·exact .inl h
   exact .inr (.inr (Ne.symm h))
  rw [hse n b hb',hse m c hc'];exact hs.inj n m b c hb' hc' hne
end
end
section
open Go.RowKit
def Hk (t:Nat->Option Tv) (ops:Array Oper) (j:Nat) (want:Bool):Option Prop:=match ops[j]? with
 | some o=>match o.dst with
  | some d=>match t d with
   | some (.av (.one (.val (.bool b))))=>some (b=want)
   | some (.grd g (.one (.val (.bool b))))=>some (g/\b=want)
   | _=>none
  | none=>none
 | none=>none
def Kx:List Operand->List Nat
 | []=>[]
 | .tmp i::r=>i::Kx r
 | _::r=>Kx r
def strip:Tv->Tv
 | .grd _ x=>.av x
 | v=>v
def evG (t:Nat->Option Tv) (l:List Nat):Operand->Option Tv
 | .tmp i=>bif l.any (Nat.beq i) then (t i).map strip else t i
 | x=>evT t x
def KT (t:Nat->Option Tv) (G:Prop):List Nat->List Prop
 | []=>[]
 | i::r=>match t i with
  | some (.grd g _)=>(G->g)::KT t G r
  | _=>KT t G r
def G8:Op->List Nat
 | .pick c _ _=>Kx [c]
 | op=>Kx op.operands.toList
def JV (P:Program) (V:Env P) (N:Nat) (ops:Array Oper) (o:Oper) (s:AS):Option (List Prop×AS):=match o.guard with
 | none=>match eff P V o.dst o.op (evT (get s.t)) with
  | some e=>match res (get s.h) e with
   | some (cs,g)=>bif Ie N s o.dst g then some (cs,Tc s o.dst g) else none
   | none=>none
  | none=>none
 | some (j,want)=>match Hk (get s.t) ops j want with
  | some G=>match eff P V o.dst o.op (evG (get s.t) (G8 o.op)) with
   | some e=>match res (get s.h) e with
    | some (cs,.val (.av v))=>bif Ie N s o.dst (.val (.av v)) then some (KT (get s.t) G (G8 o.op)++cs.map (fun p=>G->p),NP s o.dst (.grd G v)) else none
    | _=>none
   | none=>bif Ie N s o.dst (.val (.av (.one (.val (.bool false))))) then some ([¬ G],NP s o.dst (.grd G (.one (.val (.bool false))))) else none
  | none=>none
def JW (P:Program) (V:Env P) (N:Nat) (ops:Array Oper):List Oper->AS->Option (List Prop×AS)
 | [],s=>some ([],s)
 | o::l,s=>match JV P V N ops o s with
  | some (cs,s1)=>match JW P V N ops l s1 with
   | some (ds,s2)=>some (cs++ds,s2)
   | none=>none
  | none=>none
section
variable {P:Program} {V:Env P} {N:Nat} {ops:Array Oper} {W0:World} {X:Nat→Option Loc} {M0 M:Nat→Option Obj} {σ:Nat→Loc} {w:World} {a:Act}
theorem Td {h:Nat->Option Blk}:∀ {ns:List Nat} {bs:List Blk},GC h ns=some bs->∀ n∈ns,(h n).isSome
 | [],_,_,n,hn=>by cases hn
 | k::r,bs,hg,n,hn=>by
  simp only [GC] at hg
  split at hg
  ·rename_i b0 bs0 h1 h2
   rcases List.mem_cons.1 hn with rfl | hn
   ·rw [h1];rfl
   exact Td h2 n hn
  cases hg
theorem U3 {h:Nat->Option Blk} {e:Ef} {cs:List Prop} {n:Nat} {v:Tv} {b:Blk} (hr:res h e=some (cs,.wr n v b)):(h n).isSome:=by
 cases e <;> simp only [res] at hr
 case wr =>
  split at hr
  ·rename_i b0 bs h1 h2
   split at hr
   ·simp only [Option.some.injEq,Prod.mk.injEq,Eg.wr.injEq] at hr
    obtain ⟨_,rfl,_,_⟩:=hr
    rw [h1];rfl
   cases hr
  cases hr
 all_goals ((repeat' split at hr) <;> simp at hr)
theorem RX {h:Nat->Option Blk} {e:Ef} {cs:List Prop} {l:List (Nat×Blk)} {v:Tv} (hr:res h e=some (cs,.wrs l v)):∀ n b,get l n=some b->(h n).isSome:=by
 cases e <;> simp only [res] at hr
 case wrs =>
  split at hr
  ·rename_i b0 bs h1 h2
   split at hr
   ·rename_i cs1 v1 b1 _
    cases hl:Nat.beq _ b1.length with
    | false=>rw [hl] at hr;cases hr
    | true =>
     rw [hl] at hr
     simp only [Option.some.injEq,Prod.mk.injEq,Eg.wrs.injEq] at hr
     obtain ⟨_,rfl,_⟩:=hr
     intro n b hg
     exact Td h1 n (List.of_mem_zip (DL hg)).1
   cases hr
  cases hr
 all_goals ((repeat' split at hr) <;> simp at hr)
theorem U4 {h:Nat->Option Blk} {e:Ef} {cs:List Prop} {n q:Nat} {v:Tv} {b bq:Blk} (hr:res h e=some (cs,.wq n q v b bq)):(h n).isSome/\h q=some bq/\n≠q:=by
 cases e <;> simp only [res] at hr
 case wq =>
  split at hr
  ·rename_i b0 b1 h1 h2
   split at hr
   ·split at hr
    ·cases hr
    rename_i hne
    simp only [Option.some.injEq,Prod.mk.injEq,Eg.wq.injEq] at hr
    obtain ⟨_,rfl,rfl,_,_,rfl⟩:=hr
    exact ⟨by rw [h1];rfl,h2,fun e=>by rw [e,Nat.beq_refl] at hne;cases hne⟩
   cases hr
  cases hr
 all_goals ((repeat' split at hr) <;> simp at hr)
theorem RY {h:Nat->Option Blk} {e:Ef} {cs:List Prop} {n:Nat} {v:Nat->Tv} {b:Blk} (hr:res h e=some (cs,.app n b v)):(h n).isSome:=by
 cases e <;> simp only [res] at hr
 case app =>
  split at hr
  ·rename_i b0 bs0 h1 _
   split at hr
   ·simp only [Option.some.injEq,Prod.mk.injEq,Eg.app.injEq] at hr
    obtain ⟨_,rfl,_,_⟩:=hr
    rw [h1];rfl
   cases hr
  cases hr
 all_goals ((repeat' split at hr) <;> simp at hr)
theorem Wu {T:Nat->Option Tv} {H:Nat->Option Blk} {dst:Option Nat} {g:Eg} (h:jI N T H dst g):iF dst g:=by
 cases g with
 | val=>trivial
 | wr=>trivial
 | wrs=>trivial
 | wq=>trivial
 | new b v=>obtain ⟨_,d,hd,_,hn⟩:=h;exact ⟨d,hd,hn⟩
 | app n b v=>obtain ⟨_,d,hd,_,hn,_⟩:=h;exact ⟨d,hd,hn⟩
theorem Gj {t:Nat->Option Tv} (ht:∀ i v,t i=some v->RT M σ v (a.tmps.getD i undef)) (hroom:a.tmps.size=N) {o:Oper} {j:Nat} {want:Bool} {G:Prop} (hg:o.guard=some (j,want)) (hG:Hk t ops j want=some G):Region.wanted o (yielded ops a.tmps)=true↔G:=by
 unfold Hk at hG
 split at hG
 ·rename_i oj hj
  split at hG
  ·rename_i d hd
   have hy:yielded ops a.tmps j=match a.tmps[d]? with | some (.bool b)=>some b | _=>none:=by
    simp only [yielded,hj,Option.bind_some,hd]
    rfl
   unfold Region.wanted
   rw [hg]
   simp only [hy]
   split at hG
   ·rename_i b hb
    injection hG with hG
    subst hG
    have hv:a.tmps.getD d undef=.bool b:=(ht d _ hb).1
    have:a.tmps[d]? = some (.bool b):=by
     rw [Array.getD_eq_getD_getElem?] at hv
     cases hq:a.tmps[d]? with
     | none=>rw [hq] at hv;cases hv
     | some y=>rw [hq] at hv;simp only [Option.getD_some] at hv;rw [hv]
    rw [this]
    simp
   ·rename_i g b hb
    injection hG with hG
    subst hG
    have hR:=ht d _ hb
    by_cases hgp:g
    ·have hv:a.tmps.getD d undef=.bool b:=(hR.1 hgp).1
     have:a.tmps[d]? = some (.bool b):=by
      rw [Array.getD_eq_getD_getElem?] at hv
      cases hq:a.tmps[d]? with
      | none=>rw [hq] at hv;cases hv
      | some y=>rw [hq] at hv;simp only [Option.getD_some] at hv;rw [hv]
     rw [this]
     simp [hgp]
    have hv:a.tmps.getD d undef=undef:=hR.2 hgp
    have:∀ b,a.tmps[d]? ≠ some (.bool b):=fun b hb=>by
     rw [Array.getD_eq_getD_getElem?,hb] at hv
     simp only [Option.getD_some] at hv
     cases hv
    simp only [hgp,false_and,iff_false,Bool.not_eq_true]
    cases hq:a.tmps[d]? with
    | none=>rfl
    | some y =>
     cases y <;> first | rfl | exact absurd hq (this _)
   cases hG
  cases hG
 cases hG
theorem Ot {t:Nat->Option Tv} {G:Prop} (hG:G):∀ {l:List Nat},CU (KT t G l)->∀ i∈l,∀ g y,t i=some (.grd g y)->g
 | x::r,hc,z,hz,g,y,hy=>by
  unfold KT at hc
  cases hz with
  | head =>
   rw [hy] at hc
   exact hc.head hG
  | tail _ hm =>
   split at hc
   ·exact Ot hG hc.tail z hm g y hy
   exact Ot hG hc z hm g y hy
theorem cU {t:Nat->Option Tv} {l:List Nat} {G:Prop} (hG:G) (hc:CU (KT t G l)) (ht:∀ i v,t i=some v->RT M σ v (a.tmps.getD i undef)) {x:Operand} {v:Tv} (hv:evG t l x=some v):RT M σ v (a.eval x):=by
 cases x with
 | tmp i =>
  simp only [evG] at hv
  cases hm:l.any (Nat.beq i) with
  | false=>rw [hm] at hv;exact ht i v hv
  | true =>
   rw [hm] at hv
   simp only [cond_true] at hv
   obtain ⟨u,hu,rfl⟩:=Option.map_eq_some_iff.1 hv
   have hR:=ht i u hu
   obtain ⟨k,hk,hik⟩:=List.any_eq_true.1 hm
   have:=Nat.eq_of_beq_eq_true hik
   subst this
   cases u with
   | av x=>exact hR
   | tup x=>exact hR
   | grd g y=>exact hR.1 (Ot hG hc i hk g y hu)
 | const c=>exact Hm ht (x:=.const c) hv
 | global g=>exact Hm ht (x:=.global g) hv
 | func f=>exact Hm ht (x:=.func f) hv
theorem IW {ev ev':Operand->Option Tv}:∀ (l:List (Nat×Operand)),(∀ p∈l,ev p.2=ev' p.2)->IX ev l=IX ev' l
 | [],_=>rfl
 | (i,x)::r,h=>by
  simp only [IX]
  rw [h (i,x) (by simp),IW r fun p hp=>h p (by simp [hp])]
theorem Jm {ev ev':Operand->Option Tv}:∀ (l:List Operand),(∀ x∈l,ev x=ev' x)->Fd ev l=Fd ev' l
 | [],_=>rfl
 | x::r,h=>by
  simp only [Fd]
  rw [h x (by simp),Jm r fun p hp=>h p (by simp [hp])]
theorem QN {dst:Option Nat} {op:Op} {ev ev':Operand->Option Tv} (h:∀ x∈op.operands.toList,ev x=ev' x):eff P V dst op ev=eff P V dst op ev':=by
 cases op <;> simp only [eff,HX] <;> simp only [Op.operands] at h
 case move x=>rw [h x (by simp)]
 case assign x=>rw [h x (by simp)]
 case pick c a b=>rw [h c (by simp),h a (by simp),h b (by simp)]
 case box T x=>rw [h x (by simp)]
 case build T ps=>unfold Lo;rw [IW _ fun p hp=>h p.2 (by simp;exact ⟨p.1,by simpa using hp⟩)]
 case buildSlice T n ps=>unfold GK;rw [IW _ fun p hp=>h p.2 (by simp;exact ⟨p.1,by simpa using hp⟩)]
 case load T x=>rw [h x (by simp)]
 case store T x y=>rw [h x (by simp),h y (by simp)]
 case fieldAddr T x k=>rw [h x (by simp)]
 case field T x k=>rw [h x (by simp)]
 case indexAddr T x y=>rw [h x (by simp),h y (by simp)]
 case binOp b T x y yT=>rw [h x (by simp),h y (by simp)]
 case unOp b T x=>rw [h x (by simp)]
 case convert a b x=>rw [h x (by simp)]
 case extract x i=>rw [h x (by simp)]
 case nilCheck x=>rw [h x (by simp)]
 case makeFunc fn first captured =>
  cases fn <;> simp only [eff,HX]
  rw [Jm _ fun x hx=>h x (by simp at hx ⊢;exact .inr hx)]
 case index T x y=>rw [h x (by simp),h y (by simp)]
 case makeSlice T x y=>rw [h x (by simp),h y (by simp)]
 case lookup T x k ok=>rw [h x (by simp),h k (by simp)]
 case makeMap T r=>cases r <;> rfl
 case mapUpdate T m k x=>rw [h m (by simp),h k (by simp),h x (by simp)]
 case slice T x lo hi mx =>
  cases mx <;> simp only [eff,HX]
  rw [h x (by simp)]
  have e1:lo.map ev=lo.map ev':=by
   cases lo with
   | none=>rfl
   | some y=>simp only [Option.map_some];rw [h y (by simp)]
  have e2:hi.map ev=hi.map ev':=by
   cases hi with
   | none=>rfl
   | some y=>simp only [Option.map_some];rw [h y (by simp)]
  rw [e1,e2]
 case call c =>
  have ha:Fd ev c.args.toList=Fd ev' c.args.toList:=Jm _ fun x hx=>h x (by simp [Call.operands];exact .inr (by simpa using hx))
  rw [ha]
  cases hc:c.callee with
  | value f =>
   have hf:=h f (by simp [Call.operands,hc])
   cases Fd ev' c.args.toList with
   | none=>rfl
   | some xs=>simp only [hf]
  | _=>cases Fd ev' c.args.toList <;> rfl
def QG:Ef->List Nat
 | .rd ns _=>ns
 | .wr n ns _=>n::ns
 | .wrs ns rs _=>ns++rs
 | .wq n q _=>[n,q]
 | .app n ns _=>n::ns
 | _=>[]
theorem GB {h h':Nat->Option Blk}:∀ (l:List Nat),(∀ n∈l,h n=h' n)->GC h l=GC h' l
 | [],_=>rfl
 | n::r,k=>by
  simp only [GC]
  rw [k n (by simp),GB r fun m hm=>k m (by simp [hm])]
theorem Pr {h h':Nat->Option Blk} {e:Ef} (k:∀ n∈QG e,h n=h' n):res h e=res h' e:=by
 cases e <;> simp only [res] <;> simp only [QG] at k
 case rd ns q=>rw [GB ns k]
 case wr n ns q=>rw [k n (by simp),GB ns fun m hm=>k m (by simp [hm])]
 case wq n q _=>rw [k n (by simp),k q (by simp)]
 case wrs ns rs q=>rw [GB ns fun m hm=>k m (by simp [hm]),GB rs fun m hm=>k m (by simp [hm])]
 case app n ns q=>rw [k n (by simp),GB ns fun m hm=>k m (by simp [hm])]
theorem Li {t t':Nat->Option Tv} {ops:Array Oper} {j:Nat} {want:Bool} (h:∀ d,(ops[j]?).bind (·.dst)=some d->t d=t' d):Hk t ops j want=Hk t' ops j want:=by
 unfold Hk
 cases ho:ops[j]? with
 | none=>rfl
 | some o =>
  simp only
  cases hd:o.dst with
  | none=>rfl
  | some d=>simp only;rw [h d (by simp [ho,hd])]
theorem K7:∀ {l:List Operand} {i:Nat},i∈Kx l↔.tmp i∈l
 | [],i=>by simp [Kx]
 | x::r,i=>by
  have:=K7 (l:=r) (i:=i)
  cases x <;> simp [Kx,this]
theorem VW {op:Op} {i:Nat} (h:i∈G8 op) : .tmp i∈op.operands.toList:=by
 unfold G8 at h
 split at h
 ·rw [K7] at h
  simp only [List.mem_singleton] at h
  simp [Op.operands,h]
 exact K7.1 h
theorem M8 {t t':Nat->Option Tv} {G:Prop}:∀ (l:List Nat),(∀ i∈l,t i=t' i)->KT t G l=KT t' G l
 | [],_=>rfl
 | i::r,h=>by
  unfold KT
  rw [h i (by simp),M8 r fun k hk=>h k (by simp [hk])]
def Jg (P:Program) (V:Env P) (ops:Array Oper) (o:Oper) (s:AS):List Nat:=match o.guard with
 | none=>match eff P V o.dst o.op (evT (get s.t)) with
  | some e=>QG e
  | none=>[]
 | some _=>match eff P V o.dst o.op (evG (get s.t) (G8 o.op)) with
  | some e=>QG e
  | none=>[]
def EF (P:Program) (V:Env P) (o:Oper) (s:AS):List Nat:=match o.guard with
 | none=>match eff P V o.dst o.op (evT (get s.t)) with
  | some (.wr n _ _)=>[n]
  | some (.wrs ns _ _)=>ns
  | some (.wq n _ _)=>[n]
  | some (.new _ _ _)=>o.dst.toList
  | some (.app n _ _)=>n::o.dst.toList
  | _=>[]
 | some _=>[]
def Hz (P:Program) (V:Env P) (o:Oper) (s:AS):Bool:=match o.guard with
 | none=>match eff P V o.dst o.op (evT (get s.t)) with
  | some (.new _ _ _)=>true
  | some (.app _ _ _)=>true
  | _=>false
 | some _=>false
theorem Jb {ops:Array Oper} {o:Oper} {i:Nat} (h:Operand.tmp i∈o.op.operands.toList):i∈o.looksAt ops:=by
 unfold Oper.looksAt
 exact List.mem_append_left _ (List.mem_filterMap.2 ⟨.tmp i,h,rfl⟩)
theorem KV {ops:Array Oper} {o:Oper} {j:Nat} {want:Bool} (hg:o.guard=some (j,want)) {d:Nat} (hd:(ops[j]?).bind (·.dst)=some d):d∈o.looksAt ops:=by
 unfold Oper.looksAt
 rw [hg]
 exact List.mem_append_right _ (by simp [hd])
def NN (dst:Option Nat):Eg->List Nat
 | .val _=>[]
 | .wr n _ _=>[n]
 | .wrs l _=>l.map (·.1)
 | .wq n _ _ _ _=>[n]
 | .new _ _=>dst.toList
 | .app n _ _=>n::dst.toList
theorem QF {h:Nat->Option Blk} {o:Oper} {s:AS} {e:Ef} {cs:List Prop} {g:Eg} (hg:o.guard=none) (he:eff P V o.dst o.op (evT (get s.t))=some e) (hr:res h e=some (cs,g)):EF P V o s=NN o.dst g:=by
 unfold EF
 split
 ·rw [he]
  cases e <;> simp only [res] at hr
  case val=>simp only [Option.some.injEq,Prod.mk.injEq] at hr;obtain ⟨_,rfl⟩:=hr;rfl
  case rd =>
   split at hr
   ·split at hr
    ·simp only [Option.some.injEq,Prod.mk.injEq] at hr;obtain ⟨_,rfl⟩:=hr;rfl
    cases hr
   cases hr
  case wr =>
   split at hr
   ·split at hr
    ·simp only [Option.some.injEq,Prod.mk.injEq] at hr;obtain ⟨_,rfl⟩:=hr;rfl
    cases hr
   cases hr
  case wq =>
   split at hr
   ·split at hr
    ·split at hr
     ·cases hr
     simp only [Option.some.injEq,Prod.mk.injEq] at hr;obtain ⟨_,rfl⟩:=hr;rfl
    cases hr
   cases hr
  case wrs ns rs k =>
   split at hr
   ·split at hr
    ·rename_i cs1 v1 b1 _
     cases hl:Nat.beq ns.length b1.length with
     | false=>rw [hl] at hr;cases hr
     | true =>
      rw [hl] at hr
      simp only [Option.some.injEq,Prod.mk.injEq] at hr
      obtain ⟨_,rfl⟩:=hr
      have:=Nat.eq_of_beq_eq_true hl
      simp only [NN]
      rw [List.map_fst_zip (by omega)]
    cases hr
   cases hr
  case new=>simp only [Option.some.injEq,Prod.mk.injEq] at hr;obtain ⟨_,rfl⟩:=hr;rfl
  case app =>
   split at hr
   ·split at hr
    ·simp only [Option.some.injEq,Prod.mk.injEq] at hr;obtain ⟨_,rfl⟩:=hr;rfl
    cases hr
   cases hr
 rename_i hg';rw [hg] at hg';cases hg'
theorem P8 {N:Nat} {s:AS} {dst:Option Nat} {g:Eg} (hok:Ie N s dst g=true) (H:Nat->Option Blk):(fun n=>if n∈NN dst g then get (Tc s dst g).h n else H n)=goH H dst g:=by
 funext n
 rw [(HF s dst g).2]
 cases g with
 | val v=>simp [goH,NN]
 | wr m v b =>
  simp only [goH,DZ,List.mem_singleton,NN]
  by_cases h:m=n
  ·simp [h]
  simp [h,Ne.symm h]
 | wq m q v b bq =>
  simp only [goH,DZ,List.mem_singleton,NN]
  by_cases h:m=n
  ·simp [h]
  simp [h,Ne.symm h]
 | wrs l v =>
  have hwo:NN dst (.wrs l v)=l.map (·.1):=rfl
  simp only [goH]
  by_cases hn:n∈NN dst (.wrs l v)
  ·rw [if_pos hn]
   rw [hwo] at hn
   cases hg:get l n with
   | none =>
    exfalso
    obtain ⟨⟨k,b⟩,hm,rfl⟩:=List.mem_map.1 hn
    clear hn hok hwo
    induction l with
    | nil=>cases hm
    | cons p r ih =>
     obtain ⟨k',b'⟩:=p
     simp only [get,CQ] at hg
     by_cases e:k'=k
     ·simp [e] at hg
     simp only [e,decide_false,cond_false] at hg
     rcases List.mem_cons.1 hm with hm | hm
     ·injection hm with h1 _;exact e h1.symm
     exact ih hm hg
   | some b=>simp only [orL,hg]
  rw [if_neg hn]
  rw [hwo] at hn
  cases hg:get l n with
  | none=>simp only [orL,hg]
  | some b=>exact absurd (List.mem_map.2 ⟨_,DL hg,rfl⟩) hn
 | new b v =>
  cases dst with
  | none=>simp [goH,NN]
  | some d =>
   simp only [goH,DZ,Option.toList_some,List.mem_singleton,NN]
   by_cases h:d=n
   ·simp [h]
   simp [h,Ne.symm h]
 | app m b v =>
  cases dst with
  | none=>cases hok
  | some d =>
   simp only [goH,DZ,Option.toList_some,List.mem_cons,List.not_mem_nil,or_false,NN]
   by_cases h1:d=n
   ·simp [h1]
   by_cases h2:m=n
   ·simp [h2]
   simp [h1,h2,Ne.symm h1,Ne.symm h2]
theorem Jz {s:AS} {dst:Option Nat} {g:Eg} (T:Nat->Option Tv):(fun i=>if dst=some i then get (Tc s dst g).t i else T i)=goT T dst g:=by
 funext i
 rw [(HF s dst g).1]
 cases g <;> cases dst <;> simp only [goT,PV,DZ,Option.some.injEq,reduceCtorEq,if_false] <;> split <;> simp_all
theorem OR {rd:Option Nat} (hV:KY P V) {o:Oper} {s s1:AS} {cs:List Prop} (hst:JV P V N ops o s=some (cs,s1)) (hc:CU cs) {T:Nat->Option Tv} {H:Nat->Option Blk} (hs:Sim N W0 X M0 M σ T H a w) (hT:∀ i∈o.looksAt ops,T i=get s.t i) (hH:∀ n∈Jg P V ops o s,H n=get s.h n)
  (hfr:Hz P V o s=true->∀ d,o.dst=some d->PS T H d) {K:Act->World->Prop} {Q:Exit->Act->World->Prop} (hK:∀ M' σ' a' w',Sim N W0 X M0 M' σ' (fun i=>if o.dst=some i then get s1.t i else T i) (fun n=>if n∈EF P V o s then get s1.h n else H n) a' w'->K a' w') :
  if Region.wanted o (yielded ops a.tmps) then o.wpIn (FW rd) 0 P a w K Q else (∀ f,o.about P w a.eval=some f->(FW rd).fn f)/\K (a.put o.dst undef) w:=by
 unfold JV at hst
 split at hst
 ·rename_i hg
  rw [if_pos (by simp [Region.wanted,hg])]
  split at hst
  ·rename_i e he
   split at hst
   ·rename_i cs' g hr
    cases hok:Ie N s o.dst g with
    | false=>rw [hok] at hst;cases hst
    | true =>
     rw [hok] at hst
     simp only [cond_true,Option.some.injEq,Prod.mk.injEq] at hst
     obtain ⟨rfl,rfl⟩:=hst
     have hev:∀ x∈o.op.operands.toList,evT T x=evT (get s.t) x:=fun x hx=>by
      cases x with
      | tmp i=>exact hT i (Jb hx)
      | _=>rfl
     have he':eff P V o.dst o.op (evT T)=some e:=by rw [QN hev];exact he
     have hfoot:Jg P V ops o s=QG e:=by unfold Jg;rw [hg,he]
     have hr':res H e=some (cs',g):=by rw [Pr (h':=get s.h) fun n hn=>hH n (by rw [hfoot];exact hn)];exact hr
     have hgo0:=Lj hok (fun n v b hg=>by subst hg;exact U3 hr) (fun l v hg=>by subst hg;exact RX hr) (fun n q v b bq hg=>by subst hg;exact U4 hr) (fun n b v hg=>by subst hg;exact RY hr)
     have hkind:(∃ b v,g=.new b v)\/(∃ n b v,g=.app n b v)->Hz P V o s=true:=fun hk=>by
      unfold Hz
      rw [hg,he]
      cases e <;> simp only [res] at hr <;> first
       | rfl
       | (exfalso;rcases hk with ⟨b,v,rfl⟩ | ⟨n,b,v,rfl⟩ <;> (repeat' split at hr) <;> simp at hr)
     have hgo:jI N T H o.dst g:=by
      refine ⟨hgo0.1,?_⟩
      cases g with
      | val v=>trivial
      | wr n v b=>exact U3 hr'
      | wrs l v=>exact RX hr'
      | wq n q v b bq=>exact U4 hr'
      | new b v =>
       obtain ⟨_,d,hd,hf,hn⟩:=hgo0
       exact ⟨d,hd,hfr (hkind (.inl ⟨_,_,rfl⟩)) d hd,hn⟩
      | app n b v =>
       obtain ⟨_,d,hd,hf,hn,_⟩:=hgo0
       exact ⟨d,hd,hfr (hkind (.inr ⟨_,_,_,rfl⟩)) d hd,hn,RY hr'⟩
     refine (Vh hV (fun x v hv=>Hm hs.tmps hv) he' hs.std hr' hc (Wu hgo)).wp ?_ (fun c hc=>by rw [hc] at he';cases he')
     rintro U w' ⟨M',σ',ho⟩
     have hsim:=OU hs ho hgo
     refine hK M' σ' _ _ ?_
     rw [QF hg he hr,Jz,P8 hok]
     exact hsim
   cases hst
  cases hst
 rename_i j want hg
 split at hst
 ·rename_i G hG
  split at hst
  ·rename_i e he
   split at hst
   ·rename_i cs' v hr
    cases hok:Ie N s o.dst (.val (.av v)) with
    | false=>rw [hok] at hst;cases hst
    | true =>
     rw [hok] at hst
     simp only [cond_true,Option.some.injEq,Prod.mk.injEq] at hst
     obtain ⟨rfl,rfl⟩:=hst
     obtain ⟨hc1,hc2⟩:=hc.append
     have htm:∀ i∈G8 o.op,T i=get s.t i:=fun i hi=>hT i (Jb (VW hi))
     have hG':Hk T ops j want=some G:=by rw [Li fun d hd=>hT d (KV hg hd)];exact hG
     have hw:=Gj hs.tmps hs.room hg hG'
     have hev:∀ x∈o.op.operands.toList,evG T (G8 o.op) x=evG (get s.t) (G8 o.op) x:=fun x hx=>by
      cases x with
      | tmp i=>simp only [evG];rw [hT i (Jb hx)]
      | _=>rfl
     have he':eff P V o.dst o.op (evG T (G8 o.op))=some e:=by rw [QN hev];exact he
     have hfoot:Jg P V ops o s=QG e:=by unfold Jg;rw [hg];simp only [he]
     have hr':res H e=some (cs',.val (.av v)):=by rw [Pr (h':=get s.h) fun n hn=>hH n (by rw [hfoot];exact hn)];exact hr
     rw [<- M8 (t:=T) _ htm] at hc1
     have hgo0:=Lj hok (fun n v b hg=>by cases hg) (fun l v hg=>by cases hg) (fun n q v b bq hg=>by cases hg) (fun n b v hg=>by cases hg)
     have fin:∀ (U:Value) (w':World) (M':Nat->Option Obj) (σ':Nat->Loc),jF M σ w o.dst U w' M' σ' (.val (.grd G v))->K (a.put o.dst U) w':=fun U w' M' σ' ho=>by
      have hsim:=OU hs (g:=.val (.grd G v)) ho ⟨hgo0.1,trivial⟩
      refine hK M' σ' _ _ ?_
      have e1:(fun i=>if o.dst=some i then get (NP s o.dst (.grd G v)).t i else T i)=goT T o.dst (.val (.grd G v)):=Jz (s:=s) (g:=.val (.grd G v)) T
      have e2:(fun n=>if n∈EF P V o s then get (NP s o.dst (.grd G v)).h n else H n)=H:=by
       funext n
       unfold EF
       rw [hg]
       simp
      rw [e1,e2]
      exact hsim
     by_cases hGp:G
     ·rw [if_pos (hw.2 hGp)]
      have hcs:CU cs':=by
       have:∀ l:List Prop,CU (l.map fun p=>G->p)->CU l:=fun l=>by
        induction l with
        | nil=>intro _;exact .nil
        | cons p l ih=>intro h;exact .cons (h.head hGp) (ih h.tail)
       exact this _ hc2
      have:=Vh hV (o:=o) (a:=a) (fun x v hv=>cU hGp hc1 hs.tmps hv) he' hs.std hr' hcs trivial
      refine this.wp ?_ (fun c hc=>by rw [hc] at he';cases he')
      rintro U w' ⟨M',σ',ho⟩
      obtain ⟨k,hσ,hR⟩:=ho
      exact fin U w' M' σ' ⟨k,hσ,fun _=>hR,fun h=>absurd hGp h⟩
     rw [if_neg (fun h=>hGp (hw.1 h))]
     refine ⟨fun _ _=>trivial,?_⟩
     exact fin undef w M σ ⟨Gf.refl hs.imm _,rfl,fun h=>absurd h hGp,fun _=>rfl⟩
   cases hst
  cases hok:Ie N s o.dst (.val (.av (.one (.val (.bool false))))) with
  | false=>rw [hok] at hst;cases hst
  | true =>
   rw [hok] at hst
   simp only [cond_true,Option.some.injEq,Prod.mk.injEq] at hst
   obtain ⟨rfl,rfl⟩:=hst
   have hGp:¬ G:=hc.head
   have hG':Hk T ops j want=some G:=by rw [Li fun d hd=>hT d (KV hg hd)];exact hG
   have hw:=Gj hs.tmps hs.room hg hG'
   rw [if_neg (fun h=>hGp (hw.1 h))]
   refine ⟨fun _ _=>trivial,?_⟩
   have hgo0:=Lj hok (fun n v b hg=>by cases hg) (fun l v hg=>by cases hg) (fun n q v b bq hg=>by cases hg) (fun n b v hg=>by cases hg)
   have hsim:=OU hs (g:=.val (.grd G (.one (.val (.bool false))))) (V:=undef) (w':=w) (M':=M) (σ':=σ) ⟨Gf.refl hs.imm _,rfl,fun h=>absurd h hGp,fun _=>rfl⟩ ⟨hgo0.1,trivial⟩
   refine hK M σ _ _ ?_
   have e1:(fun i=>if o.dst=some i then get (NP s o.dst (.grd G (.one (.val (.bool false))))).t i else T i)=goT T o.dst (.val (.grd G (.one (.val (.bool false))))):=Jz (s:=s) (g:=.val (.grd G (.one (.val (.bool false))))) T
   have e2:(fun n=>if n∈EF P V o s then get (NP s o.dst (.grd G (.one (.val (.bool false))))).h n else H n)=H:=by
    funext n
    unfold EF
    rw [hg]
    simp
   rw [e1,e2]
   exact hsim
 cases hst
theorem OQ {o:Oper} {s s1:AS} {cs:List Prop} (hst:JV P V N ops o s=some (cs,s1)):∃ g,Ie N s o.dst g=true/\s1=Tc s o.dst g/\EF P V o s=NN o.dst g/\(Hz P V o s=true->(∃ b v,g=.new b v)\/∃ n b v,g=.app n b v):=by
 unfold JV at hst
 split at hst
 ·rename_i hg
  split at hst
  ·rename_i e he
   split at hst
   ·rename_i cs' g hr
    cases hok:Ie N s o.dst g with
    | false=>rw [hok] at hst;cases hst
    | true =>
     rw [hok] at hst
     simp only [cond_true,Option.some.injEq,Prod.mk.injEq] at hst
     obtain ⟨rfl,rfl⟩:=hst
     refine ⟨g,hok,rfl,QF hg he hr,fun hn => ?_⟩
     unfold Hz at hn
     rw [hg] at hn
     simp only [he] at hn
     cases e <;> simp only [res] at hr <;> simp only at hn <;> try (cases hn;done)
     case new=>simp only [Option.some.injEq,Prod.mk.injEq] at hr;obtain ⟨_,rfl⟩:=hr;exact .inl ⟨_,_,rfl⟩
     case app =>
      split at hr
      ·split at hr
       ·simp only [Option.some.injEq,Prod.mk.injEq] at hr;obtain ⟨_,rfl⟩:=hr;exact .inr ⟨_,_,_,rfl⟩
       cases hr
      cases hr
   cases hst
  cases hst
 rename_i j want hg
 split at hst
 ·rename_i G hG
  split at hst
  ·rename_i e he
   split at hst
   ·rename_i cs' v hr
    cases hok:Ie N s o.dst (.val (.av v)) with
    | false=>rw [hok] at hst;cases hst
    | true =>
     rw [hok] at hst
     simp only [cond_true,Option.some.injEq,Prod.mk.injEq] at hst
     obtain ⟨rfl,rfl⟩:=hst
     refine ⟨.val (.grd G v),hok,rfl,?_,fun hn => ?_⟩
     ·unfold EF;rw [hg];rfl
     unfold Hz at hn;rw [hg] at hn;cases hn
   cases hst
  cases hok:Ie N s o.dst (.val (.av (.one (.val (.bool false))))) with
  | false=>rw [hok] at hst;cases hst
  | true =>
   rw [hok] at hst
   simp only [cond_true,Option.some.injEq,Prod.mk.injEq] at hst
   obtain ⟨rfl,rfl⟩:=hst
   refine ⟨.val (.grd G (.one (.val (.bool false)))),hok,rfl,?_,fun hn => ?_⟩
   ·unfold EF;rw [hg];rfl
   unfold Hz at hn;rw [hg] at hn;cases hn
 cases hst
theorem Es {o:Oper} {s s1:AS} {cs:List Prop} (hst:JV P V N ops o s=some (cs,s1)):(get s1.t=fun i=>if o.dst=some i then get s1.t i else get s.t i)/\(get s1.h=fun n=>if n∈EF P V o s then get s1.h n else get s.h n):=by
 obtain ⟨g,hok,rfl,hfw,_⟩:=OQ hst
 rw [hfw,Jz,P8 hok]
 exact HF s o.dst g
theorem OP {o:Oper} {s s1:AS} {cs:List Prop} (hst:JV P V N ops o s=some (cs,s1)) (hn:Hz P V o s=true) {d:Nat} (hd:o.dst=some d):PS (get s.t) (get s.h) d:=by
 obtain ⟨g,hok,rfl,_,hk⟩:=OQ hst
 rcases hk hn with ⟨b,v,rfl⟩ | ⟨n,b,v,rfl⟩
 ·rw [hd] at hok
  simp only [Ie,Option.any_some,Bool.and_eq_true] at hok
  exact Je hok.1.2
 rw [hd] at hok
 simp only [Ie,Option.any_some,Bool.and_eq_true] at hok
 exact Je hok.1.2
end
end
section
open Go.RowKit
def AWp (P:Program) (rd:Option Nat) (N:Nat) (W0:World) (X:Nat->Option Loc) (M0:Nat->Option Obj) (c:Code) (Q:Exit->AS->Prop) (s:AS):Prop :=
 ∀ M σ a w,Sim N W0 X M0 M σ (get s.t) (get s.h) a w->c.wpIn (FW rd) 0 P (fun e a' w'=>∃ s' M' σ',Q e s'/\Sim N W0 X M0 M' σ' (get s'.t) (get s'.h) a' w') a w
def ATh (K:AS->Prop) (Q:Exit->AS->Prop):Exit->AS->Prop
 | .normal,s=>K s
 | e,s=>Q e s
def ABl (id:Nat) (Q:Exit->AS->Prop):Exit->AS->Prop
 | .exit id',s=>if id'=id then Q .normal s else Q (.exit id') s
 | e,s=>Q e s
def HD {α:Type} (l:List (Nat×α)):List Nat->List (Nat×α)
 | []=>[]
 | n::r=>match get l n with
  | some v=>(n,v)::HD l r
  | none=>HD l r
def Lg (ts hs:List Nat) (s:AS):AS:=⟨HD s.t ts,HD s.h hs⟩
theorem Gt {α:Type} (l:List (Nat×α)):∀ (ns:List Nat) (n:Nat) (v:α),get (HD l ns) n=some v->get l n=some v
 | [],n,v,h=>by cases h
 | k::r,n,v,h=>by
  simp only [HD] at h
  split at h
  ·rename_i u hu
   simp only [get,CQ] at h
   by_cases hk:k=n
   ·subst hk;simp at h;subst h;exact hu
   simp [hk] at h;exact Gt l r n v h
  exact Gt l r n v h
def D4 (l:List (Nat×FuncId×List Av×Ef)) (d:Nat):Option (FuncId×List Av×Ef):=get l d
inductive HM (P:Program):List (Nat×FuncId×List Av×Ef)->Prop
 | nil:HM P []
 | cons {d:Nat} {c:FuncId×List Av×Ef} {l:List (Nat×FuncId×List Av×Ef)}:FK P c.1 c.2.1 c.2.2->HM P l->HM P ((d,c)::l)
theorem HM.env {P:Program} {E:TypeId->Option (List Kd)} (hE:Jr P ⟨fun _=>none,E,fun _=>false,fun _=>none⟩) {O:Nat->Bool} {q:Nat->Option (Bool×Nat)} {l:List (Nat×FuncId×List Av×Ef)} (hl:HM P l):KY P ⟨D4 l,E,O,q⟩:=by
 refine ⟨hE,fun d f xs e h => ?_⟩
 have hm:(d,f,xs,e)∈l:=DL h
 clear h
 induction hl with
 | nil=>cases hm
 | cons h1 _ ih =>
  cases hm with
  | head=>exact h1
  | tail _ hm=>exact ih hm
def BB:List Nat->Nat->Bool
 | [],_=>false
 | k::r,n=>bif Nat.beq k n then true else BB r n
def As (x:List Av):Prop:=x=x
def eJ (b:List Blk):Prop:=b=b
def CL (b:Blk):Prop:=b=b
def A64 (a b:Int):Int:=IntKind.i64.wrap ((BitVec.ofInt 64 a &&& BitVec.ofInt 64 b).toNat)
def W64 (x:Int):Int:=IntKind.i64.wrap x
theorem Bk {p:Prop} [Decidable p] (h:(!decide p)=true):¬ p:=by simpa using h
theorem Bc {p:Prop} [Decidable p] (h:(!decide p)=false):p:=by simpa using h
theorem E6 (x:Int):W64 x=(x+9223372036854775808) % 18446744073709551616-9223372036854775808:=by
 unfold W64;rw [IntKind.wrap_i64]
theorem Ap {x:Int} (h1 : -9223372036854775808<=x) (h2:x<=9223372036854775807):W64 x=x:=by
 unfold W64;rw [IntKind.wrap_i64];omega
def lst {α:Type} [Inhabited α] (sz:Nat) (c:α->List Cl) (xs:List α):Cl:=.list false sz xs.length fun i j=>(c (xs.getD i default)).getD j default
def wrI (n:Nat) (b0:Blk) (r:Tv) (b1:Blk):Ef:=.wr n [] fun b _=>some ([b=b0],r,b1)
def rdI (ns:List Nat) (bs:List Blk) (r:Tv):Ef:=.rd ns fun b=>some ([b=bs],r)
def Hs (P:Program) (V:Env P) (N:Nat) (l:List Oper) (ts hs:List Nat) (s:AS):Option (List Prop×AS):=match JW P V N l.toArray l s with
 | some (cs,s1)=>some (cs,Lg ts hs s1)
 | none=>none
theorem AF {K:AS->Prop} {Q:Exit->AS->Prop} {s:AS} (h:K s):ATh K Q .normal s:=h
theorem A7 {K:AS->Prop} {Q:Exit->AS->Prop} {s:AS} {id:Nat} (h:Q (.exit id) s):ATh K Q (.exit id) s:=h
theorem Au {K:AS->Prop} {Q:Exit->AS->Prop} {s:AS} (h:Q .ret s):ATh K Q .ret s:=h
theorem A0 {Q:Exit->AS->Prop} {s:AS} {id:Nat} (h:Q .normal s):ABl id Q .normal s:=h
theorem BN {Q:Exit->AS->Prop} {s:AS} {id:Nat} (h:Q .ret s):ABl id Q .ret s:=h
theorem BI {Q:Exit->AS->Prop} {s:AS} {id:Nat} (h:Q .normal s):ABl id Q (.exit id) s:=by simp only [ABl,if_true];exact h
section
variable {P:Program} {V:Env P} {rd:Option Nat} {N:Nat} {W0:World} {X:Nat→Option Loc} {M0 M:Nat→Option Obj} {σ:Nat→Loc} {w:World} {a:Act} {Q:Exit→AS→Prop} {s:AS}
theorem eX {S:AS} (hs:Sim N W0 X M0 M σ (get s.t) (get s.h) a w) (ht:∀ i v,get S.t i=some v->get s.t i=some v) (hh:∀ i v,get S.h i=some v->get s.h i=some v):Sim N W0 X M0 M σ (get S.t) (get S.h) a w :=
 ⟨hs.os,hs.tape,hs.output,hs.size,hs.old,hs.sub,hs.new,hs.pin,hs.defers,hs.room,fun i v h=>hs.tmps i v (ht i v h),hs.imm,fun n b h=>hs.blk n b (hh n b h),fun n b h=>hs.loc n b (hh n b h),fun n m b c h1 h2=>hs.inj n m b c (hh n b h1) (hh m c h2)⟩
theorem GN (hs:Sim N W0 X M0 M σ (get s.t) (get s.h) a w) (ts ns:List Nat):Sim N W0 X M0 M σ (get (Lg ts ns s).t) (get (Lg ts ns s).h) a w:=eX hs (fun i v h=>Gt _ _ _ _ h) (fun i v h=>Gt _ _ _ _ h)
theorem iZ {c:Code} {Q':Exit->AS->Prop} (h:AWp P rd N W0 X M0 c Q s) (hq:∀ e s,Q e s->Q' e s):AWp P rd N W0 X M0 c Q' s:=fun M σ a w hs=>wpIn_mono (h M σ a w hs) fun e a' w' ⟨s',M',σ',h1,h2⟩=>⟨s',M',σ',hq _ _ h1,h2⟩
theorem AA {x y:Code} (h:AWp P rd N W0 X M0 x (ATh (AWp P rd N W0 X M0 y Q) Q) s):AWp P rd N W0 X M0 (.seq x y) Q s:=by
 intro M σ a w hs
 refine wpIn_seq (wpIn_mono (h M σ a w hs) ?_)
 rintro e a' w' ⟨s',M',σ',h1,h2⟩
 cases e with
 | normal=>exact h1 M' σ' a' w' h2
 | _=>exact ⟨s',M',σ',h1,h2⟩
theorem AQ (h:Q .normal s):AWp P rd N W0 X M0 .skip Q s:=fun M σ a w hs=>wpIn_skip ⟨s,M,σ,h,hs⟩
theorem AR (h:Q .ret s):AWp P rd N W0 X M0 .ret Q s:=fun M σ a w hs=>wpIn_ret ⟨s,M,σ,h,hs⟩
theorem BH {id:Nat} (h:Q (.exit id) s):AWp P rd N W0 X M0 (.exit id) Q s:=fun M σ a w hs=>wpIn_exit ⟨s,M,σ,h,hs⟩
theorem AM {id:Nat} {c:Code} (h:AWp P rd N W0 X M0 c (ABl id Q) s):AWp P rd N W0 X M0 (.block id c) Q s:=by
 intro M σ a w hs
 refine wpIn_block (wpIn_mono (h M σ a w hs) ?_)
 rintro e a' w' ⟨s',M',σ',h1,h2⟩
 cases e with
 | exit id' =>
  simp only [ABl] at h1
  simp only [Exit.inBlock]
  split
  ·rename_i he;rw [if_pos he] at h1;exact ⟨s',M',σ',h1,h2⟩
  rename_i he;rw [if_neg he] at h1;exact ⟨s',M',σ',h1,h2⟩
 | _=>exact ⟨s',M',σ',h1,h2⟩
theorem AL {c:Operand} {x y:Code} (b:Bool) (hc:evT (get s.t) c=some (.av (.one (.val (.bool b))))) (h1:b=true->AWp P rd N W0 X M0 x Q s) (h2:b=false->AWp P rd N W0 X M0 y Q s):AWp P rd N W0 X M0 (.cond c x y) Q s:=by
 intro M σ a w hs
 have hv:a.eval c=.bool b:=(Hm hs.tmps hc).1
 exact wpIn_cond_split hv (fun hb=>h1 hb M σ a w hs) (fun hb=>h2 hb M σ a w hs)
theorem Bq {c:Operand} {x y:Code} (hc:evT (get s.t) c=some (.av (.one (.val (.bool true))))) (h1:AWp P rd N W0 X M0 x Q s):AWp P rd N W0 X M0 (.cond c x y) Q s:=AL true hc (fun _=>h1) (fun h=>by cases h)
theorem Ak {c:Operand} {x y:Code} (hc:evT (get s.t) c=some (.av (.one (.val (.bool false))))) (h1:AWp P rd N W0 X M0 y Q s):AWp P rd N W0 X M0 (.cond c x y) Q s:=AL false hc (fun h=>by cases h) (fun _=>h1)
theorem LS (hV:KY P V) {ops:Array Oper} {Q':Exit->Act->World->Prop}:∀ (l:List Oper) (s s1:AS) (cs:List Prop),JW P V N ops l s=some (cs,s1)->CU cs->∀ M σ a w,Sim N W0 X M0 M σ (get s.t) (get s.h) a w->(∀ M' σ' a' w',Sim N W0 X M0 M' σ' (get s1.t) (get s1.h) a' w'->Q' .normal a' w')->wpListIn (FW rd) 0 P ops Q' l a w
 | [],s,s1,cs,hr,hc,M,σ,a,w,hs,hK=>by
  simp only [JW,Option.some.injEq,Prod.mk.injEq] at hr
  obtain ⟨_,rfl⟩:=hr
  exact hK M σ a w hs
 | o::l,s,s1,cs,hr,hc,M,σ,a,w,hs,hK=>by
  simp only [JW] at hr
  split at hr
  ·rename_i cs1 s2 h1
   split at hr
   ·rename_i ds s3 h2
    simp only [Option.some.injEq,Prod.mk.injEq] at hr
    obtain ⟨rfl,rfl⟩:=hr
    obtain ⟨hc1,hc2⟩:=hc.append
    refine wpListIn_step fun K hK' => ?_
    refine OR hV h1 hc1 hs (fun _ _=>rfl) (fun _ _=>rfl) (fun hn d hd=>OP h1 hn hd) fun M' σ' a' w' hs'=>hK' _ _ (LS hV l s2 s3 ds h2 hc2 M' σ' a' w' ?_ hK)
    rw [(Es h1).1,(Es h1).2]
    exact hs'
   cases hr
  cases hr
theorem CN {E:TypeId->Option (List Kd)} (hE:Jr P ⟨fun _=>none,E,fun _=>false,fun _=>none⟩) {id:Nat} {l:List Oper} (ow:List Nat) (qs:List (Nat×(Bool×Nat))) (tbl:List (Nat×FuncId×List Av×Ef)) (ts ns:List Nat) (cs:List Prop) (S:AS) (htbl:HM P tbl) (hr:Hs P ⟨D4 tbl,E,BB ow,get qs⟩ N l ts ns s=some (cs,S)) (hc:CU cs) (h:Q .normal S):AWp P rd N W0 X M0 (.region id l.toArray false) Q s:=by
 have hV:=htbl.env (O:=BB ow) (q:=get qs) hE
 intro M σ a w hs
 unfold Hs at hr
 split at hr
 ·rename_i cs1 s1 h1
  simp only [Option.some.injEq,Prod.mk.injEq] at hr
  obtain ⟨rfl,rfl⟩:=hr
  exact wpIn_region_lit (LS hV l s s1 cs1 h1 hc M σ a w hs fun M' σ' a' w' hs'=>⟨_,M',σ',h,GN hs' ts ns⟩)
 cases hr
theorem jA {ι:Type} {c:Code} (S:ι->AS) (Inv:ι->Prop) (μ:ι->Nat) (round:∀ x,Inv x->AWp P rd N W0 X M0 c (ATh (fun s'=>∃ y,Inv y/\μ y<μ x/\s'=S y) Q) (S x)) (x:ι) (hx:Inv x):AWp P rd N W0 X M0 (.loop c) Q (S x):=by
 have key:∀ n x,μ x<n->Inv x->∀ M σ a w,Sim N W0 X M0 M σ (get (S x).t) (get (S x).h) a w->Code.roundsIn (FW rd) 0 P c (fun e a' w'=>∃ s' M' σ',Q e s'/\Sim N W0 X M0 M' σ' (get s'.t) (get s'.h) a' w') n a w:=by
  intro n
  induction n with
  | zero=>intro x h;omega
  | succ n ih =>
   intro x hlt hx M σ a w hs
   rw [roundsIn_succ]
   refine wpIn_mono (round x hx M σ a w hs) ?_
   rintro e a' w' ⟨s',M',σ',h1,h2⟩
   cases e with
   | normal =>
    obtain ⟨y,hy,hm,rfl⟩:=h1
    exact ih y (by omega) hy M' σ' a' w' h2
   | _=>exact ⟨s',M',σ',h1,h2⟩
 intro M σ a w hs
 exact wpIn_loop_rounds (μ x+1) (key _ x (Nat.lt_succ_self _) hx M σ a w hs)
def Tv.dv:Tv->Bool
 | .av x=>x.dv
 | .tup l=>l.all Av.dv
 | .grd _ _=>false
def fH (P:Program) (s:AS):ResultVar->Option Av
 | .tmp t=>match get s.t t with
  | some (.av x)=>some x
  | _=>none
 | .cell p T=>match get s.t p,ti P T with
  | some (.av (.one (.ptr n off))),some t=>match get s.h n with
   | some (.cells l _)=>HA t l off
   | _=>none
  | _,_=>none
def XT (P:Program) (s:AS):List ResultVar->Option (List Av)
 | []=>some []
 | r::rs=>match fH P s r,XT P s rs with
  | some x,some l=>some (x::l)
  | _,_=>none
def Ob (P:Program) (s:AS) (rs:List ResultVar):Option Tv:=match XT P s rs with
 | some [x]=>some (.av x)
 | some l=>some (.tup l)
 | none=>none
theorem fG (hs:Sim N W0 X M0 M σ (get s.t) (get s.h) a w) {F:ResultVar->Sem Value} (hF1:∀ t,F (.tmp t)=pure (a.tmps.getD t undef)) (hF2:∀ p T,F (.cell p T)=(do loadVar T (<- asAddr (a.tmps.getD p undef)))) {r:ResultVar} {x:Av} (h:fH P s r=some x):∃ U,(F r).run P w=.ok U w/\RA M σ x U:=by
 cases r with
 | tmp t =>
  simp only [fH] at h
  split at h
  ·rename_i y hy
   injection h with h;subst h
   exact ⟨_,by rw [hF1];rfl,hs.tmps t _ hy⟩
  cases h
 | cell p T =>
  simp only [fH] at h
  split at h
  ·rename_i n off t h1 h2
   split at h
   ·rename_i l ty hb
    obtain ⟨hnil,c,hblk,hl⟩:=hs.blk n _ hb
    have hp:a.tmps.getD p undef=.pointer (some ⟨(σ n).b,off,none⟩):=hs.tmps p _ h1
    obtain ⟨U,hU,hR⟩:=GO (w:=w) h2 (b:=(σ n).b) (off:=0) hl off (fun j u _ _ hj=>by simp only [World.cell?,hblk];simpa using hj) h
    rw [Nat.zero_add] at hU
    refine ⟨U,?_,hR⟩
    rw [hF2]
    simp only [hp,asAddr,Sem.run_bind,Sem.run_pure,Result.andThen_ok,hU]
   cases h
  cases h
theorem WL (hs:Sim N W0 X M0 M σ (get s.t) (get s.h) a w) {F:ResultVar->Sem Value} (hF1:∀ t,F (.tmp t)=pure (a.tmps.getD t undef)) (hF2:∀ p T,F (.cell p T)=(do loadVar T (<- asAddr (a.tmps.getD p undef)))):∀ {rs:List ResultVar} {l:List Av},XT P s rs=some l->∃ vs:List Value,(rs.mapM F).run P w=.ok vs w/\L2 (RA M σ) l vs
 | [],l,h=>by simp only [XT,Option.some.injEq] at h;subst h;exact ⟨[],by simp,.nil⟩
 | r::rs,l,h=>by
  simp only [XT] at h
  split at h
  ·rename_i x l' h1 h2
   injection h with h;subst h
   obtain ⟨U,hU,hR⟩:=fG hs hF1 hF2 h1
   obtain ⟨vs,hvs,hL⟩:=WL hs hF1 hF2 h2
   refine ⟨U::vs,?_,.cons hR hL⟩
   rw [List.mapM_cons]
   simp only [Sem.run_bind,Sem.run_pure]
   rw [hU]
   simp only [Result.andThen_ok]
   rw [hvs]
   rfl
  cases h
theorem WK (hs:Sim N W0 X M0 M σ (get s.t) (get s.h) a w) {fn:Func} {r:Tv} (h:Ob P s fn.results.toList=some r):∃ U,(results fn a.tmps).run P w=.ok U w/\RT M σ r U:=by
 unfold Ob at h
 have hm:∀ l,XT P s fn.results.toList=some l->∃ vs:List Value,(results fn a.tmps).run P w=.ok (if h:vs.toArray.size=1 then vs.toArray[0] else .tuple vs.toArray) w/\L2 (RA M σ) l vs:=by
  intro l hl
  unfold results
  rw [Array.mapM_eq_mapM_toList]
  simp only [Sem.run_bind,Sem.run_map]
  have key:∀ F:ResultVar->Sem Value,(∀ t,F (.tmp t)=pure (a.tmps.getD t undef))->(∀ p T,F (.cell p T)=(do loadVar T (<- asAddr (a.tmps.getD p undef))))->∃ vs:List Value,(((fn.results.toList.mapM F).run P w).andThen fun a w'=>.ok a.toArray w').andThen (fun a w'=>(pure (if h:a.size=1 then a[0] else Value.tuple a):Sem Value).run P w')=.ok (if h:vs.toArray.size=1 then vs.toArray[0] else .tuple vs.toArray) w/\L2 (RA M σ) l vs:=fun F hF1 hF2=>by
   obtain ⟨vs,h1,h2⟩:=WL hs hF1 hF2 hl
   refine ⟨vs,?_,h2⟩
   rw [h1]
   rfl
  exact key _ (fun _=>rfl) (fun _ _=>rfl)
 split at h
 ·rename_i x hx
  injection h with h;subst h
  obtain ⟨vs,h1,h2⟩:=hm _ hx
  cases h2 with | cons h3 h4 =>
  cases h4
  exact ⟨_,h1,h3⟩
 ·rename_i l hne hl
  injection h with h;subst h
  obtain ⟨vs,h1,h2⟩:=hm _ hl
  have:¬ vs.toArray.size=1:=by
   have:=h2.length
   intro e
   simp at e
   match l,this with
   | [x],_=>exact hne x rfl
   | [],h=>simp at h;omega
   | _::_::_,h=>simp at h;omega
  rw [dif_neg this] at h1
  exact ⟨_,h1,vs,rfl,h2⟩
 cases h
def RetQ (P:Program) (fn:Func) (φ:Tv->AS->Prop):Exit->AS->Prop:=fun e s=>(e=.ret\/e=.normal)/\∃ r,Ob P s fn.results.toList=some r/\φ r s
def Gc:Nat->List Av->List (Nat×Tv)
 | _,[]=>[]
 | k,x::r=>(k,.av x)::Gc (k+1) r
theorem K9:∀ (l:List Av) (k i:Nat) (v:Tv),get (Gc k l) i=some v->k<=i/\∃ x,l[i-k]? = some x/\v=.av x
 | [],k,i,v,h=>by cases h
 | y::r,k,i,v,h=>by
  simp only [Gc,get,CQ] at h
  by_cases hk:k=i
  ·subst hk;simp at h;subst h;exact ⟨Nat.le_refl _,y,by simp,rfl⟩
  simp [hk] at h
  obtain ⟨h1,x,h2,h3⟩:=K9 r (k+1) i v h
  refine ⟨by omega,x,?_,h3⟩
  rw [show i-k=(i-(k+1))+1 by omega,List.getElem?_cons_succ]
  exact h2
theorem Zx {T:Nat->Option Tv} {H:Nat->Option Blk} {tm:Array Value} {d:Deferred} {ds:List Deferred} (hs:Sim N W0 X M0 M σ T H { tmps:=tm,defers:=d::ds } w) :
  ∃ D w' M',d.target=.collected D/\(Instr.takeDeferred D).run P w=.ok [] w'/\Sim N W0 X M0 M' σ T H { tmps:=tm,defers:=ds } w':=by
 obtain ⟨⟨⟨D,rfl,hD,h0,hne⟩,hds⟩,hfl⟩:=hs.defers
 have hw:=hs.imm D _ hD
 have hlt:D<w.heap.size:=(Array.getElem?_eq_some_iff.1 hw).1
 have hother:∀ b,b≠D->(w.putObj D (.deferred none)).heap[b]? = w.heap[b]? := fun b hb=>World.putObj_heap_other (fun e=>hb e)
 obtain ⟨M',hM⟩:∃ M':Nat->Option Obj,M'=fun b=>if b=D then none else M b:=⟨_,rfl⟩
 have hM1:∀ b,b≠D->M' b=M b:=fun b hb=>by subst hM;simp [hb]
 have hMD:M' D=none:=by subst hM;simp
 have hcell:∀ b o v,FM M b o=some v->FM M' b o=some v:=fun b o v hc=>by
  by_cases hb:b=D
  ·subst hb;simp [FM,hD] at hc
  unfold FM at *;rw [hM1 b hb];exact hc
 have hRC:∀ {c:Cl} {V:Value},RC M c V->RC M' c V:=fun h=>by
  induction h with
  | val v h=>exact .val v h
  | nil t sz f h0=>exact .nil t sz f h0
  | mt t sz f a cap h5=>exact .mt t sz f a cap h5
  | clo f k caps cs h1 _ ih=>exact .clo f k caps cs h1 ih
  | list t sz len f b off cap g h1 _ h4 h5 ih=>exact .list t sz len f b off cap g (fun i j hi hj=>hcell _ _ _ (h1 i j hi hj)) ih h4 h5
  | eptr sz len f i off b base g h1 _ ih=>exact .eptr sz len f i off b base g (fun j hj=>hcell _ _ _ (h1 j hj)) ih
  | mp agg nv len kf vf b es clock g k0 h1 h2 _ ih=>exact .mp agg nv len kf vf b es clock g (by rw [hM1 b (fun e=>by subst e;rw [hD] at k0;cases k0)];exact k0) h1 h2 ih
  | any V h=>exact .any V h
 have hR:∀ {c:Cl} {V:Value},R M σ c V->R M' σ c V:=by
  intro c
  induction c with
  | list=>intro V h;exact hRC h
  | eptr=>intro V h;exact hRC h
  | mp=>intro V h;exact hRC h
  | clo f k caps ih =>
   intro V h
   obtain ⟨cs,h1,h2,h3⟩:=h
   exact ⟨cs,h1,h2,fun i hi=>ih i (h3 i hi)⟩
  | val v=>intro V h;exact h
  | ptr=>intro V h;exact h
  | own=>intro V h;exact h
  | rptr=>intro V h;exact h
  | osl=>intro V h;exact h
  | om=>intro V h;exact h
  | any=>intro V h;exact h
 have hRA:∀ {x:Av} {V:Value},RA M σ x V->RA M' σ x V:=fun {x V} h=>by
  cases x with
  | one c=>exact hR h
  | agg l=>obtain ⟨vs,h1,h2⟩:=h;exact ⟨vs,h1,h2.mono fun _ _ _ h=>hR h⟩
 have hRT:∀ {x:Tv} {V:Value},RT M σ x V->RT M' σ x V:=fun {x V} h=>by
  cases x with
  | av x=>exact hRA h
  | tup l=>obtain ⟨vs,h1,h2⟩:=h;exact ⟨vs,h1,h2.mono fun _ _ _ h=>hRA h⟩
  | grd g x=>exact ⟨fun hg=>hRA (h.1 hg),h.2⟩
 have hblkne:∀ n b,H n=some b->(σ n).nil=false->(σ n).b≠D:=fun n b hb hn e=>by
  rcases hs.loc n b hb with h | ⟨h1,_⟩
  ·rw [hn] at h;cases h
  rw [e,hD] at h1;cases h1
 refine ⟨D,_,M',rfl,run_takeDeferred hw,⟨hs.os,hs.tape,hs.output,by simpa using hs.size,fun b hb hx => ?_,fun b o h => ?_,fun b o h h' => ?_,hs.pin,?_,hs.room,fun i v h=>hRT (hs.tmps i v h),fun b o h => ?_,fun n b h => ?_,fun n b h => ?_,hs.inj⟩⟩
 ·have:b≠D:=fun e=>by subst e;have:=hs.new _ _ hD h0;omega
  rw [hother b this];exact hs.old b hb hx
 ·have:b≠D:=fun e=>by subst e;rw [h0] at h;cases h
  rw [hM1 b this];exact hs.sub b o h
 ·by_cases e:b=D
  ·subst e;rw [hMD] at h;cases h
  rw [hM1 b e] at h;exact hs.new b o h h'
 ·have:∀ l:List Deferred,(∀ d'∈l,d'≠{ target:=.collected D,args := #[] })->HQ M0 M l->HQ M0 M' l:=by
   intro l
   induction l with
   | nil=>intro _ _;trivial
   | cons d l ih =>
    rintro hl ⟨⟨D',h1,h2,h3,h4⟩,h5⟩
    refine ⟨⟨D',h1,?_,h3,h4⟩,ih (fun d' hd=>hl d' (by simp [hd])) h5⟩
    have:D'≠D:=fun e=>by subst e;exact hl d (by simp) h1
    rw [hM1 _ this];exact h2
  exact ⟨this ds hne hds,fun hf=>by cases hfl hf⟩
 ·by_cases e:b=D
  ·subst e;rw [hMD] at h;cases h
  rw [hM1 b e] at h;rw [hother b e];exact hs.imm b o h
 ·have h1:=hs.blk n b h
  cases b with
  | cells l ty =>
   obtain ⟨g0,c,g1,g2⟩:=h1
   exact ⟨g0,c,(hother _ (hblkne n _ h g0)).trans g1,g2.mono fun _ _ _ h=>hR h⟩
  | row sz len f ty =>
   rcases h1 with h1 | ⟨g0,c,g1,g2,g3,g4,g,g5⟩
   ·exact .inl h1
   exact .inr ⟨g0,c,(hother _ (hblkne n _ h g0)).trans g1,g2,g3,g4,g,fun i j hi hj=>⟨(g5 i j hi hj).1,hRC (g5 i j hi hj).2⟩⟩
  | omap agg nv len kf vf =>
   obtain ⟨g0,es,ck,g,g1,g2,g3,g4⟩:=h1
   exact ⟨g0,es,ck,g,(hother _ (hblkne n _ h g0)).trans g1,g2,g3,fun i j hi hj=>hRC (g4 i j hi hj)⟩
  | rowx sz len f ty hh =>
   obtain ⟨g0,c,g1,g2,g3,g4,g,g5,g6⟩:=h1
   exact ⟨g0,c,(hother _ (hblkne n _ h g0)).trans g1,g2,g3,g4,g,fun i j hi hj=>⟨(g5 i j hi hj).1,fun hn=>hRC ((g5 i j hi hj).2 hn)⟩,fun i l hl=>⟨(g6 i l hl).1,(g6 i l hl).2.mono fun _ _ _ h=>hR h⟩⟩
 rcases hs.loc n b h with h1 | ⟨h1,h2⟩
 ·exact .inl h1
 by_cases hn:(σ n).nil=true
 ·exact .inl hn
 refine .inr ⟨?_,h2⟩
 rw [hM1 _ (hblkne n b h (by simpa using hn))];exact h1
theorem Ld {fn:Func} {R:Ending->World->Prop} {T:Nat->Option Tv} {H:Nat->Option Blk} {tm:Array Value}:∀ (ds:List Deferred) {M:Nat->Option Obj} {w:World},Sim N W0 X M0 M σ T H { tmps:=tm,defers:=ds } w ->
  (∀ M'' w'',Sim N W0 X M0 M'' σ T H { tmps:=tm,defers:=[] } w''->∃ U,(results fn tm).run P w''=.ok U w''/\R (.returned U) w'')->LeavesInM (FW none) 0 P fn tm R ds .returning w
 | [],M,w,hs,hR=>hR M w hs
 | d::ds,M,w,hs,hR=>by
  obtain ⟨D,w',M',h1,h2,h3⟩:=Zx (P:=P) hs
  exact ⟨by simp,.inl ⟨D,w',h1,h2,Ld ds h3 hR⟩⟩
theorem Ha {f:FuncId} {fn:Func} {c:Code} (hf:P.funcs[f]? = some fn) (hb:fn.body=some c) {xs:List Av} {h0:List (Nat×Blk)} {args:List Value} {φ:Tv->AS->Prop} (hN:xs.length<=fn.ntmps)
  (himm:∀ b o,M b=some o->w.heap[b]? = some o) (hargs:L2 (RA M σ) xs args) (hblk:∀ n b,get h0 n=some b->Bv M σ w (σ n) b) (hloc:∀ n b,get h0 n=some b->(σ n).nil=true\/(M (σ n).b=none/\inX X (σ n).b)) (hpin:∀ n x,X n=some x->fn.ntmps<=n/\σ n=x) (hinj:∀ n m b c,get h0 n=some b->get h0 m=some c->n≠m->(σ n).nil=true\/(σ m).nil=true\/(σ n).b≠(σ m).b)
  (h:AWp P none fn.ntmps w X M c (RetQ P fn φ) ⟨Gc 0 xs,h0⟩) {R':Ending->World->Prop} (hR:∀ r s' M' σ' a' w' U,φ r s'->Sim fn.ntmps w X M M' σ' (get s'.t) (get s'.h) a' w'->RT M' σ' r U->R' (.returned U) w'):Calls P f args.toArray w R':=by
 have hlen:=hargs.length
 refine callsIn_wide.1 (callsIn_of_wp_marks (F:=FW none) (n:=0) hf hb trivial (wpIn_mono (h M σ _ w ⟨rfl,rfl,rfl,Nat.le_refl _,fun _ _ _=>rfl,fun _ _ h=>h,fun _ _ h h'=>by (rw [h] at h';cases h'),hpin,IA.nil,by simp;omega,fun i v hv => ?_,himm,hblk,fun n b hb=>(hloc n b hb).imp id fun ⟨h1,h2⟩=>⟨h1,.inr h2⟩,hinj⟩) ?_))
 ·obtain ⟨_,x,hx,rfl⟩:=K9 _ _ _ _ hv
  rw [Nat.sub_zero] at hx
  obtain ⟨u,hu,hRu⟩:=hargs.get i x hx
  have:(args.toArray++Array.replicate (fn.ntmps-args.toArray.size) undef).getD i undef=u:=by
   have hi:i<args.length:=(List.getElem?_eq_some_iff.1 hu).1
   rw [Array.getD_eq_getD_getElem?,Array.getElem?_append_left (by simpa using hi)]
   simp [hu]
  show RA M σ x _
  rw [this]
  exact hRu
 rintro e a' w' ⟨s',M',σ',⟨he,r,hr,hφ⟩,hs'⟩
 have key:=Ld (fn:=fn) (R:=R') a'.defers hs' fun M'' w'' hs''=>by
  obtain ⟨U,hU,hRU⟩:=WK hs'' hr
  exact ⟨U,hU,hR r s' M'' σ' _ w'' U hφ hs'' hRU⟩
 rcases he with rfl | rfl
 ·exact key
 exact key
def HT (P:Program) (f:FuncId) (xs:List Av) (r:Tv):Prop:=∀ (M:Nat->Option Obj) (σ:Nat->Loc) (w:World) (args:List Value),(∀ b o,M b=some o->w.heap[b]? = some o)->L2 (RA M σ) xs args ->
 Calls P f args.toArray w fun en w'=>∃ U,en=.returned U/\∃ M',Gf w w' M M' LZ/\∀ σ',RT M' σ' r U
theorem LJ {M:Nat->Option Obj} {σ σ':Nat->Loc} {r:Tv} {U:Value} (hd:r.dv=true) (h:RT M σ r U):RT M σ' r U:=by
 have cl:∀ {c:Cl} {U:Value},c.dv=true->R M σ c U->R M σ' c U:=fun hd h=>(Lw hd).2 ((Lw hd).1 h)
 have av:∀ {x:Av} {U:Value},x.dv=true->RA M σ x U->RA M σ' x U:=fun {x U} hd h=>by
  cases x with
  | one c=>exact cl hd h
  | agg l=>obtain ⟨vs,h1,h2⟩:=h;exact ⟨vs,h1,h2.mono fun c hc b hb=>cl ((List.all_eq_true.1 hd) c hc) hb⟩
 cases r with
 | av x=>exact av hd h
 | tup l=>obtain ⟨vs,h1,h2⟩:=h;exact ⟨vs,h1,h2.mono fun c hc b hb=>av ((List.all_eq_true.1 hd) c hc) hb⟩
 | grd g x=>cases hd
theorem Tx {f:FuncId} {xs:List Av} {cs:List Prop} {r:Tv} (h1:∀ args w,(callFunc f args).run P w=.ok (.enter f args) w) (h:CU cs->HT P f xs r):FK P f xs (.val cs r):=by
 refine .inl ⟨h1,fun M σ w h' args cs' g hs hargs hr hc => ?_⟩
 obtain ⟨rfl,rfl⟩:=Bh hr
 refine (h hc M σ w args hs.imm hargs).mono ?_
 rintro en w' ⟨U,hU,M',hk,hR⟩
 exact ⟨U,hU,fun dst _=>⟨M',σ,hk,rfl,hR σ⟩⟩
end
end
section
open Go.RowKit
structure Rec where
 rd:List Nat
 dst:Option Nat
 hr:List Nat
 hw:List Nat
 new:Bool
 out:Nat->Bool
def Hu (P:Program) (V:Env P) (ops:Array Oper) (o:Oper) (s s1:AS):Rec :=
 ⟨o.looksAt ops,o.dst,Jg P V ops o s,EF P V o s,Hz P V o s,fun d=>(match o.dst with | some x=>(match get s1.t x with | some v=>v.no d | none=>true) | none=>true)&&(EF P V o s).all fun n=>match get s1.h n with | some b=>b.no d && !Nat.beq n d | none=>true⟩
def Z8 (P:Program) (V:Env P) (N:Nat) (ops:Array Oper):List Oper->AS->Option (List Rec)
 | [],_=>some []
 | o::l,s=>match JV P V N ops o s with
  | some (_,s1)=>(Z8 P V N ops l s1).map (Hu P V ops o s s1::·)
  | none=>none
def XE (acc:List Nat) (o:Oper):Nat:=o.after.toList.foldl (fun m e=>bif Region.binds .any e then m ||| (1 <<< e.on) ||| acc.getD e.on 0 else m) 0
def DY:List Oper->List Nat->List Nat
 | [],acc=>acc
 | o::l,acc=>DY l (acc++[XE acc o])
def PZ (l:List Nat) (n:Nat):Bool:=l.any (Nat.beq n)
def Vl (a b:Rec):Bool :=
 (match a.dst with | some d=>PZ b.rd d||(match b.dst with | some e=>Nat.beq e d | none=>false) | none=>false) ||
 (match b.dst with | some d=>PZ a.rd d | none=>false)||(a.hw.any fun n=>PZ b.hr n||PZ b.hw n)||(b.hw.any fun n=>PZ a.hr n)
def lB (A:List Nat) (R:List Rec):Bool :=
 R.zipIdx.all fun (b,j)=>R.zipIdx.all fun (a,i) =>
  (Nat.ble j i || !Vl a b||(A.getD j 0).testBit i) &&
  (Nat.beq i j || !a.new||(A.getD j 0).testBit i||(match a.dst with | some d=>b.out d | none=>true))
def Ls (l:List Oper):Bool:=l.zipIdx.all fun (o,j)=>o.after.toList.all fun e => !Region.binds .any e||Nat.ble (e.on+1) j
def PD (P:Program) (V:Env P) (N:Nat) (l:List Oper) (s:AS):Bool:=match Z8 P V N l.toArray l s with
 | some R=>Ls l&&lB (DY l []) R&&R.all fun r => !r.new||(match r.dst with | some d=>O5 s d | none=>true)
 | none=>false
theorem Lb:∀ (l:List Oper) (acc:List Nat),(DY l acc).length=acc.length+l.length
 | [],acc=>rfl
 | o::l,acc=>by simp [DY,Lb l];omega
theorem MZ:∀ (l:List Oper) (acc:List Nat) (i:Nat),i<acc.length->(DY l acc)[i]? = acc[i]?
 | [],acc,i,_=>rfl
 | o::l,acc,i,h=>by
  simp only [DY]
  rw [MZ l _ i (by simp;omega),List.getElem?_append_left h]
theorem Pw:∀ (l:List Oper) (acc:List Nat) (j:Nat) (o:Oper),l[j]? = some o->(DY l acc)[acc.length+j]? = some (XE ((DY l acc).take (acc.length+j)) o)
 | [],acc,j,o,h=>by simp at h
 | o'::l,acc,0,o,h=>by
  simp at h;subst h
  simp only [DY,Nat.add_zero]
  rw [MZ l _ _ (by simp)]
  have:(DY l (acc++[XE acc o'])).take acc.length=acc:=by
   apply List.ext_getElem?
   intro i
   rw [List.getElem?_take]
   split
   ·rename_i hi;rw [MZ l _ i (by simp;omega),List.getElem?_append_left hi]
   rename_i hi;rw [List.getElem?_eq_none (by omega)]
  rw [this]
  simp
 | o'::l,acc,j+1,o,h=>by
  simp only [DY]
  have:=Pw l (acc++[XE acc o']) j o (by simpa using h)
  simp only [List.length_append,List.length_singleton] at this
  rw [show acc.length+(j+1)=acc.length+1+j by omega]
  exact this
theorem Tl (acc:List Nat) (i:Nat):∀ (es:List Edge) (m:Nat),(es.foldl (fun m e=>bif Region.binds .any e then m ||| (1 <<< e.on) ||| acc.getD e.on 0 else m) m).testBit i=true->m.testBit i=true\/∃ e∈es,Region.binds .any e=true/\(i=e.on\/(acc.getD e.on 0).testBit i=true)
 | [],m,h=>.inl h
 | e::es,m,h=>by
  simp only [List.foldl_cons] at h
  rcases Tl acc i es _ h with h | ⟨e',he,hb⟩
  ·cases hb:Region.binds .any e with
   | false=>rw [hb] at h;exact .inl h
   | true =>
    rw [hb] at h
    simp only [cond_true,Nat.testBit_or,Bool.or_eq_true] at h
    rcases h with (h | h) | h
    ·exact .inl h
    ·refine .inr ⟨e,by simp,hb,.inl ?_⟩
     rw [Nat.testBit_shiftLeft] at h
     simp only [Bool.and_eq_true,decide_eq_true_eq] at h
     have:(1:Nat).testBit (i-e.on)=true:=h.2
     have h1:i-e.on=0:=by
      rcases Nat.eq_zero_or_pos (i-e.on) with h0 | h0
      ·exact h0
      rw [Nat.testBit_one_eq_true_iff_self_eq_zero] at this;exact this
     omega
    exact .inr ⟨e,by simp,hb,.inr h⟩
  exact .inr ⟨e',by simp [he],hb⟩
theorem Ja {l:List Nat} {n:Nat}:PZ l n=true↔n∈l:=by
 simp only [PZ,List.any_eq_true,CQ,decide_eq_true_eq]
 exact ⟨fun ⟨x,hx,he⟩=>he▸hx,fun h=>⟨n,h,rfl⟩⟩
section
variable {P:Program} {V:Env P} {rd:Option Nat} {N:Nat} {W0:World} {X:Nat→Option Loc} {M0:Nat→Option Obj} {l:List Oper} {s0:AS}
def LL (l:List Oper) (L:Array Bool):Prop:=∀ j o,l[j]? = some o->L.getD j false=true->∀ e∈o.after,Region.binds .any e=true->L.getD e.on false=true
theorem Ir (hb:Ls l=true) {L:Array Bool} (hL:LL l L):∀ (n j:Nat),j<n->∀ o,l[j]? = some o->(∀ e∈o.after,Region.binds .any e=true->L.getD e.on false=true)->∀ i,((DY l []).getD j 0).testBit i=true->L.getD i false=true/\i<j
 | n+1,j,hj,o,ho,hd,i,hi=>by
  have hm:=Pw l [] j o ho
  simp only [List.length_nil,Nat.zero_add] at hm
  rw [List.getD_eq_getElem?_getD,hm,Option.getD_some] at hi
  have hlt:∀ e∈o.after,Region.binds .any e=true->e.on<j:=fun e he hbe=>by
   have h1:=(List.all_eq_true.1 hb) (o,j) (List.mem_zipIdx_iff_getElem?.2 (by simpa using ho))
   have h2:=(List.all_eq_true.1 h1) e (by simpa using he)
   simp only [hbe,Bool.not_true,Bool.false_or] at h2
   exact Nat.le_of_ble_eq_true h2
  rcases Tl _ i _ 0 hi with h | ⟨e,he,hbe,h⟩
  ·simp at h
  have he':e∈o.after:=by simpa using he
  have hon:=hd e he' hbe
  have helt:=hlt e he' hbe
  rcases h with rfl | h
  ·exact ⟨hon,helt⟩
  have hget:((DY l []).take j).getD e.on 0=(DY l []).getD e.on 0:=by
   rw [List.getD_eq_getElem?_getD,List.getD_eq_getElem?_getD,List.getElem?_take_of_lt helt]
  rw [hget] at h
  cases hoo:l[e.on]? with
  | none =>
   have:(DY l []).getD e.on 0=0:=by
    rw [List.getD_eq_getElem?_getD,List.getElem?_eq_none (by rw [Lb];simp;exact List.getElem?_eq_none_iff.1 hoo)];rfl
   rw [this] at h;simp at h
  | some o2 =>
   have:=Ir hb hL n e.on (by omega) o2 hoo (hL e.on o2 hoo hon) i h
   exact ⟨this.1,by omega⟩
def stN (P:Program) (V:Env P) (N:Nat) (l:List Oper) (s0:AS):Nat->AS
 | 0=>s0
 | k+1=>match l[k]? with
  | some o=>(match JV P V N l.toArray o (stN P V N l s0 k) with
   | some (_,s1)=>s1
   | none=>stN P V N l s0 k)
  | none=>stN P V N l s0 k
theorem Ky:∀ (r:List Oper) (k:Nat) (s s1:AS) (cs:List Prop),(∀ j,r[j]? = l[k+j]?)->s=stN P V N l s0 k->JW P V N l.toArray r s=some (cs,s1)->CU cs ->
  s1=stN P V N l s0 (k+r.length)/\∀ j o,r[j]? = some o->∃ ds,JV P V N l.toArray o (stN P V N l s0 (k+j))=some (ds,stN P V N l s0 (k+j+1))/\CU ds
 | [],k,s,s1,cs,_,hs,hr,_=>by
  simp only [JW,Option.some.injEq,Prod.mk.injEq] at hr
  exact ⟨by rw [<- hr.2];exact hs,fun j o h=>by simp at h⟩
 | o::r,k,s,s1,cs,hl,hs,hr,hc=>by
  simp only [JW] at hr
  split at hr
  ·rename_i cs1 s2 h1
   split at hr
   ·rename_i ds s3 h2
    simp only [Option.some.injEq,Prod.mk.injEq] at hr
    obtain ⟨rfl,rfl⟩:=hr
    obtain ⟨hc1,hc2⟩:=hc.append
    have h0:l[k]? = some o:=by simpa using (hl 0).symm
    have hst:stN P V N l s0 (k+1)=s2:=by
     simp only [stN,h0]
     rw [<- hs,h1]
    obtain ⟨h3,h4⟩:=Ky r (k+1) s2 s3 ds (fun j=>by have:=hl (j+1);simpa [Nat.add_assoc,Nat.add_comm 1 j] using this) hst.symm h2 hc2
    refine ⟨by rw [h3];congr 1;simp;omega,fun j o' hj => ?_⟩
    cases j with
    | zero =>
     simp at hj;subst hj
     exact ⟨cs1,by rw [Nat.add_zero,<- hs,hst];exact h1,hc1⟩
    | succ j =>
     have:=h4 j o' (by simpa using hj)
     rwa [show k+1+j=k+(j+1) by omega] at this
   cases hr
  cases hr
theorem Sp:∀ (r:List Oper) (k:Nat) (R:List Rec),(∀ j,r[j]? = l[k+j]?)->Z8 P V N l.toArray r (stN P V N l s0 k)=some R->R.length=r.length/\∀ j o,r[j]? = some o->R[j]? = some (Hu P V l.toArray o (stN P V N l s0 (k+j)) (stN P V N l s0 (k+j+1)))
 | [],k,R,_,h=>by simp only [Z8,Option.some.injEq] at h;subst h;exact ⟨rfl,fun j o h=>by simp at h⟩
 | o::r,k,R,hl,h=>by
  simp only [Z8] at h
  split at h
  ·rename_i cs s1 h1
   obtain ⟨R',hR',rfl⟩:=Option.map_eq_some_iff.1 h
   have h0:l[k]? = some o:=by simpa using (hl 0).symm
   have hst:stN P V N l s0 (k+1)=s1:=by simp only [stN,h0,h1]
   rw [<- hst] at hR'
   obtain ⟨h2,h3⟩:=Sp r (k+1) R' (fun j=>by have:=hl (j+1);simpa [Nat.add_assoc,Nat.add_comm 1 j] using this) hR'
   refine ⟨by simp [h2],fun j o' hj => ?_⟩
   cases j with
   | zero=>simp at hj;subst hj;simp [hst]
   | succ j =>
    have:=h3 j o' (by simpa using hj)
    rw [show k+1+j=k+(j+1) by omega] at this
    simpa using this
  cases h
end
end
section
open Go.RowKit
section
variable {P:Program} {V:Env P} {rd:Option Nat} {N:Nat} {W0:World} {X:Nat→Option Loc} {M0:Nat→Option Obj} {l:List Oper} {s0:AS}
def AgT (l:List Oper) (L:Array Bool) (x k:Nat):Prop:=∀ j o,l[j]? = some o->o.dst=some x->(L.getD j false=true↔j<k)
def AgH (P:Program) (V:Env P) (N:Nat) (l:List Oper) (s0:AS) (L:Array Bool) (m k:Nat):Prop:=∀ j o,l[j]? = some o->m∈EF P V o (stN P V N l s0 j)->(L.getD j false=true↔j<k)
def Iw (P:Program) (V:Env P) (N:Nat) (l:List Oper) (s0:AS):Prop:=∀ (j:Nat) o,l[j]? = some o->∃ ds,JV P V N l.toArray o (stN P V N l s0 j)=some (ds,stN P V N l s0 (j+1))/\CU ds
theorem Uv (h:Iw P V N l s0) {x:Nat}:∀ (d i k:Nat),k=i+d->k<=l.length->(∀ (j:Nat) o,i<=j->j<k->l[j]? = some o->o.dst≠some x)->get (stN P V N l s0 k).t x=get (stN P V N l s0 i).t x
 | 0,i,k,hk,_,_=>by subst hk;rfl
 | d+1,i,k,hk,hkl,hno=>by
  subst hk
  have hlt:i+d<l.length:=by omega
  obtain ⟨ds,hst,_⟩:=h (i+d) _ (List.getElem?_eq_getElem hlt)
  have hf:=congrFun (Es hst).1 x
  rw [show i+(d+1)=i+d+1 by omega,hf,if_neg (hno (i+d) _ (by omega) (by omega) (List.getElem?_eq_getElem hlt))]
  exact Uv h d i (i+d) rfl (by omega) fun j o h1 h2 h3=>hno j o h1 (by omega) h3
theorem Uw (h:Iw P V N l s0) {m:Nat}:∀ (d i k:Nat),k=i+d->k<=l.length->(∀ (j:Nat) o,i<=j->j<k->l[j]? = some o->m ∉ EF P V o (stN P V N l s0 j))->get (stN P V N l s0 k).h m=get (stN P V N l s0 i).h m
 | 0,i,k,hk,_,_=>by subst hk;rfl
 | d+1,i,k,hk,hkl,hno=>by
  subst hk
  have hlt:i+d<l.length:=by omega
  obtain ⟨ds,hst,_⟩:=h (i+d) _ (List.getElem?_eq_getElem hlt)
  have hf:=congrFun (Es hst).2 m
  rw [show i+(d+1)=i+d+1 by omega,hf,if_neg (hno (i+d) _ (by omega) (by omega) (List.getElem?_eq_getElem hlt))]
  exact Uw h d i (i+d) rfl (by omega) fun j o h1 h2 h3=>hno j o h1 (by omega) h3
theorem U1 (h:Iw P V N l s0) {L:Array Bool} {x k i:Nat} (hk:k<=l.length) (hi:i<=l.length) (h1:AgT l L x k) (h2:AgT l L x i):get (stN P V N l s0 k).t x=get (stN P V N l s0 i).t x:=by
 rcases Nat.le_total k i with hle | hle
 ·exact (Uv h (i-k) k i (by omega) hi fun j o a b c d=>by have:=(h1 j o c d).symm.trans (h2 j o c d);omega).symm
 exact Uv h (k-i) i k (by omega) hk fun j o a b c d=>by have:=(h1 j o c d).symm.trans (h2 j o c d);omega
theorem U2 (h:Iw P V N l s0) {L:Array Bool} {m k i:Nat} (hk:k<=l.length) (hi:i<=l.length) (h1:AgH P V N l s0 L m k) (h2:AgH P V N l s0 L m i):get (stN P V N l s0 k).h m=get (stN P V N l s0 i).h m:=by
 rcases Nat.le_total k i with hle | hle
 ·exact (Uw h (i-k) k i (by omega) hi fun j o a b c d=>by have:=(h1 j o c d).symm.trans (h2 j o c d);omega).symm
 exact Uw h (k-i) i k (by omega) hk fun j o a b c d=>by have:=(h1 j o c d).symm.trans (h2 j o c d);omega
theorem cP (h:Iw P V N l s0) {x:Nat} {v:Tv}:∀ k,k<=l.length->get (stN P V N l s0 k).t x=some v->get s0.t x=some v\/∃ (j:Nat) (o:Oper),j<k/\l[j]? = some o/\o.dst=some x/\get (stN P V N l s0 (j+1)).t x=some v
 | 0,_,hv=>.inl hv
 | k+1,hk,hv=>by
  have hlt:k<l.length:=by omega
  obtain ⟨ds,hst,_⟩:=h k _ (List.getElem?_eq_getElem hlt)
  have hf:=congrFun (Es hst).1 x
  by_cases hd:l[k].dst=some x
  ·exact .inr ⟨k,_,by omega,List.getElem?_eq_getElem hlt,hd,hv⟩
  rw [hf,if_neg hd] at hv
  rcases cP h k (by omega) hv with h' | ⟨j,o,h1,h2⟩
  ·exact .inl h'
  exact .inr ⟨j,o,by omega,h2⟩
theorem cQ (h:Iw P V N l s0) {m:Nat} {b:Blk}:∀ k,k<=l.length->get (stN P V N l s0 k).h m=some b->get s0.h m=some b\/∃ (j:Nat) (o:Oper),j<k/\l[j]? = some o/\m∈EF P V o (stN P V N l s0 j)/\get (stN P V N l s0 (j+1)).h m=some b
 | 0,_,hv=>.inl hv
 | k+1,hk,hv=>by
  have hlt:k<l.length:=by omega
  obtain ⟨ds,hst,_⟩:=h k _ (List.getElem?_eq_getElem hlt)
  have hf:=congrFun (Es hst).2 m
  by_cases hd:m∈EF P V l[k] (stN P V N l s0 k)
  ·exact .inr ⟨k,_,by omega,List.getElem?_eq_getElem hlt,hd,hv⟩
  rw [hf,if_neg hd] at hv
  rcases cQ h k (by omega) hv with h' | ⟨j,o,h1,h2⟩
  ·exact .inl h'
  exact .inr ⟨j,o,by omega,h2⟩
structure Np (P:Program) (V:Env P) (N:Nat) (l:List Oper) (s0:AS) (A:Nat->Nat->Prop):Prop where
 tt:∀ (i j:Nat) oi oj,l[i]? = some oi->l[j]? = some oj->i<j->∀ d,oi.dst=some d->d∈oj.looksAt l.toArray\/oj.dst=some d->A j i
 tr:∀ (i j:Nat) oi oj,l[i]? = some oi->l[j]? = some oj->i<j->∀ d,oj.dst=some d->d∈oi.looksAt l.toArray->A j i
 hh:∀ (i j:Nat) oi oj,l[i]? = some oi->l[j]? = some oj->i<j->∀ n,n∈EF P V oi (stN P V N l s0 i)->n∈Jg P V l.toArray oj (stN P V N l s0 j)\/n∈EF P V oj (stN P V N l s0 j)->A j i
 hr:∀ (i j:Nat) oi oj,l[i]? = some oi->l[j]? = some oj->i<j->∀ n,n∈EF P V oj (stN P V N l s0 j)->n∈Jg P V l.toArray oi (stN P V N l s0 i)->A j i
 new0:∀ (i:Nat) oi,l[i]? = some oi->Hz P V oi (stN P V N l s0 i)=true->∀ d,oi.dst=some d->PS (get s0.t) (get s0.h) d
 newT:∀ (i j:Nat) oi oj,l[i]? = some oi->l[j]? = some oj->i≠j->Hz P V oi (stN P V N l s0 i)=true->∀ d,oi.dst=some d->A j i\/((∀ x v,oj.dst=some x->get (stN P V N l s0 (j+1)).t x=some v->v.no d=true)/\∀ n b,n∈EF P V oj (stN P V N l s0 j)->get (stN P V N l s0 (j+1)).h n=some b->n≠d/\b.no d=true)
theorem Oj (hb:PD P V N l s0=true):Ls l=true/\Np P V N l s0 (fun j i=>((DY l []).getD j 0).testBit i=true):=by
 unfold PD at hb
 split at hb
 ·rename_i R hR
  simp only [Bool.and_eq_true] at hb
  obtain ⟨⟨hback,hp⟩,hn⟩:=hb
  obtain ⟨hlen,hget⟩:=Sp (V:=V) (s0:=s0) l 0 R (fun j=>by rw [Nat.zero_add]) hR
  simp only [Nat.zero_add] at hget
  have pair:∀ (i j:Nat) oi oj,l[i]? = some oi->l[j]? = some oj->((Nat.ble j i || !Vl (Hu P V l.toArray oi (stN P V N l s0 i) (stN P V N l s0 (i+1))) (Hu P V l.toArray oj (stN P V N l s0 j) (stN P V N l s0 (j+1)))||((DY l []).getD j 0).testBit i)=true /\
    (Nat.beq i j || !Hz P V oi (stN P V N l s0 i)||((DY l []).getD j 0).testBit i||(match oi.dst with | some d=>(Hu P V l.toArray oj (stN P V N l s0 j) (stN P V N l s0 (j+1))).out d | none=>true))=true):=fun i j oi oj hi hj=>by
   have h1:=(List.all_eq_true.1 hp) (_,j) (List.mem_zipIdx_iff_getElem?.2 (by simpa using hget j oj hj))
   have h2:=(List.all_eq_true.1 h1) (_,i) (List.mem_zipIdx_iff_getElem?.2 (by simpa using hget i oi hi))
   simp only [Bool.and_eq_true] at h2
   exact h2
  have nle:∀ {i j:Nat},i<j->Nat.ble j i=false:=fun {i j} h=>by
   cases hq:Nat.ble j i with
   | false=>rfl
   | true=>have:=Nat.le_of_ble_eq_true hq;omega
  have cf:∀ (i j:Nat) oi oj,l[i]? = some oi->l[j]? = some oj->i<j->Vl (Hu P V l.toArray oi (stN P V N l s0 i) (stN P V N l s0 (i+1))) (Hu P V l.toArray oj (stN P V N l s0 j) (stN P V N l s0 (j+1)))=true->((DY l []).getD j 0).testBit i=true:=fun i j oi oj hi hj hlt hc=>by
   have:=(pair i j oi oj hi hj).1
   rw [nle hlt,hc] at this
   simpa using this
  refine ⟨hback,⟨fun i j oi oj hi hj hlt d hd hor=>cf i j oi oj hi hj hlt ?_,fun i j oi oj hi hj hlt d hd hor=>cf i j oi oj hi hj hlt ?_,fun i j oi oj hi hj hlt n hn hor=>cf i j oi oj hi hj hlt ?_,fun i j oi oj hi hj hlt n hn hor=>cf i j oi oj hi hj hlt ?_,fun i oi hi hnew d hd => ?_,fun i j oi oj hi hj hne hnew d hd => ?_⟩⟩
  ·simp only [Vl,Hu,hd]
   rcases hor with h | h
   ·simp [Ja.2 h]
   simp [h,Nat.beq_refl]
  ·simp only [Vl,Hu,hd]
   simp [Ja.2 hor]
  ·have:((EF P V oi (stN P V N l s0 i)).any fun n=>PZ (Jg P V l.toArray oj (stN P V N l s0 j)) n||PZ (EF P V oj (stN P V N l s0 j)) n)=true:=by
    rw [List.any_eq_true]
    refine ⟨n,hn,?_⟩
    rcases hor with h | h
    ·simp [Ja.2 h]
    simp [Ja.2 h]
   simp only [Vl,Hu,this]
   simp
  ·have:((EF P V oj (stN P V N l s0 j)).any fun n=>PZ (Jg P V l.toArray oi (stN P V N l s0 i)) n)=true:=by
    rw [List.any_eq_true]
    exact ⟨n,hn,Ja.2 hor⟩
   simp only [Vl,Hu,this]
   simp
  ·have h1:=(List.all_eq_true.1 hn) _ (List.mem_of_getElem? (hget i oi hi))
   simp only [Hu,hnew,Bool.not_true,Bool.false_or,hd] at h1
   exact Je h1
  have h1:=(pair i j oi oj hi hj).2
  have hbn:Nat.beq i j=false:=by rw [CQ];simp [hne]
  simp only [hbn,hnew,hd,Bool.not_true,Bool.false_or,Bool.or_eq_true] at h1
  rcases h1 with h1 | h1
  ·exact .inl h1
  refine .inr ?_
  simp only [Hu,Bool.and_eq_true] at h1
  refine ⟨fun x v hx hv => ?_,fun n b hn hv => ?_⟩
  ·have:=h1.1
   simp only [hx,hv] at this
   exact this
  have:=(List.all_eq_true.1 h1.2) n hn
  simp only [hv,Bool.and_eq_true] at this
  exact ⟨Mu this.2,this.1⟩
 cases hb
theorem J9 {α:Type} {p q:α->Bool}:∀ {l:List α},(∀ x∈l,p x=true->q x=true)->∀ {y:α},y∈l->q y=true->p y=false->l.countP p<l.countP q
 | [],_,_,hy,_,_=>by cases hy
 | x::l,h,y,hy,hq,hp=>by
  have hle:l.countP p<=l.countP q:=List.countP_mono_left fun z hz=>h z (by simp [hz])
  rw [List.countP_cons,List.countP_cons]
  rcases List.mem_cons.1 hy with rfl | hy
  ·simp [hq,hp];omega
  have:=J9 (fun z hz=>h z (by simp [hz])) hy hq hp
  have hx:(if p x=true then 1 else 0)<=(if q x=true then 1 else 0):=by
   by_cases hpx:p x=true
   ·simp [hpx,h x (by simp) hpx]
   simp [hpx]
  omega
def V1 (P:Program) (V:Env P) (N:Nat) (W0:World) (X:Nat->Option Loc) (M0:Nat->Option Obj) (l:List Oper) (s0:AS) (L:Array Bool) (a:Act) (w:World):Prop :=
 ∃ M σ T H,Sim N W0 X M0 M σ T H a w/\(∀ x,∃ k,k<=l.length/\AgT l L x k/\T x=get (stN P V N l s0 k).t x)/\∀ m,∃ k,k<=l.length/\AgH P V N l s0 L m k/\H m=get (stN P V N l s0 k).h m
theorem QO (hV:KY P V) (hrun:Iw P V N l s0) (hback:Ls l=true) (hord:Np P V N l s0 (fun j i=>((DY l []).getD j 0).testBit i=true)) {L:Array Bool} (hsz:l.length<=L.size) (hcl:LL l L) {a:Act} {w:World} (hinv:V1 P V N W0 X M0 l s0 L a w) {i:Nat} {o:Oper} (ho:l[i]? = some o) (hun:L.getD i false=false) (hpre:∀ e∈o.after,Region.binds .any e=true->L.getD e.on false=true)
  {K:Act->World->Prop} {Q:Exit->Act->World->Prop} (hK:∀ a' w',V1 P V N W0 X M0 l s0 (L.setIfInBounds i true) a' w'->K a' w'):if Region.wanted o (yielded l.toArray a.tmps) then o.wpIn (FW rd) 0 P a w K Q else (∀ f,o.about P w a.eval=some f->(FW rd).fn f)/\K (a.put o.dst undef) w:=by
 obtain ⟨M,σ,T,H,hs,hT,hH⟩:=hinv
 have hil:i<l.length:=(List.getElem?_eq_some_iff.1 ho).1
 obtain ⟨ds,hst,hds⟩:=hrun i o ho
 have anc:∀ j,((DY l []).getD i 0).testBit j=true->L.getD j false=true/\j<i:=fun j hj=>Ir hback hcl (i+1) i (by omega) o ho hpre j hj
 -- an operation that is done,or that comes behind
 have notdone:∀ j oj,l[j]? = some oj->((DY l []).getD j 0).testBit i=true->L.getD j false=false:=fun j oj hj hbit=>by
  cases hd:L.getD j false with
  | false=>rfl
  | true =>
   have:=Ir hback hcl (j+1) j (by omega) oj hj (hcl j oj hj hd) i hbit
   rw [hun] at this;cases this.1
 have set_get:∀ j,(L.setIfInBounds i true).getD j false=true↔(j=i\/L.getD j false=true):=fun j=>by
  by_cases hji:i=j
  ·subst hji;simp [show i<L.size by omega]
  rw [getD_set_ne false hji];simp [Ne.symm hji]
 -- the reads
 have agT:∀ x,(∀ j oj,l[j]? = some oj->oj.dst=some x->j<i->((DY l []).getD i 0).testBit j=true)->(∀ j oj,l[j]? = some oj->oj.dst=some x->i<j->((DY l []).getD j 0).testBit i=true)->AgT l L x i:=fun x h1 h2 j oj hj hd=>by
  constructor
  ·intro hdone
   rcases Nat.lt_trichotomy j i with h | h | h
   ·exact h
   ·subst h;rw [hun] at hdone;cases hdone
   have:=notdone j oj hj (h2 j oj hj hd h);rw [hdone] at this;cases this
  intro hlt;exact (anc j (h1 j oj hj hd hlt)).1
 have agH:∀ m,(∀ j oj,l[j]? = some oj->m∈EF P V oj (stN P V N l s0 j)->j<i->((DY l []).getD i 0).testBit j=true)->(∀ j oj,l[j]? = some oj->m∈EF P V oj (stN P V N l s0 j)->i<j->((DY l []).getD j 0).testBit i=true)->AgH P V N l s0 L m i:=fun x h1 h2 j oj hj hd=>by
  constructor
  ·intro hdone
   rcases Nat.lt_trichotomy j i with h | h | h
   ·exact h
   ·subst h;rw [hun] at hdone;cases hdone
   have:=notdone j oj hj (h2 j oj hj hd h);rw [hdone] at this;cases this
  intro hlt;exact (anc j (h1 j oj hj hd hlt)).1
 have readT:∀ x∈o.looksAt l.toArray,T x=get (stN P V N l s0 i).t x:=fun x hx=>by
  obtain ⟨k,hk,hag,he⟩:=hT x
  rw [he]
  exact U1 hrun hk (by omega) hag (agT x (fun j oj hj hd hlt=>hord.tt j i oj o hj ho hlt x hd (.inl hx)) (fun j oj hj hd hlt=>hord.tr i j o oj ho hj hlt x hd hx))
 have readH:∀ m∈Jg P V l.toArray o (stN P V N l s0 i),H m=get (stN P V N l s0 i).h m:=fun m hm=>by
  obtain ⟨k,hk,hag,he⟩:=hH m
  rw [he]
  exact U2 hrun hk (by omega) hag (agH m (fun j oj hj hd hlt=>hord.hh j i oj o hj ho hlt m hd (.inl hm)) (fun j oj hj hd hlt=>hord.hr i j o oj ho hj hlt m hd hm))
 have hfresh:Hz P V o (stN P V N l s0 i)=true->∀ d,o.dst=some d->PS T H d:=fun hn d hd=>by
  have h0:=hord.new0 i o ho hn d hd
  have notA:∀ j,L.getD j false=true->∀ oj,l[j]? = some oj->¬ ((DY l []).getD j 0).testBit i=true:=fun j hj oj hoj hb=>by
   have:=notdone j oj hoj hb;rw [hj] at this;cases this
  refine ⟨fun x v hv => ?_,fun m b hb => ?_⟩
  ·obtain ⟨k,hk,hag,he⟩:=hT x
   rw [he] at hv
   rcases cP hrun k hk hv with h | ⟨j,oj,hjk,hj,hjd,hjv⟩
   ·exact h0.1 x v h
   have hdone:=(hag j oj hj hjd).2 hjk
   have hne:i≠j:=fun e=>by subst e;rw [hun] at hdone;cases hdone
   rcases hord.newT i j o oj ho hj hne hn d hd with h | h
   ·exact absurd h (notA j hdone oj hj)
   exact h.1 x v hjd hjv
  obtain ⟨k,hk,hag,he⟩:=hH m
  rw [he] at hb
  rcases cQ hrun k hk hb with h | ⟨j,oj,hjk,hj,hjd,hjv⟩
  ·exact h0.2 m b h
  have hdone:=(hag j oj hj hjd).2 hjk
  have hne:i≠j:=fun e=>by subst e;rw [hun] at hdone;cases hdone
  rcases hord.newT i j o oj ho hj hne hn d hd with h | h
  ·exact absurd h (notA j hdone oj hj)
  exact h.2 m b hjd hjv
 refine OR hV hst hds hs readT readH hfresh fun M' σ' a' w' hs'=>hK a' w' ⟨M',σ',_,_,hs',fun x => ?_,fun m => ?_⟩
 ·by_cases hx:o.dst=some x
  ·simp only [hx,if_true]
   refine ⟨i+1,by omega,fun j oj hj hd => ?_,rfl⟩
   rw [set_get]
   rcases Nat.lt_trichotomy j i with h | h | h
   ·have:=(anc j (hord.tt j i oj o hj ho h x hd (.inr hx))).1
    exact ⟨fun _=>by omega,fun _=>.inr this⟩
   ·exact ⟨fun _=>by omega,fun _=>.inl h⟩
   have:=notdone j oj hj (hord.tt i j o oj ho hj h x hx (.inr hd))
   refine ⟨fun hh => ?_,fun hh=>by omega⟩
   rcases hh with hh | hh
   ·omega
   rw [this] at hh;cases hh
  simp only [hx,if_false]
  obtain ⟨k,hk,hag,he⟩:=hT x
  refine ⟨k,hk,fun j oj hj hd => ?_,he⟩
  rw [set_get]
  have hji:j≠i:=fun e=>by subst e;rw [ho] at hj;injection hj with hj;subst hj;exact hx hd
  simpa [hji] using hag j oj hj hd
 by_cases hm:m∈EF P V o (stN P V N l s0 i)
 ·simp only [hm,if_true]
  refine ⟨i+1,by omega,fun j oj hj hd => ?_,rfl⟩
  rw [set_get]
  rcases Nat.lt_trichotomy j i with h | h | h
  ·have:=(anc j (hord.hh j i oj o hj ho h m hd (.inr hm))).1
   exact ⟨fun _=>by omega,fun _=>.inr this⟩
  ·exact ⟨fun _=>by omega,fun _=>.inl h⟩
  have:=notdone j oj hj (hord.hh i j o oj ho hj h m hm (.inr hd))
  refine ⟨fun hh => ?_,fun hh=>by omega⟩
  rcases hh with hh | hh
  ·omega
  rw [this] at hh;cases hh
 simp only [hm,if_false]
 obtain ⟨k,hk,hag,he⟩:=hH m
 refine ⟨k,hk,fun j oj hj hd => ?_,he⟩
 rw [set_get]
 have hji:j≠i:=fun e=>by subst e;rw [ho] at hj;injection hj with hj;subst hj;exact hm hd
 simpa [hji] using hag j oj hj hd
theorem dA (hV:KY P V) (hrun:Iw P V N l s0) (hback:Ls l=true) (hord:Np P V N l s0 (fun j i=>((DY l []).getD j 0).testBit i=true)) {Q:Exit->Act->World->Prop} (hQ:∀ M' σ' a' w',Sim N W0 X M0 M' σ' (get (stN P V N l s0 l.length).t) (get (stN P V N l s0 l.length).h) a' w'->Q .normal a' w') :
  ∀ (f:Nat) (L:Array Bool) (a:Act) (w:World),L.size=l.length->LL l L->(List.range l.length).countP (fun j => !L.getD j false)<=f->V1 P V N W0 X M0 l s0 L a w->wpAnyIn (FW rd) 0 P .any l.toArray Q f L a w:=by
 have hdone:∀ (L:Array Bool) (a:Act) (w:World),L.size=l.length->LL l L->Region.ready .any l.toArray L=[]->V1 P V N W0 X M0 l s0 L a w->Q .normal a w:=by
  intro L a w hsz hcl hr hinv
  have all:∀ n j,j<n->j<l.length->L.getD j false=true:=by
   intro n
   induction n with
   | zero=>intro j h;omega
   | succ n ih =>
    intro j hj hjl
    cases hd:L.getD j false with
    | true=>rfl
    | false =>
     have ho:=List.getElem?_eq_getElem hjl
     have:j∈Region.ready .any l.toArray L:=by
      rw [mem_ready]
      refine ⟨?_,l[j],by simp,fun e he hb => ?_⟩
      ·have hj':j<L.size:=by omega
       simp [hj'] at hd ⊢;exact hd
      have h1:=(List.all_eq_true.1 hback) (l[j],j) (List.mem_zipIdx_iff_getElem?.2 (by simp))
      have h2:=(List.all_eq_true.1 h1) e (by simpa using he)
      simp only [hb,Bool.not_true,Bool.false_or] at h2
      have hlt:=Nat.le_of_ble_eq_true h2
      exact ih e.on (by omega) (by omega)
     rw [hr] at this;cases this
  obtain ⟨M,σ,T,H,hs,hT,hH⟩:=hinv
  have eT:T=get (stN P V N l s0 l.length).t:=by
   funext x
   obtain ⟨k,hk,hag,he⟩:=hT x
   rw [he]
   refine U1 hrun hk (Nat.le_refl _) hag fun j oj hj hd => ?_
   have hjl:j<l.length:=(List.getElem?_eq_some_iff.1 hj).1
   exact ⟨fun _=>hjl,fun _=>all (j+1) j (by omega) hjl⟩
  have eH:H=get (stN P V N l s0 l.length).h:=by
   funext x
   obtain ⟨k,hk,hag,he⟩:=hH x
   rw [he]
   refine U2 hrun hk (Nat.le_refl _) hag fun j oj hj hd => ?_
   have hjl:j<l.length:=(List.getElem?_eq_some_iff.1 hj).1
   exact ⟨fun _=>hjl,fun _=>all (j+1) j (by omega) hjl⟩
  rw [eT,eH] at hs
  exact hQ M σ a w hs
 intro f
 induction f with
 | zero =>
  intro L a w hsz hcl hcnt hinv
  have hr:Region.ready .any l.toArray L=[]:=by
   rw [List.eq_nil_iff_forall_not_mem]
   intro j hj
   rw [mem_ready] at hj
   obtain ⟨h1,o,ho,_⟩:=hj
   have hjl:j<l.length:=by have:=(List.getElem?_eq_some_iff.1 (by simpa using ho:l[j]? = some o)).1;exact this
   have h0:(List.range l.length).countP (fun j => !L.getD j false)=0:=by omega
   rw [List.countP_eq_zero] at h0
   have:=h0 j (List.mem_range.2 hjl)
   have hj':j<L.size:=by omega
   simp [hj'] at h1 this
   rw [h1] at this;cases this
  exact ⟨hr,hdone L a w hsz hcl hr hinv⟩
 | succ f ih =>
  intro L a w hsz hcl hcnt hinv
  refine ⟨fun hr=>hdone L a w hsz hcl hr hinv,fun i hi => ?_⟩
  rw [mem_ready] at hi
  obtain ⟨h1,o,ho,hpre⟩:=hi
  have ho':l[i]? = some o:=by simpa using ho
  have hil:i<l.length:=(List.getElem?_eq_some_iff.1 ho').1
  have hun:L.getD i false=false:=by
   have hi':i<L.size:=by omega
   simp [hi'] at h1 ⊢;exact h1
  unfold wpOpIn
  rw [ho]
  have hfin:=QO (rd:=rd) (a:=a) (w:=w) (Q:=Q) (K:=wpAnyIn (FW rd) 0 P .any l.toArray Q f (L.setIfInBounds i true)) hV hrun hback hord (Nat.le_of_eq hsz.symm) hcl hinv ho' hun hpre fun a' w' hinv'=>by
   refine ih _ a' w' (by simp [hsz]) ?_ ?_ hinv'
   ·intro j oj hj hd e he hb
    by_cases hji:j=i
    ·subst hji
     rw [ho'] at hj;injection hj with hj;subst hj
     exact getD_set_true (hpre e he hb)
    rw [getD_set_ne false (Ne.symm hji)] at hd
    exact getD_set_true (hcl j oj hj hd e he hb)
   have hlt:(List.range l.length).countP (fun j => !(L.setIfInBounds i true).getD j false)<(List.range l.length).countP (fun j => !L.getD j false):=by
    refine J9 ?_ (List.mem_range.2 hil) ?_ ?_
    ·intro j _ hj
     by_cases hji:i=j
     ·subst hji;simp [show i<L.size by omega] at hj
     rwa [getD_set_ne false hji] at hj
    ·rw [hun];rfl
    simp [show i<L.size by omega]
   omega
  by_cases hw:Region.wanted o (yielded l.toArray a.tmps)=true
  ·simp only [hw,if_true] at hfin ⊢
   exact hfin
  simp only [hw] at hfin ⊢
  exact hfin
end
section
variable {P:Program} {V:Env P} {rd:Option Nat} {N:Nat} {W0:World} {X:Nat→Option Loc} {M0 M:Nat→Option Obj} {σ:Nat→Loc} {w:World} {a:Act} {Q:Exit→AS→Prop} {s:AS}
theorem XC (hm:P.follows .mixedOrders=true) {E:TypeId->Option (List Kd)} (hE:Jr P ⟨fun _=>none,E,fun _=>false,fun _=>none⟩) {id:Nat} {l:List Oper} (ow:List Nat) (qs:List (Nat×(Bool×Nat))) (tbl:List (Nat×FuncId×List Av×Ef)) (ts ns:List Nat) (cs:List Prop) (S:AS) (htbl:HM P tbl) (hr:Hs P ⟨D4 tbl,E,BB ow,get qs⟩ N l ts ns s=some (cs,S)) (hd:PD P ⟨D4 tbl,E,BB ow,get qs⟩ N l s=true) (hc:CU cs) (h:Q .normal S):AWp P rd N W0 X M0 (.region id l.toArray true) Q s:=by
 have hV:=htbl.env (O:=BB ow) (q:=get qs) hE
 intro M σ a w hs
 unfold Hs at hr
 split at hr
 ·rename_i cs1 s1 h1
  simp only [Option.some.injEq,Prod.mk.injEq] at hr
  obtain ⟨rfl,rfl⟩:=hr
  obtain ⟨e1,hruns⟩:=Ky (s0:=s) l 0 s s1 cs1 (fun j=>by rw [Nat.zero_add]) rfl h1 hc
  simp only [Nat.zero_add] at e1 hruns
  obtain ⟨hback,hord⟩:=Oj hd
  have hrep:∀ j,¬ ((Array.replicate l.toArray.size false).getD j false=true):=fun j hh=>by
   by_cases hj':j<l.length
   ·simp [hj'] at hh
   simp [hj'] at hh
  have hs0:Sim N W0 X M0 M σ (get s.t) (get s.h) a { w with drawn:=w.drawn+1 }:=⟨hs.os,hs.tape,hs.output,hs.size,hs.old,hs.sub,hs.new,hs.pin,hs.defers,hs.room,hs.tmps,hs.imm,fun n b hb=>(hs.blk n b hb).mono (fun _ _ h=>h) (fun _ _=>rfl) (fun _=>rfl),hs.loc,hs.inj⟩
  have hinv:V1 P ⟨D4 tbl,E,BB ow,get qs⟩ N W0 X M0 l s (Array.replicate l.toArray.size false) a { w with drawn:=w.drawn+1 } :=
   ⟨M,σ,get s.t,get s.h,hs0,fun x=>⟨0,Nat.zero_le _,fun j o hj hd=>⟨fun hh=>absurd hh (hrep j),fun hh=>absurd hh (by omega)⟩,rfl⟩,fun m=>⟨0,Nat.zero_le _,fun j o hj hd=>⟨fun hh=>absurd hh (hrep j),fun hh=>absurd hh (by omega)⟩,rfl⟩⟩
  have hfin:∀ M' σ' a' w',Sim N W0 X M0 M' σ' (get (stN P ⟨D4 tbl,E,BB ow,get qs⟩ N l s l.length).t) (get (stN P ⟨D4 tbl,E,BB ow,get qs⟩ N l s l.length).h) a' w'->∃ s' M'' σ'',Q .normal s'/\Sim N W0 X M0 M'' σ'' (get s'.t) (get s'.h) a' w':=fun M' σ' a' w' hs'=>by
   rw [<- e1] at hs'
   exact ⟨_,M',σ',h,GN hs' ts ns⟩
  refine wpIn_region_any hm ?_
  exact dA hV hruns hback hord (Q:=fun e a' w'=>∃ s' M' σ',Q e s'/\Sim N W0 X M0 M' σ' (get s'.t) (get s'.h) a' w') hfin _ _ _ _ (by simp) (fun j o hj hd=>absurd hd (hrep j)) (Nat.le_trans List.countP_le_length (by simp)) hinv
 cases hr
end
end
section
open Go.RowKit
def Cl.sc:Cl->Bool
 | .val _=>true
 | .clo _ k _=>Nat.beq k 0
 | _=>false
def Av.sc:Av->Bool
 | .one c=>c.sc
 | .agg l=>l.all Cl.sc
def Tv.sc:Tv->Bool
 | .av x=>x.sc
 | .tup l=>l.all Av.sc
 | .grd _ _=>false
theorem RT_sc {M M':Nat->Option Obj} {σ σ':Nat->Loc} {r:Tv} {U:Value} (hd:r.sc=true) (h:RT M σ r U):RT M' σ' r U:=by
 have cl:∀ {c:Cl} {U:Value},c.sc=true->R M σ c U->R M' σ' c U:=fun {c U} hd h=>by
  cases c with
  | val v=>exact h
  | clo f k caps =>
   have:=Nat.eq_of_beq_eq_true hd
   subst this
   obtain ⟨cs,h1,h2,_⟩:=h
   exact ⟨cs,h1,h2,fun i hi=>absurd hi (by omega)⟩
  | list=>cases hd
  | eptr=>cases hd
  | mp=>cases hd
  | ptr=>cases hd
  | own=>cases hd
  | rptr=>cases hd
  | osl=>cases hd
  | om=>cases hd
  | any=>exact h
 have av:∀ {x:Av} {U:Value},x.sc=true->RA M σ x U->RA M' σ' x U:=fun {x U} hd h=>by
  cases x with
  | one c=>exact cl hd h
  | agg l=>obtain ⟨vs,h1,h2⟩:=h;exact ⟨vs,h1,h2.mono fun c hc b hb=>cl ((List.all_eq_true.1 hd) c hc) hb⟩
 cases r with
 | av x=>exact av hd h
 | tup l=>obtain ⟨vs,h1,h2⟩:=h;exact ⟨vs,h1,h2.mono fun c hc b hb=>av ((List.all_eq_true.1 hd) c hc) hb⟩
 | grd g x=>cases hd
section
variable {P:Program}
theorem Md (g:Nat->Cl) {k i:Nat} (hi:i<k):D9 ((List.range k).map g) i=g i:=by
 simp [D9,List.getD_eq_getElem?_getD,hi]
def toC (cs:List (Nat×Blk)):Cl->Cl
 | .ptr n off=>match get cs n with
  | some (.cells l _)=>.eptr l.length 1 (fun _ j=>l.getD j default) 0 off
  | _=>.ptr n off
 | .clo f k caps=>.clo f k (D9 ((List.range k).map fun i=>toC cs (caps i)))
 | x=>x
def toE (cs:List (Nat×Blk)):Av->Av
 | .one c=>.one (toC cs c)
 | .agg l=>.agg (l.map (toC cs))
def Jj:Blk->Bool
 | .cells l _=>l.all Cl.dv
 | _=>false
theorem Te {h:Nat->Option Blk}:∀ {ns:List Nat} {bs:List Blk},GC h ns=some bs->∀ n b,get (ns.zip bs) n=some b->h n=some b
 | [],bs,hg,n,b,hz=>by simp [get] at hz
 | m::ns,bs,hg,n,b,hz=>by
  simp only [GC] at hg
  split at hg
  ·rename_i b0 bs0 h1 h2
   injection hg with hg
   subst hg
   simp only [List.zip_cons_cons,get,CQ] at hz
   by_cases hmn:m=n
   ·subst hmn;simp at hz;subst hz;exact h1
   simp [hmn] at hz;exact Te h2 n b hz
  cases hg
theorem YE {f:FuncId} {xs:List Av} {ns:List Nat} {bs:List Blk} {r:Tv} (h1:∀ args w,(callFunc f args).run P w=.ok (.enter f args) w) (hb:bs.all Jj=true) (hr:r.sc=true) (h:HT P f (xs.map (toE (ns.zip bs))) r):FK P f xs (rdI ns bs r):=by
 classical
 refine .inl ⟨h1,fun M σ w hh args cs' g hs hargs hres hc => ?_⟩
 simp only [rdI,res] at hres
 split at hres
 ·rename_i bs' hg
  simp only [Option.some.injEq,Prod.mk.injEq] at hres
  obtain ⟨rfl,rfl⟩:=hres
  have:=hc.head
  subst this
  let M':Nat->Option Obj:=fun b=>if ∃ n bl,get (ns.zip bs') n=some bl/\(σ n).b=b then w.heap[b]? else M b
  have himm:∀ b o,M' b=some o->w.heap[b]? = some o:=fun b o hm=>by
   simp only [M'] at hm
   split at hm
   ·exact hm
   exact hs.imm b o hm
  have hsub:∀ b o,M b=some o->M' b=some o:=fun b o hm=>by
   simp only [M']
   split
   ·exact hs.imm b o hm
   exact hm
  have hC:∀ {c:Cl} {V:Value},R M σ c V->R M' σ (toC (ns.zip bs') c) V:=by
   intro c
   induction c with
   | ptr n off =>
    intro V hR
    simp only [toC]
    split
    ·rename_i l T hgl
     have hh:=Te hg n _ hgl
     obtain ⟨hnil,c,hblk,hl⟩:=hs.blk n _ hh
     have hcap:l.all Cl.dv=true:=by
      have:(Blk.cells l T)∈bs':=by
       have:=DL hgl
       exact (List.of_mem_zip this).2
      exact (List.all_eq_true.1 hb) _ this
     have hV0:V=.pointer (some ⟨(σ n).b,off,none⟩):=hR
     subst hV0
     have hM':M' (σ n).b=some (.cells c.toArray T):=by
      simp only [M']
      rw [if_pos ⟨n,_,hgl,rfl⟩];exact hblk
     show RC M' _ _
     have:=RC.eptr (M:=M') l.length 1 (fun _ j=>l.getD j default) 0 off (σ n).b 0 (fun j=>c.getD j undef) (fun j hj=>by
      have hjc:j<c.length:=by rw [<- hl.length];exact hj
      simp only [FM,hM',Nat.zero_add,List.getElem?_toArray]
      simp [List.getD,hjc]) (fun j hj=>by
      obtain ⟨u,hu,hRu⟩:=hl.get j _ (List.getElem?_eq_getElem hj)
      simp only [List.getD,List.getElem?_eq_getElem hj,hu,Option.getD_some]
      exact FS hsub ((Lw ((List.all_eq_true.1 hcap) _ (List.getElem_mem _))).1 hRu))
     rw [Nat.zero_add] at this
     exact this
    exact hR
   | clo f k caps ih =>
    intro V hR
    obtain ⟨cs,e1,e2,e3⟩:=hR
    exact ⟨cs,e1,e2,fun i hi=>by rw [Md _ hi];exact ih i (e3 i hi)⟩
   | val v=>intro V hR;exact hR
   | own=>intro V hR;exact C3 hsub (fun _ _=>rfl) hR
   | rptr=>intro V hR;exact C3 hsub (fun _ _=>rfl) hR
   | osl=>intro V hR;exact C3 hsub (fun _ _=>rfl) hR
   | om=>intro V hR;exact C3 hsub (fun _ _=>rfl) hR
   | any=>intro V hR;exact hR
   | list=>intro V hR;exact C3 hsub (fun _ _=>rfl) hR
   | eptr=>intro V hR;exact C3 hsub (fun _ _=>rfl) hR
   | mp=>intro V hR;exact C3 hsub (fun _ _=>rfl) hR
  have hx:L2 (RA M' σ) (xs.map (toE (ns.zip bs'))) args:=by
   refine L2.of (by rw [List.length_map];exact hargs.length) fun i x V hx hV => ?_
   rw [List.getElem?_map] at hx
   obtain ⟨x0,hx0,rfl⟩:=Option.map_eq_some_iff.1 hx
   obtain ⟨V',hV',hR⟩:=hargs.get i x0 hx0
   rw [hV] at hV';injection hV' with hV';subst hV'
   cases x0 with
   | one c=>exact hC hR
   | agg l =>
    obtain ⟨vs,e1,e2⟩:=hR
    refine ⟨vs,e1,?_⟩
    clear hx0 e1 hx
    induction e2 with
    | nil=>exact .nil
    | cons e3 _ ih=>exact .cons (hC e3) ih
  refine (h M' σ w args himm hx).mono ?_
  rintro en w' ⟨U,hU,M'',hk,hRU⟩
  exact ⟨U,hU,fun dst _=>⟨M,σ,⟨hk.os,hk.tape,hk.output,hk.size,hk.old,fun _ _ h=>h,fun _ _ h h'=>by (rw [h] at h';cases h'),fun b o hm=>hk.imm b o (hk.sub b o (hsub b o hm))⟩,rfl,RT_sc hr (hRU σ)⟩⟩
 cases hres
theorem TN (k:Nat):BB [k] k=true:=by unfold BB;rw [Nat.beq_refl];rfl
def Wr (P:Program) (f:FuncId) (K:Nat) (xs:List Av) (b0:Blk) (r:Tv) (b1:Blk):Prop:=∀ (M:Nat->Option Obj) (σ:Nat->Loc) (w:World) (args:List Value),(∀ b o,M b=some o->w.heap[b]? = some o)->Bv M σ w (σ K) b0->(σ K).nil=false->M (σ K).b=none->L2 (RA M σ) xs args ->
 Calls P f args.toArray w fun en w'=>∃ U,en=.returned U/\∃ M',Gf w w' M M' (only (σ K))/\(∀ σ',RT M' σ' r U)/\∀ σ',Bv M' σ' w' (σ K) b1
theorem GJ {M:Nat->Option Obj} {σ σ':Nat->Loc} {w:World} {x:Loc} {b:Blk} (hd:Jj b=true) (h:Bv M σ w x b):Bv M σ' w x b:=by
 cases b with
 | row=>cases hd
 | omap=>cases hd
 | rowx=>cases hd
 | cells l ty =>
  obtain ⟨h0,c,hc,hl⟩:=h
  exact ⟨h0,c,hc,hl.mono fun a ha b hb=>(Lw ((List.all_eq_true.1 hd) a ha)).2 ((Lw ((List.all_eq_true.1 hd) a ha)).1 hb)⟩
def CC (K n:Nat):Av->Av
 | .one (.ptr m off)=>bif Nat.beq m K then .one (.ptr n off) else .one (.ptr m off)
 | x=>x
def Z7 (K:Nat):Av->Bool
 | .one (.ptr m _)=>Nat.beq m K
 | x=>x.dv
theorem YD {f:FuncId} {K n:Nat} {xs:List Av} {b0 b1:Blk} {r:Tv} (h1:∀ args w,(callFunc f args).run P w=.ok (.enter f args) w) (hx:xs.all (Z7 K)=true) (hd0:Jj b0=true) (h:Wr P f K xs b0 r b1):FK P f (xs.map (CC K n)) (wrI n b0 r b1):=by
 refine .inl ⟨h1,fun M σ w hh args cs' g hs hargs hres hc => ?_⟩
 simp only [wrI,res,GC] at hres
 cases hn:hh n with
 | none=>rw [hn] at hres;cases hres
 | some b =>
  rw [hn] at hres
  simp only [Option.some.injEq,Prod.mk.injEq] at hres
  obtain ⟨rfl,rfl⟩:=hres
  have:=hc.head
  subst this
  have hblk:=hs.blk n _ hn
  have hnil:(σ n).nil=false:=by
   cases b with
   | row=>cases hd0
   | omap=>cases hd0
   | rowx=>cases hd0
   | cells l ty=>exact hblk.1
  have hM:M (σ n).b=none:=by
   rcases hs.loc n _ hn with h | h
   ·rw [hnil] at h;cases h
   exact h
  let σ2:Nat->Loc:=upd σ K (σ n)
  have hK:σ2 K=σ n:=BV _ _ _
  have hargs2:L2 (RA M σ2) xs args:=by
   refine L2.of (by have:=hargs.length;simpa using this) fun i x V hxi hV => ?_
   obtain ⟨V',hV',hR⟩:=hargs.get i (CC K n x) (by rw [List.getElem?_map,hxi];rfl)
   rw [hV] at hV';injection hV' with hV';subst hV'
   have hok:=(List.all_eq_true.1 hx) x (List.mem_of_getElem? hxi)
   unfold Z7 at hok
   split at hok
   ·rename_i m off
    simp only [CC,hok,cond_true] at hR
    have:=Nat.eq_of_beq_eq_true hok
    subst this
    have hR':V=.pointer (some ⟨(σ n).b,off,none⟩):=hR
    show V=.pointer (some ⟨(σ2 m).b,off,none⟩)
    rw [hK];exact hR'
   rename_i hne
   have:CC K n x=x:=by
    unfold CC
    split
    ·rename_i m off;exact (hne m off rfl).elim
    rfl
   rw [this] at hR
   have:=LJ (σ':=σ2) (r:=.av x) hok hR
   exact this
  refine (h M σ2 w args hs.imm (by rw [hK];exact GJ hd0 hblk) (by rw [hK];exact hnil) (by rw [hK];exact hM) hargs2).mono ?_
  rintro en w' ⟨U,hU,M',hk,hR,hb⟩
  rw [hK] at hk
  refine ⟨U,hU,fun dst _=>⟨M',σ,hk,rfl,hR σ,?_⟩⟩
  have:=hb σ
  rw [hK] at this
  exact this
end
def L7 (P:Program) (rd:Option Nat) (N:Nat) (W0:World) (X:Nat->Option Loc) (M0:Nat->Option Obj) (c:Code) (Q:Exit->AS->Prop):Nat->AS->Prop
 | 0,_=>False
 | n+1,s=>AWp P rd N W0 X M0 c (ATh (L7 P rd N W0 X M0 c Q n) Q) s
theorem Ba {P:Program} {rd:Option Nat} {N:Nat} {W0:World} {X:Nat->Option Loc} {M0:Nat->Option Obj} {c:Code} {Q:Exit->AS->Prop} {n:Nat} {s:AS} (h:AWp P rd N W0 X M0 c (ATh (L7 P rd N W0 X M0 c Q n) Q) s):L7 P rd N W0 X M0 c Q (n+1) s:=h
theorem Dr {P:Program} {rd:Option Nat} {N:Nat} {W0:World} {X:Nat->Option Loc} {M0:Nat->Option Obj} {c:Code} {Q:Exit->AS->Prop} {s:AS} (n:Nat) (h:L7 P rd N W0 X M0 c Q n s):AWp P rd N W0 X M0 (.loop c) Q s:=by
 have key:∀ n s,L7 P rd N W0 X M0 c Q n s->∀ M σ a w,Sim N W0 X M0 M σ (get s.t) (get s.h) a w->Code.roundsIn (FW rd) 0 P c (fun e a' w'=>∃ s' M' σ',Q e s'/\Sim N W0 X M0 M' σ' (get s'.t) (get s'.h) a' w') n a w:=by
  intro n
  induction n with
  | zero=>intro s h;exact h.elim
  | succ n ih =>
   intro s h M σ a w hs
   rw [roundsIn_succ]
   refine wpIn_mono (h M σ a w hs) ?_
   rintro e a' w' ⟨s',M',σ',h1,h2⟩
   cases e with
   | normal=>exact ih s' h1 M' σ' a' w' h2
   | _=>exact ⟨s',M',σ',h1,h2⟩
 intro M σ a w hs
 exact wpIn_loop_rounds n (key n s h M σ a w hs)
inductive ClE:Cl->Cl->Prop
 | refl (c:Cl):ClE c c
 | list (t t':Bool) (sz len:Nat) (f f':Nat->Nat->Cl) (h:∀ i j,i<len->j<sz->ClE (f i j) (f' i j)) (ht:t'=true->t=true):ClE (.list t sz len f) (.list t' sz len f')
 | nil (sz:Nat) (f:Nat->Nat->Cl):ClE (.val (.slice none 0 0)) (.list false sz 0 f)
 | own (n sz:Nat) {l l':Nat} (h:l=l'):ClE (.own n sz l) (.own n sz l')
 | clo (f:FuncId) (k:Nat) (c c':Nat->Cl) (h:∀ i,i<k->c i=c' i):ClE (.clo f k c) (.clo f k c')
 | any (c:Cl):ClE c .any
theorem Vw {M:Nat->Option Obj} {c c':Cl} (he:ClE c c'):∀ V,RC M c V->RC M c' V:=by
 induction he with
 | refl=>exact fun _ h=>h
 | nil sz f=>intro V h;cases h with | val _ _=>exact RC.nil _ _ _ rfl
 | own n sz hl=>intro V h;cases h
 | any c=>intro V h;exact .any V (Jo (σ:=fun _=>⟨0,0,false⟩) (Ly h))
 | clo f k c c' hc =>
  intro V h
  cases h with
  | clo _ _ _ cs h1 h2=>exact .clo _ _ _ cs h1 fun i hi=>by rw [<- hc i hi];exact h2 i hi
 | list t t' sz len f f' hf ht ih =>
  intro V h
  cases h with
  | nil _ _ _ h0 =>
   refine .nil _ _ _ ?_
   cases t' with
   | false=>rfl
   | true=>rw [ht rfl] at h0;cases h0
  | mt _ _ _ p0 cap h5=>exact .mt _ _ _ p0 cap (fun h=>h5 (ht h))
  | list _ _ _ _ b off cap g h1 h2 h4 h5=>exact .list _ _ _ _ b off cap g h1 (fun i j hi hj=>ih i j hi hj _ (h2 i j hi hj)) h4 (fun h=>h5 (ht h))
theorem XJ {M:Nat->Option Obj} {σ:Nat->Loc} {c c':Cl} {V:Value} (he:ClE c c') (h:R M σ c V):R M σ c' V:=by
 cases he with
 | refl=>exact h
 | nil sz f=>obtain ⟨rfl,_⟩:=h;exact RC.nil _ _ _ rfl
 | own n sz hl=>subst hl;exact h
 | any c=>exact Jo h
 | clo f k c c' hc =>
  obtain ⟨cs,h1,h2,h3⟩:=h
  exact ⟨cs,h1,h2,fun i hi=>by rw [<- hc i hi];exact h3 i hi⟩
 | list t t' sz len f f' hf ht=>exact Vw (.list t t' sz len f f' hf ht) V h
section
variable {P:Program} {rd:Option Nat} {N:Nat} {W0:World} {X:Nat→Option Loc} {M0 M:Nat→Option Obj} {Q:Exit→AS→Prop} {s:AS}
end
end
section
open Go.ChangeShapes Go.WideShapes Go.ChangeAt Go.RowKit
def MW (w:World):Nat->Option Obj:=fun b=>w.heap[b]?
def CS (P:Program) (t:TypeId) {T:Type} (c:T->List Cl) (ok:T->Prop):Prop :=
 ∀ {H:Type} (enc:TypeId×Value->H) (w:World) (base:Nat) (spare:Nat->Bool) (held:Bool) (fuel:Nat) (cs:List Value) (x:DataW H×List MemPlace),
  DataW.trod enc P w base spare held fuel t cs=some x->∃ a:T,ok a/\L2 (RC (MW w)) (c a) cs
def WF (k:IntKind) (n:Int):Prop:=(Lit.int k n).wf=true
section
variable {P:Program} {t:TypeId}
theorem BU {k:IntKind} (ht:P.underlying t=some (.int k)):CS P t (fun n:Int=>[.val (.int k n)]) (WF k):=by
 intro H enc w base spare held fuel cs x h
 obtain ⟨n,rfl,_,hw⟩:=DataW.trod_int ht h
 exact ⟨n,hw,.cons (.val _ rfl) .nil⟩
theorem VK (ht:P.underlying t=some .bool):CS P t (fun b:Bool=>[.val (.bool b)]) (fun _=>True):=by
 intro H enc w base spare held fuel cs x h
 obtain ⟨b,rfl,_⟩:=DataW.trod_bool ht h
 exact ⟨b,trivial,.cons (.val _ rfl) .nil⟩
theorem Cs (ht:P.underlying t=some .string):CS P t (fun b:ByteArray=>[.val (.string b)]) (fun s=>s.size<=maxLen):=by
 intro H enc w base spare held fuel cs x h
 obtain ⟨b,rfl,_,hl⟩:=DataW.trod_string ht h
 exact ⟨b,hl,.cons (.val _ rfl) .nil⟩
theorem Ck {T S:Type} {c:T->List Cl} {ok:T->Prop} {c':S->List Cl} {ok':S->Prop} (h:CS P t c ok) (g:∀ a,ok a->∃ s,ok' s/\c' s=c a):CS P t c' ok':=by
 intro H enc w base spare held fuel cs x hx
 obtain ⟨a,h1,h2⟩:=h enc w base spare held fuel cs x hx
 obtain ⟨s,h3,h4⟩:=g a h1
 exact ⟨s,h3,by rw [h4];exact h2⟩
def SY (P:Program):List Field->Nat
 | []=>0
 | f::r=>P.cellsOf f.type+SY P r
def SK (P:Program) (off:Nat) (fs:List Field) {T:Type} (c:T->List Cl) (ok:T->Prop):Prop :=
 ∀ {H:Type} (enc:TypeId×Value->H) (w:World) (base:Nat) (spare:Nat->Bool) (held:Bool) (fuel:Nat) (cs:List Value),
  (∀ f∈fs,∃ y,DataW.trod enc P w base spare held fuel f.type ((cs.drop f.offset).take (P.cellsOf f.type))=some y)->off+SY P fs=cs.length->∃ a:T,ok a/\L2 (RC (MW w)) (c a) (cs.drop off)
theorem CW {off:Nat}:SK P off [] (fun _:Unit=>[]) (fun _=>True):=by
 intro H enc w base spare held fuel cs _ hl
 simp only [SY,Nat.add_zero] at hl
 refine ⟨(),trivial,?_⟩
 rw [List.drop_eq_nil_of_le (by omega)]
 exact .nil
theorem AY {off:Nat} {f:Field} {fs:List Field} {T S:Type} {c:T->List Cl} {ok:T->Prop} {c':S->List Cl} {ok':S->Prop} (n:Nat) (hn:P.cellsOf f.type=n) (ho:f.offset=off) (h:CS P f.type c ok) (h':SK P (off+n) fs c' ok') :
  SK P off (f::fs) (fun p:T×S=>c p.1++c' p.2) (fun p=>ok p.1/\ok' p.2):=by
 subst hn
 intro H enc w base spare held fuel cs hf hl
 obtain ⟨y,hy⟩:=hf f (List.mem_cons_self ..)
 obtain ⟨a,h1,h2⟩:=h enc w base spare held fuel _ _ hy
 simp only [SY] at hl
 obtain ⟨b,h3,h4⟩:=h' enc w base spare held fuel cs (fun f' hm=>hf f' (List.mem_cons_of_mem _ hm)) (by omega)
 refine ⟨(a,b),⟨h1,h3⟩,?_⟩
 rw [ho] at h2
 have:=h2.append h4
 rwa [<- List.drop_drop,List.take_append_drop] at this
theorem Bw {fs:Array Field} {T:Type} {c:T->List Cl} {ok:T->Prop} (ht:P.underlying t=some (.struct fs)) (htot:SY P fs.toList=P.cellsOf t) (h:SK P 0 fs.toList c ok):CS P t c ok:=by
 intro H enc w base spare held fuel cs x hx
 obtain ⟨xs,n,_,_,hcs,hxs,hi⟩:=DataW.trod_struct ht hx
 obtain ⟨a,h1,h2⟩:=h enc w base spare held n cs (fun f hm=>by
  obtain ⟨i,hi',hfi⟩:=List.getElem_of_mem hm
  have h1:=hi i f (by rw [<- hfi];simp)
  have h2:xs[i]? = some (xs[i]'(by rw [hxs];simpa using hi')):=List.getElem?_eq_getElem _
  exact ⟨_,h1.trans h2⟩) (by omega)
 exact ⟨a,h1,by simpa using h2⟩
theorem S3 {n:Nat} {e:TypeId} {T:Type} {c:T->List Cl} {ok:T->Prop} (ht:P.underlying t=some (.array n e)) (htot:n*P.cellsOf e=P.cellsOf t) (h:CS P e c ok):CS P t (fun xs:List T=>xs.flatMap c) (fun xs=>xs.length=n/\∀ x∈xs,ok x):=by
 intro H enc w base spare held fuel cs x hx
 obtain ⟨xs,m,_,_,hcs,hxs,hi⟩:=DataW.trod_array ht hx
 have key:∀ (k:Nat) (ds:List Value),ds.length=k*P.cellsOf e->(∀ i,i<k->∃ y,DataW.trod enc P w base spare held m e ((ds.drop (i*P.cellsOf e)).take (P.cellsOf e))=some y)->∃ zs:List T,(zs.length=k/\∀ x∈zs,ok x)/\L2 (RC (MW w)) (zs.flatMap c) ds:=by
  intro k
  induction k with
  | zero =>
   intro ds hl _
   have:ds=[]:=List.eq_nil_of_length_eq_zero (by omega)
   subst this
   exact ⟨[],⟨rfl,fun x hx=>by cases hx⟩,.nil⟩
  | succ k ih =>
   intro ds hl hd
   obtain ⟨y,hy⟩:=hd 0 (by omega)
   simp only [Nat.zero_mul,List.drop_zero] at hy
   obtain ⟨a,h1,h2⟩:=h enc w base spare held m _ _ hy
   obtain ⟨zs,⟨h3,h4⟩,h5⟩:=ih (ds.drop (P.cellsOf e)) (by rw [List.length_drop,hl,Nat.succ_mul];omega) (fun i hi=>by
    have:=hd (i+1) (by omega)
    rwa [Nat.succ_mul,Nat.add_comm,<- List.drop_drop] at this)
   refine ⟨a::zs,⟨by simp [h3],fun x hx => ?_⟩,?_⟩
   ·rcases List.mem_cons.1 hx with rfl | hx
    ·exact h1
    exact h4 x hx
   have:=h2.append h5
   rwa [List.take_append_drop] at this
 exact key n cs (by omega) (fun i hi'=>by
  have h1:=hi i hi'
  have h2:xs[i]? = some (xs[i]'(by omega)):=List.getElem?_eq_getElem _
  exact ⟨_,h1.trans h2⟩)
theorem Mq {w:World} {base:Nat} {a:Addr} {n:Nat} {ci:List Value} (h:w.cells? base a n=some ci):ci.length=n/\∀ j,j<n->w.cell? (a.add j)=ci[j]? := by
 unfold World.cells? at h
 split at h
 ·exact ⟨by simpa using mapM_some_length h,fun j hj=>mapM_some_get h j j (by simp [hj])⟩
 cases h
theorem QU {w:World} {a:Addr} {v:Value} (h:w.cell? a=some v):a.spot=none/\FM (MW w) a.block a.off=some v:=by
 unfold World.cell? at h
 unfold FM MW
 split at h
 ·rename_i c t f hh
  rw [hh]
  split at h
  ·cases h
  rename_i hs;exact ⟨by simpa using hs,h⟩
 cases h
def SQ (S:Bool) (P:Program) (t:TypeId) {H:Type} (d:DataW H):Prop:=S=true->∀ n∈d.weights P t,n<=reachBytes
theorem sq_no {P:Program} {t:TypeId} {H:Type} {d:DataW H}:SQ false P t d:=fun h=>by cases h
theorem M6 {P:Program} {e:TypeId} {H:Type} {d:DataW H}:∀ {l:List (DataW H)},d∈l->∀ n∈d.weights P e,n∈DataW.weightsAll P e l
 | [],h,_,_=>by cases h
 | x::l,h,n,hn=>by
  simp only [DataW.weightsAll,List.mem_append]
  rcases List.mem_cons.1 h with rfl | h
  ·exact .inl hn
  exact .inr (M6 h n hn)
theorem eV {S:Bool} {P:Program} {t e:TypeId} {H:Type} {elems spare:List (DataW H)} {d:DataW H} (ht:P.underlying t=some (.slice e)) (h:SQ S P t (.slice elems spare)) (hd:d∈elems):SQ S P e d:=fun hs n hn =>
 h hs n (by simp only [DataW.weights,ht,List.mem_cons,List.mem_append];exact .inr (.inl (M6 hd n hn)))
def eN (S:Bool) (fuel:Nat) (P:Program) (t:TypeId) {T:Type} (c:T->List Cl) (ok:T->Prop):Prop :=
 ∀ {H:Type} (enc:TypeId×Value->H) (w:World) (base:Nat) (spare:Nat->Bool) (held:Bool) (cs:List Value) (x:DataW H×List MemPlace),
  DataW.trod enc P w base spare held fuel t cs=some x->SQ S P t x.1->∃ a:T,ok a/\L2 (RC (MW w)) (c a) cs
theorem Ok {S:Bool} {e:TypeId} {T:Type} [Inhabited T] {c:T->List Cl} {ok:T->Prop} (sz:Nat) (ht:P.underlying t=some (.slice e)) (hsz:P.cellsOf e=sz) (hpos:0<sz) (fuel:Nat) (h:∀ n,fuel=n+1->eN S n P e c ok):eN S fuel P t (fun xs:List T=>[lst sz c xs]) (fun xs=>xs.length<=maxLen/\∀ x∈xs,ok x):=by
 subst hsz
 intro H enc w base spare held cs x hx hq
 rcases DataW.trod_slice ht hx with ⟨rfl,_⟩ | ⟨a,len,cap,elems,rest,n,hfu,rfl,hx2,_,hlc,hcm,hel,hi,_,_⟩
 ·exact ⟨[],⟨Nat.zero_le _,fun x hx=>by cases hx⟩,.cons (show RC _ (.list false _ 0 _) _ from .nil _ _ _ rfl) .nil⟩
 have hex:∀ i,∃ a':T,i<len->ok a'/\∃ ci,w.cells? base (a.add (i*P.cellsOf e)) (P.cellsOf e)=some ci/\L2 (RC (MW w)) (c a') ci:=fun i=>by
  by_cases hil:i<len
  ·have h1:=hi i hil
   have h2:elems[i]? = some (elems[i]'(by omega)):=List.getElem?_eq_getElem _
   rw [h2] at h1
   cases hci:w.cells? base (a.add (i*P.cellsOf e)) (P.cellsOf e) with
   | none=>rw [hci] at h1;cases h1
   | some ci =>
    rw [hci] at h1
    obtain ⟨a',h3,h4⟩:=h n hfu enc w base spare held ci _ h1 (eV ht (by rw [hx2] at hq;exact hq) (List.mem_map.2 ⟨_,List.getElem_mem _,rfl⟩))
    exact ⟨a',fun _=>⟨h3,ci,rfl,h4⟩⟩
  exact ⟨default,fun k=>absurd k hil⟩
 let A:Nat->T:=fun i=>Classical.choose (hex i)
 have hA:∀ i,i<len->ok (A i)/\∃ ci,w.cells? base (a.add (i*P.cellsOf e)) (P.cellsOf e)=some ci/\L2 (RC (MW w)) (c (A i)) ci:=fun i=>Classical.choose_spec (hex i)
 refine ⟨(List.range len).map A,⟨by simp;omega,fun x hx => ?_⟩,.cons ?_ .nil⟩
 ·obtain ⟨i,hi,rfl⟩:=List.mem_map.1 hx
  exact (hA i (List.mem_range.1 hi)).1
 unfold lst
 rw [List.length_map,List.length_range]
 by_cases hl0:len=0
 ·subst hl0
  exact .mt _ _ _ _ _ (fun h=>by cases h)
 have hsp:a.spot=none:=by
  obtain ⟨_,ci,h1,_⟩:=hA 0 (by omega)
  obtain ⟨h2,h3⟩:=Mq h1
  have h4:=h3 0 hpos
  have h5:ci[0]? = some (ci[0]'(by omega)):=List.getElem?_eq_getElem _
  rw [h5] at h4
  have:=(QU h4).1
  simpa [Addr.add] using this
 obtain ⟨b,off,sp⟩:=a
 simp only at hsp
 subst hsp
 refine .list false _ _ _ b off cap (fun i j=>((w.cells? base (Addr.add ⟨b,off,none⟩ (i*P.cellsOf e)) (P.cellsOf e)).getD []).getD j undef) (fun i j hil hj => ?_) (fun i j hil hj => ?_) hlc (fun h=>by cases h)
 ·obtain ⟨_,ci,h1,_⟩:=hA i hil
  obtain ⟨h2,h3⟩:=Mq h1
  have h4:=h3 j hj
  have h5:ci[j]? = some (ci[j]'(by omega)):=List.getElem?_eq_getElem _
  rw [h5] at h4
  have h6:=(QU h4).2
  rw [Addr.add_lit,Addr.add_lit] at h6
  rw [h1]
  simp only [Option.getD_some,List.getD_eq_getElem?_getD,h5]
  simpa [Nat.add_assoc] using h6
 obtain ⟨_,ci,h1,h7⟩:=hA i hil
 obtain ⟨h2,_⟩:=Mq h1
 have h5:ci[j]? = some (ci[j]'(by omega)):=List.getElem?_eq_getElem _
 obtain ⟨k,h8,h9⟩:=h7.get' j _ h5
 have e1:((List.range len).map A).getD i default=A i:=by
  rw [List.getD_eq_getElem?_getD]
  simp [hil]
 rw [e1,h1]
 simp only [Option.getD_some,List.getD_eq_getElem?_getD,h5,h8]
 exact h9
theorem CP {e:TypeId} {T:Type} [Inhabited T] {c:T->List Cl} {ok:T->Prop} (sz:Nat) (ht:P.underlying t=some (.slice e)) (hsz:P.cellsOf e=sz) (hpos:0<sz) (h:CS P e c ok):CS P t (fun xs:List T=>[lst sz c xs]) (fun xs=>xs.length<=maxLen/\∀ x∈xs,ok x) :=
 fun enc w base spare held fuel cs x hx=>Ok (S:=false) sz ht hsz hpos fuel (fun n _=>fun enc w base spare held cs x hx _=>h enc w base spare held n cs x hx) enc w base spare held cs x hx sq_no
theorem Xk {e:TypeId} {α:Type} [Inhabited α] (ht:P.underlying t=some (.slice e)):CS P t (fun _:α=>[.any]) (fun _=>True):=by
 intro H enc w base spare held fuel cs x hx
 rcases DataW.trod_slice ht hx with ⟨rfl,_⟩ | ⟨a,len,cap,elems,rest,n,hfu,rfl,_⟩
 ·exact ⟨default,trivial,.cons (.any _ rfl) .nil⟩
 exact ⟨default,trivial,.cons (.any _ rfl) .nil⟩
end
theorem L2_RC {M:Nat->Option Obj} {σ:Nat->Loc} {l:List Cl} {cs:List Value} (h:L2 (RC M) l cs):L2 (R M σ) l cs:=h.mono fun _ _ _ hc=>Ly hc
section
variable {H:Type} {enc:TypeId×Value→H} {P:Program} {W:World} {base b0:Nat} {spare:Nat→Bool} {held:Bool} {r:Reach} {t:TypeId} {v:Value} {d:DataW H} {ps:List MemPlace}
theorem S4 {T:Type} {c:T->List Cl} {ok:T->Prop} (ho:CS P t c ok) (hs:(∃ fs,P.underlying t=some (.struct fs))\/∃ n e,P.underlying t=some (.array n e)) (hv:Value.okWide P W r b0 t v) (h:DataW.Trod enc P W base spare held t v d ps):∃ a:T,ok a/\∀ σ,RA (MW W) σ (.agg (c a)) v:=by
 have:∃ cs,v=.agg cs:=by
  rcases hs with ⟨fs,hs⟩ | ⟨n,e,hs⟩ <;> simp only [Value.okWide,hs] at hv <;> obtain ⟨cs,h1,_⟩:=hv <;> exact ⟨cs,h1⟩
 obtain ⟨⟨cs⟩,rfl⟩:=this
 obtain ⟨fuel,hx⟩:=h
 obtain ⟨a,h1,h2⟩:=ho enc W base spare held fuel cs _ hx
 exact ⟨a,h1,fun σ=>⟨cs,rfl,L2_RC h2⟩⟩
theorem aT {T:Type} {k:T->Cl} {ok:T->Prop} (ho:CS P t (fun a=>[k a]) ok) (hs:(∃ e,P.underlying t=some (.slice e))\/(∃ e,P.underlying t=some (.int e))\/P.underlying t=some .bool\/P.underlying t=some .string) (hv:Value.okWide P W r b0 t v) (h:DataW.Trod enc P W base spare held t v d ps):∃ a:T,ok a/\∀ σ,RA (MW W) σ (.one (k a)) v:=by
 have:v.cells.toList=[v]:=by
  rcases hs with ⟨e,hs⟩ | ⟨e,hs⟩ | hs | hs
  ·obtain ⟨p,l,c,rfl⟩:=okWide_slice hs hv;rfl
  ·obtain ⟨n,rfl⟩:=okWide_int hs hv;rfl
  ·obtain ⟨n,rfl⟩:=okWide_bool hs hv;rfl
  obtain ⟨n,rfl⟩:=okWide_string hs hv;rfl
 obtain ⟨fuel,hx⟩:=h
 rw [this] at hx
 obtain ⟨a,h1,h2⟩:=ho enc W base spare held fuel _ _ hx
 refine ⟨a,h1,fun σ => ?_⟩
 cases h2 with | cons h3 _=>exact Ly h3
theorem LQ (hl:laidOutB P=true) {W W':World} (hb:Below W.heap.size W W'):∀ (ts:List TypeId) (vs:List Value) (ds:List (DataW H)) (ps:List MemPlace),(∀ t∈ts,P.readableRec t=true/\t<P.types.size) ->
  DataW.TrodAll enc P W 0 (fun _=>true) true ts vs ds ps->(∀ x∈ps,x.block<W.heap.size)->∀ sp:Nat->Bool,(∀ x∈ps,sp x.block=true)->DataW.TrodAll enc P W' 0 sp true ts vs ds ps
 | [],[],[],ps,_,h,_,_,_=>h
 | [],[],_::_,_,_,h,_,_,_=>h.elim
 | [],_::_,_,_,_,h,_,_,_=>by cases h
 | _::_,[],_,_,_,h,_,_,_=>by cases h
 | _::_,_::_,[],_,_,h,_,_,_=>h.elim
 | t::ts,v::vs,d::ds,ps,hr,h,hlt,sp,hsp=>by
  obtain ⟨p,q,h1,h2,rfl⟩:=h
  have hr1:=hr t (List.mem_cons_self ..)
  exact ⟨p,q,WideElems.Trod_stays hl hr1.1 hr1.2 h1 (fun x hx=>hb.same (hlt x (List.mem_append_left _ hx))) (fun x hx=>hsp x (List.mem_append_left _ hx)),
   LQ hl hb ts vs ds q (fun t' ht=>hr t' (List.mem_cons_of_mem _ ht)) h2 (fun x hx=>hlt x (List.mem_append_right _ hx)) sp (fun x hx=>hsp x (List.mem_append_right _ hx)),rfl⟩
theorem bY {f:Func} {s:ChangeSpec} {W W':World} {args:Array Value} {ds gs:List (DataW H)} {before:List MemPlace} {tb:TypeId}
  (hW:DataW.Whole enc P f.params.toList s.vars false W args.toList ds gs before) (hvars:s.vars=[]) (hspec:s.fn H (ds++[])={ results:=[.lit (.bool true)],args:=ds })
  (hl:laidOutB P=true) (hr:∀ t∈f.params.toList,P.readableRec t=true/\t<P.types.size) (hres:f.resultTypes = #[tb]) (htb:P.underlying tb=some .bool) (hb:Below W.heap.size W W') :
  s.post enc P f false true false false W args (.bool true) W':=by
 have hlt:∀ p∈before,p.block<W.heap.size:=fun p hp=>hW.lt p hp
 have hW':=hW
 obtain ⟨p,q,hA,hV,rfl,hz,hn⟩:=hW
 rw [hvars] at hV
 obtain ⟨rfl,rfl⟩:=trodVars_none hV
 refine ⟨ds,[],p++[],[],p,[],hW',?_,?_,?_,World.keptBut_mono (fun x hx=>⟨hx,?_⟩) (hb.frame (·∈p++[])),fun h=>by cases h⟩
 ·rw [hspec,hres]
  exact trodAll_cons_mk (shut_bool htb true) trodAll_mk0
 ·rw [hspec]
  exact LQ hl hb _ _ _ _ hr hA (fun x hx=>hlt x (List.mem_append_left _ hx)) _ (fun x hx=>by simpa using hlt x (List.mem_append_left _ hx))
 ·rw [hspec,hvars]
  exact rfl
 rw [List.mem_append] at hx
 exact Or.inr (by simpa using hx)
theorem TW {f:FuncId} {xs:List Av} {args:List Value} {ans:Bool} (h:HT P f xs (.av (.one (.b ans)))) (ha:ans=true) (hx:L2 (fun x v=>∀ σ,RA (MW W) σ x v) xs args):Calls P f args.toArray W fun e W'=>e=.returned (.bool true)/\Below W.heap.size W W':=by
 subst ha
 refine (h (MW W) (fun _=>⟨0,0,false⟩) W args (fun _ _ h=>h) (hx.mono fun _ _ _ h=>h _)).mono ?_
 rintro en w' ⟨U,rfl,M',hk,hR⟩
 have:U=.bool true:=(hR (fun _=>⟨0,0,false⟩)).1
 subst this
 exact ⟨rfl,hk.os,hk.tape,hk.output,hk.size,fun b hb=>hk.old b hb (fun h=>h)⟩
theorem La {n:Nat} (h:n<=maxLen):(n:Int)<=9223372036854775807:=by
 have:maxLen<=9223372036854775807:=by decide
 omega
end
end
section
open Go.RowKit
def Av.map (g:Cl->Cl):Av->Av
 | .one c=>.one (g c)
 | .agg l=>.agg (l.map g)
def Tv.map (g:Cl->Cl):Tv->Tv
 | .av x=>.av (x.map g)
 | .tup l=>.tup (l.map (Av.map g))
 | .grd p x=>.grd p (x.map g)
def Blk.map (g:Cl->Cl):Blk->Blk
 | .cells l ty=>.cells (l.map g) ty
 | .rowx sz len f ty hs=>.rowx sz len f ty (hs.map fun p=>(p.1,p.2.map g))
 | b=>b
def NU {α:Type} (F:α->α):List (Nat×α)->List (Nat×α)
 | []=>[]
 | (k,v)::r=>(k,F v)::NU F r
theorem Tg {α β:Type} (F:α->β) (l:List (Nat×α)) (n:Nat):get (l.map fun p=>(p.1,F p.2)) n=(get l n).map F:=by
 induction l with
 | nil=>rfl
 | cons p r ih =>
  obtain ⟨k,v⟩:=p
  simp only [List.map_cons,get,CQ]
  by_cases h:k=n
  ·simp [h]
  simp only [h,decide_false,cond_false,ih]
theorem Fw {α:Type} (F:α->α) (l:List (Nat×α)) (n:Nat):get (NU F l) n=(get l n).map F:=by
 induction l with
 | nil=>rfl
 | cons p r ih =>
  obtain ⟨k,v⟩:=p
  simp only [NU,get,CQ]
  by_cases h:k=n
  ·simp [h]
  simp only [h,decide_false,cond_false,ih]
def PN (p:Cl->Prop):Av->Prop
 | .one c=>p c
 | .agg l=>∀ c∈l,p c
def eG (p:Cl->Prop):Tv->Prop
 | .av x=>PN p x
 | .tup l=>∀ x∈l,PN p x
 | .grd _ x=>PN p x
def jC (p:Cl->Prop):Blk->Prop
 | .cells l _=>∀ c∈l,p c
 | .rowx _ _ _ _ hs=>∀ i l,get hs i=some l->∀ c∈l,p c
 | _=>True
section
variable {M M':Nat→Option Obj} {σ σ':Nat→Loc} {g:Cl→Cl} {p:Cl→Prop}
theorem Vx (h:∀ c V,p c->R M σ c V->R M' σ' (g c) V):∀ {x:Av} {V:Value},PN p x->RA M σ x V->RA M' σ' (x.map g) V
 | .one c,V,hp,hx=>h c V hp hx
 | .agg l,V,hp,⟨vs,h1,h2⟩=>by
  refine ⟨vs,h1,?_⟩
  replace hp:∀ c∈l,p c:=hp
  clear h1
  induction h2 with
  | nil=>exact .nil
  | cons h3 _ ih=>exact .cons (h _ _ (hp _ (by simp)) h3) (ih fun c hc=>hp c (by simp [hc]))
theorem Vu (h:∀ c V,p c->R M σ c V->R M' σ' (g c) V):∀ {x:Tv} {V:Value},eG p x->RT M σ x V->RT M' σ' (x.map g) V
 | .av x,V,hp,hx=>Vx h hp hx
 | .tup l,V,hp,⟨vs,h1,h2⟩=>by
  refine ⟨vs,h1,?_⟩
  replace hp:∀ c∈l,PN p c:=hp
  clear h1
  induction h2 with
  | nil=>exact .nil
  | cons h3 _ ih=>exact .cons (Vx h (hp _ (by simp)) h3) (ih fun c hc=>hp c (by simp [hc]))
 | .grd q x,V,hp,hx=>⟨fun hq=>Vx h hp (hx.1 hq),hx.2⟩
theorem SL (h:∀ c V,p c->R M σ c V->R M' σ' (g c) V) {l:List Cl} {vs:List Value} (hp:∀ c∈l,p c) (h2:L2 (R M σ) l vs):L2 (R M' σ') (l.map g) vs:=by
 induction h2 with
 | nil=>exact .nil
 | cons h3 _ ih=>exact .cons (h _ _ (hp _ (by simp)) h3) (ih fun c hc=>hp c (by simp [hc]))
end
theorem Oa {M M':Nat->Option Obj} {σ σ':Nat->Loc} {g:Cl->Cl} {p:Cl->Prop} {w:World} {x:Loc} {sz len:Nat} {f:Nat->Nat->Cl} {ty:TypeId} {hs:List (Nat×List Cl)} (hM:∀ b o,M b=some o->M' b=some o) (h:∀ c V,p c->R M σ c V->R M' σ' (g c) V) (hp:jC p (.rowx sz len f ty hs)) (h0:Bv M σ w x (.rowx sz len f ty hs)) :
  Bv M' σ' w x (Blk.map g (.rowx sz len f ty hs)):=by
 obtain ⟨e0,c,e1,e2,e3,e4,gv,e5,e6⟩:=h0
 refine ⟨e0,c,e1,e2,e3,e4,gv,fun i j hi hj=>⟨(e5 i j hi hj).1,fun hn=>FS hM ((e5 i j hi hj).2 ?_)⟩,fun i l hl => ?_⟩
 ·rw [Tg] at hn
  cases hg:get hs i with
  | none=>rfl
  | some l=>rw [hg] at hn;cases hn
 rw [Tg] at hl
 cases hg:get hs i with
 | none=>rw [hg] at hl;cases hl
 | some l0 =>
  rw [hg] at hl
  simp only [Option.map_some,Option.some.injEq] at hl
  subst hl
  exact ⟨(e6 i l0 hg).1,SL h (hp i l0 hg) (e6 i l0 hg).2⟩
def fzC (n sz len:Nat) (f:Nat->Nat->Cl):Cl->Cl
 | .own m s l=>bif Nat.beq m n then .list false sz len f else .own m s l
 | c=>c
def fzP (n sz len:Nat):Cl->Prop
 | .own m s l=>bif Nat.beq m n then l=len/\s=sz else True
 | _=>True
def fzS (n sz len:Nat) (f:Nat->Nat->Cl) (s:AS):AS:=⟨NU (Tv.map (fzC n sz len f)) s.t,del (NU (Blk.map (fzC n sz len f)) s.h) n⟩
def T8 (p:Cl->Prop):List (Nat×Tv)->Prop
 | []=>True
 | (_,v)::r=>eG p v/\T8 p r
def SP (p:Cl->Prop):List (Nat×Blk)->Prop
 | []=>True
 | (_,v)::r=>jC p v/\SP p r
theorem T8.get {p:Cl->Prop}:∀ {l:List (Nat×Tv)},T8 p l->∀ i v,get l i=some v->eG p v
 | [],_,i,v,h=>by cases h
 | (k,u)::r,h,i,v,hg=>by
  simp only [Go.Proofs.Ytgmhnkoifdpemaa.get,CQ] at hg
  by_cases hk:k=i
  ·simp [hk] at hg;subst hg;exact h.1
  simp [hk] at hg;exact T8.get h.2 i v hg
theorem SP.get {p:Cl->Prop}:∀ {l:List (Nat×Blk)},SP p l->∀ i v,get l i=some v->jC p v
 | [],_,i,v,h=>by cases h
 | (k,u)::r,h,i,v,hg=>by
  simp only [Go.Proofs.Ytgmhnkoifdpemaa.get,CQ] at hg
  by_cases hk:k=i
  ·simp [hk] at hg;subst hg;exact h.1
  simp [hk] at hg;exact SP.get h.2 i v hg
section
variable {P:Program} {rd:Option Nat} {N:Nat} {W0:World} {X:Nat→Option Loc} {M0 M:Nat→Option Obj} {σ:Nat→Loc} {w:World} {a:Act} {Q:Exit→AS→Prop} {s:AS}
theorem mL:∀ {l:List Nat} {n:Nat},BB l n=true->n∈l
 | [],n,h=>by cases h
 | k::r,n,h=>by
  unfold BB at h
  cases hb:Nat.beq k n with
  | true=>rw [Nat.eq_of_beq_eq_true hb];exact List.mem_cons_self ..
  | false=>rw [hb] at h;exact List.mem_cons_of_mem _ (mL h)
def xok (K:List Nat) (n:Nat) (s:AS):Bool:=K.all fun k => !Nat.beq k n&&(match get s.h k with
  | some (.cells ..)=>true
  | _=>false)
abbrev C8 (X:Nat->Option Loc) (W0:World) (K:List Nat):Prop:=∀ k x,X k=some x->BB K k=true\/(k=299999/\W0.heap.size<=x.b)
theorem Zg {K:List Nat} {n:Nat} (hX:C8 X W0 K) (hK:xok K n s=true) (hs:Sim N W0 X M0 M σ (get s.t) (get s.h) a w) {b0:Blk} (hn:get s.h n=some b0) (hnil:(σ n).nil=false):inX X (σ n).b->W0.heap.size<=(σ n).b:=by
 rintro ⟨k,x,hk,hx⟩
 rcases hX k x hk with hm | ⟨_,hm⟩
 ·have h0:=List.all_eq_true.1 hK k (mL hm)
  simp only [Bool.and_eq_true] at h0
  obtain ⟨h1,h2⟩:=h0
  have hne:n≠k:=(Mu h1).symm
  split at h2
  ·rename_i l ty hg
   have hnk:(σ k).nil=false:=(hs.blk k _ hg).1
   have hp:=(hs.pin k x hk).2
   rcases hs.inj n k _ _ hn hg hne with h3 | h3 | h3
   ·rw [hnil] at h3;cases h3
   ·rw [hnk] at h3;cases h3
   rw [hp] at h3;exact absurd hx.symm h3
  cases h2
 rw [<- hx];exact hm
theorem Uy {K:List Nat} (n sz len:Nat) (f:Nat->Nat->Cl) (ty:TypeId) (hX:C8 X W0 K) (hK:xok K n s=true) (hn:get s.h n=some (.row sz len f ty)) (ht:T8 (fzP n sz len) s.t) (hb:SP (fzP n sz len) s.h) (hs:Sim N W0 X M0 M σ (get s.t) (get s.h) a w):∃ M',Sim N W0 X M0 M' σ (get (fzS n sz len f s).t) (get (fzS n sz len f s).h) a w:=by
 have hrow:=hs.blk n _ hn
 -- the new M
 obtain ⟨M',hsub,hnew,himm,hother,hR⟩:∃ M':Nat->Option Obj,(∀ b o,M b=some o->M' b=some o)/\(∀ b o,M' b=some o->M b=none->W0.heap.size<=b)/\(∀ b o,M' b=some o->w.heap[b]? = some o)/\(∀ b,((σ n).nil=true\/b≠(σ n).b)->M' b=M b) /\
   (∀ c V,fzP n sz len c->R M σ c V->R M' σ (fzC n sz len f c) V):=by
  cases hnil:(σ n).nil with
  | true =>
   have hl0:len=0:=by
    rcases hrow with ⟨_,h⟩ | ⟨h,_⟩
    ·exact h
    rw [hnil] at h;cases h
   subst hl0
   refine ⟨M,fun _ _ h=>h,fun b o h1 h2=>(by rw [h1] at h2;cases h2),hs.imm,fun _ _=>rfl,fun c V hp hc => ?_⟩
   cases c with
   | own m s' l =>
    simp only [fzC,fzP] at *
    cases hm:Nat.beq m n with
    | false=>exact hc
    | true =>
     rw [hm] at hp
     obtain ⟨rfl,rfl⟩:=hp
     have:=Nat.eq_of_beq_eq_true hm
     subst this
     simp only [R,hnil,if_true] at hc
     rw [hc.2]
     exact .nil _ _ _ rfl
   | _=>exact hc
  | false =>
   rcases hrow with ⟨h,_⟩ | ⟨_,cc,hcc,hsz,hlc,hcm,gg,hgg⟩
   ·rw [hnil] at h;cases h
   have hloc:M (σ n).b=none/\W0.heap.size<=(σ n).b:=by
    rcases hs.loc n _ hn with h | ⟨h1,h2 | h2⟩
    ·rw [hnil] at h;cases h
    ·exact ⟨h1,h2⟩
    exact ⟨h1,Zg hX hK hs hn hnil h2⟩
   refine ⟨fun b=>if b=(σ n).b then w.heap[b]? else M b,fun b o h1 => ?_,fun b o h1 h2 => ?_,fun b o h1 => ?_,fun b hb => ?_,fun c V hp hc => ?_⟩
   ·by_cases hb:b=(σ n).b
    ·subst hb;rw [hloc.1] at h1;cases h1
    simp only [hb,if_false];exact h1
   ·by_cases hb:b=(σ n).b
    ·subst hb;exact hloc.2
    simp only [hb,if_false] at h1;rw [h1] at h2;cases h2
   ·by_cases hb:b=(σ n).b
    ·simp only [hb,if_true] at h1;rw [hb];exact h1
    simp only [hb,if_false] at h1;exact hs.imm b o h1
   ·rcases hb with hb | hb
    ·cases hb
    simp only [hb,if_false]
   have hsub:∀ b o,M b=some o->(fun b=>if b=(σ n).b then w.heap[b]? else M b) b=some o:=fun b o h1=>by
    by_cases hb:b=(σ n).b
    ·subst hb;rw [hloc.1] at h1;cases h1
    simp only [hb,if_false];exact h1
   have hmono:∀ c V,R M σ c V->R (fun b=>if b=(σ n).b then w.heap[b]? else M b) σ c V:=fun c V h=>C3 hsub (fun _ _=>rfl) h
   cases c with
   | own m s' l =>
    simp only [fzC,fzP] at *
    cases hm:Nat.beq m n with
    | false=>exact hmono _ _ hc
    | true =>
     rw [hm] at hp
     obtain ⟨rfl,rfl⟩:=hp
     have:=Nat.eq_of_beq_eq_true hm
     subst this
     simp only [R,hnil,Bool.false_eq_true,if_false] at hc
     rw [hc]
     refine .list _ _ _ _ _ 0 _ gg (fun i j hi hj => ?_) (fun i j hi hj=>FS hsub (hgg i j hi hj).2) hlc (fun h=>by cases h)
     unfold FM
     simp only [if_true,hcc,Nat.zero_add]
     exact (hgg i j hi hj).1
   | _=>exact hmono _ _ hc
 refine ⟨M',hs.os,hs.tape,hs.output,hs.size,hs.old,fun b o h1=>hsub b o (hs.sub b o h1),fun b o h1 h2 => ?_,hs.pin,hs.defers.mono hsub,hs.room,fun i v hv => ?_,himm,fun m b hb' => ?_,fun m b hb' => ?_,fun m k b c h1 h2 => ?_⟩
 ·cases hM:M b with
  | none=>exact hnew b o h1 hM
  | some o'=>exact hs.new b o' hM h2
 ·simp only [fzS,Fw] at hv
  cases hg:get s.t i with
  | none=>rw [hg] at hv;cases hv
  | some v0 =>
   rw [hg] at hv
   simp only [Option.map_some,Option.some.injEq] at hv
   subst hv
   exact Vu hR (ht.get i v0 hg) (hs.tmps i v0 hg)
 ·simp only [fzS,Ig,Fw] at hb'
  split at hb'
  ·cases hb'
  rename_i hne
  cases hg:get s.h m with
  | none=>rw [hg] at hb';cases hb'
  | some b0 =>
   rw [hg] at hb'
   simp only [Option.map_some,Option.some.injEq] at hb'
   subst hb'
   have h0:=hs.blk m b0 hg
   cases b0 with
   | cells l ty' =>
    obtain ⟨h1,cc,h2,h3⟩:=h0
    exact ⟨h1,cc,h2,SL hR (hb.get m _ hg) h3⟩
   | row=>exact Bv.mono hsub (fun _ _=>rfl) (fun _=>rfl) h0
   | omap=>exact Bv.mono hsub (fun _ _=>rfl) (fun _=>rfl) h0
   | rowx=>exact Oa hsub hR (hb.get m _ hg) h0
 ·simp only [fzS,Ig,Fw] at hb'
  split at hb'
  ·cases hb'
  rename_i hne
  cases hg:get s.h m with
  | none=>rw [hg] at hb';cases hb'
  | some b0 =>
   rcases hs.loc m b0 hg with h1 | ⟨h1,h2⟩
   ·exact .inl h1
   by_cases hmn:(σ m).nil=true
   ·exact .inl hmn
   refine .inr ⟨?_,h2⟩
   rw [hother]
   ·exact h1
   rcases hs.inj n m _ _ hn hg hne with h3 | h3 | h3
   ·exact .inl h3
   ·exact absurd h3 hmn
   exact .inr (Ne.symm h3)
 simp only [fzS,Ig,Fw] at h1 h2
 split at h1
 ·cases h1
 split at h2
 ·cases h2
 intro hne
 cases hg:get s.h m with
 | none=>rw [hg] at h1;cases h1
 | some b0 =>
  cases hg2:get s.h k with
  | none=>rw [hg2] at h2;cases h2
  | some c0=>exact hs.inj m k b0 c0 hg hg2 hne
def Cv (N:Nat) (W0:World) (X:Nat->Option Loc) (M0:Nat->Option Obj) (s t:AS):Prop:=∀ M σ a w,Sim N W0 X M0 M σ (get s.t) (get s.h) a w->∃ M' σ',Sim N W0 X M0 M' σ' (get t.t) (get t.h) a w
theorem Cv.refl (s:AS):Cv N W0 X M0 s s:=fun M σ _ _ hs=>⟨M,σ,hs⟩
theorem Cv.trans {s t u:AS} (h:Cv N W0 X M0 s t) (k:Cv N W0 X M0 t u):Cv N W0 X M0 s u:=fun M σ a w hs=>(h M σ a w hs).elim fun M' h1=>h1.elim fun σ' h2=>k M' σ' a w h2
theorem CG {s:AS} (ts ns:List Nat) (S:AS) (hS:Lg ts ns s=S):Cv N W0 X M0 s S:=fun M σ _ _ hs=>⟨M,σ,hS▸GN hs ts ns⟩
theorem mV {s:AS} {K:List Nat} (S:AS) (n sz len:Nat) (f:Nat->Nat->Cl) (ty:TypeId) (hX:C8 X W0 K) (hK:xok K n s=true) (hn:get s.h n=some (.row sz len f ty)) (ht:T8 (fzP n sz len) s.t) (hb:SP (fzP n sz len) s.h) (hS:fzS n sz len f s=S):Cv N W0 X M0 s S:=by
 subst hS
 intro M σ a w hs
 obtain ⟨M',h1⟩:=Uy n sz len f ty hX hK hn ht hb hs
 exact ⟨M',σ,h1⟩
theorem Al {c:Code} {s S:AS} (h:Cv N W0 X M0 s S) (k:AWp P rd N W0 X M0 c Q S):AWp P rd N W0 X M0 c Q s:=fun M σ a w hs=>(h M σ a w hs).elim fun M' h1=>h1.elim fun σ' h2=>k M' σ' a w h2
theorem HL {c:Code} {s:AS} (h:AWp P rd N W0 X M0 c (fun e s=>∃ t,Cv N W0 X M0 s t/\Q e t) s):AWp P rd N W0 X M0 c Q s:=by
 intro M σ a w hs
 refine wpIn_mono (h M σ a w hs) ?_
 rintro e a' w' ⟨s',M',σ',⟨t,h1,h2⟩,h3⟩
 obtain ⟨M'',σ'',h4⟩:=h1 M' σ' a' w' h3
 exact ⟨t,M'',σ'',h2,h4⟩
theorem CR {c:Code} {K:AS->Prop} {s:AS} (S:AS) (h1:AWp P rd N W0 X M0 c (ATh (fun s'=>Cv N W0 X M0 s' S) Q) s) (h2:K S):AWp P rd N W0 X M0 c (ATh K Q) s:=by
 intro M σ a w hs
 refine wpIn_mono (h1 M σ a w hs) ?_
 rintro e a' w' ⟨s',M',σ',h3,h4⟩
 cases e with
 | normal =>
  obtain ⟨M'',σ'',h5⟩:=(show Cv N W0 X M0 s' S from h3) M' σ' a' w' h4
  exact ⟨_,M'',σ'',h2,h5⟩
 | _=>exact ⟨s',M',σ',h3,h4⟩
theorem BK {ι:Type} {c:Code} (S:ι->AS) (Inv:ι->Prop) (μ:ι->Nat) (round:∀ x,Inv x->AWp P rd N W0 X M0 c (ATh (fun s'=>∃ y,Inv y/\μ y<μ x/\Cv N W0 X M0 s' (S y)) Q) (S x)) (x:ι) (hx:Inv x):AWp P rd N W0 X M0 (.loop c) Q (S x):=by
 refine jA S Inv μ (fun x hx => ?_) x hx
 intro M σ a w hs
 refine wpIn_mono (round x hx M σ a w hs) ?_
 rintro e a' w' ⟨s',M',σ',h1,h2⟩
 cases e with
 | normal =>
  obtain ⟨y,hy,hm,hc⟩:=h1
  obtain ⟨M'',σ'',h5⟩:=hc M' σ' a' w' h2
  exact ⟨S y,M'',σ'',⟨y,hy,hm,rfl⟩,h5⟩
 | _=>exact ⟨s',M',σ',h1,h2⟩
end
end
section
open Go.RowKit
def PU (q d:Nat):Cl->Cl
 | .ptr n off=>.ptr (bif Nat.beq n q then d else n) off
 | .own n sz len=>.own (bif Nat.beq n q then d else n) sz len
 | .rptr n sz i off=>.rptr (bif Nat.beq n q then d else n) sz i off
 | .osl n sz lo len=>.osl (bif Nat.beq n q then d else n) sz lo len
 | .om n=>.om (bif Nat.beq n q then d else n)
 | .clo f k caps=>.clo f k (D9 ((List.range k).map fun i=>PU q d (caps i)))
 | c=>c
theorem TH {n d:Nat} (h:(!Nat.beq n d)=true):n≠d:=Mu h
theorem Nb {M:Nat->Option Obj} {σ:Nat->Loc} (q d:Nat):∀ {c:Cl} {V:Value},c.no d=true->R M σ c V->R M (upd σ d (σ q)) (PU q d c) V
 | .val _,_,_,h=>h
 | .ptr n off,V,hd,h=>by
  have hne:=TH hd
  simp only [PU,R,CQ] at *
  by_cases hq:n=q
  ·subst hq;simp only [decide_true,cond_true,BV];exact h
  simp only [hq,decide_false,cond_false,C0 _ _ hne];exact h
 | .own n sz len,V,hd,h=>by
  have hne:=TH hd
  simp only [PU,R,CQ] at *
  by_cases hq:n=q
  ·subst hq;simp only [decide_true,cond_true,BV];exact h
  simp only [hq,decide_false,cond_false,C0 _ _ hne];exact h
 | .rptr n sz i off,V,hd,h=>by
  have hne:=TH hd
  simp only [PU,R,CQ] at *
  by_cases hq:n=q
  ·subst hq;simp only [decide_true,cond_true,BV];exact h
  simp only [hq,decide_false,cond_false,C0 _ _ hne];exact h
 | .osl n sz lo len,V,hd,h=>by
  have hne:=TH hd
  simp only [PU,R,CQ] at *
  by_cases hq:n=q
  ·subst hq;simp only [decide_true,cond_true,BV];exact h
  simp only [hq,decide_false,cond_false,C0 _ _ hne];exact h
 | .om n,V,hd,h=>by
  have hne:=TH hd
  simp only [PU,R,CQ] at *
  by_cases hq:n=q
  ·subst hq;simp only [decide_true,cond_true,BV];exact h
  simp only [hq,decide_false,cond_false,C0 _ _ hne];exact h
 | .list ..,_,_,h=>h
 | .eptr ..,_,_,h=>h
 | .mp ..,_,_,h=>h
 | .any,_,_,h=>h
 | .clo f k caps,V,hd,h=>by
  obtain ⟨cs,h1,h2,h3⟩:=h
  refine ⟨cs,h1,h2,fun i hi => ?_⟩
  rw [Md _ hi]
  refine Nb q d ?_ (h3 i hi)
  simp only [Cl.no,List.all_eq_true] at hd
  exact hd i (by simpa using hi)
def fJ (q d:Nat):List (Nat×Blk)->List (Nat×Blk)
 | []=>[]
 | (k,v)::r=>(bif Nat.beq k q then d else k,v.map (PU q d))::fJ q d r
theorem H0 {q d:Nat}:∀ {l:List (Nat×Blk)},get l d=none->∀ m b,get (fJ q d l) m=some b->∃ m0 b0,get l m0=some b0/\b=b0.map (PU q d)/\((m0=q/\m=d)\/(m0≠q/\m0=m/\m≠d))
 | [],_,m,b,h=>by cases h
 | (k,v)::r,hd,m,b,h=>by
  simp only [get,CQ] at hd
  by_cases hkd:k=d
  ·simp [hkd] at hd
  simp only [hkd,decide_false,cond_false] at hd
  simp only [fJ,get,CQ] at h
  by_cases hkq:k=q
  ·simp only [hkq,decide_true,cond_true] at h
   by_cases hdm:d=m
   ·simp only [hdm,decide_true,cond_true,Option.some.injEq] at h
    exact ⟨q,v,by simp [get,CQ,hkq],by rw [hdm];exact h.symm,.inl ⟨rfl,hdm.symm⟩⟩
   simp only [hdm,decide_false,cond_false] at h
   obtain ⟨m0,b0,h1,h2,h3⟩:=H0 hd m b h
   refine ⟨m0,b0,?_,h2,h3⟩
   rcases h3 with ⟨_,h4⟩ | ⟨h4,_⟩
   ·exact absurd h4.symm hdm
   simp only [get,CQ]
   have:¬ k=m0:=fun e=>h4 (e▸hkq)
   simp [this,h1]
  simp only [hkq,decide_false,cond_false] at h
  by_cases hkm:k=m
  ·simp only [hkm,decide_true,cond_true,Option.some.injEq] at h
   exact ⟨k,v,by simp [get,CQ],h.symm,.inr ⟨hkq,hkm,hkm▸hkd⟩⟩
  simp only [hkm,decide_false,cond_false] at h
  obtain ⟨m0,b0,h1,h2,h3⟩:=H0 hd m b h
  refine ⟨m0,b0,?_,h2,h3⟩
  simp only [get,CQ]
  have:¬ k=m0:=by
   rcases h3 with ⟨h4,_⟩ | ⟨_,h4,_⟩
   ·rw [h4];exact hkq
   rw [h4];exact hkm
  simp [this,h1]
def noD (d:Nat) (s:AS):Bool:=s.t.all (fun p=>p.2.no d)&&s.h.all (fun p=>p.2.no d)&&(match get s.h d with
 | none=>true
 | _=>false)
def MU (K:List Nat) (n:Nat):Bool:=(K.all fun k => !Nat.beq k n) && !Nat.beq 299999 n
theorem Ro {X:Nat->Option Loc} {W0:World} {K:List Nat} {d:Nat} (hX:C8 X W0 K) (h:MU K d=true) {n:Nat} {x:Loc} (hx:X n=some x):n≠d:=by
 unfold MU at h
 simp only [Bool.and_eq_true] at h
 rcases hX n x hx with hm | ⟨rfl,_⟩
 ·exact Mu (List.all_eq_true.1 h.1 n (mL hm))
 exact Mu h.2
def fI (q d:Nat) (s:AS):AS:=⟨NU (Tv.map (PU q d)) s.t,fJ q d s.h⟩
theorem jB {d:Nat} {v:Tv} (h:v.no d=true):eG (fun c=>c.no d=true) v:=by
 have av:∀ x:Av,x.no d=true->PN (fun c=>c.no d=true) x:=fun x hx=>by
  cases x with
  | one c=>exact hx
  | agg l=>exact fun c hc=>(List.all_eq_true.1 hx) c hc
 cases v with
 | av x=>exact av x h
 | tup l=>exact fun x hx=>av x ((List.all_eq_true.1 h) x hx)
 | grd g x=>exact av x h
section
variable {P:Program} {rd:Option Nat} {N:Nat} {W0:World} {X:Nat→Option Loc} {M0 M:Nat→Option Obj} {σ:Nat→Loc} {w:World} {a:Act} {Q:Exit→AS→Prop} {s:AS}
theorem Wa {d:Nat} (h:noD d s=true) {i:Nat} {v:Tv} (hg:get s.t i=some v):v.no d=true:=by
 simp only [noD,Bool.and_eq_true,List.all_eq_true] at h
 exact h.1.1 _ (DL hg)
theorem TJ {d:Nat} (h:noD d s=true) {i:Nat} {v:Blk} (hg:get s.h i=some v):v.no d=true:=by
 simp only [noD,Bool.and_eq_true,List.all_eq_true] at h
 exact h.1.2 _ (DL hg)
theorem Wb {d:Nat} (h:noD d s=true):get s.h d=none:=by
 simp only [noD,Bool.and_eq_true] at h
 have:=h.2
 split at this
 ·assumption
 cases this
theorem CM {K:List Nat} (S:AS) (q d:Nat) (hX:C8 X W0 K) (h1:MU K q=true) (h2:MU K d=true) (hd:noD d s=true) (hS:fI q d s=S):Cv N W0 X M0 s S:=by
 subst hS
 intro M σ a w hs
 have hg:=Wb hd
 have hu:∀ n,n≠d->upd σ d (σ q) n=σ n:=fun n hn=>C0 _ _ hn
 have hud:upd σ d (σ q) d=σ q:=BV _ _ _
 refine ⟨M,upd σ d (σ q),⟨hs.os,hs.tape,hs.output,hs.size,hs.old,hs.sub,hs.new,fun n x hx => ?_,hs.defers,hs.room,fun i v hv => ?_,hs.imm,fun m b hb => ?_,fun m b hb => ?_,fun m k b b' hb hb' hne => ?_⟩⟩
 ·have hne:n≠d:=Ro hX h2 hx
  rw [hu n hne]
  exact hs.pin n x hx
 ·simp only [fI,Fw] at hv
  cases hgi:get s.t i with
  | none=>rw [hgi] at hv;cases hv
  | some v0 =>
   rw [hgi] at hv
   simp only [Option.map_some,Option.some.injEq] at hv
   subst hv
   exact Vu (p:=fun c=>c.no d=true) (fun c V hp hc=>Nb q d hp hc) (jB (Wa hd hgi)) (hs.tmps i v0 hgi)
 ·obtain ⟨m0,b0,g1,rfl,g3⟩:=H0 hg m b hb
  have hloc:upd σ d (σ q) m=σ m0:=by
   rcases g3 with ⟨rfl,rfl⟩ | ⟨_,rfl,h4⟩
   ·exact hud
   exact hu _ h4
  rw [hloc]
  have h0:=hs.blk m0 b0 g1
  have hno:=TJ hd g1
  cases b0 with
  | cells l ty =>
   obtain ⟨e1,cc,e2,e3⟩:=h0
   exact ⟨e1,cc,e2,SL (p:=fun c=>c.no d=true) (fun c V hp hc=>Nb q d hp hc) (fun c hc=>(List.all_eq_true.1 hno) c hc) e3⟩
  | row=>exact h0
  | omap=>exact h0
  | rowx=>exact Oa (p:=fun c=>c.no d=true) (fun _ _ h=>h) (fun c V hp hc=>Nb q d hp hc) (fun i l hl c hc=>List.all_eq_true.1 (List.all_eq_true.1 hno _ (DL hl)) c hc) h0
 ·obtain ⟨m0,b0,g1,rfl,g3⟩:=H0 hg m b hb
  have hloc:upd σ d (σ q) m=σ m0:=by
   rcases g3 with ⟨rfl,rfl⟩ | ⟨_,rfl,h4⟩
   ·exact hud
   exact hu _ h4
  rw [hloc]
  exact hs.loc m0 b0 g1
 obtain ⟨m0,b0,g1,rfl,g3⟩:=H0 hg m b hb
 obtain ⟨k0,b0',g1',rfl,g3'⟩:=H0 hg k b' hb'
 have hl1:upd σ d (σ q) m=σ m0:=by
  rcases g3 with ⟨rfl,rfl⟩ | ⟨_,rfl,h4⟩
  ·exact hud
  exact hu _ h4
 have hl2:upd σ d (σ q) k=σ k0:=by
  rcases g3' with ⟨rfl,rfl⟩ | ⟨_,rfl,h4⟩
  ·exact hud
  exact hu _ h4
 rw [hl1,hl2]
 refine hs.inj m0 k0 b0 b0' g1 g1' ?_
 rintro rfl
 rcases g3 with ⟨e1,e2⟩ | ⟨e1,e2,_⟩ <;> rcases g3' with ⟨e3,e4⟩ | ⟨e3,e4,_⟩
 ·exact hne (e2.trans e4.symm)
 ·exact e3 e1
 ·exact e1 e3
 exact hne (e2.symm.trans e4)
def mK (n:Nat):List Nat->Bool
 | []=>false
 | k::r=>Nat.beq k n||mK n r
def TK (d sz:Nat):Cl->Cl
 | .val (.slice none 0 0)=>.own d sz 0
 | c=>c
def mapIx (g:Cl->Cl) (is:List Nat):Nat->List Cl->List Cl
 | _,[]=>[]
 | k,c::r=>(bif mK k is then g c else c)::mapIx g is (k+1) r
def Av.mapIx (g:Cl->Cl) (is:List Nat):Av->Av
 | .one c=>.one (bif mK 0 is then g c else c)
 | .agg l=>.agg (Go.Proofs.Ytgmhnkoifdpemaa.mapIx g is 0 l)
def Tv.mapIx (g:Cl->Cl) (is:List Nat):Tv->Tv
 | .av x=>.av (x.mapIx g is)
 | v=>v
def X5 (g:Cl->Cl) (is:List Nat):Nat->List (Nat×List Cl)->List (Nat×List Cl)
 | _,[]=>[]
 | k,(m,l)::r=>(m,Go.Proofs.Ytgmhnkoifdpemaa.mapIx g is k l)::X5 g is (k+l.length) r
def Blk.mapIx (g:Cl->Cl) (is:List Nat):Blk->Blk
 | .cells l ty=>.cells (Go.Proofs.Ytgmhnkoifdpemaa.mapIx g is 0 l) ty
 | .rowx sz len f ty hs=>.rowx sz len f ty (X5 g is 0 hs)
 | b=>b
theorem Th (g:Cl->Cl) (is:List Nat):∀ (hs:List (Nat×List Cl)) (k i:Nat) (l:List Cl),get (X5 g is k hs) i=some l->∃ k' l0,get hs i=some l0/\l=Go.Proofs.Ytgmhnkoifdpemaa.mapIx g is k' l0
 | [],k,i,l,h=>by cases h
 | (m,l0)::r,k,i,l,h=>by
  simp only [X5,get,CQ] at h ⊢
  by_cases e:m=i
  ·simp [e] at h;exact ⟨k,l0,by simp [e],h.symm⟩
  simp only [e,decide_false,cond_false] at h ⊢
  exact Th g is r _ i l h
theorem KX (g:Cl->Cl) (is:List Nat):∀ (hs:List (Nat×List Cl)) (k i:Nat),get (X5 g is k hs) i=none->get hs i=none
 | [],k,i,h=>rfl
 | (m,l0)::r,k,i,h=>by
  simp only [X5,get,CQ] at h ⊢
  by_cases e:m=i
  ·simp [e] at h
  simp only [e,decide_false,cond_false] at h ⊢
  exact KX g is r _ i h
def Px {α:Type} (F:List Nat->α->α) (is:List (Nat×List Nat)):List (Nat×α)->List (Nat×α)
 | []=>[]
 | (k,v)::r=>(k,F ((get is k).getD []) v)::Px F is r
theorem QA {α:Type} (F:List Nat->α->α) (is:List (Nat×List Nat)) (l:List (Nat×α)) (n:Nat):get (Px F is l) n=(get l n).map (F ((get is n).getD [])):=by
 induction l with
 | nil=>rfl
 | cons p r ih =>
  obtain ⟨k,v⟩:=p
  simp only [Px,get,CQ]
  by_cases h:k=n
  ·simp [h]
  simp only [h,decide_false,cond_false,ih]
theorem Wc {d sz:Nat} {x:Loc} (hx:x.nil=true):∀ {c:Cl} {V:Value},c.no d=true->R M σ c V->∀ t:Bool,R M (upd σ d x) (bif t then TK d sz c else c) V:=by
 intro c V hd hc t
 have keep:R M (upd σ d x) c V:=C3 (fun _ _ h=>h) (fun n hn=>by
  by_cases e:n=d
  ·subst e;rw [hd] at hn;cases hn
  exact C0 _ _ e) hc
 cases t with
 | false=>exact keep
 | true =>
  show R M (upd σ d x) (TK d sz c) V
  unfold TK
  split
  ·obtain ⟨rfl,_⟩:=hc
   simp only [R,BV,hx,if_true]
   exact ⟨trivial,trivial⟩
  exact keep
theorem L3 {d sz:Nat} {x:Loc} (hx:x.nil=true) (is:List Nat):∀ (k:Nat) {l:List Cl} {vs:List Value},(∀ c∈l,c.no d=true)->L2 (R M σ) l vs->L2 (R M (upd σ d x)) (mapIx (TK d sz) is k l) vs
 | k,[],vs,hp,h=>by cases h;exact .nil
 | k,c::r,vs,hp,h=>by
  cases h with | cons h1 h2 =>
  exact .cons (Wc hx (hp c (by simp)) h1 _) (L3 hx is (k+1) (fun c hc=>hp c (by simp [hc])) h2)
def ghS (d sz:Nat) (f:Nat->Nat->Cl) (ty:TypeId) (it ih:List (Nat×List Nat)) (s:AS):AS:=⟨Px (Tv.mapIx (TK d sz)) it s.t,(d,.row sz 0 f ty)::Px (Blk.mapIx (TK d sz)) ih s.h⟩
theorem Fx {K:List Nat} (S:AS) (d sz:Nat) (f:Nat->Nat->Cl) (ty:TypeId) (it ih:List (Nat×List Nat)) (hX:C8 X W0 K) (h2:MU K d=true) (hd:noD d s=true) (hS:ghS d sz f ty it ih s=S):Cv N W0 X M0 s S:=by
 subst hS
 intro M σ a w hs
 have hg:=Wb hd
 have hu:∀ n,n≠d->upd σ d ⟨0,0,true⟩ n=σ n:=fun n hn=>C0 _ _ hn
 have hud:(upd σ d ⟨0,0,true⟩ d)=⟨0,0,true⟩:=BV _ _ _
 have hkey:∀ m b,get ((d,Blk.row sz 0 f ty)::Px (Blk.mapIx (TK d sz)) ih s.h) m=some b->(m=d/\b=.row sz 0 f ty)\/(m≠d/\∃ b0,get s.h m=some b0/\b=b0.mapIx (TK d sz) ((get ih m).getD [])):=fun m b hb=>by
  simp only [get,CQ] at hb
  by_cases e:d=m
  ·simp [e] at hb;exact .inl ⟨e.symm,by rw [<- hb]⟩
  simp only [e,decide_false,cond_false,QA] at hb
  cases hg0:get s.h m with
  | none=>rw [hg0] at hb;cases hb
  | some b0 =>
   rw [hg0] at hb
   simp only [Option.map_some,Option.some.injEq] at hb
   exact .inr ⟨Ne.symm e,b0,rfl,hb.symm⟩
 refine ⟨M,upd σ d ⟨0,0,true⟩,⟨hs.os,hs.tape,hs.output,hs.size,hs.old,hs.sub,hs.new,fun n x hx => ?_,hs.defers,hs.room,fun i v hv => ?_,hs.imm,fun m b hb => ?_,fun m b hb => ?_,fun m k b b' hb hb' hne => ?_⟩⟩
 ·have hne:n≠d:=Ro hX h2 hx
  rw [hu n hne]
  exact hs.pin n x hx
 ·simp only [ghS,QA] at hv
  cases hgi:get s.t i with
  | none=>rw [hgi] at hv;cases hv
  | some v0 =>
   rw [hgi] at hv
   simp only [Option.map_some,Option.some.injEq] at hv
   subst hv
   have h0:=hs.tmps i v0 hgi
   have hno:=Wa hd hgi
   have hmono:RT M (upd σ d ⟨0,0,true⟩) v0 (a.tmps.getD i undef):=EP (fun _ _ h=>h) (fun n hn=>by
    by_cases e:n=d
    ·subst e;rw [hno] at hn;cases hn
    exact hu n e) h0
   cases v0 with
   | av x =>
    cases x with
    | one c=>exact Wc rfl hno h0 _
    | agg l =>
     obtain ⟨vs,e1,e2⟩:=h0
     exact ⟨vs,e1,L3 rfl _ 0 (fun c hc=>(List.all_eq_true.1 hno) c hc) e2⟩
   | tup l=>exact hmono
   | grd g x=>exact hmono
 ·rcases hkey m b hb with ⟨rfl,rfl⟩ | ⟨hne,b0,g1,rfl⟩
  ·rw [hud];exact .inl ⟨rfl,rfl⟩
  rw [hu m hne]
  have h0:=hs.blk m b0 g1
  have hno:=TJ hd g1
  cases b0 with
  | cells l ty' =>
   obtain ⟨e1,cc,e2,e3⟩:=h0
   exact ⟨e1,cc,e2,L3 rfl _ 0 (fun c hc=>(List.all_eq_true.1 hno) c hc) e3⟩
  | row=>exact h0
  | omap=>exact h0
  | rowx sz' len' f' ty' hh =>
   obtain ⟨e0,c,e1,e2,e3,e4,gv,e5,e6⟩:=h0
   refine ⟨e0,c,e1,e2,e3,e4,gv,fun i j hi hj=>⟨(e5 i j hi hj).1,fun hn=>(e5 i j hi hj).2 (KX _ _ _ _ _ hn)⟩,fun i l hl => ?_⟩
   obtain ⟨k',l0,hl0,rfl⟩:=Th _ _ _ _ _ _ hl
   exact ⟨(e6 i l0 hl0).1,L3 rfl _ k' (fun c hc=>List.all_eq_true.1 (List.all_eq_true.1 hno _ (DL hl0)) c hc) (e6 i l0 hl0).2⟩
 ·rcases hkey m b hb with ⟨rfl,rfl⟩ | ⟨hne,b0,g1,rfl⟩
  ·rw [hud];exact .inl rfl
  rw [hu m hne];exact hs.loc m b0 g1
 rcases hkey m b hb with ⟨rfl,rfl⟩ | ⟨h3,b0,g1,rfl⟩
 ·rw [hud];exact .inl rfl
 rcases hkey k b' hb' with ⟨rfl,rfl⟩ | ⟨h4,b0',g1',rfl⟩
 ·rw [hud];exact .inr (.inl rfl)
 rw [hu m h3,hu k h4];exact hs.inj m k b0 b0' g1 g1' hne
end
def AV {α:Type} [Inhabited α] (c:α->List Cl) (xs:List α):Nat->Nat->Cl:=fun i j=>(c (xs.getD i default)).getD j default
theorem fF {α:Type} [Inhabited α] (c:α->List Cl) (xs ys:List α) (sz:Nat) (g:Nat->Nat->Cl) (hg:∀ i j,i<ys.length->j<sz->g i j=AV c ys i j):∀ i j,i<(xs++ys).length->j<sz->(if i<xs.length then AV c xs i j else g (i-xs.length) j)=AV c (xs++ys) i j:=by
 intro i j hi hj
 rw [List.length_append] at hi
 unfold AV at *
 by_cases h:i<xs.length
 ·rw [if_pos h]
  simp only [List.getD_eq_getElem?_getD,List.getElem?_append_left h]
 rw [if_neg h,hg _ _ (by omega) hj]
 simp only [List.getD_eq_getElem?_getD,List.getElem?_append_right (Nat.le_of_not_lt h)]
theorem fE {α:Type} [Inhabited α] (c:α->List Cl) (xs:List α) (k:Nat) (v:α) (l:List Cl) (sz off m:Nat) (hk:k<xs.length) (hv:∀ j,j<sz->(if off<=j/\j<off+m then l.getD (j-off) default else (c (xs.getD k default)).getD j default)=(c v).getD j default) :
  ∀ i j,i<(xs.set k v).length->j<sz->(if i=k/\off<=j/\j<off+m then l.getD (j-off) default else AV c xs i j)=AV c (xs.set k v) i j:=by
 intro i j hi hj
 unfold AV
 by_cases h:i=k
 ·subst h
  have:=hv j hj
  simp only [List.getD_eq_getElem?_getD,List.getElem?_set_self hk,Option.getD_some,true_and] at *
  exact this
 rw [if_neg (fun k=>h k.1)]
 simp only [List.getD_eq_getElem?_getD,List.getElem?_set_ne (Ne.symm h)]
end
section
open Go.RowKit
def fxC (n:Nat) (l:List Cl):Cl->Cl
 | .ptr m off=>bif Nat.beq m n then .eptr l.length 1 (fun _ j=>l.getD j default) 0 off else .ptr m off
 | .clo f k caps=>.clo f k (D9 ((List.range k).map fun i=>fxC n l (caps i)))
 | c=>c
def fxS (n:Nat) (l:List Cl) (s:AS):AS:=⟨NU (Tv.map (fxC n l)) s.t,del (NU (Blk.map (fxC n l)) s.h) n⟩
theorem YH:∀ v:Tv,eG (fun _=>True) v:=by
 have av:∀ x:Av,PN (fun _=>True) x:=fun x=>by cases x <;> simp [PN]
 intro v
 cases v with
 | av x=>exact av x
 | tup l=>exact fun x _=>av x
 | grd g x=>exact av x
section
variable {P:Program} {rd:Option Nat} {N:Nat} {W0:World} {X:Nat→Option Loc} {M0 M:Nat→Option Obj} {σ:Nat→Loc} {w:World} {a:Act} {Q:Exit→AS→Prop} {s:AS}
theorem WG (n:Nat) (l:List Cl) (ty:TypeId) (hnx:(σ n).nil=false->inX X (σ n).b->W0.heap.size<=(σ n).b) (hn:get s.h n=some (.cells l ty)) (hdv:l.all Cl.dv=true) (hs:Sim N W0 X M0 M σ (get s.t) (get s.h) a w):∃ M',Sim N W0 X M0 M' σ (get (fxS n l s).t) (get (fxS n l s).h) a w:=by
 obtain ⟨hnil,cc,hcc,hl⟩:=hs.blk n _ hn
 have hloc:M (σ n).b=none/\W0.heap.size<=(σ n).b:=by
  rcases hs.loc n _ hn with h | ⟨h1,h2 | h2⟩
  ·rw [hnil] at h;cases h
  ·exact ⟨h1,h2⟩
  exact ⟨h1,hnx hnil h2⟩
 obtain ⟨M',hM'⟩:∃ M':Nat->Option Obj,M'=fun b=>if b=(σ n).b then w.heap[b]? else M b:=⟨_,rfl⟩
 have hsub:∀ b o,M b=some o->M' b=some o:=fun b o h1=>by
  subst hM'
  by_cases hb:b=(σ n).b
  ·subst hb;rw [hloc.1] at h1;cases h1
  simp only [hb,if_false];exact h1
 have himm:∀ b o,M' b=some o->w.heap[b]? = some o:=fun b o h1=>by
  subst hM'
  by_cases hb:b=(σ n).b
  ·simp only [hb,if_true] at h1;rw [hb];exact h1
  simp only [hb,if_false] at h1;exact hs.imm b o h1
 have hother:∀ b,b≠(σ n).b->M' b=M b:=fun b hb=>by subst hM';simp only [hb,if_false]
 have hself:M' (σ n).b=w.heap[(σ n).b]? := by subst hM';simp only [if_true]
 have hR:∀ {c:Cl} {V:Value},R M σ c V->R M' σ (fxC n l c) V:=by
  intro c
  induction c with
  | ptr m off =>
   intro V hc
   simp only [fxC]
   cases hm:Nat.beq m n with
   | false=>exact hc
   | true =>
    have:=Nat.eq_of_beq_eq_true hm
    subst this
    simp only [R] at hc
    rw [hc]
    have key:=RC.eptr (M:=M') l.length 1 (fun _ j=>l.getD j default) 0 off (σ m).b 0 (fun j=>cc.getD j undef) (fun j hj=>by
     have hjc:j<cc.length:=by have:=hl.length;omega
     unfold FM
     rw [hself,hcc,Nat.zero_add]
     simp [List.getD_eq_getElem?_getD,hjc]) (fun j hj=>by
     have hjl:l[j]? = some (l[j]'hj):=List.getElem?_eq_getElem hj
     obtain ⟨v,hv,hRv⟩:=hl.get j _ hjl
     simp only [List.getD_eq_getElem?_getD,hjl,hv,Option.getD_some]
     exact FS hsub ((Lw ((List.all_eq_true.1 hdv) _ (List.getElem_mem hj))).1 hRv))
    rw [Nat.zero_add] at key
    exact key
  | clo f k caps ih =>
   intro V hc
   obtain ⟨cs,h1,h2,h3⟩:=hc
   exact ⟨cs,h1,h2,fun i hi=>by rw [Md _ hi];exact ih i (h3 i hi)⟩
  | val v=>intro V hc;exact hc
  | own=>intro V hc;exact C3 hsub (fun _ _=>rfl) hc
  | rptr=>intro V hc;exact C3 hsub (fun _ _=>rfl) hc
  | osl=>intro V hc;exact C3 hsub (fun _ _=>rfl) hc
  | list=>intro V hc;exact C3 hsub (fun _ _=>rfl) hc
  | eptr=>intro V hc;exact C3 hsub (fun _ _=>rfl) hc
  | mp=>intro V hc;exact C3 hsub (fun _ _=>rfl) hc
  | om=>intro V hc;exact C3 hsub (fun _ _=>rfl) hc
  | any=>intro V hc;exact hc
 refine ⟨M',hs.os,hs.tape,hs.output,hs.size,hs.old,fun b o h1=>hsub b o (hs.sub b o h1),fun b o h1 h2 => ?_,hs.pin,hs.defers.mono hsub,hs.room,fun i v hv => ?_,himm,fun m b hb' => ?_,fun m b hb' => ?_,fun m k b c h1 h2 => ?_⟩
 ·by_cases hb:b=(σ n).b
  ·subst hb;exact hloc.2
  rw [hother b hb] at h1;exact hs.new b o h1 h2
 ·simp only [fxS,Fw] at hv
  cases hg:get s.t i with
  | none=>rw [hg] at hv;cases hv
  | some v0 =>
   rw [hg] at hv
   simp only [Option.map_some,Option.some.injEq] at hv
   subst hv
   exact Vu (p:=fun _=>True) (fun c V _ hc=>hR hc) (YH v0) (hs.tmps i v0 hg)
 ·simp only [fxS,Ig,Fw] at hb'
  split at hb'
  ·cases hb'
  cases hg:get s.h m with
  | none=>rw [hg] at hb';cases hb'
  | some b0 =>
   rw [hg] at hb'
   simp only [Option.map_some,Option.some.injEq] at hb'
   subst hb'
   have h0:=hs.blk m b0 hg
   cases b0 with
   | cells l' ty' =>
    obtain ⟨h1,cc',h2,h3⟩:=h0
    exact ⟨h1,cc',h2,SL (p:=fun _=>True) (fun c V _ hc=>hR hc) (fun _ _=>trivial) h3⟩
   | row=>exact Bv.mono hsub (fun _ _=>rfl) (fun _=>rfl) h0
   | omap=>exact Bv.mono hsub (fun _ _=>rfl) (fun _=>rfl) h0
   | rowx=>exact Oa (p:=fun _=>True) hsub (fun c V _ hc=>hR hc) (fun _ _ _ _ _=>trivial) h0
 ·simp only [fxS,Ig,Fw] at hb'
  split at hb'
  ·cases hb'
  rename_i hne
  cases hg:get s.h m with
  | none=>rw [hg] at hb';cases hb'
  | some b0 =>
   rcases hs.loc m b0 hg with h1 | ⟨h1,h2⟩
   ·exact .inl h1
   by_cases hmn:(σ m).nil=true
   ·exact .inl hmn
   refine .inr ⟨?_,h2⟩
   rw [hother]
   ·exact h1
   rcases hs.inj n m _ _ hn hg hne with h3 | h3 | h3
   ·rw [hnil] at h3;cases h3
   ·exact absurd h3 hmn
   exact Ne.symm h3
 simp only [fxS,Ig,Fw] at h1 h2
 split at h1
 ·cases h1
 split at h2
 ·cases h2
 intro hne
 cases hg:get s.h m with
 | none=>rw [hg] at h1;cases h1
 | some b0 =>
  cases hg2:get s.h k with
  | none=>rw [hg2] at h2;cases h2
  | some c0=>exact hs.inj m k b0 c0 hg hg2 hne
theorem dC {K:List Nat} (S:AS) (n:Nat) (l:List Cl) (ty:TypeId) (hX:C8 X W0 K) (hK:xok K n s=true) (hn:get s.h n=some (.cells l ty)) (hdv:l.all Cl.dv=true) (hS:fxS n l s=S):Cv N W0 X M0 s S:=by
 subst hS
 intro M σ a w hs
 obtain ⟨M',h1⟩:=WG n l ty (fun hnil=>Zg hX hK hs hn hnil) hn hdv hs
 exact ⟨M',σ,h1⟩
def PX (pids:List Nat) (X:Nat->Option Loc):Prop:=∀ m x,X m=some x->∃ q,BB pids q=true/\∃ y,X q=some y/\y.b=x.b
def nH (pids:List Nat) (n:Nat) (s:AS):Bool:=pids.all fun q => !Nat.beq q n&&match get s.h q with | some (.cells ..)=>true | _=>false
theorem Jw:∀ {l:List Nat} {n:Nat},BB l n=true->n∈l
 | [],_,h=>by cases h
 | k::r,n,h=>by
  simp only [BB] at h
  cases hk:Nat.beq k n with
  | true=>have:=Nat.eq_of_beq_eq_true hk;subst this;exact List.mem_cons_self ..
  | false=>rw [hk] at h;exact List.mem_cons_of_mem _ (Jw h)
theorem W5 (S:AS) (n:Nat) (l:List Cl) (ty:TypeId) (pids:List Nat) (hX:PX pids X) (hK:nH pids n s=true) (hn:get s.h n=some (.cells l ty)) (hdv:l.all Cl.dv=true) (hS:fxS n l s=S):Cv N W0 X M0 s S:=by
 subst hS
 intro M σ a w hs
 obtain ⟨M',h1⟩:=WG n l ty (fun hnil=>by
  rintro ⟨m,x,h1,h2⟩
  exfalso
  obtain ⟨q,hq,y,hy,hyx⟩:=hX m x h1
  have h3:=List.all_eq_true.1 hK q (Jw hq)
  simp only [Bool.and_eq_true,Bool.not_eq_true'] at h3
  have hqn:q≠n:=fun e=>by have:=h3.1;rw [e,Nat.beq_refl] at this;cases this
  cases hb:get s.h q with
  | none=>rw [hb] at h3;cases h3.2
  | some bk =>
   rw [hb] at h3
   cases bk with
   | row=>cases h3.2
   | omap=>cases h3.2
   | rowx=>cases h3.2
   | cells lq tq =>
    have h4:=(hs.blk q _ hb).1
    have h5:=(hs.pin q y hy).2
    rcases hs.inj q n _ _ hb hn hqn with h6 | h6 | h6
    ·rw [h4] at h6;cases h6
    ·rw [hnil] at h6;cases h6
    exact h6 (by rw [h5,hyx,h2])) hn hdv hs
 exact ⟨M',σ,h1⟩
end
end
section
open Go.RowKit
inductive AvE:Av->Av->Prop
 | one {c c':Cl} (h:ClE c c'):AvE (.one c) (.one c')
 | agg {l l':List Cl} (h:L2 ClE l l'):AvE (.agg l) (.agg l')
inductive TvE:Tv->Tv->Prop
 | refl (v:Tv):TvE v v
 | av {x x':Av} (h:AvE x x'):TvE (.av x) (.av x')
 | tup {l l':List Av} (h:L2 AvE l l'):TvE (.tup l) (.tup l')
inductive I1:Blk->Blk->Prop
 | refl (b:Blk):I1 b b
 | cells {l l':List Cl} (ty:TypeId) (h:L2 ClE l l'):I1 (.cells l ty) (.cells l' ty)
 | row (sz:Nat) {len len':Nat} {f f':Nat->Nat->Cl} (ty:TypeId) (hl:len=len') (h:∀ i j,i<len'->j<sz->ClE (f i j) (f' i j)):I1 (.row sz len f ty) (.row sz len' f' ty)
 | omap (agg:Bool) (nv:Nat) {len len':Nat} {kf kf':Nat->Value} {f f':Nat->Nat->Cl} (hl:len=len') (hk:∀ i,i<len'->kf i=kf' i) (h:∀ i j,i<len'->j<nv->ClE (f i j) (f' i j)):I1 (.omap agg nv len kf f) (.omap agg nv len' kf' f')
 | rowx (sz len:Nat) (f:Nat->Nat->Cl) (ty:TypeId) {hs hs':List (Nat×List Cl)} (h:L2 (fun p q=>p.1=q.1/\L2 ClE p.2 q.2) hs hs'):I1 (.rowx sz len f ty hs) (.rowx sz len f ty hs')
theorem AvE.refl:∀ x:Av,AvE x x
 | .one c=>.one (.refl c)
 | .agg l=>.agg (by
   induction l with
   | nil=>exact .nil
   | cons c l ih=>exact .cons (.refl c) ih)
theorem L2.trans3 {α β:Type} {r:α->β->Prop} {q:α->α->Prop} {r':α->β->Prop} (hq:∀ a a' b,q a a'->r a b->r' a' b) {l l':List α} {m:List β} (h:L2 q l l') (k:L2 r l m):L2 r' l' m:=by
 induction h generalizing m with
 | nil=>cases k;exact .nil
 | cons h1 _ ih=>cases k with | cons k1 k2=>exact .cons (hq _ _ _ h1 k1) (ih k2)
section
variable {P:Program} {rd:Option Nat} {N:Nat} {W0:World} {X:Nat→Option Loc} {M0 M:Nat→Option Obj} {σ:Nat→Loc} {w:World} {a:Act} {Q:Exit→AS→Prop} {s S:AS}
theorem PQ {x x':Av} {V:Value} (he:AvE x x') (h:RA M σ x V):RA M σ x' V:=by
 cases he with
 | one h1=>exact XJ h1 h
 | agg h1 =>
  obtain ⟨vs,e1,e2⟩:=h
  exact ⟨vs,e1,L2.trans3 (r:=R M σ) (r':=R M σ) (fun _ _ _=>XJ) h1 e2⟩
theorem PP {x x':Tv} {V:Value} (he:TvE x x') (h:RT M σ x V):RT M σ x' V:=by
 cases he with
 | refl=>exact h
 | av h1=>exact PQ h1 h
 | tup h1 =>
  obtain ⟨vs,e1,e2⟩:=h
  exact ⟨vs,e1,L2.trans3 (r:=RA M σ) (r':=RA M σ) (fun _ _ _=>PQ) h1 e2⟩
theorem Mh {α:Type} {r:α->α->Prop} {l l':List (Nat×α)} (h:L2 (fun p q=>p.1=q.1/\r p.2 q.2) l l') (i:Nat) {v':α} (hv:get l' i=some v'):∃ v,get l i=some v/\r v v':=by
 induction h with
 | nil=>cases hv
 | @cons p q l l' h1 _ ih =>
  obtain ⟨k,v⟩:=p
  obtain ⟨k',u⟩:=q
  obtain ⟨rfl,h2⟩:=h1
  simp only [get,CQ] at hv ⊢
  by_cases hk:k=i
  ·simp [hk] at hv ⊢;subst hv;exact h2
  simp only [hk,decide_false,cond_false] at hv ⊢;exact ih hv
theorem Tj {α:Type} {r:α->α->Prop} {l l':List (Nat×α)} (h:L2 (fun p q=>p.1=q.1/\r p.2 q.2) l l') (i:Nat) (hv:get l' i=none):get l i=none:=by
 induction h with
 | nil=>rfl
 | @cons p q l l' h1 _ ih =>
  obtain ⟨k,v⟩:=p
  obtain ⟨k',u⟩:=q
  obtain ⟨h3,h2⟩:=h1
  simp only at h3
  subst h3
  simp only [get,CQ] at hv ⊢
  by_cases hk:k=i
  ·simp [hk] at hv
  simp only [hk,decide_false,cond_false] at hv ⊢;exact ih hv
theorem L6 {x:Loc} {b b':Blk} (he:I1 b b') (h:Bv M σ w x b):Bv M σ w x b':=by
 cases he with
 | refl=>exact h
 | cells ty h1 =>
  obtain ⟨h0,c,hc,hl⟩:=h
  exact ⟨h0,c,hc,L2.trans3 (r:=R M σ) (r':=R M σ) (fun _ _ _=>XJ) h1 hl⟩
 | row sz ty hl hf =>
  subst hl
  rcases h with h0 | ⟨e0,cc,e1,e2,e3,e4,g,e5⟩
  ·exact .inl h0
  exact .inr ⟨e0,cc,e1,e2,e3,e4,g,fun i j hi hj=>⟨(e5 i j hi hj).1,Vw (hf i j hi hj) _ (e5 i j hi hj).2⟩⟩
 | omap agg nv hl hk hf =>
  subst hl
  obtain ⟨e0,es,ck,g,e1,e2,e3,e4⟩:=h
  exact ⟨e0,es,ck,g,e1,e2,fun i e he=>by
   have hi:i<es.size:=(Array.getElem?_eq_some_iff.1 he).1
   rw [<- hk i (by omega)];exact e3 i e he,fun i j hi hj=>Vw (hf i j hi hj) _ (e4 i j hi hj)⟩
 | rowx sz len f ty h1 =>
  obtain ⟨e0,c,e1,e2,e3,e4,gv,e5,e6⟩:=h
  refine ⟨e0,c,e1,e2,e3,e4,gv,fun i j hi hj=>⟨(e5 i j hi hj).1,fun hn=>(e5 i j hi hj).2 (Tj h1 i hn)⟩,fun i l hl => ?_⟩
  obtain ⟨l0,hl0,he⟩:=Mh h1 i hl
  exact ⟨(e6 i l0 hl0).1,L2.trans3 (r:=R M σ) (r':=R M σ) (fun _ _ _=>XJ) he (e6 i l0 hl0).2⟩
def TE:List (Nat×Tv)->List (Nat×Tv)->Prop:=L2 fun p q=>p.1=q.1/\TvE p.2 q.2
def HE:List (Nat×Blk)->List (Nat×Blk)->Prop:=L2 fun p q=>p.1=q.1/\I1 p.2 q.2
theorem kY (ht:TE s.t S.t) (hh:HE s.h S.h) (hs:Sim N W0 X M0 M σ (get s.t) (get s.h) a w):Sim N W0 X M0 M σ (get S.t) (get S.h) a w :=
 ⟨hs.os,hs.tape,hs.output,hs.size,hs.old,hs.sub,hs.new,hs.pin,hs.defers,hs.room,fun i v h=>(Mh ht i h).elim fun u hu=>PP hu.2 (hs.tmps i u hu.1),hs.imm,
  fun n b h=>(Mh hh n h).elim fun u hu=>L6 hu.2 (hs.blk n u hu.1),fun n b h=>(Mh hh n h).elim fun u hu=>hs.loc n u hu.1,
  fun n m b c h1 h2=>(Mh hh n h1).elim fun u hu=>(Mh hh m h2).elim fun v hv=>hs.inj n m u v hu.1 hv.1⟩
theorem C1 (S:AS) (ht:TE s.t S.t) (hh:HE s.h S.h):Cv N W0 X M0 s S:=fun M σ _ _ hs=>⟨M,σ,kY ht hh hs⟩
theorem C5 {f:FuncId} {xs xs':List Av} {e:Ef} (h:FK P f xs' e) (hx:L2 AvE xs xs'):FK P f xs e :=
 match h with
 | .inl h=>.inl ⟨h.1,fun M σ w hh args cs g hs hargs hr hc=>h.2 M σ w hh args cs g hs (L2.trans3 (r:=RA M σ) (r':=RA M σ) (fun _ _ _=>PQ) hx hargs) hr hc⟩
 | .inr ⟨cs,v,he,h⟩=>.inr ⟨cs,v,he,fun M σ w args himm hc hargs=>h M σ w args himm hc (L2.trans3 (r:=RA M σ) (r':=RA M σ) (fun _ _ _=>PQ) hx hargs)⟩
theorem fP {f:FuncId} {xs xs':List Av} {r:Tv} (h:HT P f xs' r) (hx:L2 AvE xs xs'):HT P f xs r :=
 fun M σ w args himm hargs=>h M σ w args himm (L2.trans3 (r:=RA M σ) (r':=RA M σ) (fun _ _ _=>PQ) hx hargs)
def ceI (xs:List Av) (c:FuncId×List Av×Ef):FuncId×List Av×Ef:=(c.1,xs,c.2.2)
def My (P:Program) (N:Nat) (W0:World) (X:Nat->Option Loc) (M0:Nat->Option Obj) (fn:Func) (φ:Tv->AS->Prop):Exit->AS->Prop:=fun e s=>∃ t,Cv N W0 X M0 s t/\RetQ P fn φ e t
theorem Ss {f:FuncId} {fn:Func} {c:Code} (hf:P.funcs[f]? = some fn) (hb:fn.body=some c) {xs:List Av} {r:Tv} (hN:Nat.ble xs.length fn.ntmps=true) (hd:r.dv=true)
  (h:∀ (W0:World) (M0:Nat->Option Obj),AWp P none fn.ntmps W0 noX M0 c (My P fn.ntmps W0 noX M0 fn fun r' _=>TvE r' r) ⟨Gc 0 xs,[]⟩):HT P f xs r:=by
 intro M σ w args himm hargs
 refine Ha (X:=noX) (σ:=σ) (h0:=[]) hf hb (Nat.le_of_ble_eq_true hN) himm hargs (fun n b h=>by cases h) (fun n b h=>by cases h) (fun n x h=>by cases h) (fun n m b c h=>by cases h) (HL (h w M)) ?_
 rintro r' s' M' σ' a' w' U he hs hR
 exact ⟨U,rfl,M',⟨hs.os,hs.tape,hs.output,hs.size,fun b hb _=>hs.old b hb (LY b),hs.sub,hs.new,hs.imm⟩,fun σ''=>LJ hd (PP he hR)⟩
theorem Hr {f:FuncId} {fn:Func} {c:Code} (hf:P.funcs[f]? = some fn) (hb:fn.body=some c) {K:Nat} {xs:List Av} {b0 b1:Blk} {r:Tv} (hN:Nat.ble xs.length fn.ntmps=true) (hK:Nat.ble fn.ntmps K=true) (hd:r.dv=true) (hd1:Jj b1=true)
  (h:∀ (W0:World) (M0:Nat->Option Obj) (X:Nat->Option Loc),C8 X W0 [K]->AWp P none fn.ntmps W0 X M0 c (My P fn.ntmps W0 X M0 fn fun r' s'=>TvE r' r/\∃ b,get s'.h K=some b/\I1 b b1) ⟨Gc 0 xs,[(K,b0)]⟩):Wr P f K xs b0 r b1:=by
 intro M σ w args himm hblk hnil hM hargs
 let X:Nat->Option Loc:=upd noX K (some (σ K))
 have hX:X K=some (σ K):=BV _ _ _
 have one:∀ n b,get [(K,b0)] n=some b->n=K/\b=b0:=fun n b hn=>by
  simp only [get,CQ] at hn
  by_cases hk:K=n
  ·simp [hk] at hn;exact ⟨hk.symm,hn.symm⟩
  simp [hk] at hn
 have pins:∀ n x,X n=some x->n=K/\x=σ K:=fun n x hx=>by
  by_cases hk:n=K
  ·subst hk;rw [hX] at hx;injection hx with hx;exact ⟨rfl,hx.symm⟩
  simp only [X] at hx;rw [C0 _ _ hk] at hx;cases hx
 have hXK:∀ k x,X k=some x->BB [K] k=true:=fun k x hk=>by rw [(pins k x hk).1];exact TN _
 refine Ha (X:=X) (σ:=σ) (h0:=[(K,b0)]) hf hb (Nat.le_of_ble_eq_true hN) himm hargs (fun n b hn => ?_) (fun n b hn => ?_) (fun n x hx => ?_) (fun n m b c hn hm hne => ?_) (HL (h w M X fun k x hk=>.inl (hXK k x hk))) ?_
 ·obtain ⟨rfl,rfl⟩:=one n b hn;exact hblk
 ·obtain ⟨rfl,rfl⟩:=one n b hn;exact .inr ⟨hM,n,σ n,hX,rfl⟩
 ·obtain ⟨rfl,rfl⟩:=pins n x hx;exact ⟨Nat.le_of_ble_eq_true hK,rfl⟩
 ·exact absurd ((one n b hn).1.trans (one m c hm).1.symm) hne
 rintro r' s' M' σ' a' w' U ⟨he,b,hb1,hbe⟩ hs hR
 have hpin:=(hs.pin K _ hX).2
 have hbk:=hs.blk K _ hb1
 rw [hpin] at hbk
 refine ⟨U,rfl,M',⟨hs.os,hs.tape,hs.output,hs.size,fun b hb hne=>hs.old b hb ?_,hs.sub,hs.new,hs.imm⟩,fun σ''=>LJ hd (PP he hR),fun σ''=>GJ hd1 (L6 hbe hbk)⟩
 rintro ⟨n,x,hx,rfl⟩
 obtain ⟨rfl,rfl⟩:=pins n x hx
 exact hne ⟨hnil,rfl⟩
end
def prC (n:Nat):Cl->List (Nat×Nat)
 | .own m s l=>bif Nat.beq m n then [(l,s)] else []
 | _=>[]
def prA (n:Nat):Av->List (Nat×Nat)
 | .one c=>prC n c
 | .agg l=>l.flatMap (prC n)
def prT (n:Nat):Tv->List (Nat×Nat)
 | .av x=>prA n x
 | .tup l=>l.flatMap (prA n)
 | .grd _ x=>prA n x
def prB (n:Nat):Blk->List (Nat×Nat)
 | .cells l _=>l.flatMap (prC n)
 | .rowx _ _ _ _ hs=>hs.flatMap fun p=>p.2.flatMap (prC n)
 | _=>[]
def prS (n:Nat) (s:AS):List (Nat×Nat):=s.t.flatMap (fun p=>prT n p.2)++s.h.flatMap fun p=>prB n p.2
section
variable {n sz len:Nat}
theorem aG {c:Cl} (h:∀ p∈prC n c,p=(len,sz)):fzP n sz len c:=by
 cases c with
 | own m s l =>
  simp only [prC,fzP] at *
  cases hb:Nat.beq m n with
  | true =>
   rw [hb] at h
   have:=h (l,s) (List.mem_singleton.2 rfl)
   exact ⟨congrArg Prod.fst this,congrArg Prod.snd this⟩
  | false=>trivial
 | _=>trivial
theorem U9 {l:List Cl} (h:∀ p∈l.flatMap (prC n),p=(len,sz)):∀ c∈l,fzP n sz len c:=fun c hc=>aG fun p hp=>h p (List.mem_flatMap.2 ⟨c,hc,hp⟩)
theorem VB {x:Av} (h:∀ p∈prA n x,p=(len,sz)):PN (fzP n sz len) x:=by
 cases x with
 | one c=>exact aG h
 | agg l=>exact U9 h
theorem U8:∀ {l:List (Nat×Tv)},(∀ p∈l.flatMap (fun p=>prT n p.2),p=(len,sz))->T8 (fzP n sz len) l
 | [],_=>trivial
 | (k,v)::l,h=>by
  refine ⟨?_,U8 fun p hp=>h p (List.mem_flatMap.2 (by obtain ⟨q,h1,h2⟩:=List.mem_flatMap.1 hp;exact ⟨q,List.mem_cons_of_mem _ h1,h2⟩))⟩
  have hv:∀ p∈prT n v,p=(len,sz):=fun p hp=>h p (List.mem_flatMap.2 ⟨(k,v),List.mem_cons_self ..,hp⟩)
  cases v with
  | av x=>exact VB hv
  | tup l=>exact fun x hx=>VB fun p hp=>hv p (List.mem_flatMap.2 ⟨x,hx,hp⟩)
  | grd _ x=>exact VB hv
theorem VA:∀ {l:List (Nat×Blk)},(∀ p∈l.flatMap (fun p=>prB n p.2),p=(len,sz))->SP (fzP n sz len) l
 | [],_=>trivial
 | (k,b)::l,h=>by
  have hr:=VA (l:=l) fun p hp=>h p (List.mem_flatMap.2 (by obtain ⟨q,h1,h2⟩:=List.mem_flatMap.1 hp;exact ⟨q,List.mem_cons_of_mem _ h1,h2⟩))
  have hv:∀ p∈prB n b,p=(len,sz):=fun p hp=>h p (List.mem_flatMap.2 ⟨(k,b),List.mem_cons_self ..,hp⟩)
  cases b with
  | cells l ty=>exact ⟨U9 hv,hr⟩
  | row=>exact ⟨trivial,hr⟩
  | omap=>exact ⟨trivial,hr⟩
  | rowx _ _ _ _ hs =>
   refine ⟨fun i l hl=>U9 fun p hp=>hv p (List.mem_flatMap.2 ⟨(i,l),DL hl,hp⟩),hr⟩
end
def fzN (n:Nat) (s:AS):AS:=match get s.h n with
 | some (.row sz len f _)=>fzS n sz len f s
 | _=>s
def fzK (K:List Nat) (n:Nat) (s:AS):Bool:=xok K n s&&(match get s.h n with
 | some (.row ..)=>true
 | _=>false)
def fzE (n:Nat) (s:AS):List (Nat×Nat):=match get s.h n with
 | some (.row sz len _ _)=>(prS n s).map fun _=>(len,sz)
 | _=>[]
section
variable {N:Nat} {W0:World} {X:Nat→Option Loc} {M0:Nat→Option Obj} {s:AS}
theorem Vj {K:List Nat} (n:Nat) (hX:C8 X W0 K) (hk:fzK K n s=true) (he:prS n s=fzE n s):Cv N W0 X M0 s (fzN n s):=by
 unfold fzK at hk
 unfold fzE at he
 unfold fzN
 rw [Bool.and_eq_true] at hk
 obtain ⟨h1,h2⟩:=hk
 split at h2
 ·rename_i sz len f ty hn
  rw [hn] at he
  have hp:∀ p∈prS n s,p=(len,sz):=fun p hp=>by
   rw [he] at hp
   obtain ⟨_,_,h⟩:=List.mem_map.1 hp
   exact h.symm
  exact mV _ n sz len f ty hX h1 hn (U8 fun p h=>hp p (List.mem_append.2 (.inl h))) (VA fun p h=>hp p (List.mem_append.2 (.inr h))) rfl
 cases h2
theorem I8 {K:List Nat} (S:AS) (n:Nat) (hX:C8 X W0 K) (hk:fzK K n s=true:=by kernel_rfl) (he:prS n s=fzE n s:=by kernel_rfl) (hS:fzN n s=S:=by kernel_rfl):Cv N W0 X M0 s S:=hS▸Vj n hX hk he
theorem BG {S:AS} (h:s=S):Cv N W0 X M0 s S:=h▸Cv.refl s
end
theorem BX {x y:Tv} (h:x=y):TvE x y:=h▸.refl x
theorem Dk {x y z:Tv} (h:TvE x y) (e:y=z):TvE x z:=e▸h
theorem EI {x y:Blk} (h:x=y):I1 x y:=h▸.refl x
theorem SF {x y z:Blk} (h:I1 x y) (e:y=z):I1 x z:=e▸h
def HS {α:Type} [Inhabited α] (sz len:Nat) (f:Nat->Nat->Cl) (c:α->List Cl) (xs:List α):Prop:=len=xs.length/\∀ i j,i<xs.length->j<sz->ClE (f i j) (AV c xs i j)
section
variable {α:Type} [Inhabited α] {sz n m:Nat} {f g:Nat→Nat→Cl} {c:α→List Cl} {xs ys:List α}
theorem Af (sz:Nat) (c:α->List Cl) (xs:List α):HS sz xs.length (AV c xs) c xs:=⟨rfl,fun _ _ _ _=>.refl _⟩
theorem CV (sz:Nat) (f:Nat->Nat->Cl) (c:α->List Cl):HS sz 0 f c []:=⟨rfl,fun _ _ h=>absurd h (Nat.not_lt_zero _)⟩
theorem Ar (h:HS sz n f c xs) (k:HS sz m g c ys):HS sz (n+m) (fun i j=>if i<n then f i j else g (i-n) j) c (xs++ys):=by
 obtain ⟨rfl,h⟩:=h
 obtain ⟨rfl,k⟩:=k
 refine ⟨List.length_append.symm,fun i j hi hj => ?_⟩
 rw [<- fF c xs ys sz (AV c ys) (fun _ _ _ _=>rfl) i j hi hj]
 show ClE (if i<xs.length then f i j else g (i-xs.length) j) _
 by_cases hl:i<xs.length
 ·rw [if_pos hl,if_pos hl];exact h i j hl hj
 rw [if_neg hl,if_neg hl];exact k (i-xs.length) j (by rw [List.length_append] at hi;omega) hj
theorem Ft {l:List Cl} {off q k:Nat} (h:HS sz n f c xs) (hk:k<n) (v:α) (hv:∀ j,j<sz->(if off<=j/\j<off+q then l.getD (j-off) default else (c (xs.getD k default)).getD j default)=(c v).getD j default) :
  HS sz n (fun i j=>if i=k/\off<=j/\j<off+q then l.getD (j-off) default else f i j) c (xs.set k v):=by
 obtain ⟨rfl,h⟩:=h
 refine ⟨by simp,fun i j hi hj => ?_⟩
 rw [<- fE c xs k v l sz off q hk hv i j hi hj]
 show ClE (if i=k/\off<=j/\j<off+q then l.getD (j-off) default else f i j) _
 have hi':i<xs.length:=by simpa using hi
 by_cases hc:i=k/\off<=j/\j<off+q
 ·rw [if_pos hc,if_pos hc];exact .refl _
 rw [if_neg hc,if_neg hc];exact h i j hi' hj
theorem Ut (h:HS sz n f c xs) {a b:Int} (ha:0<=a) (hab:a<=b) (hb:b<=(n:Int)):HS sz (b.toNat-a.toNat) (fun i j=>f (i+a.toNat) j) c ((xs.take b.toNat).drop a.toNat):=by
 obtain ⟨rfl,h⟩:=h
 refine ⟨by simp;omega,fun i j hi hj => ?_⟩
 have hi':i<min b.toNat xs.length-a.toNat:=by simpa using hi
 suffices e:AV c xs (i+a.toNat) j=AV c ((xs.take b.toNat).drop a.toNat) i j by rw [<- e];exact h (i+a.toNat) j (by omega) hj
 unfold AV
 rw [List.getD_eq_getElem?_getD,List.getD_eq_getElem?_getD,List.getD_eq_getElem?_getD,List.getD_eq_getElem?_getD,List.getElem?_drop,List.getElem?_take_of_lt (show a.toNat+i<b.toNat by omega),Nat.add_comm]
theorem eR {n':Nat} {f':Nat->Nat->Cl} (h:HS sz n f c xs) (q:Nat->Nat) (ys:List α) (hl:n'=ys.length) (hq:∀ i,i<ys.length->q i<xs.length/\ys[i]? = xs[q i]?) (hf:∀ i j,i<ys.length->f' i j=f (q i) j):HS sz n' f' c ys:=by
 refine ⟨hl,fun i j hi hj => ?_⟩
 obtain ⟨h1,h2⟩:=hq i hi
 rw [hf i j hi]
 have e:AV c xs (q i) j=AV c ys i j:=by
  unfold AV
  rw [List.getD_eq_getElem?_getD,List.getD_eq_getElem?_getD,List.getD_eq_getElem?_getD,List.getD_eq_getElem?_getD,h2]
 rw [<- e]
 exact h.2 (q i) j h1 hj
def NR {α:Type} (xs:List α) (n1 lo2 n2:Nat):List α:=xs.take n1++(xs.drop lo2).take n2
theorem aS {α:Type} (xs:List α) (n1 lo2 n2:Nat):(NR xs n1 lo2 n2).length=min n1 xs.length+min n2 (xs.length-lo2):=by simp [NR]
theorem Pg {n1 lo2 n2:Nat} (h:HS sz n f c xs) (h1:n1<=n) (h2:lo2+n2<=n):HS sz (n1+n2) (fun i j=>if i<n1 then f i j else f (i-n1+lo2) j) c (NR xs n1 lo2 n2):=by
 obtain ⟨rfl,_⟩:=id h
 have hl:(NR xs n1 lo2 n2).length=n1+n2:=by simp [NR];omega
 refine eR h (fun i=>if i<n1 then i else i-n1+lo2) _ hl.symm (fun i hi => ?_) (fun i j hi=>by by_cases hc:i<n1 <;> simp [hc])
 rw [hl] at hi
 have ht:(xs.take n1).length=n1:=by rw [List.length_take];omega
 unfold NR
 by_cases hc:i<n1
 ·simp only [if_pos hc]
  refine ⟨by omega,?_⟩
  rw [List.getElem?_append_left (by omega),List.getElem?_take_of_lt hc]
 simp only [if_neg hc]
 refine ⟨by omega,?_⟩
 rw [List.getElem?_append_right (by omega),ht,List.getElem?_take_of_lt (by omega),List.getElem?_drop,Nat.add_comm]
theorem Ed (h:HS sz n f c xs) {b:Int} (hab:0<=b) (hb:b<=(n:Int)):HS sz (b.toNat-(0:Int).toNat) (fun i j=>f (i+(0:Int).toNat) j) c (xs.take b.toNat):=by
 have:=Ut h (Int.le_refl 0) hab hb
 rwa [show (xs.take b.toNat).drop (0:Int).toNat=xs.take b.toNat from by simp] at this
def tab (n:Nat) (p:Nat->Cl):List Cl:=(List.range n).map p
def RV (n sz:Nat) (p:Nat->Nat->Cl):List (List Cl):=(List.range n).map fun i=>tab sz (p i)
theorem Fu {n:Nat} {p q:Nat->Cl} (h:tab n p=tab n q):∀ j,j<n->p j=q j:=by
 intro j hj
 have:=congrArg (fun l=>l[j]?) h
 simpa [tab,hj] using this
theorem BR (hl:n=xs.length) (h:RV n sz f=RV n sz (AV c xs)):HS sz n f c xs:=by
 refine ⟨hl,fun i j hi hj => ?_⟩
 subst hl
 have:=congrArg (fun l=>l[i]?) h
 simp only [RV,List.getElem?_map,List.getElem?_range hi,Option.map_some,Option.some.injEq] at this
 rw [Fu this j hj]
 exact .refl _
theorem A1 (sz:Nat) (c:α->List Cl) (xs:List α) (h:RV xs.length sz (BF sz xs.length (xs.flatMap c))=RV xs.length sz (AV c xs):=by kernel_rfl):HS sz xs.length (BF sz xs.length (xs.flatMap c)) c xs:=BR rfl h
theorem Dh {y z:List (List Cl)} (hl:n=xs.length) (e1:RV n sz f=y) (e2:RV n sz (AV c xs)=z) (h:L2 (L2 ClE) y z):HS sz n f c xs:=by
 refine ⟨hl,fun i j hi hj => ?_⟩
 subst hl
 subst e1
 subst e2
 obtain ⟨b,hb,hL⟩:=h.get i (tab sz (f i)) (by simp [RV,hi])
 obtain ⟨b',hb',hR⟩:=hL.get j (f i j) (by simp [tab,hj])
 have e3:b=tab sz (AV c xs i):=by
  simp only [RV,List.getElem?_map,List.getElem?_range hi,Option.map_some,Option.some.injEq] at hb
  exact hb.symm
 subst e3
 simp only [tab,List.getElem?_map,List.getElem?_range hj,Option.map_some,Option.some.injEq] at hb'
 rw [hb']
 exact hR
theorem BM (t:Bool) (h:HS sz n f c xs):ClE (.list t sz n f) (lst sz c xs):=by
 obtain ⟨rfl,h⟩:=h
 exact .list _ _ _ _ _ _ h (fun h=>by cases h)
theorem CX (ty:TypeId) (h:HS sz n f c xs):I1 (.row sz n f ty) (.row sz xs.length (AV c xs) ty):=.row _ _ h.1 h.2
theorem Bi (sz:Nat) (c:α->List Cl):ClE (.val (.slice none 0 0)) (lst sz c []):=.nil _ _
end
def JT (n len:Nat):Cl->Cl
 | .own m s l=>bif Nat.beq m n then .own m s len else .own m s l
 | c=>c
def jW (g:Cl->Cl):Tv->Tv
 | .av x=>.av (x.map g)
 | .tup l=>.tup (l.map (Av.map g))
 | v=>v
def WD (g:Cl->Cl):Blk->Blk
 | .cells l ty=>.cells (l.map g) ty
 | b=>b
def WE (n len:Nat) (f:Nat->Nat->Cl):List (Nat×Blk)->List (Nat×Blk)
 | []=>[]
 | (k,b)::r=>bif Nat.beq k n then (k,match b with
  | .row sz _ _ ty=>.row sz len f ty
  | b=>b)::NU (WD (JT n len)) r else (k,WD (JT n len) b)::WE n len f r
def jX (n len:Nat) (f:Nat->Nat->Cl) (s:AS):AS:=⟨NU (jW (JT n len)) s.t,WE n len f s.h⟩
def Z3 (n:Nat) (s:AS):Option (Nat×Nat×(Nat->Nat->Cl)):=match get s.h n with
 | some (.row sz len f _)=>some (sz,len,f)
 | _=>none
section
variable {n sz len len':Nat}
theorem Zo (e:len=len') {c:Cl} (h:fzP n sz len c):ClE c (JT n len' c):=by
 cases c with
 | own m s l =>
  simp only [fzP] at h
  simp only [JT]
  cases hb:Nat.beq m n with
  | true=>rw [hb] at h;exact .own _ _ (h.1.trans e)
  | false=>exact .refl _
 | _=>exact .refl _
theorem Uu (e:len=len'):∀ {l:List Cl},(∀ c∈l,fzP n sz len c)->L2 ClE l (l.map (JT n len'))
 | [],_=>.nil
 | c::l,h=>.cons (Zo e (h c (List.mem_cons_self ..))) (Uu e fun c hc=>h c (List.mem_cons_of_mem _ hc))
theorem Zq (e:len=len') {x:Av} (h:PN (fzP n sz len) x):AvE x (x.map (JT n len')):=by
 cases x with
 | one c=>exact .one (Zo e h)
 | agg l=>exact .agg (Uu e h)
theorem WC (e:len=len'):∀ {l:List Av},(∀ x∈l,PN (fzP n sz len) x)->L2 AvE l (l.map (Av.map (JT n len')))
 | [],_=>.nil
 | c::l,h=>.cons (Zq e (h c (List.mem_cons_self ..))) (WC e fun c hc=>h c (List.mem_cons_of_mem _ hc))
theorem Zm (e:len=len'):∀ {l:List (Nat×Tv)},T8 (fzP n sz len) l->TE l (NU (jW (JT n len')) l)
 | [],_=>.nil
 | (k,v)::l,h=>by
  refine .cons ⟨rfl,?_⟩ (Zm e h.2)
  have h1:=h.1
  cases v with
  | av x=>exact .av (Zq e h1)
  | tup l=>exact .tup (WC e h1)
  | grd _ x=>exact .refl _
theorem Zp (e:len=len') {b:Blk} (h:jC (fzP n sz len) b):I1 b (WD (JT n len') b):=by
 cases b with
 | cells l ty=>exact .cells _ (Uu e h)
 | _=>exact .refl _
theorem Zn (e:len=len'):∀ {l:List (Nat×Blk)},SP (fzP n sz len) l->HE l (NU (WD (JT n len')) l)
 | [],_=>.nil
 | (k,b)::l,h=>.cons ⟨rfl,Zp e h.1⟩ (Zn e h.2)
theorem WB {ty:TypeId} {f f':Nat->Nat->Cl} (e:len=len') (hf:∀ i j,i<len'->j<sz->ClE (f i j) (f' i j)):∀ {l:List (Nat×Blk)},SP (fzP n sz len) l->get l n=some (.row sz len f ty)->HE l (WE n len' f' l)
 | [],_,h=>by cases h
 | (k,b)::l,h,hg=>by
  unfold get at hg
  unfold WE
  cases hb:Nat.beq k n with
  | true =>
   rw [hb] at hg
   injection hg with hg
   subst hg
   exact .cons ⟨rfl,.row _ _ e hf⟩ (Zn e h.2)
  | false =>
   rw [hb] at hg
   exact .cons ⟨rfl,Zp e h.1⟩ (WB e hf h.2 hg)
end
section
variable {N:Nat} {W0:World} {X:Nat→Option Loc} {M0:Nat→Option Obj} {s:AS} {α:Type} [Inhabited α] {sz len:Nat} {f:Nat→Nat→Cl} {c:α→List Cl} {xs:List α}
theorem A6 (n:Nat) (h:HS sz len f c xs) (hn:Z3 n s=some (sz,len,f):=by kernel_rfl) (he:prS n s=fzE n s:=by kernel_rfl):Cv N W0 X M0 s (jX n xs.length (AV c xs) s):=by
 unfold Z3 at hn
 unfold fzE at he
 split at hn
 ·rename_i sz' len' f' ty hg
  injection hn with hn
  injection hn with h1 hn
  injection hn with h2 h3
  subst h1 h2 h3
  rw [hg] at he
  have hp:∀ p∈prS n s,p=(len',sz'):=fun p hp=>by
   rw [he] at hp
   obtain ⟨_,_,h⟩:=List.mem_map.1 hp
   exact h.symm
  exact C1 _ (Zm h.1 (U8 fun p h=>hp p (List.mem_append.2 (.inl h)))) (WB h.1 h.2 (VA fun p h=>hp p (List.mem_append.2 (.inr h))) hg)
 cases hn
theorem HY (S:AS) (n:Nat) (h:HS sz len f c xs) (hn:Z3 n s=some (sz,len,f):=by kernel_rfl) (he:prS n s=fzE n s:=by kernel_rfl) (hS:jX n xs.length (AV c xs) s=S:=by kernel_rfl):Cv N W0 X M0 s S:=hS▸A6 n h hn he
end
def tI (x:Int):Tv:=.av (.one (.i x))
def tB (x:Bool):Tv:=.av (.one (.b x))
def tP (a b:Nat):Tv:=.av (.one (.ptr a b))
theorem Jc {a n:Int} (ha:0<=a) (hn:0<n):0<=Int.tmod a n/\Int.tmod a n<n:=⟨Int.tmod_nonneg _ ha,Int.tmod_lt_of_pos _ hn⟩
end
section
open Go.RowKit
inductive NM:Cl->Prop
 | val (v:Value):NM (.val v)
 | ptr (n off:Nat):NM (.ptr n off)
 | own (n sz len:Nat):NM (.own n sz len)
 | rptr (n sz i off:Nat):NM (.rptr n sz i off)
 | om (n:Nat):NM (.om n)
 | any:NM .any
 | list (t:Bool) (sz len:Nat) (f:Nat->Nat->Cl) (h:∀ i j,NM (f i j)):NM (.list t sz len f)
 | eptr (sz len:Nat) (f:Nat->Nat->Cl) (i off:Nat) (h:∀ i j,NM (f i j)):NM (.eptr sz len f i off)
 | clo (g:FuncId) (k:Nat) (caps:Nat->Cl) (h:∀ i,NM (caps i)):NM (.clo g k caps)
section
variable {M M':Nat→Option Obj}
theorem NF (h:∀ b c t f,M b=some (.cells c t f)->M' b=some (.cells c t f)) {b o:Nat} {v:Value} (hv:FM M b o=some v):FM M' b o=some v:=by
 unfold FM at *
 cases hb:M b with
 | none=>rw [hb] at hv;cases hv
 | some x =>
  rw [hb] at hv
  cases x with
  | cells c t f=>rw [h b c t f hb];exact hv
  | _=>cases hv
theorem Vv (h:∀ b c t f,M b=some (.cells c t f)->M' b=some (.cells c t f)) {c:Cl} {V:Value} (hr:RC M c V):NM c->RC M' c V:=by
 induction hr with
 | val v h0=>intro _;exact .val v h0
 | nil t sz f h0=>intro _;exact .nil t sz f h0
 | mt t sz f a cap h5=>intro _;exact .mt t sz f a cap h5
 | list t sz len f b off cap g h1 h2 h4 h5 ih =>
  intro hn
  cases hn with
  | list _ _ _ _ hf=>exact .list t sz len f b off cap g (fun i j hi hj=>NF h (h1 i j hi hj)) (fun i j hi hj=>ih i j hi hj (hf i j)) h4 h5
 | clo f k caps cs h1 h2 ih =>
  intro hn
  cases hn with
  | clo _ _ _ hf=>exact .clo f k caps cs h1 fun i hi=>ih i hi (hf i)
 | eptr sz len f i off b base g h1 h2 ih =>
  intro hn
  cases hn with
  | eptr _ _ _ _ _ hf=>exact .eptr sz len f i off b base g (fun j hj=>NF h (h1 j hj)) (fun j hj=>ih j hj (hf i j))
 | mp=>intro hn;cases hn
 | any V h0=>intro _;exact .any V h0
theorem XI (h:∀ b c t f,M b=some (.cells c t f)->M' b=some (.cells c t f)) {σ:Nat->Loc}:∀ {c:Cl} {V:Value},R M σ c V->NM c->R M' σ c V
 | .val _,_,hr,_=>hr
 | .ptr ..,_,hr,_=>hr
 | .own ..,_,hr,_=>hr
 | .rptr ..,_,hr,_=>hr
 | .osl ..,_,hr,_=>hr
 | .list ..,_,hr,hn=>Vv h hr hn
 | .eptr ..,_,hr,hn=>Vv h hr hn
 | .mp ..,_,_,hn=>by cases hn
 | .om ..,_,hr,_=>hr
 | .any,_,hr,_=>hr
 | .clo g k caps,_,hr,hn=>by
  obtain ⟨cs,h1,h2,h3⟩:=hr
  cases hn with
  | clo _ _ _ hf=>exact ⟨cs,h1,h2,fun i hi=>XI h (h3 i hi) (hf i)⟩
def AvM (x:Av):Prop:=∀ c∈x.cells,NM c
def TvM:Tv->Prop
 | .av x=>AvM x
 | .tup l=>∀ x∈l,AvM x
 | .grd _ x=>AvM x
def BkM:Blk->Prop
 | .cells l _=>∀ c∈l,NM c
 | .row _ _ f _=>∀ i j,NM (f i j)
 | .omap .. => False
 | .rowx .. => False
def HsM (h:List (Nat×Blk)):Prop:=∀ n b,get h n=some b->BkM b
def TsM (t:List (Nat×Tv)):Prop:=∀ n b,get t n=some b->TvM b
theorem Vy (h:∀ b c t f,M b=some (.cells c t f)->M' b=some (.cells c t f)) {σ:Nat->Loc} {x:Av} {V:Value} (hr:RA M σ x V) (hn:AvM x):RA M' σ x V:=by
 cases x with
 | one c=>exact XI h hr (hn c (by simp [Av.cells]))
 | agg l =>
  obtain ⟨vs,h1,h2⟩:=hr
  exact ⟨vs,h1,h2.mono fun c hc b hb=>XI h hb (hn c (by simpa [Av.cells] using hc))⟩
theorem eM (h:∀ b c t f,M b=some (.cells c t f)->M' b=some (.cells c t f)) {σ:Nat->Loc} {x:Tv} {V:Value} (hr:RT M σ x V) (hn:TvM x):RT M' σ x V:=by
 cases x with
 | av x=>exact Vy h hr hn
 | tup l =>
  obtain ⟨vs,h1,h2⟩:=hr
  exact ⟨vs,h1,h2.mono fun c hc b hb=>Vy h hb (hn c hc)⟩
 | grd g x=>exact ⟨fun hg=>Vy h (hr.1 hg) hn,hr.2⟩
theorem YJ (h:∀ b c t f,M b=some (.cells c t f)->M' b=some (.cells c t f)) {σ:Nat->Loc} {w:World} {x:Loc} {b:Blk} (hr:Bv M σ w x b) (hn:BkM b):Bv M' σ w x b:=by
 cases b with
 | cells l ty =>
  obtain ⟨h0,c,hc,hl⟩:=hr
  exact ⟨h0,c,hc,hl.mono fun a ha b hb=>XI h hb (hn a ha)⟩
 | row sz len f ty =>
  rcases hr with hr | ⟨h0,c,hc,h1,h2,h3,g,hg⟩
  ·exact .inl hr
  exact .inr ⟨h0,c,hc,h1,h2,h3,g,fun i j hi hj=>⟨(hg i j hi hj).1,Vv h (hg i j hi hj).2 (hn i j)⟩⟩
 | omap agg nv len kf vf =>
  obtain ⟨h0,es,ck,g,hc,h1,h2,h3⟩:=hr
  exact hn.elim
 | rowx=>exact hn.elim
end
theorem cZ {d:Nat}:∀ {c:Cl},c.dv=true->c.no d=true
 | .val _,_=>rfl
 | .any,_=>rfl
 | .list ..,_=>rfl
 | .eptr ..,_=>rfl
 | .mp ..,_=>rfl
 | .clo _ k caps,h=>by
  simp only [Cl.dv,Cl.no,List.all_eq_true] at *
  exact fun i hi=>cZ (h i hi)
def pvT (ids:List Nat):Tv->Bool
 | .av (.one (.ptr n _))=>BB ids n
 | .av x=>x.dv
 | .tup l=>l.all Av.dv
 | .grd _ x=>x.dv
theorem Jl {d:Nat} {x:Av} (h:x.dv=true):x.no d=true:=by
 cases x with
 | one c=>exact cZ h
 | agg l=>simp only [Av.dv,Av.no,List.all_eq_true] at *;exact fun c hc=>cZ (h c hc)
theorem Hy:∀ {l:List Nat} {n:Nat},BB l n=true->n∈l
 | [],_,h=>by cases h
 | k::r,n,h=>by
  simp only [BB] at h
  cases hk:Nat.beq k n with
  | true=>have:=Nat.eq_of_beq_eq_true hk;subst this;exact List.mem_cons_self ..
  | false=>rw [hk] at h;exact List.mem_cons_of_mem _ (Hy h)
theorem aA {ids:List Nat} {d:Nat} {v:Tv} (h:pvT ids v=true) (hd:v.no d=false):d∈ids:=by
 have key:∀ x:Av,x.dv=true->x.no d=false->False:=fun x h1 h2=>by rw [Jl h1] at h2;cases h2
 cases v with
 | av x =>
  cases x with
  | one c =>
   cases c with
   | ptr n off =>
    have hn:n=d:=by simp [Tv.no,Av.no,Cl.no] at hd;exact hd
    subst hn
    exact Hy h
   | _=>exact (key (.one _) h hd).elim
  | agg l=>exact (key (.agg l) h hd).elim
 | tup l =>
  simp only [pvT,List.all_eq_true] at h
  simp only [Tv.no] at hd
  have:l.all (Av.no d)=true:=by rw [List.all_eq_true];exact fun x hx=>Jl (h x hx)
  rw [this] at hd;cases hd
 | grd g x=>exact (key x h hd).elim
def OW (t:List (Nat×Tv)):List Tmp->List Av->List (Nat×Tv)
 | p::ps,e::es=>OW ((p,.av e)::t) ps es
 | _,_=>t
theorem Wx {M:Nat->Option Obj} {σ:Nat->Loc} {N:Nat}:∀ (ps:List Tmp) (es:List Av) (vs:List Value) (t:List (Nat×Tv)) (tm:Array Value),(∀ i v,get t i=some v->RT M σ v (tm.getD i undef))->tm.size=N->L2 (RA M σ) es vs->ps.length=es.length->(∀ p∈ps,p<N) ->
  ((ps.zip vs).foldl (fun t (x:Tmp×Value)=>t.setIfInBounds x.1 x.2) tm).size=N/\∀ i v,get (OW t ps es) i=some v->RT M σ v (((ps.zip vs).foldl (fun t (x:Tmp×Value)=>t.setIfInBounds x.1 x.2) tm).getD i undef)
 | [],[],_,t,tm,h,hs,hl,_,_=>⟨hs,h⟩
 | [],_::_,_,_,_,_,_,_,hn,_=>by simp at hn
 | _::_,[],_,_,_,_,_,_,hn,_=>by simp at hn
 | p::ps,e::es,vs,t,tm,h,hs,hl,hn,hp=>by
  cases hl with
  | cons h1 h2 =>
   rename_i v vs
   refine Wx ps es vs ((p,.av e)::t) (tm.setIfInBounds p v) (fun i u hu => ?_) (by simpa using hs) h2 (by simpa using hn) (fun q hq=>hp q (List.mem_cons_of_mem _ hq))
   have hpN:=hp p (List.mem_cons_self ..)
   simp only [get,CQ] at hu
   by_cases hi:p=i
   ·subst hi
    simp at hu;subst hu
    have hpt:p<tm.size:=by rw [hs];exact hpN
    have:(tm.setIfInBounds p v).getD p undef=v:=by simp [Array.getD_eq_getD_getElem?,hpt]
    rw [this];exact h1
   simp [hi] at hu
   have:(tm.setIfInBounds p v).getD i undef=tm.getD i undef:=by simp [Array.getD_eq_getD_getElem?,Array.getElem?_setIfInBounds,hi]
   rw [this];exact h i u hu
structure OwS (Ow:World->Nat->Prop) (n0:Nat):Prop where
 st:∀ W W':World,n0<=W.heap.size->(∀ b,b<W.heap.size->W'.heap[b]? = W.heap[b]?)->∀ b,Ow W' b->Ow W b
def KpS (Ow:World->Nat->Prop) (W W':World):Prop:=W.heap.size<=W'.heap.size/\(∀ b (o:Obj),W.heap[b]? = some o->o.isCells=true->¬ Ow W b->W'.heap[b]? = some o)/\∀ b,Ow W' b->Ow W b\/(W.heap.size<=b/\b<W'.heap.size)
theorem KpS.trans {Ow:World->Nat->Prop} {A B C:World} (h1:KpS Ow A B) (h2:KpS Ow B C):KpS Ow A C:=by
 refine ⟨Nat.le_trans h1.1 h2.1,fun b o hb hc ho => ?_,fun b hb => ?_⟩
 ·refine h2.2.1 b o (h1.2.1 b o hb hc ho) hc fun h => ?_
  have hl:=(Array.getElem?_eq_some_iff.1 hb).1
  rcases h1.2.2 b h with h3 | h3
  ·exact ho h3
  omega
 rcases h2.2.2 b hb with h3 | ⟨h3,h4⟩
 ·exact (h1.2.2 b h3).imp id fun h5=>⟨h5.1,Nat.lt_of_lt_of_le h5.2 h2.1⟩
 exact .inr ⟨Nat.le_trans h1.1 h3,h4⟩
def SM (P:Program) (gf:FuncId) (k:Nat) (caps:Nat->Cl) (n:Nat) (E:Fin n->List Av):Prop :=
 ∀ (M:Nat->Option Obj) (w:World) (cs:Array Value) (Ow:World->Nat->Prop),(∀ b o,M b=some o->w.heap[b]? = some o)->OwS Ow w.heap.size->(∀ b,Ow w b->b<w.heap.size/\M b=none)->cs.size=k->(∀ i,i<k->RC M (caps i) (cs.getD i undef)) ->
  ∃ encs:Fin n->Array Value,(∀ x,L2 (fun e v=>∀ σ,RA M σ e v) (E x) (encs x).toList) /\
   SeqStopsK (FW none) 1 P gf cs encs (KpS Ow) (fun xs=>xs.map Fin.val=List.range n) (fun pre=>∃ j,j<n/\pre.map Fin.val=List.range (j+1)) n w
section
variable {P:Program} {N:Nat} {W0 W W':World} {X:Nat→Option Loc} {M0 M:Nat→Option Obj} {σ:Nat→Loc} {T:Nat→Option Tv} {H:Nat→Option Blk} {a:Act}
def Blk.isM:Blk->Bool
 | .omap .. => true
 | _=>false
theorem XO (hs:Sim N W0 X M0 M σ T H a W) (hH:∀ n b,H n=some b->b.isM=false) {row:Option Nat} (hg:W.grownBy W' row) (hr:∀ r,row=some r->W0.heap.size<=r/\(∃ o:Obj,W.heap[r]? = some o/\o.isCells=false)/\M r=none):Sim N W0 X M0 M σ T H a W':=by
 have hsame:∀ b (o:Obj),W.heap[b]? = some o->(o.isCells=true\/M b=some o\/b<W0.heap.size)->W'.heap[b]? = some o:=fun b o hb hc=>by
  refine (hg.block b (Array.getElem?_eq_some_iff.1 hb).1 fun e => ?_).trans hb
  obtain ⟨h1,⟨o',h2,h3⟩,h4⟩:=hr b e.symm
  rw [hb] at h2;injection h2 with h2;subst h2
  rcases hc with h | h | h
  ·rw [h3] at h;cases h
  ·rw [h4] at h;cases h
  omega
 refine ⟨hg.os.trans hs.os,hg.tape.trans hs.tape,hg.output.trans hs.output,Nat.le_trans hs.size hg.size,fun b hb hx => ?_,hs.sub,hs.new,hs.pin,hs.defers,hs.room,hs.tmps,fun b o h=>hsame b o (hs.imm b o h) (.inr (.inl h)),fun n b h => ?_,hs.loc,hs.inj⟩
 ·have h1:=hs.old b hb hx
  have h2:W0.heap[b]? = some W0.heap[b]:=Array.getElem?_eq_getElem hb
  rw [h2] at h1 ⊢
  exact hsame b _ h1 (.inr (.inr hb))
 refine (hs.blk n b h).mono (fun _ _ h=>h) (fun _ _=>rfl) fun hn => ?_
 have hb:=hs.blk n b h
 cases b with
 | cells l ty=>obtain ⟨_,c,hc,_⟩:=hb;rw [hc];exact hsame _ _ hc (.inl rfl)
 | row sz len f ty =>
  rcases hb with ⟨h0,_⟩ | ⟨_,c,hc,_⟩
  ·rw [hn] at h0;cases h0
  rw [hc];exact hsame _ _ hc (.inl rfl)
 | omap=>have:=hH n _ h;cases this
 | rowx sz len f ty hh=>obtain ⟨_,c,hc,_⟩:=hb;rw [hc];exact hsame _ _ hc (.inl rfl)
end
end
section
open Go.RowKit
def EA (pids:List Nat) (σ:Nat->Loc) (X:Nat->Option Loc) (n:Nat):Option Loc:=bif BB pids n then some (σ n) else X n
def FF (fid:Nat) (fl:Loc) (X:Nat->Option Loc) (n:Nat):Option Loc:=bif Nat.beq n fid then some fl else X n
def NW (M1 M3:Nat->Option Obj) (b:Nat):Option Obj:=match M1 b with
 | some o=>some o
 | none=>match M3 b with
  | some (.cells c t f)=>some (.cells c t f)
  | _=>none
def Cln (M M':Nat->Option Obj):Prop:=(∀ b o,M b=some o->M' b=some o)/\∀ b o,M' b=some o->o.isCells=false->M b=some o
theorem PE {M1 M3:Nat->Option Obj} (h:∀ b o,M1 b=some o->M3 b=some o) {b:Nat} {o:Obj} (hb:NW M1 M3 b=some o):M3 b=some o:=by
 unfold NW at hb
 cases h1:M1 b with
 | some o'=>rw [h1] at hb;injection hb with hb;subst hb;exact h b _ h1
 | none =>
  rw [h1] at hb
  cases h3:M3 b with
  | none=>rw [h3] at hb;cases hb
  | some o' =>
   rw [h3] at hb
   cases o' with
   | cells c t f=>exact hb
   | _=>cases hb
theorem QP {M1 M3:Nat->Option Obj} {b:Nat} {o:Obj} (h:M1 b=some o):NW M1 M3 b=some o:=by unfold NW;rw [h]
theorem PF {M1 M3:Nat->Option Obj} (h:∀ b o,M1 b=some o->M3 b=some o) (b:Nat) (c:Array Value) (t:TypeId) (f:Nat×Nat) (h3:M3 b=some (.cells c t f)):NW M1 M3 b=some (.cells c t f):=by
 unfold NW
 cases h1:M1 b with
 | some o'=>have:=h b _ h1;rw [h3] at this;injection this with this;rw [this]
 | none=>simp only [h3]
theorem Tq {M M1 M3:Nat->Option Obj} (hc:Cln M M1) (h:∀ b o,M1 b=some o->M3 b=some o):Cln M (NW M1 M3):=by
 refine ⟨fun b o hb=>QP (hc.1 b o hb),fun b o hb ho => ?_⟩
 unfold NW at hb
 cases h1:M1 b with
 | some o'=>rw [h1] at hb;injection hb with hb;subst hb;exact hc.2 b _ h1 ho
 | none =>
  rw [h1] at hb
  cases h3:M3 b with
  | none=>rw [h3] at hb;cases hb
  | some o' =>
   rw [h3] at hb
   cases o' with
   | cells c t f=>injection hb with hb;subst hb;cases ho
   | _=>cases hb
section
variable {P:Program} {N:Nat} {W0 W W' w:World} {X:Nat→Option Loc} {M0 M M' M3:Nat→Option Obj} {σ σ' σ3:Nat→Loc} {T T':Nat→Option Tv} {H H':Nat→Option Blk} {a a':Act} {pids:List Nat} {fid:Nat} {fl:Loc}
theorem X6 {q:Nat} (hq:X q=some (σ q)) (hfl:fl.b=(σ q).b) {b:Nat} (h:inX (FF fid fl X) b):inX X b:=by
 obtain ⟨n,x,hn,hb⟩:=h
 unfold FF at hn
 cases hm:Nat.beq n fid with
 | true=>rw [hm] at hn;injection hn with hn;subst hn;exact ⟨q,_,hq,by rw [<- hfl];exact hb⟩
 | false=>rw [hm] at hn;exact ⟨n,x,hn,hb⟩
theorem Zz (hs:Sim N W0 (EA pids σ X) M0 M' σ' T H a W) {a2:Act} (hd:a2.defers=[]) (hr:a2.tmps.size=N) (hfN:N<=fid) (hfp:BB pids fid=false)
  (hT:∀ i v,T' i=some v->RT M' σ' v (a2.tmps.getD i undef)) (hTf:∀ i v,T' i=some v->v.no fid=true) (hHf:∀ n b,H n=some b->n≠fid/\b.no fid=true/\n∈pids) (hXf:X fid=none) (hmem:∀ n,n∈pids->BB pids n=true) :
  Sim N W (FF fid fl (EA pids σ X)) M' M' (upd σ' fid fl) T' H a2 W:=by
 have hu:∀ d,d≠fid->upd σ' fid fl d=σ' d:=fun d hd=>by
  unfold upd
  cases hb:Nat.beq d fid with
  | true=>exact absurd (Nat.eq_of_beq_eq_true hb) hd
  | false=>rfl
 refine ⟨rfl,rfl,rfl,Nat.le_refl _,fun _ _ _=>rfl,fun _ _ h=>h,fun b o h h'=>by (rw [h] at h';cases h'),fun n x hn => ?_,?_,hr,fun i v hv => ?_,hs.imm,fun n b hb => ?_,fun n b hb => ?_,fun n m b c hb hc hne => ?_⟩
 ·unfold FF at hn
  cases hm:Nat.beq n fid with
  | true =>
   rw [hm] at hn;injection hn with hn
   have:=Nat.eq_of_beq_eq_true hm
   subst this
   exact ⟨hfN,by unfold upd;rw [hm];exact hn⟩
  | false =>
   rw [hm] at hn
   have h1:=hs.pin n x hn
   exact ⟨h1.1,by unfold upd;rw [hm];exact h1.2⟩
 ·exact ⟨by rw [hd];trivial,fun _=>hd⟩
 ·exact EP (fun _ _ h=>h) (fun d hd=>hu d (fun e=>by subst e;rw [hTf i v hv] at hd;cases hd)) (hT i v hv)
 ·obtain ⟨h1,h2,h3⟩:=hHf n b hb
  rw [hu n h1]
  exact (hs.blk n b hb).mono (fun _ _ h=>h) (fun d hd=>hu d (fun e=>by subst e;rw [h2] at hd;cases hd)) (fun _=>rfl)
 ·obtain ⟨h1,h2,h3⟩:=hHf n b hb
  rw [hu n h1]
  refine (hs.loc n b hb).imp id fun h=>⟨h.1,.inr ⟨n,σ' n,?_,rfl⟩⟩
  have hp:EA pids σ X n=some (σ n):=by unfold EA;rw [hmem n h3];rfl
  have hb:Nat.beq n fid=false:=by rw [CQ];simp [h1]
  unfold FF
  rw [hb]
  show EA pids σ X n=some (σ' n)
  rw [hp,(hs.pin n _ hp).2]
 rw [hu n (hHf n b hb).1,hu m (hHf m c hc).1]
 exact hs.inj n m b c hb hc hne
theorem RW {XA Xr X2:Nat->Option Loc} (hs:Sim N W0 XA M0 M' σ' T H a W) (hr:Sim N W Xr M' M3 σ3 T' H' a' W') (hin:∀ b,inX Xr b->inX XA b\/W0.heap.size<=b)
  {H2:Nat->Option Blk} (hH2:∀ n b,H2 n=some b->H' n=some b) (hH:∀ n b,H2 n=some b->BkM b) {a2:Act} {T2:Nat->Option Tv} (hsz:a2.tmps.size=N) (hT2:∀ i v,T2 i=some v->RT (NW M' M3) σ3 v (a2.tmps.getD i undef)) (hX2:∀ n x,X2 n=some x->N<=n/\σ3 n=x) (hX3:∀ b,inX XA b↔inX X2 b) (hd:IA X2 M0 (NW M' M3) a2.defers) :
  Sim N W0 X2 M0 (NW M' M3) σ3 T2 H2 a2 W':=by
 have hsub:∀ b o,M' b=some o->M3 b=some o:=hr.sub
 refine ⟨hr.os.trans hs.os,hr.tape.trans hs.tape,hr.output.trans hs.output,Nat.le_trans hs.size hr.size,fun b hb hx => ?_,fun b o h=>QP (hs.sub b o h),fun b o h h' => ?_,hX2,hd,hsz,hT2,fun b o h=>hr.imm b o (PE hsub h),fun n b h=>YJ (PF hsub) (hr.blk n b (hH2 n b h)) (hH n b h),fun n b h => ?_,fun n m b c hb hc hne=>hr.inj n m b c (hH2 n b hb) (hH2 m c hc) hne⟩
 ·have h1:¬ inX XA b:=fun h=>hx ((hX3 b).1 h)
  refine (hr.old b (Nat.lt_of_lt_of_le hb hs.size) fun h => ?_).trans (hs.old b hb h1)
  rcases hin b h with h | h
  ·exact h1 h
  omega
 ·cases h1:M' b with
  | some o'=>exact hs.new b o' h1 h'
  | none=>exact Nat.le_trans hs.size (hr.new b o (PE hsub h) h1)
 refine (hr.loc n b (hH2 n b h)).imp id fun h=>⟨?_,?_⟩
 ·cases hc:NW M' M3 (σ3 n).b with
  | none=>rfl
  | some o=>have:=PE hsub hc;rw [h.1] at this;cases this
 rcases h.2 with h | h
 ·exact .inl (Nat.le_trans hs.size h)
 rcases hin _ h with h | h
 ·exact .inr ((hX3 _).1 h)
 exact .inl h
theorem Z0 {XF:Nat->Option Loc} {p1:List Nat} (hs:Sim N W0 XF M0 M' σ' T H a W) (hd:a.defers=[]) (hN:∀ n∈p1,N<=n) (hH:∀ n b,H n=some b->BB p1 n=true):Sim N W (EA p1 σ' XF) M' M' σ' T H a W:=by
 refine ⟨rfl,rfl,rfl,Nat.le_refl _,fun _ _ _=>rfl,fun _ _ h=>h,fun b o h h'=>by (rw [h] at h';cases h'),fun n x hn => ?_,⟨by rw [hd];trivial,fun _=>hd⟩,hs.room,hs.tmps,hs.imm,hs.blk,fun n b hb => ?_,hs.inj⟩
 ·unfold EA at hn
  cases hm:BB p1 n with
  | true=>rw [hm] at hn;injection hn with hn;exact ⟨hN n (Hy hm),hn⟩
  | false=>rw [hm] at hn;exact hs.pin n x hn
 exact (hs.loc n b hb).imp id fun h=>⟨h.1,.inr ⟨n,σ' n,by unfold EA;rw [hH n b hb];rfl,rfl⟩⟩
end
end
section
open Go.RowKit
def kN (Q:Exit->AS->Prop) (t0:List (Nat×Tv)) (h0:List (Nat×Blk)) (Fm:Nat->Prop) (x:Nat):Exit->AS->Prop
 | .normal,s'=>(∀ n b,get h0 n=some b->get s'.h n=some b)/\(Fm x->Fm (x+1))
 | .ret,s'=>HsM s'.h/\(Fm x->Q .ret ⟨t0,s'.h⟩)
 | .exit id,s'=>HsM s'.h/\(Fm x->Q (.exit id) ⟨t0,s'.h⟩)
 | _,_=>False
def QC (Q:Exit->AS->Prop):Code->AS->Prop
 | .ret,s=>Q .ret s
 | .exit id,s=>Q (.exit id) s
 | _,_=>False
def Blk.isC:Blk->Bool
 | .cells .. => true
 | _=>false
theorem Wq {b:Blk} (h:b.isC=true):b.isM=false:=by cases b <;> first | rfl | cases h
theorem W9 {b:Blk} (h:BkM b):b.isM=false:=by cases b <;> first | rfl | exact h.elim
theorem Ps {pre:List Nat} {x:Nat} (h:pre++[x]=List.range (pre.length+1)):pre=List.range pre.length/\x=pre.length:=by
 rw [List.range_succ] at h
 have:=List.append_inj h (by simp)
 exact ⟨this.1,by simpa using this.2⟩
def Sr (D:Nat) (M:Nat->Option Obj) (b:Nat):Option Obj:=bif Nat.beq b D then some (.deferred (some [])) else M b
theorem W4 {M0 M:Nat->Option Obj}:∀ {l:List Deferred} {d:Deferred},HQ M0 M l->d∈l->∃ D,d={ target:=.collected D,args := #[] }/\M D=some (.deferred (some []))
 | d0::l,d,h,hd=>by
  rcases List.mem_cons.1 hd with rfl | hd
  ·obtain ⟨⟨D,h1,h2,_⟩,_⟩:=h
   exact ⟨D,h1,h2⟩
  exact W4 h.2 hd
theorem Zy {N:Nat} {W0 W:World} {XA X:Nat->Option Loc} {M0 M:Nat->Option Obj} {σ:Nat->Loc} {T:Nat->Option Tv} {H:Nat->Option Blk} {a:Act} {D:Nat} (hs:Sim N W0 XA M0 M σ T H a W)
  (hD:W.heap[D]? = some (.deferred (some []))) (hD0:M0 D=none) (hDl:W0.heap.size<=D) (hne:∀ d'∈a.defers,d'≠{ target:=.collected D,args := #[] }) (hpin:∀ m x,X m=some x->N<=m/\σ m=x) (hXA:∀ b,inX XA b->W0.heap.size<=b\/inX X b) (hnf:¬ Na X) :
  Sim N W0 X M0 (Sr D M) σ T H { a with defers:={ target:=.collected D,args := #[] }::a.defers } W:=by
 have hM:∀ b o,M b=some o->Sr D M b=some o:=fun b o h=>by
  unfold Sr
  cases hb:Nat.beq b D with
  | true =>
   have:=Nat.eq_of_beq_eq_true hb
   subst this
   have h2:=hs.imm b o h
   rw [hD] at h2
   exact h2
  | false=>exact h
 have hput:Sr D M D=some (.deferred (some [])):=by unfold Sr;rw [Nat.beq_refl];rfl
 have hoth:∀ b,b≠D->Sr D M b=M b:=fun b h=>by unfold Sr;rw [show Nat.beq b D=false by rw [CQ];simp [h]];rfl
 refine ⟨hs.os,hs.tape,hs.output,hs.size,fun b hb hx=>hs.old b hb fun h => ?_,fun b o h=>hM b o (hs.sub b o h),fun b o h h' => ?_,hpin,⟨⟨⟨D,rfl,hput,hD0,hne⟩,HQ.mono hM hs.defers.1⟩,fun h=>absurd h hnf⟩,hs.room,fun i v h=>EP hM (fun _ _=>rfl) (hs.tmps i v h),fun b o h => ?_,fun n b h=>(hs.blk n b h).mono hM (fun _ _=>rfl) (fun _=>rfl),fun n b h => ?_,hs.inj⟩
 ·rcases hXA b h with h | h
  ·omega
  exact hx h
 ·by_cases e:b=D
  ·subst e;exact hDl
  rw [hoth b e] at h;exact hs.new b o h h'
 ·by_cases e:b=D
  ·subst e;rw [hput] at h;injection h with h;subst h;exact hD
  rw [hoth b e] at h;exact hs.imm b o h
 by_cases hn:(σ n).nil=true
 ·exact .inl hn
 rcases hs.loc n b h with h1 | ⟨h1,h2⟩
 ·exact .inl h1
 refine .inr ⟨?_,?_⟩
 ·rw [hoth _ fun e => ?_]
  ·exact h1
  have h3:=hs.blk n b h
  cases b with
  | cells l ty=>obtain ⟨_,c,hc,_⟩:=h3;rw [e,hD] at hc;cases hc
  | row sz len f ty =>
   rcases h3 with ⟨h4,_⟩ | ⟨_,c,hc,_⟩
   ·exact hn h4
   rw [e,hD] at hc;cases hc
  | omap=>obtain ⟨_,es,ck,g,hc,_⟩:=h3;rw [e,hD] at hc;cases hc
  | rowx=>obtain ⟨_,c,hc,_⟩:=h3;rw [e,hD] at hc;cases hc
 rcases h2 with h2 | h2
 ·exact .inl h2
 exact hXA _ h2
section
variable {P:Program} {N:Nat} {W0:World} {X:Nat→Option Loc} {M0:Nat→Option Obj}
theorem dZ {Q:Exit->AS->Prop} {g:Operand} {ps:Array Tmp} {assign body:Code} {t0:List (Nat×Tv)} {h0:List (Nat×Blk)} (pids:List Nat) (fid q:Nat) {gf:FuncId} {k:Nat} {caps:Nat->Cl} {n:Nat} {E:Fin n->List Av} (S1:Fin n->AS) (Fm:Nat->Prop)
  (hnf:¬ Na X) (hXf:X fid=none) (hXp:∀ m x,X m=some x->BB pids m=true)
  (hg:evT (get t0) g=some (.av (.one (.clo gf k caps)))) (hcd:(Cl.clo gf k caps).dv=true) (eg:∀ args w,(callFunc gf args).run P w=.ok (.enter gf args) w)
  (It:SM P gf k caps n E) (hE:∀ x,(E x).length=ps.size) (hps:∀ p∈ps.toList,p<N)
  (hpv:∀ i v,get t0 i=some v->pvT pids v=true/\v.no fid=true) (hh:∀ m b,get h0 m=some b->BB pids m=true/\b.isC=true/\b.no fid=true/\m≠fid) (hpc:∀ m,BB pids m=true->∃ b,get h0 m=some b) (hfp:BB pids fid=false) (hfN:N<=fid) (hpN:∀ m∈pids,N<=m)
  (hmem:∀ m∈pids,BB pids m=true) (hq:BB pids q=true) (hEf:∀ x i v,get (OW t0 ps.toList (E x)) i=some v->v.no fid=true)
  (hm:HsM h0) (hS1:∀ x,TsM (S1 x).t/\HsM (S1 x).h/\(∀ m b,get h0 m=some b->get (S1 x).h m=some b)/\(∀ m b,get (S1 x).h m=some b->BB pids m=true/\b.isC=true))
  (hF:Fm 0)
  (hassign:∀ l W1 M1 X1 x,PX pids X1->AWp P (some l) N W1 X1 M1 assign (fun e s'=>e=.normal/\s'=S1 x) ⟨OW t0 ps.toList (E x),h0⟩)
  (hbody:∀ l W1 M1 X1 x,PX pids X1->AWp P (some l) N W1 X1 M1 body (kN Q t0 h0 Fm x.val) (S1 x))
  (hdone:Fm n->Q .normal ⟨t0,h0⟩):AWp P none N W0 X M0 (.rangeFunc g ps assign body) Q ⟨t0,h0⟩:=by
 intro M σ a w hs
 have hcell:∀ m,BB pids m=true->(σ m).nil=false:=fun m hm'=>by
  obtain ⟨b,hb⟩:=hpc m hm'
  have h1:=hs.blk m b hb
  have h2:=(hh m b hb).2.1
  cases b with
  | cells l ty=>exact h1.1
  | row=>cases h2
  | omap=>cases h2
  | rowx=>cases h2
 -- the iterator's value
 have hgv:=Hm hs.tmps hg
 obtain ⟨cs,hgv1,hgv2,hgv3⟩:=hgv
 have hcaps:∀ i,i<k->RC M (caps i) (cs.getD i undef):=fun i hi=>(Lw (List.all_eq_true.1 hcd i (List.mem_range.2 hi))).1 (hgv3 i hi)
 obtain ⟨encs,henc,hseq⟩:=It M w cs (fun _ b=>∃ m,BB pids m=true/\(σ m).b=b) hs.imm ⟨fun _ _ _ _ _ h=>h⟩ (fun b ⟨m,hmm,hb⟩=>by
  obtain ⟨bk,hbk⟩:=hpc m hmm
  have h1:=(hs.blk m bk hbk).lt (hcell m hmm)
  rcases hs.loc m bk hbk with h | ⟨h,_⟩
  ·rw [hcell m hmm] at h;cases h
  rw [hb] at h h1;exact ⟨h1,h⟩) hgv2 hcaps
 have hsz:∀ x,(encs x).size=ps.size:=fun x=>by
  have:=(henc x).length
  rw [hE x] at this
  simpa using this.symm
 -- names
 have hXP:∀ m x,EA pids σ X m=some x->m≠fid/\N<=m/\σ m=x:=fun m x hx=>by
  unfold EA at hx
  cases hmm:BB pids m with
  | true=>rw [hmm] at hx;injection hx with hx;exact ⟨fun e=>(by subst e;rw [hfp] at hmm;cases hmm),hpN m (Hy hmm),hx⟩
  | false=>rw [hmm] at hx;rw [hXp m x hx] at hmm;cases hmm
 have hXPm:∀ m x,EA pids σ X m=some x->BB pids m=true:=fun m x hx=>by
  unfold EA at hx
  cases hmm:BB pids m with
  | true=>rfl
  | false=>rw [hmm] at hx;rw [hXp m x hx] at hmm;cases hmm
 have hPp:∀ m,BB pids m=true->EA pids σ X m=some (σ m):=fun m h=>by unfold EA;rw [h];rfl
 have hflat:Na (FF fid ⟨(σ q).b,424242,true⟩ (EA pids σ X)):=⟨fid,_,by unfold FF;rw [Nat.beq_refl];rfl,rfl,rfl⟩
 have hFP:∀ b,inX (EA pids σ X) b↔inX (FF fid ⟨(σ q).b,424242,true⟩ (EA pids σ X)) b:=fun b=>by
  constructor
  ·rintro ⟨m,x,h1,h2⟩
   refine ⟨m,x,?_,h2⟩
   unfold FF
   rw [show Nat.beq m fid=false by rw [CQ];simp [(hXP m x h1).1]]
   exact h1
  exact X6 (fl:=⟨(σ q).b,424242,true⟩) (hPp q hq) rfl
 have hinO:∀ b,inX (FF fid ⟨(σ q).b,424242,true⟩ (EA pids σ X)) b->∃ m,BB pids m=true/\(σ m).b=b:=fun b hb=>by
  obtain ⟨m,x,h1,h2⟩:=(hFP b).2 hb
  have hmm:=hXPm m x h1
  rw [hPp m hmm] at h1;injection h1 with h1;subst h1
  exact ⟨m,hmm,h2⟩
 have hPX:∀ b,inX (EA pids σ X) b->W0.heap.size<=b\/inX X b:=fun b ⟨m,x,h1,h2⟩=>by
  have hmm:=hXPm m x h1
  rw [hPp m hmm] at h1;injection h1 with h1;subst h1
  obtain ⟨b',hb'⟩:=hpc m hmm
  rcases hs.loc m b' hb' with h | ⟨_,h⟩
  ·rw [hcell m hmm] at h;cases h
  rw [h2] at h;exact h
 have hflatP:∀ M4,(∀ b o,M b=some o->M4 b=some o)->IA (EA pids σ X) M0 M4 a.defers:=fun M4 h4=>⟨HQ.mono h4 hs.defers.1,fun ⟨m,x,h1,h2,_⟩=>by
  have hmm:=hXPm m x h1
  rw [hPp m hmm] at h1;injection h1 with h1;subst h1
  rw [hcell m hmm] at h2;cases h2⟩
 have hT0:∀ (M4:Nat->Option Obj) (σ4:Nat->Loc),(∀ b o,M b=some o->M4 b=some o)->(∀ m,BB pids m=true->σ4 m=σ m)->∀ i v,get t0 i=some v->RT M4 σ4 v (a.tmps.getD i undef):=fun M4 σ4 h4 hσ i v hv =>
  EP h4 (fun d hd=>hσ d (hmem d (aA (hpv i v hv).1 hd))) (hs.tmps i v hv)
 have hs0:Sim N W0 (EA pids σ X) M0 M σ (get t0) (get h0) a w:=⟨hs.os,hs.tape,hs.output,hs.size,fun b hb hx=>hs.old b hb fun ⟨m,x,h1,h2⟩=>hx ⟨m,σ m,hPp m (hXp m x h1),by rw [(hs.pin m x h1).2];exact h2⟩,hs.sub,hs.new,fun m x hx=>⟨(hXP m x hx).2.1,(hXP m x hx).2.2⟩,hflatP M (fun _ _ h=>h),hs.room,hs.tmps,hs.imm,hs.blk,fun m b hb=>.inr ⟨by
   rcases hs.loc m b hb with h | h
   ·rw [hcell m (hh m b hb).1] at h;cases h
   exact h.1,.inr ⟨m,σ m,hPp m (hh m b hb).1,rfl⟩⟩,hs.inj⟩
 have hlt:∀ b o,M b=some o->b<w.heap.size:=fun b o h=>(Array.getElem?_eq_some_iff.1 (hs.imm b o h)).1
 have hCgrow:∀ {X':Nat->Option Loc} {M1:Nat->Option Obj} {σ1:Nat->Loc} {T:Nat->Option Tv} {H:Nat->Option Blk} {b:Act} {A B:World} {row:Option Nat},Sim N W0 X' M0 M1 σ1 T H b A->(∀ n b,H n=some b->b.isM=false)->Cln M M1->A.grownBy B row->(∀ r,row=some r->w.heap.size<=r/\∃ o:Obj,A.heap[r]? = some o/\o.isCells=false)->Sim N W0 X' M0 M1 σ1 T H b B:=by
  intro X' M1 σ1 T H b A B row h1 hH h2 h3 h4
  refine XO h1 hH h3 fun r e => ?_
  exact by
   obtain ⟨h5,o,h6,h7⟩:=h4 r e
   refine ⟨Nat.le_trans hs.size h5,⟨o,h6,h7⟩,?_⟩
   cases hM1:M1 r with
   | none=>rfl
   | some o' =>
    have h8:=h1.imm r o' hM1
    rw [h6] at h8;injection h8 with h8;subst h8
    have:=hlt r _ (h2.2 r _ hM1 h7)
    omega
 -- what holds between two rounds,and within one
 obtain ⟨XP,hXPd⟩:∃ XP,EA pids σ X=XP:=⟨_,rfl⟩
 obtain ⟨XF,hXFd⟩:∃ XF,FF fid ⟨(σ q).b,424242,true⟩ (EA pids σ X)=XF:=⟨_,rfl⟩
 let SI:World->Prop:=fun W=>∃ M' σ',Sim N W0 (EA pids σ X) M0 M' σ' (get t0) (get h0) a W/\Cln M M'
 let Ax:Fin n->Act->World->Prop:=fun x a' W=>∃ M' σ',Sim N W0 (FF fid ⟨(σ q).b,424242,true⟩ (EA pids σ X)) M0 M' σ' (get (S1 x).t) (get (S1 x).h) a' W/\Cln M M'
 have hcells:∀ {X':Nat->Option Loc} {M1:Nat->Option Obj} {σ1:Nat->Loc} {T:Nat->Option Tv} {H:Nat->Option Blk} {b:Act} {A:World},Sim N W0 X' M0 M1 σ1 T H b A->∀ m x,H m=some x->x.isC=true->∃ o:Obj,A.heap[(σ1 m).b]? = some o/\o.isCells=true:=fun h1 m x hx hc=>by
  have h2:=h1.blk m x hx
  cases x with
  | cells l ty=>obtain ⟨_,c,h3,_⟩:=h2;exact ⟨_,h3,rfl⟩
  | row=>cases hc
  | omap=>cases hc
  | rowx=>cases hc
 have hσP:∀ {X':Nat->Option Loc} {M1:Nat->Option Obj} {σ1:Nat->Loc} {T:Nat->Option Tv} {H:Nat->Option Blk} {b:Act} {A W1:World} {Mb:Nat->Option Obj},Sim N W1 X' Mb M1 σ1 T H b A->(∀ m,BB pids m=true->X' m=some (σ m))->∀ m,BB pids m=true->σ1 m=σ m:=fun h1 h2 m hmm=>(h1.pin m _ (h2 m hmm)).2
 have hFpin:∀ m,BB pids m=true->FF fid ⟨(σ q).b,424242,true⟩ (EA pids σ X) m=some (σ m):=fun m hmm=>by
  unfold FF
  rw [show Nat.beq m fid=false by rw [CQ];simp;intro e;subst e;rw [hfp] at hmm;cases hmm]
  exact hPp m hmm
 have hPXF:PX pids (FF fid ⟨(σ q).b,424242,true⟩ (EA pids σ X)):=fun m y hy=>by
  by_cases hm2:m=fid
  ·subst hm2
   unfold FF at hy
   rw [Nat.beq_refl] at hy
   injection hy with hy;subst hy
   exact ⟨q,hq,σ q,hFpin q hq,rfl⟩
  unfold FF at hy
  rw [show Nat.beq m fid=false by rw [CQ];simp [hm2]] at hy
  have hmm:=hXPm m y hy
  exact ⟨m,hmm,y,by unfold FF;rw [show Nat.beq m fid=false by rw [CQ];simp [hm2]];exact hy,rfl⟩
 refine wpIn_wide.2 ((wpIn_wide (n:=2)).1 ?_)
 refine wpIn_rangeFunc_ownH (F:=FW none) (n:=2) rfl (by decide) hgv1 trivial eg hseq KpS.trans (fun W l o o' hl ho hoc hw=>⟨by simp,fun b o2 hb hb2 _ => ?_,fun b hb=>.inl hb⟩) (Below.refl _ _) hsz
  (fun pre W=>SI W/\(pre.map Fin.val=List.range pre.length->Fm pre.length))
  (fun c pre W=>∃ hx,(∃ M' σ',Sim N W0 (EA pids σ X) M0 M' σ' (get t0) (get hx) a W/\Cln M M')/\(∀ j,pre.map Fin.val=List.range (j+1)->QC Q c ⟨t0,hx⟩)/\∀ n b,get hx n=some b->b.isM=false)
  ?hI ?hIx ⟨⟨M,σ,hs0,fun _ _ h=>h,fun _ _ h _=>h⟩,fun _=>hF⟩ Ax ?hAx ?assign ?body ?done ?stop
 ·rw [World.putObj_heap_other (fun e=>by subst e;rw [ho] at hb;injection hb with hb;subst hb;rw [hoc] at hb2;cases hb2)]
  exact hb
 case hI =>
  rintro pre A B row ⟨⟨M',σ',h1,h2⟩,h3⟩ hg' hr
  exact ⟨⟨M',σ',hCgrow h1 (fun m b hb=>Wq (hh m b hb).2.1) h2 hg' hr,h2⟩,h3⟩
 case hIx =>
  rintro c pre A B row ⟨hx,⟨M',σ',h1,h2⟩,h3,hnm⟩ hg' hr
  exact ⟨hx,⟨M',σ',hCgrow h1 hnm h2 hg' hr,h2⟩,h3,hnm⟩
 case hAx =>
  rintro x a' _ A B row ⟨M',σ',h1,h2⟩ hg' hr
  exact ⟨M',σ',hCgrow h1 (fun m b hb=>Wq ((hS1 x).2.2.2 m b hb).2) h2 hg' hr,h2⟩
 case assign =>
  rintro l pre x W K ⟨⟨M',σ',h1,h2⟩,h3⟩ hK
  have hσ':=hσP h1 hPp
  obtain ⟨hfs,hft⟩:=Wx ps.toList (E x) (encs x).toList t0 a.tmps (hT0 M' σ' h2.1 hσ') hs.room ((henc x).mono fun e _ v hv=>Nm h2.1 (fun _ _=>rfl) (hv σ')) (by simpa using (hE x).symm) hps
  have efold:(ps.zip (encs x)).foldl (fun t (p,v)=>t.setIfInBounds p v) a.tmps=(ps.toList.zip (encs x).toList).foldl (fun t (y:Tmp×Value)=>t.setIfInBounds y.1 y.2) a.tmps:=by
   rw [<- Array.foldl_toList,Array.toList_zip]
  rw [efold]
  have hin:=Zz (fid:=fid) (fl:=⟨(σ q).b,424242,true⟩) (T':=get (OW t0 ps.toList (E x))) h1 (a2:={ tmps:=_,defers:=[] }) rfl hfs hfN hfp hft (hEf x) (fun m b hb=>⟨(hh m b hb).2.2.2,(hh m b hb).2.2.1,Hy (hh m b hb).1⟩) hXf hmem
  refine wpIn_mono (hassign l W M' _ x hPXF M' _ _ W hin) ?_
  rintro e a' W' ⟨s',M3,σ3,⟨rfl,rfl⟩,hr⟩
  have hC:=Tq h2 hr.sub
  have hσ3:=hσP hr hFpin
  refine hK a' W' ⟨hr.size,fun b o hb ho hoc => ?_⟩ ⟨hr.size,fun b o hb hb2 ho=>(hr.old b (Array.getElem?_eq_some_iff.1 hb).1 (fun hX=>ho (hinO b hX))).trans hb,fun b hb=>.inl hb⟩ ⟨⟨_,σ3,RW (T2:=get t0) (H2:=get h0) (a2:=a) h1 hr (fun b hb=>.inl ((hFP b).2 hb)) (hS1 x).2.2.1 (fun m b hb=>hm m b hb) hs.room (hT0 _ σ3 hC.1 hσ3) (fun m y hy => ?_) (fun b=>Iff.rfl) (hflatP _ hC.1),hC⟩,h3⟩ ⟨_,σ3,RW (T2:=get (S1 x).t) (H2:=get (S1 x).h) (a2:=a') h1 hr (fun b hb=>.inl ((hFP b).2 hb)) (fun _ _ h=>h) (hS1 x).2.1 hr.room (fun i v hv=>eM (PF hr.sub) (hr.tmps i v hv) ((hS1 x).1 i v hv)) (fun m y hy=>hr.pin m y hy) hFP ⟨by rw [hr.defers.2 hflat];trivial,fun _=>hr.defers.2 hflat⟩,hC⟩
  ·have hblt:=(Array.getElem?_eq_some_iff.1 ho).1
   refine (hr.old b hblt fun hX => ?_).trans ho
   obtain ⟨m,y,hy,hb2⟩:=(hFP b).2 hX
   have hmm:=hXPm m y hy
   rw [hPp m hmm] at hy;injection hy with hy;subst hy
   obtain ⟨bb,hbb⟩:=hpc m hmm
   obtain ⟨o2,h4,h5⟩:=hcells h1 m bb hbb (hh m bb hbb).2.1
   rw [hσ' m hmm,hb2,ho] at h4;injection h4 with h4;subst h4
   rw [hoc] at h5;cases h5
  have hmm:=hXPm m y hy
  refine ⟨(hXP m y hy).2.1,(hσ3 m hmm).trans (hXP m y hy).2.2⟩
 case body =>
  rintro l pre x a' W hl hrec ⟨_,hFm⟩ ⟨M',σ',h1,h2⟩ hlen
  have hd:a'.defers=[]:=h1.defers.2 hflat
  have hb1:=Z0 (p1:=pids) h1 hd hpN (fun m b hb=>((hS1 x).2.2.2 m b hb).1)
  have hσ':=hσP h1 hFpin
  have hXB:∀ b,inX (EA pids σ' (FF fid ⟨(σ q).b,424242,true⟩ (EA pids σ X))) b->(inX (FF fid ⟨(σ q).b,424242,true⟩ (EA pids σ X)) b\/W0.heap.size<=b)/\∃ o:Obj,W.heap[b]? = some o/\o.isCells=true:=by
   rintro b ⟨m,y,hy,hyb⟩
   unfold EA at hy
   cases hmm:BB pids m with
   | true =>
    rw [hmm] at hy;injection hy with hy;subst hy
    obtain ⟨bb,hbb0⟩:=hpc m hmm
    have hbb:=(hS1 x).2.2.1 m bb hbb0
    have hc:=hcells h1 m bb hbb ((hS1 x).2.2.2 m bb hbb).2
    rw [hyb] at hc
    refine ⟨?_,hc⟩
    have hnil:(σ' m).nil=false:=by
     have h5:=h1.blk m bb hbb
     have h6:=((hS1 x).2.2.2 m bb hbb).2
     cases bb with
     | cells l ty=>exact h5.1
     | row=>cases h6
     | omap=>cases h6
     | rowx=>cases h6
    rcases h1.loc m bb hbb with h | ⟨_,h⟩
    ·rw [hnil] at h;cases h
    rw [hyb] at h;exact h.symm
   | false =>
    rw [hmm] at hy
    have hin:inX (FF fid ⟨(σ q).b,424242,true⟩ (EA pids σ X)) b:=⟨m,y,hy,hyb⟩
    refine ⟨.inl hin,?_⟩
    obtain ⟨m2,y2,hy2,hb2⟩:=(hFP b).2 hin
    have hmm2:=hXPm m2 y2 hy2
    rw [hPp m2 hmm2] at hy2;injection hy2 with hy2;subst hy2
    obtain ⟨bb,hbb⟩:=hpc m2 hmm2
    have hc:=hcells h1 m2 bb ((hS1 x).2.2.1 m2 bb hbb) (hh m2 bb hbb).2.1
    rw [hσ' m2 hmm2,hb2] at hc
    exact hc
  refine wpIn_mono (hbody l W M' _ x (fun m y hy=>by
   unfold EA at hy
   cases hmm:BB pids m with
   | true=>rw [hmm] at hy;injection hy with hy;subst hy;exact ⟨m,hmm,σ' m,by unfold EA;rw [hmm];rfl,rfl⟩
   | false =>
    rw [hmm] at hy
    obtain ⟨q2,hq2,y2,hy2,he2⟩:=hPXF m y hy
    refine ⟨q2,hq2,σ' q2,by unfold EA;rw [hq2];rfl,?_⟩
    rw [hFpin q2 hq2] at hy2;injection hy2 with hy2;subst hy2
    rw [hσ' q2 hq2];exact he2) M' _ _ W hb1) ?_
  rintro e a2 W' ⟨s',M3,σ3,hpost,hr⟩
  have hC:=Tq h2 hr.sub
  have hXBp:∀ m,BB pids m=true->EA pids σ' (FF fid ⟨(σ q).b,424242,true⟩ (EA pids σ X)) m=some (σ m):=fun m hmm=>by
   unfold EA
   cases hm1:BB pids m with
   | true=>rw [<- hσ' m hmm];rfl
   | false=>exact hFpin m hmm
  have hσ3:=hσP hr hXBp
  have hkeep:KeepsFrom w.heap.size W W':=⟨hr.size,fun b o hb ho hoc=>by
   refine (hr.old b (Array.getElem?_eq_some_iff.1 ho).1 fun hX => ?_).trans ho
   obtain ⟨_,o2,h4,h5⟩:=hXB b hX
   rw [ho] at h4;injection h4 with h4;subst h4
   rw [hoc] at h5;cases h5⟩
  have hKp:KpS (fun _ b=>∃ m,BB pids m=true/\(σ m).b=b) W W':=⟨hr.size,fun b o hb hb2 ho=>(hr.old b (Array.getElem?_eq_some_iff.1 hb).1 (fun ⟨m,y,hy,hyb⟩=>by
   unfold EA at hy
   cases hmm:BB pids m with
   | true=>rw [hmm] at hy;injection hy with hy;subst hy;exact ho ⟨m,hmm,by rw [<- hσ' m hmm];exact hyb⟩
   | false=>rw [hmm] at hy;exact ho (hinO b ⟨m,y,hy,hyb⟩))).trans hb,fun b hb=>.inl hb⟩
  have hsim:∀ hx:List (Nat×Blk),(∀ m b,get hx m=some b->get s'.h m=some b)->HsM hx->∃ M' σ',Sim N W0 (EA pids σ X) M0 M' σ' (get t0) (get hx) a W'/\Cln M M':=fun hx hx1 hx2 =>
   ⟨_,σ3,RW (T2:=get t0) (H2:=get hx) (a2:=a) h1 hr (fun b hb=>(hXB b hb).1) hx1 (fun m b hb=>hx2 m b hb) hs.room (hT0 _ σ3 hC.1 hσ3) (fun m y hy=>⟨(hXP m y hy).2.1,(hσ3 m (hXPm m y hy)).trans (hXP m y hy).2.2⟩) (fun b=>(hFP b).symm) (hflatP _ hC.1),hC⟩
  have hok:∀ j,(pre++[x]).map Fin.val=List.range (j+1)->Fm x.val:=fun j hj=>by
   rw [List.map_append] at hj
   have hjl:j=(pre.map Fin.val).length:=by
    have:=congrArg List.length hj
    simp at this
    simp;omega
   subst hjl
   obtain ⟨h4,h5⟩:=Ps hj
   have h6:x.val=pre.length:=by simpa using h5
   rw [h6]
   exact hFm (by simpa using h4)
  cases e with
  | normal =>
   refine ⟨hkeep,hKp,hsim h0 hpost.1 hm,fun hj => ?_⟩
   have hj':(pre++[x]).map Fin.val=List.range (pre.length+1):=by simpa using hj
   have h7:=hpost.2 (hok _ hj')
   have h8:x.val=pre.length:=by
    rw [List.map_append] at hj'
    have:pre.length=(pre.map Fin.val).length:=by simp
    rw [this] at hj'
    have:=(Ps hj').2
    simpa using this
   rw [h8] at h7
   simpa using h7
  | ret=>exact ⟨hkeep,s'.h,hsim s'.h (fun _ _ h=>h) hpost.1,fun j hj=>hpost.2 (hok j hj),fun m b hb=>W9 (hpost.1 m b hb)⟩
  | exit id=>exact ⟨hkeep,s'.h,hsim s'.h (fun _ _ h=>h) hpost.1,fun j hj=>hpost.2 (hok j hj),fun m b hb=>W9 (hpost.1 m b hb)⟩
  | goto l=>exact hpost.elim
  | panic=>exact hpost
  | outgrown=>exact hpost
 all_goals
  have hmark:∀ (D:Nat) (W:World) (M':Nat->Option Obj) (σ':Nat->Loc) (hx:List (Nat×Blk)),w.heap.size<=D->W.heap[D]? = some (.deferred (some []))->Sim N W0 (EA pids σ X) M0 M' σ' (get t0) (get hx) a W->Sim N W0 X M0 (Sr D M') σ' (get t0) (get hx) { a with defers:={ target:=.collected D,args := #[] }::a.defers } W:=fun D W M' σ' hx hD hK h1 =>
   Zy h1 hK (by
    cases h0D:M0 D with
    | none=>rfl
    | some o=>have:=hlt D o (hs.sub D o h0D);omega) (Nat.le_trans hs.size hD) (fun d' hd' e=>by
    obtain ⟨D',h3,h4⟩:=W4 hs.defers.1 hd'
    rw [h3] at e
    injection e with e1 _
    injection e1 with e1
    subst e1
    have:=hlt _ _ h4
    omega) (fun m x hx=>⟨(hs.pin m x hx).1,(hσP h1 hPp m (hXp m x hx)).trans (hs.pin m x hx).2⟩) hPX hnf
 case done =>
  rintro D xs W hD hS ⟨⟨M',σ',h1,h2⟩,hFm⟩ hK
  have hlen:xs.length=n:=by
   have:=congrArg List.length hS
   simpa using this
  exact ⟨⟨t0,h0⟩,_,σ',hdone (by have:=hFm (by rw [hlen];exact hS);rwa [hlen] at this),hmark D W M' σ' h0 hD hK h1⟩
 case stop =>
  rintro D c pre W hD ⟨j,hj,hpre⟩ ⟨hx,⟨M',σ',h1,h2⟩,h3⟩ hK
  have hq2:=h3.1 j hpre
  cases c with
  | ret=>exact wpIn_ret ⟨⟨t0,hx⟩,_,σ',hq2,hmark D W M' σ' hx hD hK h1⟩
  | exit id=>exact wpIn_exit ⟨⟨t0,hx⟩,_,σ',hq2,hmark D W M' σ' hx hD hK h1⟩
  | _=>exact hq2.elim
end
end
end Go.Proofs.Ytgmhnkoifdpemaa
