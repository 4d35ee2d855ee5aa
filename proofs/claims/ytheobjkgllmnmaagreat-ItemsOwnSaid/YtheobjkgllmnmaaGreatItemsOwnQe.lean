/-
  No statement is proved in this text. It holds a part of what the proof of ItemsOwn needs.
-/
import Derived.Test.YtheobjkgllmnmaaGreatItemsOwnQd
namespace Go.Proofs.YtheobjkgllmnmaaGreat
set_option maxRecDepth 100000
set_option linter.unusedVariables false
set_option linter.unusedSimpArgs false
open Go.RowKit
def vI:Value->Bool
 | .int .i64 _=>true
 | _=>false
def dB (c:Array Value):Nat:=(c.toList.takeWhile vI).length
theorem XW:∀ (l:List Value) (m:Nat),(∀ i,i<m->∃ z,l[i]? = some (.int .i64 z))->m<=(l.takeWhile vI).length
 | _,0,_=>Nat.zero_le _
 | [],m+1,h=>by obtain ⟨z,hz⟩:=h 0 oM;cases hz
 | a::l,m+1,h=>by
  obtain ⟨z,hz⟩:=h 0 oM
  simp only [List.getElem?_cons_zero,Option.some.injEq] at hz
  subst hz
  have:=XW l m fun i hi=>by simpa using h (i+1) oM
  simp only [List.takeWhile_cons,vI,if_true,List.length_cons]
  omega
theorem XX:∀ (l:List Value) (i:Nat),i<(l.takeWhile vI).length->∃ z,l[i]? = some (.int .i64 z)
 | [],i,h=>by simp at h
 | a::l,i,h=>by
  rw [List.takeWhile_cons] at h
  cases ha:vI a with
  | false=>rw [ha] at h;simp at h
  | true =>
   rw [ha] at h
   cases i with
   | zero =>
    unfold vI at ha
    split at ha
    ·exact ⟨_,rfl⟩
    cases ha
   | succ i =>
    simp only [if_true,List.length_cons] at h
    simpa using XX l i oM
theorem kM {c:Array Value} {m:Nat} (h:∀ i,i<m->∃ z,c[i]? = some (.int .i64 z)):m<=dB c:=XW _ _ fun i hi=>by simpa using h i hi
theorem XY {c:Array Value} {i:Nat} (h:i<dB c):∃ z,c[i]? = some (.int .i64 z):=by simpa using XX c.toList i h
open Classical in
noncomputable def HA (M:Nat->Option Obj) (b:Nat):Option Obj:=match M b with
 | some (.cells c t f)=>if DM (.cells c t f) then none else some (.cells c 1 f)
 | _=>none
theorem Jz {M:Nat->Option Obj} {b:Nat} {o:Obj} (h:HA M b=some o):∃ c t f,M b=some (.cells c t f)/\o=.cells c 1 f/\¬ DM (.cells c t f):=by
 unfold HA at h
 split at h
 ·rename_i c t f hm
  split at h
  ·cases h
  injection h with h;exact ⟨c,t,f,hm,h.symm,‹_›⟩
 cases h
theorem LP {M:Nat->Option Obj} (b:Nat) (c:Array Value) (t:TypeId) (f:Nat×Nat) (hf:¬ DM (.cells c t f)) (h:M b=some (.cells c t f)):∃ t',HA M b=some (.cells c t' f):=⟨1,by unfold HA;rw [h];simp only [if_neg hf]⟩
open Classical in
theorem Tb {P:Program} {f:FuncId} {xs:List Av} {sz len:Nat} {F F':Nat->Nat->Cl} {ty:TypeId} (h:Fr P f xs (.row sz len F ty) fun d=>.av (.one (.own d sz len))) (hx:∀ x∈xs,AvM x)
  (hF:∀ i j,i<len->j<sz->(∃ n,F i j=.ed n/\F' i j=.fam n)\/∃ v,F i j=.val v/\F' i j=.val v):FV P f xs (.av (.one (.list false sz len F'))):=by
 intro M σ w args himm hargs
 have himm1:∀ b o,HA M b=some o->Dy w.heap[b]? o:=fun b o hb=>by
  obtain ⟨c,t,f,hm,rfl,hf⟩:=Jz hb
  rcases himm b _ hm with ⟨h1,_⟩ | ⟨n,_,_,e,_⟩ | ⟨c',ty',t',f',e,h1,_⟩
  ·exact .inr (.inr ⟨c,t,1,f,rfl,h1,Io⟩)
  ·exact absurd ⟨n,e⟩ hf
  injection e with e1 e2 e3;subst e1;subst e3;exact .inr (.inr ⟨c,ty',1,f,rfl,h1,Io⟩)
 refine (h (HA M) σ w args himm1 (hargs.mono fun x hxm u hu=>Mo (fun b c t f hf hm=>LP b c t f hf hm) hu (hx x hxm))).mono ?_
 rintro en w' ⟨U,rfl,M',x,hk,hx',hb,hR⟩
 have hU:=hR (fun _=>x) 0 rfl
 have hB:=hb (fun _=>x)
 refine ⟨U,rfl,?_⟩
 cases hn:x.nil with
 | true =>
  simp only [RT,RA,R,hn,if_true] at hU
  obtain ⟨rfl,rfl⟩:=hU
  refine ⟨M,⟨hk.os,hk.tape,hk.output,hk.size,hk.old,fun _ _ h=>h,fun b o h1 h2=>(by rw [h1] at h2;cases h2),fun b o hm => ?_⟩,fun σ'=>.nil _ _ _ rfl⟩
  have hlt:=HG (himm b o hm)
  rw [hk.old b hlt (fun h=>h)];exact himm b o hm
 | false =>
  simp only [RT,RA,R,hn,Bool.false_eq_true,if_false] at hU
  subst hU
  rcases hx' with h1 | ⟨hxb,hxM⟩
  ·rw [hn] at h1;cases h1
  rcases hB with ⟨h1,_⟩ | ⟨_,c,hc,hcs,hlc,hcm,g,hg⟩
  ·rw [hn] at h1;cases h1
  obtain ⟨MM,hMM⟩:∃ MM:Nat->Option Obj,MM=fun b=>if b<w.heap.size then M b else if b=x.b then some (.cells c 1) else match M' b with
   | some (.cells c t f)=>if Obj.cells c t f=.cells c 424242 then some (HJ (dB c)) else none
   | _=>none:=⟨_,rfl⟩
  have hM0:∀ b,b<w.heap.size->MM b=M b:=fun b hb=>by rw [hMM];simp only [hb,if_true]
  have hMx:MM x.b=some (.cells c 1):=by rw [hMM];simp only [show ¬ x.b<w.heap.size by omega,if_false,if_true]
  have hMn:∀ b,¬ b<w.heap.size->b≠x.b->MM b=match M' b with
   | some (.cells c t f)=>if Obj.cells c t f=.cells c 424242 then some (HJ (dB c)) else none
   | _=>none:=fun b hb hbx=>by rw [hMM];simp only [hb,hbx,if_false]
  refine ⟨MM,⟨hk.os,hk.tape,hk.output,hk.size,hk.old,fun b o hm => ?_,fun b o h1 h2 => ?_,fun b o hm => ?_⟩,fun σ' => ?_⟩
  ·rw [hM0 b (HG (himm b o hm))];exact hm
  ·by_cases hb:b<w.heap.size
   ·rw [hM0 b hb] at h1;rw [h1] at h2;cases h2
   omega
  ·by_cases hb:b<w.heap.size
   ·rw [hM0 b hb] at hm
    rw [hk.old b hb (fun h=>h)];exact himm b o hm
   by_cases hbx:b=x.b
   ·subst hbx;rw [hMx] at hm;injection hm with hm;subst hm;rw [hc];exact UM (.cells c ty)
   rw [hMn b hb hbx] at hm
   cases hm':M' b with
   | none=>rw [hm'] at hm;cases hm
   | some o' =>
    rw [hm'] at hm
    cases o' with
    | cells c' t' f' =>
     simp only at hm
     split at hm
     ·rename_i he
      injection hm with hm
      subst hm
      rw [he] at hm'
      rcases hk.imm b _ hm' with ⟨e,_⟩ | ⟨n,c2,ty2,e,e2,e3⟩ | ⟨c2,ty2,t2,f2,e,e2,_⟩
      ·exact .inr (.inl ⟨_,_,_,rfl,e,fun i hi=>XY hi⟩)
      ·unfold HJ at e;injection e with e4 e5;cases e5
      injection e with e4 e5 e6;subst e4;subst e6;exact .inr (.inl ⟨_,_,_,rfl,e2,fun i hi=>XY hi⟩)
     cases hm
    | _=>cases hm
  refine .list _ _ _ _ x.b 0 _ g (fun i j hi hj => ?_) (fun i j hi hj => ?_) hlc (fun h=>by cases h)
  ·unfold ET;rw [hMx];simpa using (hg i j hi hj).1
  rcases hF i j hi hj with ⟨n,e1,e2⟩ | ⟨v,e1,e2⟩
  ·have h2:=(hg i j hi hj).2
   rw [e1] at h2
   rw [e2]
   generalize hgv:g i j=gv at h2
   cases h2 with
   | edn=>exact .famn
   | ed _ b off cap c2 k1 k2 k3 =>
    have hb1:¬ b<w.heap.size:=fun hlt=>by
     cases hp:HA M b with
     | none=>have:=hk.new b _ k1 hp;omega
     | some o =>
      have h3:=hk.sub b o hp
      obtain ⟨c3,t3,f3,_,rfl,_⟩:=Jz hp
      rw [k1] at h3;injection h3 with h3;injection h3 with h4 h5;cases h5
    have hb2:b≠x.b:=fun e=>by rw [e,hxM] at k1;cases k1
    refine .fam n b off cap (dB c2) ?_ (kM k2) k3
    rw [hMn b hb1 hb2,k1]
    simp only [if_true]
  have h2:=(hg i j hi hj).2
  rw [e1] at h2
  rw [e2]
  cases h2
  exact .val _ ‹_›
section
open Go.RowKit
section
variable {P:Program} {rd:Option Nat} {N:Nat} {W0:World} {X:Nat→Option Loc} {M0:Nat→Option Obj} {Q:Exit→AS→Prop} {s:AS}
theorem Ue {ops:Array Oper} {o:Oper} {l:List Oper} {a:Act} {w w':World} {V:Value} {Q':Exit->Act->World->Prop} (hg:o.guard=none) (hr:(execOp a.eval o).run P w=.ok (.value V) w') (hnd:∀ c,o.op≠.defer c) (k:wpListIn (FW rd) 0 P ops Q' l (a.put o.dst V) w') :
  wpListIn (FW rd) 0 P ops Q' (o::l) a w:=by
 refine wpListIn_step fun K hK' => ?_
 rw [if_pos (by simp [Region.wanted,hg])]
 exact Sv.wp (G:=fun V' w''=>V'=V/\w''=w') (.inl ⟨V,w',hr,rfl,rfl⟩) (fun V' w'' ⟨e1,e2⟩=>by subst e1;subst e2;exact hK' _ _ k) hnd
theorem concS {ops:Array Oper} {o:Oper} {l:List Oper} {a:Act} {w w':World} {Q':Exit->Act->World->Prop} (hg:o.guard=none) (hr:(execOp a.eval o).run P w=.ok .skip w') (hnd:∀ c,o.op≠.defer c) (k:wpListIn (FW rd) 0 P ops Q' l (a.put o.dst undef) w') :
  wpListIn (FW rd) 0 P ops Q' (o::l) a w:=by
 refine wpListIn_step fun K hK' => ?_
 rw [if_pos (by simp [Region.wanted,hg])]
 exact Sv.wp (G:=fun V' w''=>V'=undef/\w''=w') (.inr (.inl ⟨w',hr,rfl,rfl⟩)) (fun V' w'' ⟨e1,e2⟩=>by subst e1;subst e2;exact hK' _ _ k) hnd
theorem Jj {a:Act} {d i:Nat} {V:Value} (hd:d<a.tmps.size):(a.put (some d) V).eval (.tmp i)=if i=d then V else a.eval (.tmp i):=by
 simp only [Act.put,Act.eval,Array.getD_eq_getD_getElem?,Array.getElem?_setIfInBounds]
 by_cases h:i=d
 ·subst h;simp [hd]
 simp [h,Ne.symm h]
theorem iR {ops:Array Oper} {o1 o2 o3 o4 o5 o6 o7 o8 o9:Oper} {l:List Oper} {K:AS->Prop} {T TE TP TI yT p k d1 d2 d3 d4 d5 d6 d7 d8 sT sP len i q:Nat} {aT aE aP:Bool} {fs gs:Array Field} {fd gd:Field} {dI:TypeDesc} {ix c:Int}
  (hM0:∀ b n,M0 b≠some (HJ n)) (hp:get s.t p=some (.av (.one (.fam len)))) (hk:get s.t k=some (.av (.one (.val (.int .i64 ix))))) (hix:0<=ix/\ix<(len:Int))
  (t1:ti P T=some ⟨sT,aT,.slice TE⟩) (t2:ti P TE=some ⟨7,aE,.struct fs⟩) (t3:fs[i]? = some fd) (t4:ti P fd.type=some ⟨sP+1,aP,.struct gs⟩) (t5:TP=fd.type) (t6:gs[q]? = some gd) (t7:ti P gd.type=some ⟨1,false,dI⟩) (t8:TI=gd.type) (t9:fd.offset+gd.offset<7)
  (e1:o1.op=.indexAddr T (.tmp p) (.tmp k)) (e2:o2.op=.fieldAddr TE (.tmp d1) i) (e3:o3.op=.fieldAddr TP (.tmp d2) q) (e4:o4.op=.load TI (.tmp d3)) (e5:o5.op=.binOp .add TI (.tmp d4) (.const (.int .i64 c)) yT)
  (e6:o6.op=.indexAddr T (.tmp p) (.tmp k)) (e7:o7.op=.fieldAddr TE (.tmp d6) i) (e8:o8.op=.fieldAddr TP (.tmp d7) q) (e9:o9.op=.store TI (.tmp d8) (.tmp d5))
  (f1:o1.dst=some d1) (f2:o2.dst=some d2) (f3:o3.dst=some d3) (f4:o4.dst=some d4) (f5:o5.dst=some d5) (f6:o6.dst=some d6) (f7:o7.dst=some d7) (f8:o8.dst=some d8) (f9:o9.dst=none)
  (g1:o1.guard=none) (g2:o2.guard=none) (g3:o3.guard=none) (g4:o4.guard=none) (g5:o5.guard=none) (g6:o6.guard=none) (g7:o7.guard=none) (g8:o8.guard=none) (g9:o9.guard=none)
  (hn:∀ d∈[d1,d2,d3,d4,d5,d6,d7,d8],d<N/\get s.t d=none) (hd:[d1,d2,d3,d4,d5,d6,d7,d8].Nodup) (h:AWL P rd N W0 X M0 ops l K s):AWL P rd N W0 X M0 ops (o1::o2::o3::o4::o5::o6::o7::o8::o9::l) K s:=by
 intro M σ a w hs Q' hQ'
 obtain ⟨D,hD⟩:∃ D,D=[d1,d2,d3,d4,d5,d6,d7,d8]:=⟨_,rfl⟩
 rw [<- hD] at hn
 have hm1:d1∈D:=by simp [hD]
 have hm2:d2∈D:=by simp [hD]
 have hm3:d3∈D:=by simp [hD]
 have hm4:d4∈D:=by simp [hD]
 have hm5:d5∈D:=by simp [hD]
 have hm6:d6∈D:=by simp [hD]
 have hm7:d7∈D:=by simp [hD]
 have hm8:d8∈D:=by simp [hD]
 have hne:∀ j v,get s.t j=some v->∀ d∈D,j≠d:=fun j v hj d hd e=>by rw [e,(hn d hd).2] at hj;cases hj
 let E:Act->Prop:=fun b=>b.tmps.size=N/\b.defers=a.defers/\∀ j,(∀ d∈D,j≠d)->b.eval (.tmp j)=a.eval (.tmp j)
 have hE0:E a:=⟨hs.room,rfl,fun _ _=>rfl⟩
 have hEp:∀ {b:Act} {d:Nat} (V:Value),E b->d∈D->E (b.put (some d) V)/\(b.put (some d) V).eval (.tmp d)=V:=fun {b d} V hb hd=>by
  have hlt:d<b.tmps.size:=by rw [hb.1];exact (hn d hd).1
  refine ⟨⟨by simpa [Act.put] using hb.1,hb.2.1,fun j hj => ?_⟩,?_⟩
  ·rw [Jj hlt,if_neg (hj d hd)];exact hb.2.2 j hj
  rw [Jj hlt,if_pos rfl]
 have hpp:=hne p _ hp
 have hkk:=hne k _ hk
 -- the slice
 have hV:R M σ (.fam len) (a.eval (.tmp p)):=hs.tmps p _ hp
 have hq:a.eval (.tmp k)=.int .i64 ix:=(show R M σ (.val (.int .i64 ix)) (a.eval (.tmp k)) from hs.tmps k _ hk).1
 have hV':RC M (.fam len) (a.eval (.tmp p)):=hV
 generalize hV0:a.eval (.tmp p)=V0 at hV'
 cases hV' with
 | famn=>omega
 | fam _ b off cap n k1 k2 k3 =>
  have hi:ix.toNat<len:=by omega
  obtain ⟨cc,ty,hheap,hints⟩:∃ cc ty,w.heap[b]? = some (.cells cc ty)/\∀ j,j<n->∃ z,cc[j]? = some (.int .i64 z):=by
   rcases hs.imm b _ k1 with ⟨_,e⟩ | ⟨n',cc,ty,e,h1,h2⟩ | ⟨_,_,_,_,_,_,e⟩
   ·exact absurd rfl (e n)
   ·have:n=n':=by
     unfold HJ at e;injection e with e;have:=congrArg Array.size e;simpa using this
    subst this;exact ⟨cc,ty,h1,h2⟩
   exact absurd rfl (e n)
  obtain ⟨x0,hx0⟩:∃ x0,x0=off+ix.toNat*7+fd.offset+gd.offset:=⟨_,rfl⟩
  have hx1:x0<n:=by omega
  obtain ⟨z,hz⟩:=hints x0 hx1
  have hbs:W0.heap.size<=b:=by
   cases h0:M0 b with
   | some o=>have:=hs.sub b o h0;rw [k1] at this;injection this with this;exact absurd (this▸h0) (hM0 b n)
   | none=>exact hs.new b _ k1 h0
  obtain ⟨_,_,hu1,_,_⟩:=BK t1 w
  obtain ⟨hz2,_,hu2,_,_⟩:=BK t2 w
  obtain ⟨_,_,hu4,_,_⟩:=BK t4 w
  have rI:∀ (a':Act) (o:Oper),o.op=.indexAddr T (.tmp p) (.tmp k)->E a'->(execOp a'.eval o).run P w=.ok (.value (.pointer (some ⟨b,off+ix.toNat*7,none⟩))) w:=fun a' o ho ha=>by
   have e1:a'.eval (.tmp p)=.slice (some ⟨b,off,none⟩) len cap:=by rw [ha.2.2 p hpp];exact hV0
   have e2:a'.eval (.tmp k)=.int .i64 ix:=by rw [ha.2.2 k hkk];exact hq
   simp only [execOp,ho,e1,e2,Instr.indexAt,Instr.sureAddr,asIntOf,Sem.run_bind,hu1,Result.andThen_ok,Sem.run_pure,hix,and_self,if_true,hz2,Addr.add_lit]
  have rF:∀ (a':Act) (o:Oper) (d:Nat) (x:Nat),o.op=.fieldAddr TE (.tmp d) i->a'.eval (.tmp d)=.pointer (some ⟨b,x,none⟩)->(execOp a'.eval o).run P w=.ok (.value (.pointer (some ⟨b,x+fd.offset,none⟩))) w:=fun a' o d x ho ha=>by
   simp only [execOp,ho,ha,Instr.fieldAt,Instr.sureAddr,Sem.run_bind,hu2,Result.andThen_ok,t3,Sem.run_pure,Ep t4 rfl]
  have rG:∀ (a':Act) (o:Oper) (d:Nat) (x:Nat),o.op=.fieldAddr TP (.tmp d) q->a'.eval (.tmp d)=.pointer (some ⟨b,x,none⟩)->(execOp a'.eval o).run P w=.ok (.value (.pointer (some ⟨b,x+gd.offset,none⟩))) w:=fun a' o d x ho ha=>by
   simp only [execOp,ho,t5,ha,Instr.fieldAt,Instr.sureAddr,Sem.run_bind,hu4,Result.andThen_ok,t6,Sem.run_pure,Ep t7 rfl]
  -- the reading
  obtain ⟨hE1,v1⟩:=hEp (.pointer (some ⟨b,off+ix.toNat*7,none⟩)) hE0 hm1
  refine Ue g1 (rI a o1 e1 hE0) (by rw [e1];intro c h;cases h) ?_
  rw [f1];generalize a.put (some d1) _=a1 at hE1 v1 ⊢
  obtain ⟨hE2,v2⟩:=hEp (.pointer (some ⟨b,off+ix.toNat*7+fd.offset,none⟩)) hE1 hm2
  refine Ue g2 (rF a1 o2 d1 _ e2 v1) (by rw [e2];intro c h;cases h) ?_
  rw [f2];generalize a1.put (some d2) _=a2 at hE2 v2 ⊢
  obtain ⟨hE3,v3⟩:=hEp (.pointer (some ⟨b,x0,none⟩)) hE2 hm3
  refine Ue g3 (V:=.pointer (some ⟨b,x0,none⟩)) (by rw [hx0];exact rG a2 o3 d2 _ e3 v2) (by rw [e3];intro c h;cases h) ?_
  rw [f3];generalize a2.put (some d3) _=a3 at hE3 v3 ⊢
  obtain ⟨hE4,v4⟩:=hEp (.int .i64 z) hE3 hm4
  have hload:(loadVar TI ⟨b,x0,none⟩).run P w=.ok (.int .i64 z) w:=by
   rw [<- t8] at t7
   obtain ⟨V,hV1,hV2⟩:=FA (P:=P) (M:=M) (σ:=σ) (w:=w) t7 (b:=b) (off:=x0) (l:=[.val (.int .i64 z)]) (vs:=[.int .i64 z]) (.cons ⟨rfl,rfl⟩ .nil) 0 (fun j u _ _ hj=>by
    cases j with
    | zero=>simp at hj;subst hj;simp [World.cell?,hheap,hz]
    | succ j=>simp at hj) (v:=.one (.val (.int .i64 z))) rfl
   rw [Nat.add_zero] at hV1
   rw [hV1,(show R M σ (.val (.int .i64 z)) V from hV2).1]
  refine Ue g4 (V:=.int .i64 z) (w':=w) (by simp only [execOp,e4,v3,Instr.loadAt,Instr.sureAddr,Sem.run_bind,Sem.run_pure,Result.andThen_ok,hload]) (by rw [e4];intro c h;cases h) ?_
  rw [f4];generalize a3.put (some d4) _=a4 at hE4 v4 ⊢
  obtain ⟨z2,hz2'⟩:∃ z2,z2=IntKind.i64.wrap (z+c):=⟨_,rfl⟩
  obtain ⟨hE5,v5⟩:=hEp (.int .i64 z2) hE4 hm5
  refine Ue g5 (V:=.int .i64 z2) (by rw [hz2'];exact (Un (c:=[]) e5 v4 (show a4.eval (.const (.int .i64 c))=_ from rfl) rfl rfl .nil).1) (by rw [e5];intro c h;cases h) ?_
  rw [f5];generalize a4.put (some d5) _=a5 at hE5 v5 ⊢
  -- the writing
  obtain ⟨hE6,v6⟩:=hEp (.pointer (some ⟨b,off+ix.toNat*7,none⟩)) hE5 hm6
  have w6:(a5.put (some d6) (.pointer (some ⟨b,off+ix.toNat*7,none⟩))).eval (.tmp d5)=.int .i64 z2:=by
   rw [Jj (by rw [hE5.1];exact (hn d6 hm6).1),if_neg (by simp at hd;omega)];exact v5
  refine Ue g6 (rI a5 o6 e6 hE5) (by rw [e6];intro c h;cases h) ?_
  rw [f6];generalize a5.put (some d6) _=a6 at hE6 v6 w6 ⊢
  obtain ⟨hE7,v7⟩:=hEp (.pointer (some ⟨b,off+ix.toNat*7+fd.offset,none⟩)) hE6 hm7
  have w7:(a6.put (some d7) (.pointer (some ⟨b,off+ix.toNat*7+fd.offset,none⟩))).eval (.tmp d5)=.int .i64 z2:=by
   rw [Jj (by rw [hE6.1];exact (hn d7 hm7).1),if_neg (by simp at hd;omega)];exact w6
  refine Ue g7 (rF a6 o7 d6 _ e7 v6) (by rw [e7];intro c h;cases h) ?_
  rw [f7];generalize a6.put (some d7) _=a7 at hE7 v7 w7 ⊢
  obtain ⟨hE8,v8⟩:=hEp (.pointer (some ⟨b,x0,none⟩)) hE7 hm8
  have w8:(a7.put (some d8) (.pointer (some ⟨b,x0,none⟩))).eval (.tmp d5)=.int .i64 z2:=by
   rw [Jj (by rw [hE7.1];exact (hn d8 hm8).1),if_neg (by simp at hd;omega)];exact w7
  refine Ue g8 (V:=.pointer (some ⟨b,x0,none⟩)) (by rw [hx0];exact rG a7 o8 d7 _ e8 v7) (by rw [e8];intro c h;cases h) ?_
  rw [f8];generalize a7.put (some d8) _=a8 at hE8 v8 w8 ⊢
  have hxs:x0+[Value.int .i64 z2].length<=cc.toList.length:=by
   have:=(Array.getElem?_eq_some_iff.1 hz).1
   simp;omega
  obtain ⟨w',q1,q2,q3,q4,q5,q6,q7⟩:=DQ (P:=P) [.int .i64 z2] cc.toList x0 w (by simpa using hheap) hxs (fun v hv=>by rw [List.mem_singleton.1 hv];rfl) 0 x0 rfl
  obtain ⟨hT1,_,_,_,_⟩:=BK (t8▸t7) w
  refine concS g9 (w':=w') (by simp only [execOp,e9,v8,w8,Instr.storeAt,Instr.sureAddr,storeVar,Sem.run_bind,Sem.run_pure,Result.andThen_ok,hT1,show ¬ ((Value.int IntKind.i64 z2).cells.size≠1) from fun h=>h rfl,if_false,show (Value.int IntKind.i64 z2).cells.toList=[Value.int IntKind.i64 z2] from rfl,q1]) (by rw [e9];intro c h;cases h) ?_
  rw [f9]
  have hb':b<w.heap.size:=(Array.getElem?_eq_some_iff.1 hheap).1
  have hfam:∀ j,j<n->∃ z,(Gc cc.toList x0 [Value.int .i64 z2]).toArray[j]? = some (.int .i64 z):=fun j hj=>by
   by_cases hjx:j=x0
   ·subst hjx;exact ⟨z2,by simp [Gc,(Array.getElem?_eq_some_iff.1 hz).1]⟩
   obtain ⟨y,hy⟩:=hints j hj
   exact ⟨y,by simp [Gc,List.getElem?_set,Ne.symm hjx];simpa using hy⟩
  have hloc:∀ m bk,get s.h m=some bk->(σ m).nil=false->(σ m).b≠b:=fun m bk hm hnil e=>by
   rcases hs.loc m bk hm with h1 | h1
   ·rw [hnil] at h1;cases h1
   rw [e,k1] at h1;cases h1.1
  refine h M σ a8 w' ⟨q4.trans hs.os,q5.trans hs.tape,q6.trans hs.output,by rw [q3];exact hs.size,fun b' hb1 hx => ?_,hs.sub,hs.new,hs.pin,?_,hE8.1,fun j v hv => ?_,fun b' o ho => ?_,fun m bk hm => ?_,hs.loc,hs.inj⟩ Q' hQ'
  ·rw [q7 b' (by omega)];exact hs.old b' hb1 hx
  ·rw [hE8.2.1];exact hs.defers
  ·have:=hE8.2.2 j (hne j v hv)
   rw [show a8.tmps.getD j undef=a.tmps.getD j undef from this];exact hs.tmps j v hv
  ·by_cases e:b'=b
   ·subst e;rw [k1] at ho;injection ho with ho;subst ho
    exact .inr (.inl ⟨n,_,ty,rfl,q2,hfam⟩)
   rw [q7 b' e];exact hs.imm b' o ho
  exact (hs.blk m bk hm).mono (fun _ _ h=>h) (fun _ _=>rfl) fun hnil=>q7 _ (hloc m bk hm hnil)
def oX (P:Program) (T TE TP TI i q:Nat):Bool:=match ti P T with
 | some ⟨_,_,.slice e⟩=>Nat.beq e TE&&(match ti P TE with
  | some ⟨sz,_,.struct fs⟩=>Nat.beq sz 7&&(match fs[i]? with
   | some fd=>Nat.beq fd.type TP&&(match ti P TP with
    | some ⟨s1,_,.struct gs⟩ => !Nat.beq s1 0&&(match gs[q]? with
     | some gd=>Nat.beq gd.type TI&&(Nat.blt (fd.offset+gd.offset) 7&&(match ti P TI with
      | some ⟨s2,ag,_⟩=>Nat.beq s2 1 && !ag
      | none=>false))
     | none=>false)
    | _=>false)
   | none=>false)
  | _=>false)
 | _=>false
theorem Q9 {ops:Array Oper} {o1 o2 o3 o4 o5 o6 o7 o8 o9:Oper} {l:List Oper} {K:AS->Prop} {T TE TP TI yT p k d1 d2 d3 d4 d5 d6 d7 d8 len i q:Nat} {ix c:Int}
  (hM0:∀ b n,M0 b≠some (HJ n)) (hp:get s.t p=some (.av (.one (.fam len)))) (hk:get s.t k=some (.av (.one (.val (.int .i64 ix))))) (hix:0<=ix/\ix<(len:Int))
  (e1:o1.op=.indexAddr T (.tmp p) (.tmp k)) (e2:o2.op=.fieldAddr TE (.tmp d1) i) (e3:o3.op=.fieldAddr TP (.tmp d2) q) (e4:o4.op=.load TI (.tmp d3)) (e5:o5.op=.binOp .add TI (.tmp d4) (.const (.int .i64 c)) yT)
  (e6:o6.op=.indexAddr T (.tmp p) (.tmp k)) (e7:o7.op=.fieldAddr TE (.tmp d6) i) (e8:o8.op=.fieldAddr TP (.tmp d7) q) (e9:o9.op=.store TI (.tmp d8) (.tmp d5)) (hT:oX P T TE TP TI i q=true)
  (f1:o1.dst=some d1) (f2:o2.dst=some d2) (f3:o3.dst=some d3) (f4:o4.dst=some d4) (f5:o5.dst=some d5) (f6:o6.dst=some d6) (f7:o7.dst=some d7) (f8:o8.dst=some d8) (f9:o9.dst=none)
  (hg:([o1,o2,o3,o4,o5,o6,o7,o8,o9].all fun o=>o.guard.isNone)=true)
  (hn:([d1,d2,d3,d4,d5,d6,d7,d8].all fun d=>Nat.blt d N&&(get s.t d).isNone)=true) (hd:[d1,d2,d3,d4,d5,d6,d7,d8].Nodup) (h:AWL P rd N W0 X M0 ops l K s):AWL P rd N W0 X M0 ops (o1::o2::o3::o4::o5::o6::o7::o8::o9::l) K s:=by
 have hg':∀ o∈[o1,o2,o3,o4,o5,o6,o7,o8,o9],o.guard=none:=fun o ho=>by simpa using List.all_eq_true.1 hg o ho
 have hn':∀ d∈[d1,d2,d3,d4,d5,d6,d7,d8],d<N/\get s.t d=none:=fun d hd=>by
  have:=List.all_eq_true.1 hn d hd
  rw [Bool.and_eq_true] at this
  exact ⟨Nat.le_of_ble_eq_true this.1,by simpa using this.2⟩
 unfold oX at hT
 split at hT
 ·rename_i sT aT e t1
  rw [Bool.and_eq_true] at hT
  obtain ⟨hE,hT⟩:=hT
  have hE:=Nat.eq_of_beq_eq_true hE
  subst hE
  split at hT
  ·rename_i sz aE fs t2
   rw [Bool.and_eq_true] at hT
   obtain ⟨hE,hT⟩:=hT
   have hE:=Nat.eq_of_beq_eq_true hE
   subst hE
   split at hT
   ·rename_i fd t3
    rw [Bool.and_eq_true] at hT
    obtain ⟨hE,hT⟩:=hT
    have hE:=Nat.eq_of_beq_eq_true hE
    subst hE
    split at hT
    ·rename_i s1 aP gs t4
     rw [Bool.and_eq_true] at hT
     obtain ⟨hE,hT⟩:=hT
     split at hT
     ·rename_i gd t6
      rw [Bool.and_eq_true,Bool.and_eq_true] at hT
      obtain ⟨hF,hO,hT⟩:=hT
      have hF:=Nat.eq_of_beq_eq_true hF
      subst hF
      split at hT
      ·rename_i s2 ag dI t7
       rw [Bool.and_eq_true] at hT
       obtain ⟨h2,h3⟩:=hT
       have h2:=Nat.eq_of_beq_eq_true h2
       subst h2
       have h3:ag=false:=by simpa using h3
       subst h3
       cases s1 with
       | zero=>cases hE
       | succ s1 =>
        exact iR hM0 hp hk hix t1 t2 t3 t4 rfl t6 t7 rfl (Nat.le_of_ble_eq_true hO) e1 e2 e3 e4 e5 e6 e7 e8 e9 f1 f2 f3 f4 f5 f6 f7 f8 f9 (hg' _ (by simp)) (hg' _ (by simp)) (hg' _ (by simp)) (hg' _ (by simp)) (hg' _ (by simp)) (hg' _ (by simp)) (hg' _ (by simp)) (hg' _ (by simp)) (hg' _ (by simp)) hn' hd h
      cases hT
     cases hT
    cases hT
   cases hT
  cases hT
 cases hT
theorem Vy {M:Nat->Option Obj} {w:World} (himm:∀ b o,M b=some o->Dy w.heap[b]? o) (b:Nat) (o:Obj) (hb:HA M b=some o):Dy w.heap[b]? o:=by
 obtain ⟨c,t,f,hm,rfl,hf⟩:=Jz hb
 rcases himm b _ hm with ⟨h1,_⟩ | ⟨n,_,_,e,_⟩ | ⟨c',ty',t',f',e,h1,_⟩
 ·exact .inr (.inr ⟨c,t,1,f,rfl,h1,Io⟩)
 ·exact absurd ⟨n,e⟩ hf
 injection e with e1 e2 e3;subst e1;subst e3;exact .inr (.inr ⟨c,ty',1,f,rfl,h1,Io⟩)
theorem TZ {f:FuncId} {fn:Func} {c:Code} (hf:P.funcs[f]? = some fn) (hb:fn.body=some c) {xs:List Av} {v:Value} (hN:Nat.ble xs.length fn.ntmps=true) (hx:∀ x∈xs,AvM x)
  (h:∀ (W0:World) (M0:Nat->Option Obj),(∀ b n,M0 b≠some (HJ n))->AWp P none fn.ntmps W0 noX M0 c (KN P fn.ntmps W0 noX M0 fn fun r' _=>TvE r' (.av (.one (.val v)))) ⟨EL 0 xs,[]⟩):FV P f xs (.av (.one (.val v))):=by
 intro M σ w args himm hargs
 have hno:∀ b n,HA M b≠some (HJ n):=fun b n hb=>by
  obtain ⟨c,t,f,_,e,_⟩:=Jz hb
  exact Io (t:=0) n e.symm
 refine Dz (M:=HA M) (X:=noX) (σ:=σ) (h0:=[]) hf hb (Nat.le_of_ble_eq_true hN) (Vy himm) (hargs.mono fun x hxm u hu=>Mo (fun b c t f hf hm=>LP b c t f hf hm) hu (hx x hxm)) (fun n b h=>by cases h) (fun n b h=>by cases h) (fun n x h=>by cases h) (fun n m b c h=>by cases h) (CW (h w (HA M) hno)) ?_
 rintro r' s' M' σ' a' w' U he hs hR
 refine ⟨U,rfl,M,⟨hs.os,hs.tape,hs.output,hs.size,fun b hb _=>hs.old b hb (Ez b),fun _ _ h=>h,fun b o h1 h2=>(by rw [h1] at h2;cases h2),fun b o hm => ?_⟩,fun σ'' => ?_⟩
 ·rw [hs.old b (HG (himm b o hm)) (Ez b)];exact himm b o hm
 exact (show R M' σ' (.val v) U from Jq he hR)
theorem XO {α:Type} [Inhabited α] {E E':α->List Cl} {xs:List α} {sz:Nat} (h:∀ x j,j<sz->(∃ n,(E x).getD j default=.ed n/\(E' x).getD j default=.fam n)\/∃ v,(E x).getD j default=.val v/\(E' x).getD j default=.val v) (i j:Nat) (_:i<xs.length) (hj:j<sz) :
  (∃ n,AP E xs i j=.ed n/\AP E' xs i j=.fam n)\/∃ v,AP E xs i j=.val v/\AP E' xs i j=.val v:=h _ j hj
end
end
def AO.cF (x:AO):List Cl:=[.i x.Kind,.fam (List.length x.Edges),.i x.R]
def AL.cF (x:AL):List Cl:=[.i x.Id,.s x.Pad,.i x.Kind,.s x.Net,.i x.From,.i x.To,.i x.Shape.Kind,.fam (List.length x.Shape.Edges),.i x.Shape.R]
theorem gP (x:AL) (j:Nat) (hj:j<9):(∃ n,(AL.cE x).getD j default=.ed n/\(AL.cF x).getD j default=.fam n)\/∃ v,(AL.cE x).getD j default=.val v/\(AL.cF x).getD j default=.val v:=by
 match j,hj with
 | 0,_=>exact .inr ⟨_,rfl,rfl⟩
 | 1,_=>exact .inr ⟨_,rfl,rfl⟩
 | 2,_=>exact .inr ⟨_,rfl,rfl⟩
 | 3,_=>exact .inr ⟨_,rfl,rfl⟩
 | 4,_=>exact .inr ⟨_,rfl,rfl⟩
 | 5,_=>exact .inr ⟨_,rfl,rfl⟩
 | 6,_=>exact .inr ⟨_,rfl,rfl⟩
 | 7,_=>exact .inl ⟨_,rfl,rfl⟩
 | 8,_=>exact .inr ⟨_,rfl,rfl⟩
def Aa.cF (x:Aa):List Cl:=[.i x.Shape.Kind,.fam (List.length x.Shape.Edges),.i x.Shape.R,.i x.From,.i x.To,.b x.Plated]
theorem gQ (x:Aa) (j:Nat) (hj:j<6):(∃ n,(Aa.cE x).getD j default=.ed n/\(Aa.cF x).getD j default=.fam n)\/∃ v,(Aa.cE x).getD j default=.val v/\(Aa.cF x).getD j default=.val v:=by
 match j,hj with
 | 0,_=>exact .inr ⟨_,rfl,rfl⟩
 | 1,_=>exact .inl ⟨_,rfl,rfl⟩
 | 2,_=>exact .inr ⟨_,rfl,rfl⟩
 | 3,_=>exact .inr ⟨_,rfl,rfl⟩
 | 4,_=>exact .inr ⟨_,rfl,rfl⟩
 | 5,_=>exact .inr ⟨_,rfl,rfl⟩
theorem pAllF (b:AG) (types:List AN) (hb:HV b) (ht:Bt types):PuP 14 [.agg (B1 b),.one (lst 3 AN.c types)] (tO (lst 9 AL.cF (IV b types))):=Tb (qAllE b types hb ht) (fun x hx=>by
 rcases List.mem_cons.1 hx with rfl | hx
 ·exact ED b
 rw [List.mem_singleton.1 hx];exact A9 (Bc FR)) (XO gP)
def oW (b:AG) (types:List AN):CT:=(14,(Ke b types),.val [] (.av (.one (lst 9 AL.cF (IV b types)))))
theorem rC (b:AG) (types:List AN) (hb:HV b) (ht:Bt types):OKc (oW b types):=cPu<|pAllF b types hb ht
theorem lA (b:AG) (types:List AN) (hb:HV b) (ht:Bt types):PuP 17 [.agg (B1 b),.one (lst 3 AN.c types)] (tO (lst 6 Aa.cF (GH b types))):=Tb (kE b types hb ht) (fun x hx=>by
 rcases List.mem_cons.1 hx with rfl | hx
 ·exact ED b
 rw [List.mem_singleton.1 hx];exact A9 (Bc FR)) (XO gQ)
def YO (b:AG) (types:List AN):CT:=(17,(Ke b types),.val [] (.av (.one (lst 6 Aa.cF (GH b types)))))
theorem eF (b:AG) (types:List AN) (hb:HV b) (ht:Bt types):OKc (YO b types):=cPu<|lA b types hb ht
section
open Go.RowKit
def Di (r:Ad):AO:=AO.mk 2 ((([AK.mk 1 (AC.mk r.X0 r.Y0) (AC.mk r.X1 r.Y0) (AC.mk 0 0)]++[AK.mk 1 (AC.mk r.X1 r.Y0) (AC.mk r.X1 r.Y1) (AC.mk 0 0)])++[AK.mk 1 (AC.mk r.X1 r.Y1) (AC.mk r.X0 r.Y1) (AC.mk 0 0)])++[AK.mk 1 (AC.mk r.X0 r.Y1) (AC.mk r.X0 r.Y0) (AC.mk 0 0)]) 0
variable (a:AO) (p1:List AK) (b:AO) (p2:List AK) (r:Ad)
def PX:CT:=(37,[.agg (Ad.c r)],.val [] (.av (.agg (AO.c (Di r)))))
abbrev EM:=[AK.mk 1 (AC.mk r.X0 r.Y0) (AC.mk r.X1 r.Y0) (AC.mk 0 0)]
abbrev Fk:=[AK.mk 1 (AC.mk r.X1 r.Y0) (AC.mk r.X1 r.Y1) (AC.mk 0 0)]
abbrev LJ:Nat×Blk:=(3,.cells [.i r.X0,.i r.Y0,.i r.X1,.i r.Y0,.i r.X1,.i r.Y1,.i r.X0,.i r.Y1] 199)
abbrev I9:=[AK.mk 1 (AC.mk r.X1 r.Y1) (AC.mk r.X0 r.Y1) (AC.mk 0 0)]
abbrev ML:=[AK.mk 1 (AC.mk r.X0 r.Y1) (AC.mk r.X0 r.Y0) (AC.mk 0 0)]
abbrev IY:Nat×Blk:=(2,.cells [.i 0,vN,.i 0] 28)
theorem pZ (r:Ad):PuP 37 (PX r).2.1 (.av (.agg (AO.c (Di r)))):=by
 refine pwf Tryz.func37 fun W0 M0 => ?_
 refine AB<|on<|AB<|on<|AB<|on<|AB<|AB<|rn ⟨(CR [(28,tI 0)]),[IY,(LJ r),(4,.cells [.i 2,vN,.i 0] 28)]⟩<|AM<|EF 5<|CA<|AB<|on<|AB<|Cg kr<|AQ<|AE<|AB<|AM<|AB<|on<|od [] [] [0<=(0:Int)/\(0:Int)<(4:Int),(4:Int)≠0,0<=(1:Int)/\(1:Int)<(4:Int),1<=maxLen,1*56<=140737488355328] .nil (H5 (by decide) au15 (by decide) au2 au2)<|A3<|AE<|BE (A5 43 (BC 7 AK.c ([AK.mk 1 (AC.mk r.X0 r.Y0) (AC.mk r.X1 r.Y0) (AC.mk 0 0)]:List AK)))<|rn ⟨(CR [(28,tI 1)]),[IY,(LJ r),(4,.cells [.i 2,.own 43 7 ((EM r).length),.i 0] 28),(43,.row 7 ((EM r).length) (AP AK.c (EM r)) 68)]⟩<|CA<|BE (wr (⟨(CR [(28,tI 1)]),[IY,(LJ r),(4,.cells [.i 2,.own 2000 7 ((EM r).length),.i 0] 28),(2000,.row 7 ((EM r).length) (AP AK.c (EM r)) 68)]⟩) 43 2000 hk0)<|AB<|on<|AB<|Cg kr<|AQ<|AE<|AB<|AM<|AB<|on ?_
 refine od [] [] [0<=(1:Int)/\(1:Int)<(4:Int),(4:Int)≠0,0<=(2:Int)/\(2:Int)<(4:Int),[AK.mk 1 (AC.mk r.X0 r.Y0) (AC.mk r.X1 r.Y0) (AC.mk 0 0)].length=[AK.mk 1 (AC.mk r.X0 r.Y0) (AC.mk r.X1 r.Y0) (AC.mk 0 0)].length,([AK.mk 1 (AC.mk r.X0 r.Y0) (AC.mk r.X1 r.Y0) (AC.mk 0 0)].length)+1<=maxLen,(([AK.mk 1 (AC.mk r.X0 r.Y0) (AC.mk r.X1 r.Y0) (AC.mk 0 0)].length)+1)*56<=140737488355328] .nil (H6 (by decide) au15 (by decide) rfl au2 au2)<|A3<|AE<|BE (A5 43 (BF (A1 7 AK.c [AK.mk 1 (AC.mk r.X0 r.Y0) (AC.mk r.X1 r.Y0) (AC.mk 0 0)]) (BC 7 AK.c ([AK.mk 1 (AC.mk r.X1 r.Y0) (AC.mk r.X1 r.Y1) (AC.mk 0 0)]:List AK))))<|rn ⟨(CR [(28,tI 2)]),[IY,(LJ r),(4,.cells [.i 2,.own 43 7 ((EM r)++(Fk r)).length,.i 0] 28),(43,.row 7 ((EM r)++(Fk r)).length (AP AK.c ((EM r)++(Fk r))) 68)]⟩<|CA<|BE (wr (⟨(CR [(28,tI 2)]),[IY,(LJ r),(4,.cells [.i 2,.own 2001 7 ((EM r)++(Fk r)).length,.i 0] 28),(2001,.row 7 ((EM r)++(Fk r)).length (AP AK.c ((EM r)++(Fk r))) 68)]⟩) 43 2001 hk0)<|AB<|on<|AB<|Cg kr<|AQ<|AE<|AB<|AM<|AB<|on ?_
 refine od [] [] [0<=(2:Int)/\(2:Int)<(4:Int),(4:Int)≠0,0<=(3:Int)/\(3:Int)<(4:Int),([AK.mk 1 (AC.mk r.X0 r.Y0) (AC.mk r.X1 r.Y0) (AC.mk 0 0)]++[AK.mk 1 (AC.mk r.X1 r.Y0) (AC.mk r.X1 r.Y1) (AC.mk 0 0)]).length=([AK.mk 1 (AC.mk r.X0 r.Y0) (AC.mk r.X1 r.Y0) (AC.mk 0 0)]++[AK.mk 1 (AC.mk r.X1 r.Y0) (AC.mk r.X1 r.Y1) (AC.mk 0 0)]).length,([AK.mk 1 (AC.mk r.X0 r.Y0) (AC.mk r.X1 r.Y0) (AC.mk 0 0)]++[AK.mk 1 (AC.mk r.X1 r.Y0) (AC.mk r.X1 r.Y1) (AC.mk 0 0)]).length+1<=maxLen,(([AK.mk 1 (AC.mk r.X0 r.Y0) (AC.mk r.X1 r.Y0) (AC.mk 0 0)]++[AK.mk 1 (AC.mk r.X1 r.Y0) (AC.mk r.X1 r.Y1) (AC.mk 0 0)]).length+1)*56<=140737488355328] .nil (H6 (by decide) au15 (by decide) rfl au2 au2)<|A3<|AE<|BE (A5 43 (BF (A1 7 AK.c ([AK.mk 1 (AC.mk r.X0 r.Y0) (AC.mk r.X1 r.Y0) (AC.mk 0 0)]++[AK.mk 1 (AC.mk r.X1 r.Y0) (AC.mk r.X1 r.Y1) (AC.mk 0 0)])) (BC 7 AK.c ([AK.mk 1 (AC.mk r.X1 r.Y1) (AC.mk r.X0 r.Y1) (AC.mk 0 0)]:List AK)))) ?_
 refine rn ⟨(CR [(28,tI 3)]),[IY,(LJ r),(4,.cells [.i 2,.own 43 7 (((EM r)++(Fk r))++(I9 r)).length,.i 0] 28),(43,.row 7 (((EM r)++(Fk r))++(I9 r)).length (AP AK.c (((EM r)++(Fk r))++(I9 r))) 68)]⟩<|CA<|BE (wr (⟨(CR [(28,tI 3)]),[IY,(LJ r),(4,.cells [.i 2,.own 2002 7 (((EM r)++(Fk r))++(I9 r)).length,.i 0] 28),(2002,.row 7 (((EM r)++(Fk r))++(I9 r)).length (AP AK.c (((EM r)++(Fk r))++(I9 r))) 68)]⟩) 43 2002 hk0)<|AB<|on<|AB<|Cg kr<|AQ<|AE<|AB<|AM<|AB<|on ?_
 refine od [] [] [0<=(3:Int)/\(3:Int)<(4:Int),(4:Int)≠0,0<=(0:Int)/\(0:Int)<(4:Int),(([AK.mk 1 (AC.mk r.X0 r.Y0) (AC.mk r.X1 r.Y0) (AC.mk 0 0)]++[AK.mk 1 (AC.mk r.X1 r.Y0) (AC.mk r.X1 r.Y1) (AC.mk 0 0)])++[AK.mk 1 (AC.mk r.X1 r.Y1) (AC.mk r.X0 r.Y1) (AC.mk 0 0)]).length=(([AK.mk 1 (AC.mk r.X0 r.Y0) (AC.mk r.X1 r.Y0) (AC.mk 0 0)]++[AK.mk 1 (AC.mk r.X1 r.Y0) (AC.mk r.X1 r.Y1) (AC.mk 0 0)])++[AK.mk 1 (AC.mk r.X1 r.Y1) (AC.mk r.X0 r.Y1) (AC.mk 0 0)]).length,(([AK.mk 1 (AC.mk r.X0 r.Y0) (AC.mk r.X1 r.Y0) (AC.mk 0 0)]++[AK.mk 1 (AC.mk r.X1 r.Y0) (AC.mk r.X1 r.Y1) (AC.mk 0 0)])++[AK.mk 1 (AC.mk r.X1 r.Y1) (AC.mk r.X0 r.Y1) (AC.mk 0 0)]).length+1<=maxLen,((([AK.mk 1 (AC.mk r.X0 r.Y0) (AC.mk r.X1 r.Y0) (AC.mk 0 0)]++[AK.mk 1 (AC.mk r.X1 r.Y0) (AC.mk r.X1 r.Y1) (AC.mk 0 0)])++[AK.mk 1 (AC.mk r.X1 r.Y1) (AC.mk r.X0 r.Y1) (AC.mk 0 0)]).length+1)*56<=140737488355328] .nil (H6 (by decide) au15 (by decide) rfl au2 au2)<|A3<|AE ?_
 exact BE (A5 43 (BF (A1 7 AK.c (([AK.mk 1 (AC.mk r.X0 r.Y0) (AC.mk r.X1 r.Y0) (AC.mk 0 0)]++[AK.mk 1 (AC.mk r.X1 r.Y0) (AC.mk r.X1 r.Y1) (AC.mk 0 0)])++[AK.mk 1 (AC.mk r.X1 r.Y1) (AC.mk r.X0 r.Y1) (AC.mk 0 0)])) (BC 7 AK.c ([AK.mk 1 (AC.mk r.X0 r.Y1) (AC.mk r.X0 r.Y0) (AC.mk 0 0)]:List AK))))<|rn ⟨(CR [(28,tI 4)]),[IY,(LJ r),(4,.cells [.i 2,.own 43 7 ((((EM r)++(Fk r))++(I9 r))++(ML r)).length,.i 0] 28),(43,.row 7 ((((EM r)++(Fk r))++(I9 r))++(ML r)).length (AP AK.c ((((EM r)++(Fk r))++(I9 r))++(ML r))) 68)]⟩<|CA<|BE (wr (⟨(CR [(28,tI 4)]),[IY,(LJ r),(4,.cells [.i 2,.own 2003 7 ((((EM r)++(Fk r))++(I9 r))++(ML r)).length,.i 0] 28),(2003,.row 7 ((((EM r)++(Fk r))++(I9 r))++(ML r)).length (AP AK.c ((((EM r)++(Fk r))++(I9 r))++(ML r))) 68)]⟩) 43 2003 hk0)<|AB<|on<|AB<|DS kr<|An<|Ai<|Ai<|Ao<|AE<|AB<|on<|AW<|zy (vf 2003 hk0)
theorem Nj (r:Ad):OKc (PX r):=cPu<|pZ r
def D8 (p1:(List AK)) (p2:(List AK)):Nat->Int->Bool
 | 0,_=>default
 | n0+1,v13=>bif decide ((v13:Int)<(p1.length:Int)) then (bif !(decide ((p1.getD v13.toNat default).Kind=(p2.getD v13.toNat default).Kind)&&(decide ((p1.getD v13.toNat default).A.X=(p2.getD v13.toNat default).A.X)&&(decide ((p1.getD v13.toNat default).A.Y=(p2.getD v13.toNat default).A.Y)&&(decide ((p1.getD v13.toNat default).B.X=(p2.getD v13.toNat default).B.X)&&(decide ((p1.getD v13.toNat default).B.Y=(p2.getD v13.toNat default).B.Y)&&(decide ((p1.getD v13.toNat default).C.X=(p2.getD v13.toNat default).C.X)&&(decide ((p1.getD v13.toNat default).C.Y=(p2.getD v13.toNat default).C.Y)&&true))))))) then false else ((D8 p1 p2 n0) (v13+1))) else true
def Fb (p1:(List AK)) (p2:(List AK)):Bool:=bif !decide (((p1.length:Int):Int)=(p2.length:Int)) then false else (D8 p1 p2 (((p1.length:Int)-0).toNat+1) 0)
def Nr:CT:=(81,[.one (lst 7 AK.c p1),.one (lst 7 AK.c p2)],.val [] (.av (.one (.b (Fb p1 p2)))))
abbrev Rb (t_:List (Nat×Tv)):List (Nat×Tv):=(0,tO (lst 7 AK.c p1))::(1,tO (lst 7 AK.c p2))::(12,tI (p1.length:Int))::t_
theorem kS (p1:(List AK)) (p2:(List AK)) (h0:(p1.length:Int)<=1000000):PuP 81 (Nr p1 p2).2.1 (tO (.b (Fb p1 p2))):=by
 refine pwf Tryz.func81 fun W0 M0 => ?_
 refine AB<|on<|AB<|AB<|on<|kb (!decide (((p1.length:Int):Int)=(p2.length:Int))) (fun h1 => ?_) (fun h1 => ?_)
 ·have g1:=Bq h1
  exact AB<|on<|AW<|Be<|zl (by simp only [Fb,h1,cond_true,cond_false] <;> kernel_rfl)
 have g1:=BN h1
 refine AQ<|AE<|AB<|AB<|rn ⟨(Rb p1 p2 [(13,tI 0)]),[]⟩<|AM<|lpC (κ:=Int) (fun x=>⟨(Rb p1 p2 [(13,tI x.2)]),[]⟩) (fun x=>((p1.length:Int)-x.2).toNat) (fun x=>(0<=x.2/\(x.2<=(p1.length:Int)\/x.2=0))/\D8 p1 p2 x.1 x.2=Fb p1 p2) ?_ (((p1.length:Int)-0).toNat+1,0) ⟨Nat.lt_succ_self _,⟨ax0,ax0⟩,(by simp only [Fb,h1,cond_true,cond_false])⟩
 rintro n0 v13 hm0 ⟨hinv0,hF0⟩
 try dsimp only at hm0 hinv0 hF0
 refine AB<|on<|AB<|kb (decide ((v13:Int)<(p1.length:Int))) (fun h2 => ?_) (fun h2 => ?_)
 ·have g2:=oT h2
  refine AQ<|AE<|AB<|AM<|AB<|on<|AB<|dw [] [] [0<=(v13:Int)/\(v13:Int)<((p1.length:Nat):Int),0<=(v13:Int)/\(v13:Int)<((p2.length:Nat):Int)] ⟨(Rb p1 p2 [(13,tI v13),(24,tB (!(decide ((p1.getD v13.toNat default).Kind=(p2.getD v13.toNat default).Kind)&&(decide ((p1.getD v13.toNat default).A.X=(p2.getD v13.toNat default).A.X)&&(decide ((p1.getD v13.toNat default).A.Y=(p2.getD v13.toNat default).A.Y)&&(decide ((p1.getD v13.toNat default).B.X=(p2.getD v13.toNat default).B.X)&&(decide ((p1.getD v13.toNat default).B.Y=(p2.getD v13.toNat default).B.Y)&&(decide ((p1.getD v13.toNat default).C.X=(p2.getD v13.toNat default).C.X)&&(decide ((p1.getD v13.toNat default).C.Y=(p2.getD v13.toNat default).C.Y)&&true)))))))))]),[]⟩ .nil (H2 au0 au0)<|AE ?_
  refine Ap (!(decide ((p1.getD v13.toNat default).Kind=(p2.getD v13.toNat default).Kind)&&(decide ((p1.getD v13.toNat default).A.X=(p2.getD v13.toNat default).A.X)&&(decide ((p1.getD v13.toNat default).A.Y=(p2.getD v13.toNat default).A.Y)&&(decide ((p1.getD v13.toNat default).B.X=(p2.getD v13.toNat default).B.X)&&(decide ((p1.getD v13.toNat default).B.Y=(p2.getD v13.toNat default).B.Y)&&(decide ((p1.getD v13.toNat default).C.X=(p2.getD v13.toNat default).C.X)&&(decide ((p1.getD v13.toNat default).C.Y=(p2.getD v13.toNat default).C.Y)&&true)))))))) kr (fun h3 => ?_) (fun h3 => ?_)
  ·exact AB<|on<|AW<|DB<|Be<|Be<|DB<|Be<|zl (by rw [<- hF0];simp only [D8,h2,h3,cond_true,cond_false] <;> kernel_rfl)
  refine AQ<|A3<|AE<|rg ⟨(Rb p1 p2 [(13,tI (W64 (v13+1)))]),[]⟩ ?_
  (try rw [(show W64 (v13+1)=v13+1 from Ae oM au3)])
  refine AE ?_
  refine ⟨(n0,v13+1),⟨?_,?_,(by rw [<- hF0];simp only [D8,h2,h3,cond_true,cond_false])⟩,Nat.lt_succ_self _,Al kr⟩
  ·dsimp only;omega
  exact ⟨ax0,ax0⟩
 exact An<|Ai<|Ai<|Ao<|AE<|AB<|on<|AW<|zl (by rw [<- hF0];simp only [D8,h2,cond_true,cond_false] <;> kernel_rfl)
theorem dY (p1:(List AK)) (p2:(List AK)) (h0:(p1.length:Int)<=1000000):OKc (Nr p1 p2):=cPu<|kS p1 p2 h0
def Ms (a:AO) (b:AO):Bool:=bif bif decide ((a.Kind:Int)=b.Kind) then decide ((a.R:Int)=b.R) else false then Fb a.Edges b.Edges else false
def Mf:CT:=(31,[.agg (AO.c a),.agg (AO.c b)],.val [] (.av (.one (.b (Ms a b)))))
abbrev VN:=(bif decide ((a.Kind:Int)=b.Kind) then decide ((a.R:Int)=b.R) else false)
theorem pW (a:AO) (b:AO) (h0:(a.Edges.length:Int)<=1000000) (h1:(b.Edges.length:Int)<=1000000):PuP 31 (Mf a b).2.1 (tO (.b (Ms a b))):=by
 refine pwf Tryz.func31 fun W0 M0 => ?_
 exact AB<|on<|AB<|oc [(22,Nr a.Edges b.Edges)] (t5 (decide ((a.Kind:Int)=b.Kind)) (t4 (VN a b) [gk (VN a b) (CD (Nr a.Edges b.Edges).2.1),gt (VN a b)])) (.cons (dY a.Edges b.Edges au6) .nil) (c5 (c4 (.cons (fun _=>rfl) (ci .nil))))<|AE<|AW<|zl
theorem Xg (a:AO) (b:AO) (h0:(a.Edges.length:Int)<=1000000) (h1:(b.Edges.length:Int)<=1000000):OKc (Mf a b):=cPu<|pW a b h0 h1
theorem or3_f {p q r:Prop} [Decidable p] [Decidable q] [Decidable r] (h:(bif bif !decide p then true else !decide q then true else !decide r)=false):p/\q/\r:=by
 by_cases hp:p <;> by_cases hq:q <;> by_cases hr:r <;> simp_all
def FE (a:AO) (b:AO):Nat->Int->Bool
 | 0,_=>default
 | n0+1,k=>bif decide ((k:Int)<(a.Edges.length:Int)) then (bif !(decide ((a.Edges.getD k.toNat default).Kind=(b.Edges.getD k.toNat default).Kind)&&(decide ((a.Edges.getD k.toNat default).A.X=(b.Edges.getD k.toNat default).A.X)&&(decide ((a.Edges.getD k.toNat default).A.Y=(b.Edges.getD k.toNat default).A.Y)&&(decide ((a.Edges.getD k.toNat default).B.X=(b.Edges.getD k.toNat default).B.X)&&(decide ((a.Edges.getD k.toNat default).B.Y=(b.Edges.getD k.toNat default).B.Y)&&(decide ((a.Edges.getD k.toNat default).C.X=(b.Edges.getD k.toNat default).C.X)&&(decide ((a.Edges.getD k.toNat default).C.Y=(b.Edges.getD k.toNat default).C.Y)&&true))))))) then false else ((FE a b n0) (k+1))) else true
def El (a:AO) (b:AO):Bool:=bif bif bif !decide ((a.Kind:Int)=b.Kind) then true else !decide ((a.R:Int)=b.R) then true else !decide (((a.Edges.length:Int):Int)=(b.Edges.length:Int)) then false else (FE a b (((a.Edges.length:Int)-0).toNat+1) 0)
def Mg:CT:=(59,[.agg (AO.c a),.agg (AO.c b)],.val [] (.av (.one (.b (El a b)))))
abbrev MJ:List (Nat×Tv):=[(2,tP 2 0),(3,tP 3 0),(5,tI 0)]
abbrev OL:List (Nat×Blk):=[(2,.cells (AO.c a) 28),(3,.cells (AO.c b) 28)]
abbrev aQ:=(bif !decide ((a.Kind:Int)=b.Kind) then true else !decide ((a.R:Int)=b.R))
theorem pX (a:AO) (b:AO) (h0:(a.Edges.length:Int)<=1000000) (h1:(b.Edges.length:Int)<=1000000):PuP 59 (Mg a b).2.1 (tO (.b (El a b))):=by
 refine pwf Tryz.func59 fun W0 M0 => ?_
 refine AB<|on<|AB<|AB<|rc [] (i5 (!decide ((a.Kind:Int)=b.Kind)) (i2 (aQ a b) (i5 (aQ a b) []))) ⟨[(2,tP 2 0),(3,tP 3 0),(26,tB (bif bif !decide ((a.Kind:Int)=b.Kind) then true else !decide ((a.R:Int)=b.R) then true else !decide (((a.Edges.length:Int):Int)=(b.Edges.length:Int))))],(OL a b)⟩ .nil (c5 (c2 (c5 .nil)))<|AE<|Ap _ rfl (fun h1 => ?_) (fun h1 => ?_)
 ·exact AB<|on<|AW<|Be<|zl (by simp only [El,h1,cond_true,cond_false] <;> kernel_rfl)
 refine AQ<|AE<|AB<|AB<|rn ⟨MJ,(OL a b)⟩<|AM<|lpC (κ:=Int) (fun x=>⟨[(2,tP 2 0),(3,tP 3 0),(5,tI x.2)],(OL a b)⟩) (fun x=>((a.Edges.length:Int)-x.2).toNat) (fun x=>(0<=x.2/\(x.2<=(a.Edges.length:Int)\/x.2=0))/\FE a b x.1 x.2=El a b) ?_ (((a.Edges.length:Int)-0).toNat+1,0) ⟨Nat.lt_succ_self _,⟨ax0,ax0⟩,(by simp only [El,h1,cond_true,cond_false])⟩
 rintro n0 k hm0 ⟨hinv0,hF0⟩
 try dsimp only at hm0 hinv0 hF0
 have hE:=(or3_f h1).2.2
 refine AB<|AB<|on<|kb (decide ((k:Int)<(a.Edges.length:Int))) (fun h2 => ?_) (fun h2 => ?_)
 ·have g2:=oT h2
  refine AQ<|AE<|AB<|AM<|AB<|dw [] [] [0<=(k:Int)/\(k:Int)<((a.Edges.length:Nat):Int),0<=(k:Int)/\(k:Int)<((b.Edges.length:Nat):Int)] ⟨[(2,tP 2 0),(3,tP 3 0),(5,tI k),(44,tB (!(decide ((a.Edges.getD k.toNat default).Kind=(b.Edges.getD k.toNat default).Kind)&&(decide ((a.Edges.getD k.toNat default).A.X=(b.Edges.getD k.toNat default).A.X)&&(decide ((a.Edges.getD k.toNat default).A.Y=(b.Edges.getD k.toNat default).A.Y)&&(decide ((a.Edges.getD k.toNat default).B.X=(b.Edges.getD k.toNat default).B.X)&&(decide ((a.Edges.getD k.toNat default).B.Y=(b.Edges.getD k.toNat default).B.Y)&&(decide ((a.Edges.getD k.toNat default).C.X=(b.Edges.getD k.toNat default).C.X)&&(decide ((a.Edges.getD k.toNat default).C.Y=(b.Edges.getD k.toNat default).C.Y)&&true)))))))))],(OL a b)⟩ .nil (H2 au0 au0)<|AE ?_
  refine Ap (!(decide ((a.Edges.getD k.toNat default).Kind=(b.Edges.getD k.toNat default).Kind)&&(decide ((a.Edges.getD k.toNat default).A.X=(b.Edges.getD k.toNat default).A.X)&&(decide ((a.Edges.getD k.toNat default).A.Y=(b.Edges.getD k.toNat default).A.Y)&&(decide ((a.Edges.getD k.toNat default).B.X=(b.Edges.getD k.toNat default).B.X)&&(decide ((a.Edges.getD k.toNat default).B.Y=(b.Edges.getD k.toNat default).B.Y)&&(decide ((a.Edges.getD k.toNat default).C.X=(b.Edges.getD k.toNat default).C.X)&&(decide ((a.Edges.getD k.toNat default).C.Y=(b.Edges.getD k.toNat default).C.Y)&&true)))))))) kr (fun h3 => ?_) (fun h3 => ?_)
  ·exact AB<|on<|AW<|DB<|Be<|Be<|DB<|Be<|zl (by rw [<- hF0];simp only [FE,h2,h3,cond_true,cond_false] <;> kernel_rfl)
  refine AQ<|A3<|AE<|rg ⟨[(2,tP 2 0),(3,tP 3 0),(5,tI (W64 (k+1)))],(OL a b)⟩ ?_
  (try rw [(show W64 (k+1)=k+1 from Ae oM au3)])
  refine AE ?_
  refine ⟨(n0,k+1),⟨?_,?_,(by rw [<- hF0];simp only [FE,h2,h3,cond_true,cond_false])⟩,Nat.lt_succ_self _,Al kr⟩
  ·dsimp only;omega
  exact ⟨ax0,ax0⟩
 exact An<|Ai<|Ai<|Ao<|AE<|AB<|on<|AW<|zl (by rw [<- hF0];simp only [FE,h2,cond_true,cond_false] <;> kernel_rfl)
theorem J0 (a:AO) (b:AO) (h0:(a.Edges.length:Int)<=1000000) (h1:(b.Edges.length:Int)<=1000000):OKc (Mg a b):=cPu<|pX a b h0 h1
end
section
open Go.RowKit
def lyP (l:List AL) (layer:Int) (k:Nat):Bool:=bif decide ((l.getD k default).From<=layer) then decide (layer<=(l.getD k default).To) else false
def lyC (l:List AL) (layer:Int) (k:Nat):Nat:=((List.range k).filter (lyP l layer)).length
def lyL (l:List AL) (layer:Int):List Int:=((List.range l.length).filter (lyP l layer)).map Int.ofNat
theorem mF (l:List AL) (layer:Int):(lyL l layer).length<=l.length:=by
 unfold lyL
 rw [List.length_map]
 exact Nat.le_trans (List.length_filter_le _ _) (by rw [List.length_range];exact Nat.le_refl _)
theorem mH (l:List AL) (layer:Int):lyC l layer l.length=(lyL l layer).length:=by unfold lyC lyL;rw [List.length_map]
theorem fE (p:Nat->Bool) (k n:Nat) (h:k<n) (hp:p k=true):∃ r,(List.range n).filter p=(List.range k).filter p++k::r:=by
 obtain ⟨m,rfl⟩:∃ m,n=k+(m+1):=⟨n-k-1,by omega⟩
 rw [List.range_add,List.filter_append,List.range_succ_eq_map,List.map_cons,Nat.add_zero,List.filter_cons_of_pos hp]
 exact ⟨_,rfl⟩
theorem mG {l:List AL} {layer:Int} {k:Nat} (hp:lyP l layer k=true):lyC l layer (k+1)=lyC l layer k+1:=by
 unfold lyC
 rw [List.range_succ,List.filter_append,List.filter_cons_of_pos hp]
 simp
theorem rM {l:List AL} {layer:Int} {k:Nat} (hp:lyP l layer k=false):lyC l layer (k+1)=lyC l layer k:=by
 unfold lyC
 rw [List.range_succ,List.filter_append,List.filter_cons_of_neg (by rw [hp];decide)]
 simp
theorem ly_at {l:List AL} {layer:Int} {k:Nat} (h:k<l.length) (hp:lyP l layer k=true):lyC l layer k<(lyL l layer).length/\(lyL l layer).getD (lyC l layer k) 0=k:=by
 obtain ⟨r,hr⟩:=fE (lyP l layer) k l.length h hp
 unfold lyL lyC
 rw [hr]
 constructor
 ·simp
 rw [List.getD_eq_getElem?_getD,List.map_append,List.getElem?_append_right (by simp)]
 simp
abbrev Eu (l:List AL):Cl:=.eptr 1 1 (fun _ j=>([lst 9 AL.c l]:List Cl).getD j default) 0 0
abbrev Et (n:Int):Cl:=.eptr 1 1 (fun _ j=>([.i n]:List Cl).getD j default) 0 0
abbrev YP (x:AL):Cl:=.eptr 9 1 (fun _ j=>(AL.c x:List Cl).getD j default) 0 0
abbrev ylY (ly:Nat):Tv:=.av (.one (.val (.func (.yield ly) #[] #[])))
abbrev tOY (c:Cl):Tv:=.av (.one c)
theorem lT (l:List AL):NM (Eu l):=CL fun y hy=>by rw [List.mem_singleton.1 hy];exact Bc HD
theorem lS (n:Int):NM (Et n):=CL fun y hy=>by rw [List.mem_singleton.1 hy];exact .val _
section
variable (l:List AL) (layer:Int)
theorem fD (hl:(l.length:Int)<=1000000):JC Tryz.prog 126 2 (Am [Eu l,Et layer]) (lyL l layer).length (fun x=>[.one (.i ((lyL l layer).getD x.val 0))]):=by
 refine Qb Tryz.func126 rfl rfl (fun x=>rfl) (fun x e he c hc => ?_) kr (fun i hi => ?_) ?_
 ·rw [List.mem_singleton.1 he] at hc
  rw [List.mem_singleton.1 hc]
  rfl
 ·match i,hi with
  | 0,_=>rfl
  | 1,_=>rfl
 intro Ow n0 ly JJ Jx hO hJg hY
 refine DF ?_
 refine DL hO (Bg (p:=fun u=>Tv.dv u=true) (by simp [EL,Cn,Tv.dv,Av.dv,Cl.dv,List.range,List.range.loop,Am])) rfl fun W0 X1 M1 => ?_
 refine rg ⟨[(0,ylY ly),(1,tOY (Eu l)),(2,tOY (Et layer)),(6,tOY (lst 9 AL.c l)),(7,tI (l.length:Int)),(8,tI 0)],[]⟩ ?_
 refine DA ?_
 refine GN ?_
 refine Nk (ι:=Nat) (fun k=>⟨[(0,ylY ly),(1,tOY (Eu l)),(2,tOY (Et layer)),(6,tOY (lst 9 AL.c l)),(7,tI (l.length:Int)),(8,tI (k:Int))],[]⟩) (fun k=>JJ (lyC l layer k)) (fun k=>k<=l.length) (fun k=>l.length-k) (fun k hk => ?_) 0 (Nat.zero_le _)
 have hd:∀ (x:List (Nat×Tv)),(∀ p∈x,p.2.dv=true)->∀ i u,get x i=some u->u.dv=true:=fun x h=>Bg (p:=fun u=>Tv.dv u=true) h
 refine DF ?_
 refine DL hO (hd _ (by simp only [List.forall_mem_cons];exact ⟨rfl,rfl,rfl,rfl,rfl,rfl,fun x hx=>by cases hx⟩)) rfl fun W0 X1 M1 => ?_
 refine rg ⟨[(0,ylY ly),(1,tOY (Eu l)),(2,tOY (Et layer)),(6,tOY (lst 9 AL.c l)),(7,tI (l.length:Int)),(8,tI (k:Int)),(9,tB (decide ((k:Int)<(l.length:Int))))],[]⟩ ?_
 refine DA ?_
 refine DF ?_
 refine GD (decide ((k:Int)<(l.length:Int))) kr (fun hc => ?_) (fun hc => ?_)
 ·have hlt:k<l.length:=by have:=oT hc;omega
  refine Hb ?_
  refine DA ?_
  refine DF ?_
  refine GN ?_
  refine DF ?_
  refine DL hO (hd _ (by simp only [List.forall_mem_cons];exact ⟨rfl,rfl,rfl,rfl,rfl,rfl,rfl,fun x hx=>by cases hx⟩)) rfl fun W0 X1 M1 => ?_
  refine rc [] [0<=(k:Int)/\(k:Int)<((l.length:Nat):Int)] ⟨[(0,ylY ly),(1,tOY (Eu l)),(2,tOY (Et layer)),(4,tI (k:Int)),(5,tP 5 0),(6,tOY (lst 9 AL.c l)),(7,tI (l.length:Int)),(8,tI (k:Int))],[(5,.cells (AL.c (l.getD (k:Int).toNat default)) 61)]⟩ .nil (H1 ⟨by omega,by omega⟩) ?_
  refine DA ?_
  rw [Int.toNat_natCast]
  generalize hx:l.getD k default=x
  refine X3 (S:=⟨[(0,ylY ly),(1,tOY (Eu l)),(2,tOY (Et layer)),(4,tI (k:Int)),(5,tOY (YP x)),(6,tOY (lst 9 AL.c l)),(7,tI (l.length:Int)),(8,tI (k:Int))],[]⟩) hO (fun W0 M1=>Hm _ 5 (AL.c x) 61 (K:=[]) (fun k x h=>by cases h) kr kr kr kr) ?_
  refine DF ?_
  cases hp:lyP l layer k with
  | true =>
   have hG:((bif decide (x.From<=layer) then decide (layer<=x.To) else false)=true):=by unfold lyP at hp;rw [hx] at hp;exact hp
   obtain ⟨hc1,hc2⟩:=ly_at hlt hp
   refine Kw ?_
   refine Ha hO Cq 11 [0,1,2,4,5,6,7,8,23] [(decide (x.From<=layer)=true)->(decide (x.From<=layer)=true),(decide (x.From<=layer)=true)->(decide (x.From<=layer)=true),(decide (x.From<=layer)=true)->(decide (x.From<=layer)=true),(decide (x.From<=layer)=true)->(decide (x.From<=layer)=true)] [(0,ylY ly),(1,tOY (Eu l)),(2,tOY (Et layer)),(4,tI (k:Int)),(5,tOY (YP x)),(6,tOY (lst 9 AL.c l)),(7,tI (l.length:Int)),(8,tI (k:Int)),(23,tB (bif decide (x.From<=layer) then decide (layer<=x.To) else false))] kr (.cons id (.cons id (.cons id (.cons id .nil)))) (hd _ (by simp only [List.forall_mem_cons];exact ⟨rfl,rfl,rfl,rfl,rfl,rfl,rfl,rfl,fun x hx=>by cases hx⟩)) rfl ?_
   refine Lb hO Cq 10 true ((bif decide (x.From<=layer) then decide (layer<=x.To) else false)=true) [] ([(0,ylY ly),(1,tOY (Eu l)),(2,tOY (Et layer)),(4,tI (k:Int)),(5,tOY (YP x)),(6,tOY (lst 9 AL.c l)),(7,tI (l.length:Int)),(8,tI (k:Int)),(23,tB (bif decide (x.From<=layer) then decide (layer<=x.To) else false))]++[(24,ylY ly)]) rfl rfl hG kr .nil (hd _ (by simp only [List.forall_mem_cons];exact ⟨rfl,rfl,rfl,rfl,rfl,rfl,rfl,rfl,rfl,fun x hx=>by cases hx⟩)) rfl ?_
   refine Lb hO Cq 10 true ((bif decide (x.From<=layer) then decide (layer<=x.To) else false)=true) [] ([(0,ylY ly),(1,tOY (Eu l)),(2,tOY (Et layer)),(4,tI (k:Int)),(5,tOY (YP x)),(6,tOY (lst 9 AL.c l)),(7,tI (l.length:Int)),(8,tI (k:Int)),(23,tB (bif decide (x.From<=layer) then decide (layer<=x.To) else false))]++[(24,ylY ly),(25,tI (k:Int))]) rfl rfl hG kr .nil (hd _ (by simp only [List.cons_append,List.nil_append,List.forall_mem_cons];exact ⟨rfl,rfl,rfl,rfl,rfl,rfl,rfl,rfl,rfl,rfl,fun x hx=>by cases hx⟩)) rfl ?_
   refine Zc (ly:=ly) (d:=26) hO 10 true ((bif decide (x.From<=layer) then decide (layer<=x.To) else false)=true) rfl rfl hG [.one (.i (k:Int))] rfl rfl kr kr rfl rfl kr ?hT1 (fun A B=>hJg _ A B) (JJ (lyC l layer k+1)) (Jx (lyC l layer k+1)) ?hY [23] ?htf rfl ?ht ?hf
   case hT1=>exact Bg (p:=fun u=>Tv.dv u=true/\TvM u) (by
    simp only [List.cons_append,List.nil_append,List.forall_mem_cons]
    exact ⟨⟨rfl,A9 (.val _)⟩,⟨rfl,A9 (lT l)⟩,⟨rfl,A9 (lS layer)⟩,⟨rfl,A9 (.val _)⟩,⟨rfl,A9 (CL (HD x))⟩,⟨rfl,A9 (Bc HD)⟩,⟨rfl,A9 (.val _)⟩,⟨rfl,A9 (.val _)⟩,⟨rfl,A9 (.val _)⟩,⟨rfl,A9 (.val _)⟩,⟨rfl,A9 (.val _)⟩,fun x hx=>by cases hx⟩)
   case hY =>
    intro W hW
    have:=hY (lyC l layer k) hc1 W hW
    simp only [hc2] at this
    exact this
   case htf =>
    show ∀ i v,get [(23,tB (bif decide (x.From<=layer) then decide (layer<=x.To) else false))] i=some v->_
    exact Bg (p:=fun v=>∃ u,v=Tv.av (.one (.val u))) (by simp only [List.forall_mem_cons];exact ⟨⟨_,rfl⟩,fun x hx=>by cases hx⟩)
   case ht =>
    refine Jd [0,1,2,6,7,8,23,26] ⟨[(0,ylY ly),(1,tOY (Eu l)),(2,tOY (Et layer)),(6,tOY (lst 9 AL.c l)),(7,tI (l.length:Int)),(8,tI (k:Int)),(23,tB (bif decide (x.From<=layer) then decide (layer<=x.To) else false)),(26,tB true)],[]⟩ kr ?_
    refine Lb hO Cq 10 true ((bif decide (x.From<=layer) then decide (layer<=x.To) else false)=true) [] [(0,ylY ly),(1,tOY (Eu l)),(2,tOY (Et layer)),(6,tOY (lst 9 AL.c l)),(7,tI (l.length:Int)),(8,tI (k:Int)),(23,tB (bif decide (x.From<=layer) then decide (layer<=x.To) else false)),(26,tB true),(27,tB false)] rfl rfl hG kr .nil (hd _ (by simp only [List.forall_mem_cons];exact ⟨rfl,rfl,rfl,rfl,rfl,rfl,rfl,rfl,fun x hx=>by cases hx⟩)) rfl ?_
    refine Ha hO Cq 1 [0,1,2,6,7,8,28] [] [(0,ylY ly),(1,tOY (Eu l)),(2,tOY (Et layer)),(6,tOY (lst 9 AL.c l)),(7,tI (l.length:Int)),(8,tI (k:Int)),(28,tB (bif (bif decide (x.From<=layer) then decide (layer<=x.To) else false) then false else false))] kr .nil (hd _ (by simp only [List.forall_mem_cons];exact ⟨rfl,rfl,rfl,rfl,rfl,rfl,rfl,rfl,rfl,fun x hx=>by cases hx⟩)) rfl ?_
    refine Lc ?_
    refine DA ?_
    refine GD (bif (bif decide (x.From<=layer) then decide (layer<=x.To) else false) then false else false) kr (fun h=>by rw [hG] at h;cases h) (fun _ => ?_)
    refine Hb ?_
    refine UO ?_
    refine DA ?_
    refine DL hO (hd _ (by simp only [List.forall_mem_cons];exact ⟨rfl,rfl,rfl,rfl,rfl,rfl,rfl,fun x hx=>by cases hx⟩)) rfl fun W0 X1 M1 => ?_
    refine rg ⟨[(0,ylY ly),(1,tOY (Eu l)),(2,tOY (Et layer)),(6,tOY (lst 9 AL.c l)),(7,tI (l.length:Int)),(8,tI (W64 ((k:Int)+1)))],[]⟩ ?_
    refine DA ?_
    refine ⟨k+1,by omega,by omega,?_,by rw [mG hp],rfl⟩
    rw [Ae (by omega) (by omega)]
    rfl
   case hf =>
    refine Jd [23,26] ⟨[(23,tB (bif decide (x.From<=layer) then decide (layer<=x.To) else false)),(26,tB false)],[]⟩ kr ?_
    refine Lb hO Cq 10 true ((bif decide (x.From<=layer) then decide (layer<=x.To) else false)=true) [] [(23,tB (bif decide (x.From<=layer) then decide (layer<=x.To) else false)),(26,tB false),(27,tB true)] rfl rfl hG kr .nil (hd _ (by simp only [List.forall_mem_cons];exact ⟨rfl,rfl,fun x hx=>by cases hx⟩)) rfl ?_
    refine Ha hO Cq 1 [28] [] [(28,tB (bif (bif decide (x.From<=layer) then decide (layer<=x.To) else false) then true else false))] kr .nil (hd _ (by simp only [List.forall_mem_cons];exact ⟨rfl,rfl,rfl,fun x hx=>by cases hx⟩)) rfl ?_
    refine Lc ?_
    refine DA ?_
    refine GD (bif (bif decide (x.From<=layer) then decide (layer<=x.To) else false) then true else false) kr (fun _ => ?_) (fun h=>by rw [hG] at h;cases h)
    refine fK ?_
    exact ⟨.inl rfl,.inr ⟨_,hc1,rfl⟩⟩
  | false =>
   have hG:(bif decide (x.From<=layer) then decide (layer<=x.To) else false)=false:=by unfold lyP at hp;rw [hx] at hp;exact hp
   refine DL hO (hd _ (by simp only [List.forall_mem_cons];exact ⟨rfl,rfl,rfl,rfl,rfl,rfl,rfl,rfl,fun x hx=>by cases hx⟩)) rfl fun W0 X1 M1 => ?_
   refine De ?_
   refine GF Cq 11 [] [] [] [0,1,2,6,7,8,23] [] [(decide (x.From<=layer)=true)->(decide (x.From<=layer)=true),(decide (x.From<=layer)=true)->(decide (x.From<=layer)=true),(decide (x.From<=layer)=true)->(decide (x.From<=layer)=true),(decide (x.From<=layer)=true)->(decide (x.From<=layer)=true)] ⟨[(0,ylY ly),(1,tOY (Eu l)),(2,tOY (Et layer)),(6,tOY (lst 9 AL.c l)),(7,tI (l.length:Int)),(8,tI (k:Int)),(23,tB (bif decide (x.From<=layer) then decide (layer<=x.To) else false))],[]⟩ .nil kr (.cons id (.cons id (.cons id (.cons id .nil)))) ?_
   refine HM 10 true ((bif decide (x.From<=layer) then decide (layer<=x.To) else false)=true) ⟨[(0,ylY ly),(1,tOY (Eu l)),(2,tOY (Et layer)),(6,tOY (lst 9 AL.c l)),(7,tI (l.length:Int)),(8,tI (k:Int)),(23,tB (bif decide (x.From<=layer) then decide (layer<=x.To) else false)),(24,.grd ((bif decide (x.From<=layer) then decide (layer<=x.To) else false)=true) (.one (.val (.bool false))))],[]⟩ rfl rfl (fun e=>by rw [hG] at e;cases e) kr kr ?_
   refine HM 10 true ((bif decide (x.From<=layer) then decide (layer<=x.To) else false)=true) ⟨[(0,ylY ly),(1,tOY (Eu l)),(2,tOY (Et layer)),(6,tOY (lst 9 AL.c l)),(7,tI (l.length:Int)),(8,tI (k:Int)),(23,tB (bif decide (x.From<=layer) then decide (layer<=x.To) else false)),(24,.grd ((bif decide (x.From<=layer) then decide (layer<=x.To) else false)=true) (.one (.val (.bool false)))),(25,.grd ((bif decide (x.From<=layer) then decide (layer<=x.To) else false)=true) (.one (.val (.bool false))))],[]⟩ rfl rfl (fun e=>by rw [hG] at e;cases e) kr kr ?_
   refine HM 10 true ((bif decide (x.From<=layer) then decide (layer<=x.To) else false)=true) ⟨[(0,ylY ly),(1,tOY (Eu l)),(2,tOY (Et layer)),(6,tOY (lst 9 AL.c l)),(7,tI (l.length:Int)),(8,tI (k:Int)),(23,tB (bif decide (x.From<=layer) then decide (layer<=x.To) else false)),(24,.grd ((bif decide (x.From<=layer) then decide (layer<=x.To) else false)=true) (.one (.val (.bool false)))),(25,.grd ((bif decide (x.From<=layer) then decide (layer<=x.To) else false)=true) (.one (.val (.bool false)))),(26,.grd ((bif decide (x.From<=layer) then decide (layer<=x.To) else false)=true) (.one (.val (.bool false))))],[]⟩ rfl rfl (fun e=>by rw [hG] at e;cases e) kr kr ?_
   refine HM 10 true ((bif decide (x.From<=layer) then decide (layer<=x.To) else false)=true) ⟨[(0,ylY ly),(1,tOY (Eu l)),(2,tOY (Et layer)),(6,tOY (lst 9 AL.c l)),(7,tI (l.length:Int)),(8,tI (k:Int)),(23,tB (bif decide (x.From<=layer) then decide (layer<=x.To) else false)),(24,.grd ((bif decide (x.From<=layer) then decide (layer<=x.To) else false)=true) (.one (.val (.bool false)))),(25,.grd ((bif decide (x.From<=layer) then decide (layer<=x.To) else false)=true) (.one (.val (.bool false)))),(26,.grd ((bif decide (x.From<=layer) then decide (layer<=x.To) else false)=true) (.one (.val (.bool false)))),(27,.grd ((bif decide (x.From<=layer) then decide (layer<=x.To) else false)=true) (.one (.val (.bool false))))],[]⟩ rfl rfl (fun e=>by rw [hG] at e;cases e) kr kr ?_
   refine Ev Cq [] [] [] [0,1,2,6,7,8,28] [] [((bif decide (x.From<=layer) then decide (layer<=x.To) else false)=true)->((bif decide (x.From<=layer) then decide (layer<=x.To) else false)=true)] ⟨[(0,ylY ly),(1,tOY (Eu l)),(2,tOY (Et layer)),(6,tOY (lst 9 AL.c l)),(7,tI (l.length:Int)),(8,tI (k:Int)),(28,tB (bif (bif decide (x.From<=layer) then decide (layer<=x.To) else false) then false else false))],[]⟩ .nil kr (.cons id .nil) ?_
   refine DA ?_
   refine GD (bif (bif decide (x.From<=layer) then decide (layer<=x.To) else false) then false else false) kr (fun h=>by rw [hG] at h;cases h) (fun _ => ?_)
   refine Hb ?_
   refine UO ?_
   refine DA ?_
   refine DL hO (hd _ (by simp only [List.forall_mem_cons];exact ⟨rfl,rfl,rfl,rfl,rfl,rfl,rfl,fun x hx=>by cases hx⟩)) rfl fun W0 X1 M1 => ?_
   refine rg ⟨[(0,ylY ly),(1,tOY (Eu l)),(2,tOY (Et layer)),(6,tOY (lst 9 AL.c l)),(7,tI (l.length:Int)),(8,tI (W64 ((k:Int)+1)))],[]⟩ ?_
   refine DA ?_
   refine ⟨k+1,by omega,by omega,?_,by rw [rM hp],rfl⟩
   rw [Ae (by omega) (by omega)]
   rfl
 have hge:¬ k<l.length:=by have:=oF hc;omega
 have hkl:k=l.length:=by omega
 refine Nl ?_
 refine M8 ?_
 refine M8 ?_
 refine Nm ?_
 exact ⟨.inr rfl,.inl (by rw [hkl,mH])⟩
end
end
def Z0N (l:(List AL)) (layer:Int):CT:=(69,[.one (lst 9 AL.c l),.one (.i layer)],.val [] (.av (.one (.clo 126 2 (Am [.eptr 1 1 (fun _ j_=>([lst 9 AL.c l]:List Cl).getD j_ default) 0 0,.eptr 1 1 (fun _ j_=>([.i layer]:List Cl).getD j_ default) 0 0])))))
def Ho (l:(List AL)) (layer:Int):Nat->Nat->List Int->(List Int)
 | 0,_,AH=>AH
 | m+1,x,AH=>(Ho l layer m (x+1)) (AH++[((lyL l layer).getD x 0)])
def FOn (l:(List AL)) (layer:Int):(List Int):=Ho l layer (lyL l layer).length 0 ([]:List Int)
def cOn (l:(List AL)) (layer:Int):CT:=(20,[.one (lst 9 AL.c l),.one (.i layer)],.val [] (.av (.one (lst 1 eIn (FOn l layer)))))
abbrev Sx (l:List AL) (layer:Int):Nat×Tv:=(9,.av (.one (.clo 126 2 (Am [.eptr 1 1 (gD [lst 9 AL.c l]) 0 0,.eptr 1 1 (gD [.i layer]) 0 0]))))
theorem pOn (l:(List AL)) (layer:Int) (hl:(l.length:Int)<=1000000):PuP 20 (cOn l layer).2.1 (tO (lst 1 eIn (FOn l layer))):=by
 refine pwf Tryz.func20 fun W0 M0 => ?_
 refine AB<|on<|AB<|on<|AB<|AB<|rs 9 (Z0N l layer) ⟨[(5,tP 5 0),(Sx l layer)],[(5,.cells [vN] 57)]⟩ (cPu<|pT l layer)<|AE<|AM<|BE (Cv.trans (vr 5 3005 hk0) (Cv.trans (vg 2000 1 (fun _ _=>default) 3 [] [(3005,[0])] hk0) (KD (⟨[(5,tP 3005 0),(Sx l layer)],[(2000,.row 1 ([]:List Int).length (AP eIn ([]:List Int)) 3),(3005,.cells [.own 2000 1 ([]:List Int).length] 57)]⟩) 2000 (B9 1 (fun _ _=>default) eIn)))) ?_
 refine HN (ι:=List Int) [3005] 299999 3005 0 2000 (fun x=>[(2000,.row 1 x.length (AP eIn x) 3),(3005,.cells [.own 2000 1 x.length] 57)]) (fun x0=>[(5,tP 3005 0),(6,tI ((lyL l layer).getD x0.val 0)),(9,.av (.one (.clo 126 2 (Am [.eptr 1 1 (gD [lst 9 AL.c l]) 0 0,.eptr 1 1 (gD [.i layer]) 0 0]))))]) (fun j x=>x.length<=j) (fun y x=>Ho l layer ((lyL l layer).length-y) y x=FOn l layer) ([]:List Int) (fun _=>rfl) kr kr (fun _ _=>kr) (fD l layer oM) (fun i _=>LU (by simp only [List.forall_mem_cons];exact ⟨(CL (by simp only [List.forall_mem_cons];exact ⟨(Bc HD),fun x hx=>by cases hx⟩)),(CL (by simp only [List.forall_mem_cons];exact ⟨(.val _),fun x hx=>by cases hx⟩)),fun x hx=>by cases hx⟩) i) kr (fun _=>by kernel_rfl) (fun _=>rfl) (fun _=>rfl) (fun x=>(Bg (p:=BkN) (by simp only [List.forall_mem_cons];exact ⟨oY (fun x y hy=>by rw [List.mem_singleton.1 hy];exact (.val _)),Jm (by simp only [List.forall_mem_cons];exact ⟨(.own _ _ _),fun x hx=>by cases hx⟩),fun x hx=>by cases hx⟩))) (fun x0=>(Bg (p:=TvM) (by simp only [List.forall_mem_cons];exact ⟨A9 (.ptr _ _),A9 (.val _),A9 (Ov (by simp only [List.forall_mem_cons];exact ⟨(CL (by simp only [List.forall_mem_cons];exact ⟨(Bc HD),fun x hx=>by cases hx⟩)),(CL (by simp only [List.forall_mem_cons];exact ⟨(.val _),fun x hx=>by cases hx⟩)),fun x hx=>by cases hx⟩)),fun x hx=>by cases hx⟩))) (fun _=>by kernel_rfl) ax0 (by simp only [FOn,Nat.sub_zero,cond_true,cond_false]) (fun l1 W1 M1 X1 x0 j AH hinv hPX => ?_) (fun l2 W2 M2 X2 x0 j AH hPX hj hinv => ?_) (fun AH hinv hF0 => ?_)
 ·have hinv0:AH.length<=j:=hinv;clear hinv
  refine CW<|rg ⟨[(5,tP 3005 0),(6,tI ((lyL l layer).getD x0.val 0)),(Sx l layer)],[(2000,.row 1 AH.length (AP eIn AH) 3),(3005,.cells [.own 2000 1 AH.length] 57)]⟩ ?_
  exact ⟨_,Cv.refl _,rfl,rfl⟩
 ·have hinv0:AH.length<=j:=hinv;clear hinv
  obtain ⟨Xb0,hXb0⟩:∃ Xb,Ho l layer ((lyL l layer).length-x0.val) x0.val AH=Xb:=⟨_,rfl⟩
  have hF0:=hXb0
  rw [show (lyL l layer).length-x0.val=((lyL l layer).length-(x0.val+1))+1 by have:=x0.isLt;omega] at hF0
  have hly:=mF l layer
  refine CW<|AM<|rc [] [AH.length=AH.length,AH.length+1<=maxLen,(AH.length+1)*8<=140737488355328] ⟨[(5,tP 3005 0),(Sx l layer)],[(14,.row 1 (AH.length+1) (fun i_ j_=>if i_<AH.length then (AP eIn AH) i_ j_ else (BG 1 1 [.i ((lyL l layer).getD x0.val 0)]) (i_-AH.length) j_) 3),(3005,.cells [.own 14 1 (AH.length+1)] 57)]⟩ .nil (H3 rfl au2 au2)<|A3 ?_
  refine ⟨_,Cv.trans (A5 14 (BF (A1 1 eIn AH) (BC 1 eIn ([((lyL l layer).getD x0.val 0)]:List Int)))) (wr (⟨[(5,tP 3005 0),(Sx l layer)],[(2000,.row 1 (AH++[((lyL l layer).getD x0.val 0)]).length (AP eIn (AH++[((lyL l layer).getD x0.val 0)])) 3),(3005,.cells [.own 2000 1 (AH++[((lyL l layer).getD x0.val 0)]).length] 57)]⟩) 14 2000 (K:=[299999,3005]) (fun k x h=>.inl (hPX k x h))),rfl,(AH++[((lyL l layer).getD x0.val 0)]),ax0,fun hk hF => ?_,fun _ _ h=>h⟩
  have e0:Ho l layer ((lyL l layer).length-(x0.val+1)) (x0.val+1) (AH++[((lyL l layer).getD x0.val 0)])=Xb0:=by
   rw [<- hF0]
   first | (simp only [Ho,cond_true,cond_false] <;> rfl)
  subst hk
  change Ho l layer ((lyL l layer).length-x0.val) x0.val AH=FOn l layer at hF
  show Ho l layer ((lyL l layer).length-(x0.val+1)) (x0.val+1) (AH++[((lyL l layer).getD x0.val 0)])=FOn l layer
  exact e0.trans (hXb0.symm.trans hF)
 have hinv0:AH.length<=(lyL l layer).length:=hinv;clear hinv
 change Ho l layer ((lyL l layer).length-(lyL l layer).length) (lyL l layer).length AH=FOn l layer at hF0
 rw [Nat.sub_self] at hF0
 exact A3<|AE<|AB<|on<|AW<|zy (vf 2000 hk0) (by rw [<- hF0];simp only [Ho,cond_true,cond_false] <;> kernel_rfl)
theorem qZ (l:(List AL)) (layer:Int) (hl:(l.length:Int)<=1000000):OKc (cOn l layer):=cPu<|pOn l layer hl
section
open Go.RowKit
def Fd (a:AL) (b:AL):(Int×Int×Bool):=bif decide (((min a.To b.To):Int)<(max a.From b.From)) then (0,0,false) else (max a.From b.From,min a.To b.To,true)
variable (a:AL) (p:BZ) (l:List Ad) (b:AL) (v10:Int)
def YK:CT:=(22,[.agg (AL.c a),.agg (AL.c b)],.val [] (.tup [.one (.i (Fd a b).1),.one (.i (Fd a b).2.1),.one (.b (Fd a b).2.2)]))
theorem kU (a:AL) (b:AL):PuP 22 (YK a b).2.1 (.tup [.one (.i (Fd a b).1),.one (.i (Fd a b).2.1),.one (.b (Fd a b).2.2)]):=by
 refine pwf Tryz.func22 fun W0 M0 => ?_
 refine AB<|on<|AB<|od [] [] [] .nil .nil<|AE<|AB<|AB<|on<|kb (decide (((min a.To b.To):Int)<(max a.From b.From))) (fun h1 => ?_) (fun h1 => ?_)
 ·exact AB<|on<|AW<|Be<|zl (by simp only [Fd,h1,cond_true,cond_false] <;> kernel_rfl)
 exact AQ<|AE<|AB<|on<|AW<|zl (by simp only [Fd,h1,cond_true,cond_false] <;> kernel_rfl)
theorem eA (a:AL) (b:AL):OKc (YK a b):=cPu<|kU a b
def E6 (a:AL) (b:AL):Bool:=bif bif bif bif bif bif decide ((a.Id:Int)=b.Id) then (a.Pad.toList==b.Pad.toList) else false then decide ((a.Kind:Int)=b.Kind) else false then (a.Net.toList==b.Net.toList) else false then decide ((a.From:Int)=b.From) else false then decide ((a.To:Int)=b.To) else false then Ms a.Shape b.Shape else false
def Mh:CT:=(26,[.agg (AL.c a),.agg (AL.c b)],.val [] (.av (.one (.b (E6 a b)))))
abbrev OT:=a.Pad.toList==b.Pad.toList
abbrev P6:=(bif bif bif bif bif decide ((a.Id:Int)=b.Id) then (OT a b) else false then decide ((a.Kind:Int)=b.Kind) else false then (a.Net.toList==b.Net.toList) else false then decide ((a.From:Int)=b.From) else false then decide ((a.To:Int)=b.To) else false)
abbrev bM:=(bif bif bif bif decide ((a.Id:Int)=b.Id) then (OT a b) else false then decide ((a.Kind:Int)=b.Kind) else false then (a.Net.toList==b.Net.toList) else false then decide ((a.From:Int)=b.From) else false)
abbrev bE:=(bif bif bif decide ((a.Id:Int)=b.Id) then (OT a b) else false then decide ((a.Kind:Int)=b.Kind) else false then (a.Net.toList==b.Net.toList) else false)
abbrev aZ:=(bif bif decide ((a.Id:Int)=b.Id) then (OT a b) else false then decide ((a.Kind:Int)=b.Kind) else false)
theorem pY (a:AL) (b:AL) (h0:(a.Shape.Edges.length:Int)<=1000000) (h1:(b.Shape.Edges.length:Int)<=1000000):PuP 26 (Mh a b).2.1 (tO (.b (E6 a b))):=by
 refine pwf Tryz.func26 fun W0 M0 => ?_
 exact AB<|on<|AB<|oc [] (t5 (decide ((a.Id:Int)=b.Id)) (t5 (bif decide ((a.Id:Int)=b.Id) then (OT a b) else false) (t5 (aZ a b) []))) .nil (c5 (c5 (c5 .nil)))<|AE<|AB<|oc [(52,Mf a.Shape b.Shape)] (t5 (bE a b) (t5 (bM a b) (t4 (P6 a b) [gk (P6 a b) (CD (Mf a.Shape b.Shape).2.1),gt (P6 a b)]))) (.cons (Xg a.Shape b.Shape au6 au6) .nil) (c5 (c5 (c4 (.cons (fun _=>rfl) (ci .nil)))))<|AE<|AW<|zl
theorem Ni (a:AL) (b:AL) (h0:(a.Shape.Edges.length:Int)<=1000000) (h1:(b.Shape.Edges.length:Int)<=1000000):OKc (Mh a b):=cPu<|pY a b h0 h1
def Z0O:AO:=Di (Ad.mk (W64 (p.Pitch*(l.getD v10.toNat default).X0)) (W64 (p.Pitch*(l.getD v10.toNat default).Y0)) (W64 (p.Pitch*(l.getD v10.toNat default).X1)) (W64 (p.Pitch*(l.getD v10.toNat default).Y1)))
def IU (p:BZ) (l:(List Ad)):Nat->List AO->Int->(List AO)
 | 0,_,_=>default
 | n0+1,out,v10=>bif decide ((v10:Int)<(l.length:Int)) then ((IU p l n0) (out++[Z0O p l v10]) (v10+1)) else out
def Pr (p:BZ) (l:(List Ad)):(List AO):=IU p l (((l.length:Int)-0).toNat+1) ([]:List AO) 0
def Wo:CT:=(30,[.agg (BZ.c p),.one (lst 4 Ad.c l)],.val [] (.av (.one (lst 3 AO.c (Pr p l)))))
theorem qM (p:BZ) (l:(List Ad)) (h0:(l.length:Int)<=1000000):PuP 30 (Wo p l).2.1 (tO (lst 3 AO.c (Pr p l))):=by
 refine pwf Tryz.func30 fun W0 M0 => ?_
 refine AB<|on<|AB<|on<|AB<|AB<|rn ⟨[(2,tP 2 0),(5,.av (.one vN)),(8,tO (lst 4 Ad.c l)),(9,tI (l.length:Int)),(10,tI 0)],[(2,.cells (BZ.c p) 97)]⟩<|AM<|BE (Cv.trans (vg 2000 3 (fun _ _=>default) 28 [(5,[0])] [] hk0) (Cv.trans (A5 2000 (B9 3 (fun _ _=>default) AO.c)) (ck (⟨[(2,tP 2 0),(5,tO (.own 2000 3 ([]:List AO).length)),(8,tO (lst 4 Ad.c l)),(9,tI (l.length:Int)),(10,tI 0)],[(2,.cells (BZ.c p) 97),(2000,.row 3 ([]:List AO).length (AP AO.c ([]:List AO)) 28)]⟩))))<|lpC (κ:=List AO×Int) (fun x=>⟨[(2,tP 2 0),(5,tO (.own 2000 3 x.2.1.length)),(8,tO (lst 4 Ad.c l)),(9,tI (l.length:Int)),(10,tI x.2.2)],[(2,.cells (BZ.c p) 97),(2000,.row 3 x.2.1.length (AP AO.c x.2.1) 28)]⟩) (fun x=>((l.length:Int)-x.2.2).toNat) (fun x=>(0<=x.2.2/\(x.2.2<=(l.length:Int)\/x.2.2=0)/\(x.2.1.length:Int)<=0+1*(x.2.2-0))/\IU p l x.1 x.2.1 x.2.2=Pr p l) ?_ (((l.length:Int)-0).toNat+1,([]:List AO),0) ⟨Nat.lt_succ_self _,⟨ax0,ax0,ax0⟩,(by simp only [Pr,cond_true,cond_false])⟩
 rintro n0 ⟨out,v10⟩ hm0 ⟨hinv0,hF0⟩
 try dsimp only at hm0 hinv0 hF0
 refine AB<|on<|AB<|kb (decide ((v10:Int)<(l.length:Int))) (fun h1 => ?_) (fun h1 => ?_)
 ·have g1:=oT h1
  refine AQ<|AE<|AB<|AM<|AB<|oc [] [0<=(v10:Int)/\(v10:Int)<((l.length:Nat):Int)] .nil (H1 au0)<|AE<|oo _ [none,out.length=out.length,out.length+1<=maxLen,(out.length+1)*40<=140737488355328] (J1 36 (Nj (Ad.mk (W64 (p.Pitch*(l.getD v10.toNat default).X0)) (W64 (p.Pitch*(l.getD v10.toNat default).Y0)) (W64 (p.Pitch*(l.getD v10.toNat default).X1)) (W64 (p.Pitch*(l.getD v10.toNat default).Y1))))) (H3 rfl au2 au2)<|A3<|AE<|BE (A5 38 (BF (A1 3 AO.c out) (BC 3 AO.c ([Z0O p l v10]:List AO))))<|rg ⟨[(2,tP 2 0),(5,tO (.own 38 3 (out++[Z0O p l v10]).length)),(8,tO (lst 4 Ad.c l)),(9,tI (l.length:Int)),(10,tI (W64 (v10+1)))],[(2,.cells (BZ.c p) 97),(38,.row 3 (out++[Z0O p l v10]).length (AP AO.c (out++[Z0O p l v10])) 28)]⟩ ?_
  (try rw [(show W64 (v10+1)=v10+1 from Ae oM au3)])
  refine AE ?_
  refine ⟨(n0,out++[Z0O p l v10],v10+1),⟨?_,?_,(by rw [<- hF0];simp only [IU,h1,cond_true,cond_false])⟩,Nat.lt_succ_self _,Cv.trans (vr 38 2000 hk0) (Al kr)⟩
  ·dsimp only;omega
  exact ⟨ax0,ax0,ax0⟩
 exact An<|Ai<|Ai<|Ao<|AE<|AB<|on<|AW<|zy (vf 2000 hk0) (by rw [<- hF0];simp only [IU,h1,cond_true,cond_false] <;> kernel_rfl)
theorem lM (p:BZ) (l:(List Ad)) (h0:(l.length:Int)<=1000000):OKc (Wo p l):=cPu<|qM p l h0
def EG (a:(List Aa)) (b:(List Aa)):Nat->Int->Bool
 | 0,_=>default
 | n0+1,v5=>bif decide ((v5:Int)<(a.length:Int)) then (bif bif bif bif !decide (((a.getD v5.toNat default).From:Int)=(b.getD v5.toNat default).From) then true else !decide (((a.getD v5.toNat default).To:Int)=(b.getD v5.toNat default).To) then true else !((a.getD v5.toNat default).Plated==(b.getD v5.toNat default).Plated) then true else !(El (a.getD v5.toNat default).Shape (b.getD v5.toNat default).Shape) then false else ((EG a b n0) (v5+1))) else true
def F8 (a:(List Aa)) (b:(List Aa)):Bool:=bif !decide (((a.length:Int):Int)=(b.length:Int)) then false else (EG a b (((a.length:Int)-0).toNat+1) 0)
def Iz (a:(List Aa)) (b:(List Aa)):CT:=(16,[.one (lst 6 Aa.c a),.one (lst 6 Aa.c b)],.val [] (.av (.one (.b (F8 a b)))))
abbrev sO (a:List Aa) (v5:Int):=a.getD v5.toNat default
abbrev sN (b:List Aa) (v5:Int):=b.getD v5.toNat default
abbrev OR (a:List Aa) (v5:Int) (b:List Aa):=(bif bif !decide (((sO a v5).From:Int)=(sN b v5).From) then true else !decide (((sO a v5).To:Int)=(sN b v5).To) then true else !((sO a v5).Plated==(sN b v5).Plated))
abbrev S0 (a:List Aa) (v5:Int) (b:List Aa):=(bif !decide (((sO a v5).From:Int)=(sN b v5).From) then true else !decide (((sO a v5).To:Int)=(sN b v5).To))
abbrev OH (a:List Aa) (v5:Int) (b:List Aa):Bool:=(!decide (((sO a v5).From:Int)=(sN b v5).From))
theorem V6 (a:(List Aa)) (b:(List Aa)) (h0:(a.length:Int)<=1000000000) (ha:∀ k,(((a.getD k default).Shape.Edges.length:Int)<=1000000)) (hbb:∀ k,(((b.getD k default).Shape.Edges.length:Int)<=1000000)):PuP 16 (Iz a b).2.1 (tO (.b (F8 a b))):=by
 refine pwf Tryz.func16 fun W0 M0 => ?_
 refine AB<|on<|AB<|AB<|on<|kb (!decide (((a.length:Int):Int)=(b.length:Int))) (fun h1 => ?_) (fun h1 => ?_)
 ·have g1:=Bq h1
  exact AB<|on<|AW<|Be<|zl (by simp only [F8,h1,cond_true,cond_false] <;> kernel_rfl)
 have g1:=BN h1
 refine AQ<|AE<|AB<|AB<|rn ⟨[(0,tO (lst 6 Aa.c a)),(1,tO (lst 6 Aa.c b)),(5,tI 0)],[]⟩<|AM<|lpC (κ:=Int) (fun x=>⟨[(0,tO (lst 6 Aa.c a)),(1,tO (lst 6 Aa.c b)),(5,tI x.2)],[]⟩) (fun x=>((a.length:Int)-x.2).toNat) (fun x=>(0<=x.2/\(x.2<=(a.length:Int)\/x.2=0))/\EG a b x.1 x.2=F8 a b) ?_ (((a.length:Int)-0).toNat+1,0) ⟨Nat.lt_succ_self _,⟨ax0,ax0⟩,(by simp only [F8,h1,cond_true,cond_false])⟩
 rintro n0 v5 hm0 ⟨hinv0,hF0⟩
 try dsimp only at hm0 hinv0 hF0
 refine AB<|AB<|on<|kb (decide ((v5:Int)<(a.length:Int))) (fun h2 => ?_) (fun h2 => ?_)
 ·have g2:=oT h2
  refine AQ<|AE<|AB<|AM<|AB ?_
  refine dw [] [(65,Mg (sO a v5).Shape (sN b v5).Shape)] ((0<=(v5:Int)/\(v5:Int)<((a.length:Nat):Int))::(0<=(v5:Int)/\(v5:Int)<((b.length:Nat):Int))::(i2 (OH a v5 b) ((gj (OH a v5 b) (0<=(v5:Int)/\(v5:Int)<((a.length:Nat):Int)))::(i4 (OH a v5 b) ((gj (OH a v5 b) (0<=(v5:Int)/\(v5:Int)<((b.length:Nat):Int)))::(i5 (OH a v5 b) (i2 (S0 a v5 b) ((gj (S0 a v5 b) (0<=(v5:Int)/\(v5:Int)<((a.length:Nat):Int)))::(i4 (S0 a v5 b) ((gj (S0 a v5 b) (0<=(v5:Int)/\(v5:Int)<((b.length:Nat):Int)))::(i5 (S0 a v5 b) (i2 (OR a v5 b) ((gj (OR a v5 b) (0<=(v5:Int)/\(v5:Int)<((a.length:Nat):Int)))::(i4 (OR a v5 b) ((gj (OR a v5 b) (0<=(v5:Int)/\(v5:Int)<((b.length:Nat):Int)))::(i4 (OR a v5 b) ((gj (OR a v5 b) (CD (Mg (a.getD v5.toNat default).Shape (b.getD v5.toNat default).Shape).2.1))::(i2 (OR a v5 b) [])))))))))))))))))) ⟨[(0,tO (lst 6 Aa.c a)),(1,tO (lst 6 Aa.c b)),(5,tI v5),(67,tB (bif bif bif !decide (((a.getD v5.toNat default).From:Int)=(b.getD v5.toNat default).From) then true else !decide (((a.getD v5.toNat default).To:Int)=(b.getD v5.toNat default).To) then true else !((a.getD v5.toNat default).Plated==(b.getD v5.toNat default).Plated) then true else !(El (a.getD v5.toNat default).Shape (b.getD v5.toNat default).Shape)))],[]⟩ (.cons (J0 (a.getD v5.toNat default).Shape (b.getD v5.toNat default).Shape (by first | (exact Vc hb _) | (exact Vj hb _) | (exact hb.parts) | (exact hb.tracks) | (exact hb.vias) | (exact hb.slots) | (exact hb.nets) | (exact hb.pins) | (exact Gt hb.parts ht) | (exact ha _) | (exact hbb _) | with_reducible assumption | omega | decide | (simp only [List.length_cons,List.length_nil,List.length_append];omega) | assumption) (by first | (exact Vc hb _) | (exact Vj hb _) | (exact hb.parts) | (exact hb.tracks) | (exact hb.vias) | (exact hb.slots) | (exact hb.nets) | (exact hb.pins) | (exact Gt hb.parts ht) | (exact ha _) | (exact hbb _) | with_reducible assumption | omega | decide | (simp only [List.length_cons,List.length_nil,List.length_append];omega) | assumption)) .nil) (.cons au0 (.cons au0 (c2 (.cons (fun hG=>by first | exact au0 | (simp only [decide_eq_true_eq,decide_eq_false_iff_not,Bool.not_eq_true,Bool.and_eq_true] at hG <;> omega) | (simp at hG <;> omega) | (simp only [decide_eq_true_eq,decide_eq_false_iff_not] at hG;simp only [Bf];omega)) (c4 (.cons (fun hG=>by first | exact au0 | (simp only [decide_eq_true_eq,decide_eq_false_iff_not,Bool.not_eq_true,Bool.and_eq_true] at hG <;> omega) | (simp at hG <;> omega) | (simp only [decide_eq_true_eq,decide_eq_false_iff_not] at hG;simp only [Bf];omega)) (c5 (c2 (.cons (fun hG=>by first | exact au0 | (simp only [decide_eq_true_eq,decide_eq_false_iff_not,Bool.not_eq_true,Bool.and_eq_true] at hG <;> omega) | (simp at hG <;> omega) | (simp only [decide_eq_true_eq,decide_eq_false_iff_not] at hG;simp only [Bf];omega)) (c4 (.cons (fun hG=>by first | exact au0 | (simp only [decide_eq_true_eq,decide_eq_false_iff_not,Bool.not_eq_true,Bool.and_eq_true] at hG <;> omega) | (simp at hG <;> omega) | (simp only [decide_eq_true_eq,decide_eq_false_iff_not] at hG;simp only [Bf];omega)) (c5 (c2 (.cons (fun hG=>by first | exact au0 | (simp only [decide_eq_true_eq,decide_eq_false_iff_not,Bool.not_eq_true,Bool.and_eq_true] at hG <;> omega) | (simp at hG <;> omega) | (simp only [decide_eq_true_eq,decide_eq_false_iff_not] at hG;simp only [Bf];omega)) (c4 (.cons (fun hG=>by first | exact au0 | (simp only [decide_eq_true_eq,decide_eq_false_iff_not,Bool.not_eq_true,Bool.and_eq_true] at hG <;> omega) | (simp at hG <;> omega) | (simp only [decide_eq_true_eq,decide_eq_false_iff_not] at hG;simp only [Bf];omega)) (c4 (.cons (fun _=>rfl) (c2 .nil)))))))))))))))))))<|AE ?_
  refine Ap _ rfl (fun h3 => ?_) (fun h3 => ?_)
  ·exact AB<|on<|AW<|DB<|Be<|Be<|DB<|Be<|zl (by rw [<- hF0];simp only [EG,h2,h3,cond_true,cond_false] <;> kernel_rfl)
  refine AQ<|A3<|AE<|rg ⟨[(0,tO (lst 6 Aa.c a)),(1,tO (lst 6 Aa.c b)),(5,tI (W64 (v5+1)))],[]⟩ ?_
  (try rw [(show W64 (v5+1)=v5+1 from Ae oM au3)])
  refine AE ?_
  refine ⟨(n0,v5+1),⟨?_,?_,(by rw [<- hF0];simp only [EG,h2,h3,cond_true,cond_false])⟩,Nat.lt_succ_self _,Al kr⟩
  ·dsimp only;omega
  exact ⟨ax0,ax0⟩
 exact An<|Ai<|Ai<|Ao<|AE<|AB<|on<|AW<|zl (by rw [<- hF0];simp only [EG,h2,cond_true,cond_false] <;> kernel_rfl)
theorem Tz (a:(List Aa)) (b:(List Aa)) (h0:(a.length:Int)<=1000000000) (ha:∀ k,(((a.getD k default).Shape.Edges.length:Int)<=1000000)) (hbb:∀ k,(((b.getD k default).Shape.Edges.length:Int)<=1000000)):OKc (Iz a b):=cPu<|V6 a b h0 ha hbb
def F7 (l:(List Int)) (want:(List Int)):Nat->Int->Bool
 | 0,_=>default
 | n0+1,v13=>bif decide ((v13:Int)<(l.length:Int)) then (bif !decide (((l.getD v13.toNat default):Int)=(want.getD v13.toNat default)) then false else ((F7 l want n0) (v13+1))) else true
def Gq (l:(List Int)) (want:(List Int)):Bool:=bif !decide (((l.length:Int):Int)=(want.length:Int)) then false else (F7 l want (((l.length:Int)-0).toNat+1) 0)
def Hd (l:(List Int)) (want:(List Int)):CT:=(19,[.one (lst 1 eIn l),.one (lst 1 eIn want)],.val [] (.av (.one (.b (Gq l want)))))
theorem kP (l:(List Int)) (want:(List Int)) (h0:(l.length:Int)<=1000000000):PuP 19 (Hd l want).2.1 (tO (.b (Gq l want))):=by
 refine pwf Tryz.func19 fun W0 M0 => ?_
 refine AB<|on<|AB<|AB<|on<|kb (!decide (((l.length:Int):Int)=(want.length:Int))) (fun h1 => ?_) (fun h1 => ?_)
 ·have g1:=Bq h1
  exact AB<|on<|AW<|Be<|zl (by simp only [Gq,h1,cond_true,cond_false] <;> kernel_rfl)
 have g1:=BN h1
 refine AQ<|AE<|AB<|AB<|rn ⟨[(0,tO (lst 1 eIn l)),(1,tO (lst 1 eIn want)),(12,tI (l.length:Int)),(13,tI 0)],[]⟩<|AM<|lpC (κ:=Int) (fun x=>⟨[(0,tO (lst 1 eIn l)),(1,tO (lst 1 eIn want)),(12,tI (l.length:Int)),(13,tI x.2)],[]⟩) (fun x=>((l.length:Int)-x.2).toNat) (fun x=>(0<=x.2/\(x.2<=(l.length:Int)\/x.2=0))/\F7 l want x.1 x.2=Gq l want) ?_ (((l.length:Int)-0).toNat+1,0) ⟨Nat.lt_succ_self _,⟨ax0,ax0⟩,(by simp only [Gq,h1,cond_true,cond_false])⟩
 rintro n0 v13 hm0 ⟨hinv0,hF0⟩
 try dsimp only at hm0 hinv0 hF0
 refine AB<|on<|AB<|kb (decide ((v13:Int)<(l.length:Int))) (fun h2 => ?_) (fun h2 => ?_)
 ·have g2:=oT h2
  refine AQ<|AE<|AB<|AM<|AB<|on<|AB<|od [] [] [0<=(v13:Int)/\(v13:Int)<((l.length:Nat):Int),0<=(v13:Int)/\(v13:Int)<((want.length:Nat):Int)] .nil (H2 au0 au0)<|AE<|kb (!decide (((l.getD v13.toNat default):Int)=(want.getD v13.toNat default))) (fun h3 => ?_) (fun h3 => ?_)
  ·have g3:=Bq h3
   exact AB<|on<|AW<|DB<|Be<|Be<|DB<|Be<|zl (by rw [<- hF0];simp only [F7,h2,h3,cond_true,cond_false] <;> kernel_rfl)
  have g3:=BN h3
  refine AQ<|A3<|AE<|rg ⟨[(0,tO (lst 1 eIn l)),(1,tO (lst 1 eIn want)),(12,tI (l.length:Int)),(13,tI (W64 (v13+1)))],[]⟩ ?_
  (try rw [(show W64 (v13+1)=v13+1 from Ae oM au3)])
  refine AE ?_
  refine ⟨(n0,v13+1),⟨?_,?_,(by rw [<- hF0];simp only [F7,h2,h3,cond_true,cond_false])⟩,Nat.lt_succ_self _,Al kr⟩
  ·dsimp only;omega
  exact ⟨ax0,ax0⟩
 exact An<|Ai<|Ai<|Ao<|AE<|AB<|on<|AW<|zl (by rw [<- hF0];simp only [F7,h2,cond_true,cond_false] <;> kernel_rfl)
theorem Ot (l:(List Int)) (want:(List Int)) (h0:(l.length:Int)<=1000000000):OKc (Hd l want):=cPu<|kP l want h0
def AR:(AG×(List AN)):=(AG.mk 2 (AO.mk 0 [] 0) [AF.mk 7 ({ data := #[85,49] }:ByteArray) ({ data := #[111,110,101] }:ByteArray) (AC.mk 100 50) 0 false] [] [AV.mk 3 (⟨#[]⟩) 2 (Bs (AC.mk 1 0) 2)] [Aw.mk 2 (⟨#[]⟩) (AC.mk 20 20) 6 4 1 2] [] [] [Aj.mk 9 (Bs (AC.mk 0 5) 3)] [] [] [] [],[AN.mk ({ data := #[111,110,101] }:ByteArray) [BH.mk ({ data := #[80,49] }:ByteArray) (Di (Ad.mk (-4) (-4) 4 4)) (AC.mk 0 0) 4] []])
def PU:CT:=(36,[],.val [] (.tup [.agg (AG.c AR.1),.one (lst 3 AN.c AR.2)]))
theorem V4  : FV Tryz.prog 36 (PU ).2.1 (.tup [.agg (AG.c AR.1),.one (lst 3 AN.c AR.2)]):=by
 refine pwf Tryz.func36 fun W0 M0 => ?_
 refine AB<|on<|AB<|oq 5 _ (Nj (Ad.mk (-4) (-4) 4 4))<|AE<|AB<|on<|AB<|oq 14 _ (J4 (AC.mk 1 0) 2)<|AE<|AB<|on<|AB<|oq 23 _ (J4 (AC.mk 0 5) 3)<|AE<|AB<|od [] [] [] .nil .nil<|AE<|AW ?_
 exact xl (.tup [.agg [.i 2,.i 0,vN,.i 0,.list true 7 1 (BG 7 1 [.i 7,.s ({ data := #[85,49] }:ByteArray),.s ({ data := #[111,110,101] }:ByteArray),.i 100,.i 50,.i 0,.b false]),vN,.list true 6 1 (BG 6 1 [.i 3,.s (⟨#[]⟩),.i 2,.i (Bs (AC.mk 1 0) 2).Kind,lst 7 AK.c (Bs (AC.mk 1 0) 2).Edges,.i (Bs (AC.mk 1 0) 2).R]),.list true 8 1 (BG 8 1 [.i 2,.s (⟨#[]⟩),.i 20,.i 20,.i 6,.i 4,.i 1,.i 2]),vN,vN,.list true 4 1 (BG 4 1 [.i 9,.i (Bs (AC.mk 0 5) 3).Kind,lst 7 AK.c (Bs (AC.mk 0 5) 3).Edges,.i (Bs (AC.mk 0 5) 3).R]),vN,vN,vN,vN],.one (.list true 3 1 (BG 3 1 [.s ({ data := #[111,110,101] }:ByteArray),.list true 7 1 (BG 7 1 [.s ({ data := #[80,49] }:ByteArray),.i (Di (Ad.mk (-4) (-4) 4 4)).Kind,lst 7 AK.c (Di (Ad.mk (-4) (-4) 4 4)).Edges,.i (Di (Ad.mk (-4) (-4) 4 4)).R,.i 0,.i 0,.i 4]),vN]))]) (D3 (y:=.tup [.agg [.i 2,.i 0,lst 7 AK.c [],.i 0,lst 7 AF.c [AF.mk 7 ({ data := #[85,49] }:ByteArray) ({ data := #[111,110,101] }:ByteArray) (AC.mk 100 50) 0 false],lst 2 Bz.c [],lst 6 AV.c [AV.mk 3 (⟨#[]⟩) 2 (Bs (AC.mk 1 0) 2)],lst 8 Aw.c [Aw.mk 2 (⟨#[]⟩) (AC.mk 20 20) 6 4 1 2],lst 8 BZ.c [],lst 5 C4.c [],lst 4 Aj.c [Aj.mk 9 (Bs (AC.mk 0 5) 3)],lst 2 Ch.c [],lst 20 A0.c [],lst 3 CG.c [],lst 3 Ds.c []],.one (lst 3 AN.c [AN.mk ({ data := #[111,110,101] }:ByteArray) [BH.mk ({ data := #[80,49] }:ByteArray) (Di (Ad.mk (-4) (-4) 4 4)) (AC.mk 0 0) 4] []])]) (.tup (.cons (.agg (rr2 (.cons (Cm 7 AK.c) (rr (.cons (BW true (Ba (c:=AF.c) (xs:=([AF.mk 7 ({ data := #[85,49] }:ByteArray) ({ data := #[111,110,101] }:ByteArray) (AC.mk 100 50) 0 false]:List AF)) rfl kr)) (.cons (Cm 2 Bz.c) (.cons (BW true (Ba (c:=AV.c) (xs:=([AV.mk 3 (⟨#[]⟩) 2 (Bs (AC.mk 1 0) 2)]:List AV)) rfl kr)) (.cons (BW true (Ba (c:=Aw.c) (xs:=([Aw.mk 2 (⟨#[]⟩) (AC.mk 20 20) 6 4 1 2]:List Aw)) rfl kr)) (.cons (Cm 8 BZ.c) (.cons (Cm 5 C4.c) (.cons (BW true (Ba (c:=Aj.c) (xs:=([Aj.mk 9 (Bs (AC.mk 0 5) 3)]:List Aj)) rfl kr)) (.cons (Cm 2 Ch.c) (.cons (Cm 20 A0.c) (.cons (Cm 3 CG.c) (.cons (Cm 3 Ds.c) .nil))))))))))))))) (.cons (.one (BW true (Fu (c:=AN.c) (xs:=([AN.mk ({ data := #[111,110,101] }:ByteArray) [BH.mk ({ data := #[80,49] }:ByteArray) (Di (Ad.mk (-4) (-4) 4 4)) (AC.mk 0 0) 4] []]:List AN)) (y:=[[.s ({ data := #[111,110,101] }:ByteArray),.list true 7 1 (BG 7 1 [.s ({ data := #[80,49] }:ByteArray),.i (Di (Ad.mk (-4) (-4) 4 4)).Kind,lst 7 AK.c (Di (Ad.mk (-4) (-4) 4 4)).Edges,.i (Di (Ad.mk (-4) (-4) 4 4)).R,.i 0,.i 0,.i 4]),vN]]) (z:=[[.s ({ data := #[111,110,101] }:ByteArray),lst 7 BH.c [BH.mk ({ data := #[80,49] }:ByteArray) (Di (Ad.mk (-4) (-4) 4 4)) (AC.mk 0 0) 4],lst 2 A7.c []]]) rfl kr kr (.cons (rr (.cons (BW true (Ba (c:=BH.c) (xs:=([BH.mk ({ data := #[80,49] }:ByteArray) (Di (Ad.mk (-4) (-4) 4 4)) (AC.mk 0 0) 4]:List BH)) rfl kr)) (.cons (Cm 2 A7.c) .nil))) .nil)))) .nil))) (by rfl))
theorem Tt  : OKc (PU ):=cPu<|V4
def iK (b:AG) (types:(List AN)):CT:=(14,[.agg (AG.c b),.one (HX types)],.val [] (.av (.one (lst 9 AL.c (DJ b types)))))
theorem WH (b:AG) (types:(List AN)) (hb:HV b) (ht:Bt types):OKc (iK b types):=cPu<|Kt (qAll b types hb ht)
def Sd (b:AG) (types:(List AN)):CT:=(17,[.agg (AG.c b),.one (HX types)],.val [] (.av (.one (lst 6 Aa.c (Fe b types)))))
theorem eE (b:AG) (types:(List AN)) (hb:HV b) (ht:Bt types):OKc (Sd b types):=cPu<|Kt (pR b types hb ht)
end
theorem rU:HV AR.1:=by
 constructor <;> decide
theorem gK:Bt AR.2:=by
 refine ⟨by decide,fun t ht => ?_⟩
 rw [show AR.2=[AR.2.getD 0 default] from rfl,List.mem_singleton] at ht
 subst ht
 refine ⟨by decide,by decide,fun p hp => ?_,fun g hg=>by cases hg⟩
 rw [show (AR.2.getD 0 default).Pads=[(AR.2.getD 0 default).Pads.getD 0 default] from rfl,List.mem_singleton] at hp
 subst hp
 unfold Us
 decide
theorem gA {α:Type} [Inhabited α] {p:α->Bool} {l:List α} (hd:p default=true) (h:l.all p=true) (k:Nat):p (l.getD k default)=true:=Eb (p:=fun x=>p x=true) hd (List.all_eq_true.1 h) k
theorem fY {l:List Aa} (h:(l.all fun x=>decide ((x.Shape.Edges.length:Int)<=1000000))=true):∀ k,(((l.getD k default).Shape.Edges.length:Int)<=1000000):=fun k=>oT (gA (p:=fun x:Aa=>decide ((x.Shape.Edges.length:Int)<=1000000)) (by decide) h k)
def Z0P:Bool := !decide ((((DJ AR.1 AR.2).length:Int):Int)=3)
def Z0Q:AL:=(DJ AR.1 AR.2).getD 0 default
def Z0R:Bool:=E6 Z0Q (AL.mk 7 ({ data := #[80,49] }:ByteArray) 1 (⟨#[]⟩) 1 2 (Di (Ad.mk 96 46 104 54)))
def Z0S:Bool:=bif Z0R then decide ((((DJ AR.1 AR.2).getD 1 default).Id:Int)=3) else false
def Z0T:Bool:=bif Z0S then decide ((((DJ AR.1 AR.2).getD 1 default).From:Int)=2) else false
def Z0U:Bool:=bif Z0T then decide ((((DJ AR.1 AR.2).getD 2 default).Id:Int)=2) else false
def Z0V:Bool:=bif Z0U then decide ((((DJ AR.1 AR.2).getD 2 default).Kind:Int)=3) else false
def Z0W:(List Int):=FOn (DJ AR.1 AR.2) 1
def Z0X:Bool:=bif Gq Z0W [0,2] then Gq (FOn (DJ AR.1 AR.2) 2) [0,1,2] else false
def Z0Z:AO:=(AR.1.Slots.getD 0 default).Shape
def Z10:(Nat->Nat->Cl):=BG 6 3 [.i (Bs (AC.mk 100 50) 2).Kind,lst 7 AK.c (Bs (AC.mk 100 50) 2).Edges,.i (Bs (AC.mk 100 50) 2).R,.i 1,.i 2,.b true,.i (Bs (AC.mk 20 20) 2).Kind,lst 7 AK.c (Bs (AC.mk 20 20) 2).Edges,.i (Bs (AC.mk 20 20) 2).R,.i 1,.i 2,.b true,.i Z0Z.Kind,lst 7 AK.c Z0Z.Edges,.i Z0Z.R,.i 1,.i 2,.b false]
def Z11:AL:=(DJ AR.1 AR.2).getD 1 default
def Z12:AL:=(DJ AR.1 AR.2).getD 2 default
def Z13:(List AO):=Pr (BZ.mk 0 (⟨#[]⟩) 0 10 0 0 0 []) [Ad.mk 1 2 3 4]
def Z14:Bool:=bif Z0V then (bif Z0X then Gq (FOn (DJ AR.1 AR.2) 3) [] else false) else false
def Z15:Bool:=bif Z14 then F8 (Fe AR.1 AR.2) [Aa.mk (Bs (AC.mk 100 50) 2) 1 2 true,Aa.mk (Bs (AC.mk 20 20) 2) 1 2 true,Aa.mk Z0Z 1 2 false] else false
def Z16:Bool:=bif Z15 then (Fd Z11 Z12).2.2 else false
def Z17:Bool:=bif Z16 then decide (((Fd Z11 Z12).1:Int)=2) else false
def Z18:Bool:=bif Z17 then decide (((Fd Z11 Z12).2.1:Int)=2) else false
def Z19:Bool:=bif Z18 then decide (((Z13.length:Int):Int)=1) else false
def DD:Bool:=bif Z0P then false else (bif Z19 then Ms (Z13.getD 0 default) (Di (Ad.mk 10 20 30 40)) else false)
def Q1:CT:=(9,[],.val [] (.av (.one (.b DD))))
abbrev JM:=DJ AR.1 AR.2
abbrev N6:=Gq Z0W [0,2]
abbrev aO:List Av:=[.one (lst 6 Aa.c (Fe AR.1 AR.2)),.one (.list true 6 3 Z10)]
theorem au14 {p:Prop} (h:p:=by first | (exact rU) | (exact gK) | (decide +kernel) | (exact fY (by decide +kernel)) | with_reducible assumption | omega | decide | (simp only [List.length_cons,List.length_nil,List.length_append];omega) | assumption):p:=h
theorem Y7  : FV Tryz.prog 9 (Q1 ).2.1 (tO (.b DD)):=by
 refine pwf Tryz.func9 fun W0 M0 => ?_
 refine AB<|on<|AB<|oq 12 _ Tt<|AE<|AB<|oq 17 _ (WH AR.1 AR.2 au14 au14)<|AE<|AB<|AB<|rn ⟨[(1,tP 1 0),(2,tO (lst 3 AN.c AR.2)),(3,tO (lst 9 AL.c JM)),(20,tB Z0P)],[(1,.cells (AG.c AR.1) 41)]⟩<|Ap _ rfl (fun h1 => ?_) (fun h1 => ?_)
 ·exact AB<|on<|AW<|Be<|zl (by simp only [DD,h1,cond_true,cond_false] <;> kernel_rfl)
 refine AQ<|AE<|AB ?_
 refine od [] _ [0<=(0:Int)/\(0:Int)<(((DJ AR.1 AR.2).length:Nat):Int),CD (PX (Ad.mk 96 46 104 54)).2.1,CD (Mh Z0Q (AL.mk 7 ({ data := #[80,49] }:ByteArray) 1 (⟨#[]⟩) 1 2 (Di (Ad.mk 96 46 104 54)))).2.1,(Z0R=true)->(Z0R=true),(Z0R=true)->(0<=(1:Int)/\(1:Int)<(((DJ AR.1 AR.2).length:Nat):Int)),(Z0R=true)->(Z0R=true),(Z0R=true)->(Z0R=true),(Z0R=true)->(Z0R=true),Z0R=true->(Z0R=true),(Z0S=true)->(Z0S=true),(Z0S=true)->(0<=(1:Int)/\(1:Int)<(((DJ AR.1 AR.2).length:Nat):Int)),(Z0S=true)->(Z0S=true),(Z0S=true)->(Z0S=true),(Z0S=true)->(Z0S=true),Z0S=true->(Z0S=true),(Z0T=true)->(Z0T=true),(Z0T=true)->(0<=(2:Int)/\(2:Int)<(((DJ AR.1 AR.2).length:Nat):Int)),(Z0T=true)->(Z0T=true),(Z0T=true)->(Z0T=true),(Z0T=true)->(Z0T=true),Z0T=true->(Z0T=true),(Z0U=true)->(Z0U=true),(Z0U=true)->(0<=(2:Int)/\(2:Int)<(((DJ AR.1 AR.2).length:Nat):Int)),(Z0U=true)->(Z0U=true),(Z0U=true)->(Z0U=true),(Z0U=true)->(Z0U=true),Z0U=true->(Z0U=true)] (J2 25 27 (Nj (Ad.mk 96 46 104 54)) (Ni Z0Q (AL.mk 7 ({ data := #[80,49] }:ByteArray) 1 (⟨#[]⟩) 1 2 (Di (Ad.mk 96 46 104 54))) au14 au14)) (.cons (by decide +kernel) (.cons rfl (.cons rfl (ci (.cons (fun hG=>by first | exact (by decide +kernel) | (simp only [decide_eq_true_eq,decide_eq_false_iff_not,Bool.not_eq_true,Bool.and_eq_true] at hG <;> omega) | (simp at hG <;> omega) | (simp only [decide_eq_true_eq,decide_eq_false_iff_not] at hG;simp only [Bf];omega)) (ci (ci (ci (ci (ci (.cons (fun hG=>by first | exact (by decide +kernel) | (simp only [decide_eq_true_eq,decide_eq_false_iff_not,Bool.not_eq_true,Bool.and_eq_true] at hG <;> omega) | (simp at hG <;> omega) | (simp only [decide_eq_true_eq,decide_eq_false_iff_not] at hG;simp only [Bf];omega)) (ci (ci (ci (ci (ci (.cons (fun hG=>by first | exact (by decide +kernel) | (simp only [decide_eq_true_eq,decide_eq_false_iff_not,Bool.not_eq_true,Bool.and_eq_true] at hG <;> omega) | (simp at hG <;> omega) | (simp only [decide_eq_true_eq,decide_eq_false_iff_not] at hG;simp only [Bf];omega)) (ci (ci (ci (ci (ci (.cons (fun hG=>by first | exact (by decide +kernel) | (simp only [decide_eq_true_eq,decide_eq_false_iff_not,Bool.not_eq_true,Bool.and_eq_true] at hG <;> omega) | (simp at hG <;> omega) | (simp only [decide_eq_true_eq,decide_eq_false_iff_not] at hG;simp only [Bf];omega)) (ci (ci (ci (ci .nil)))))))))))))))))))))))))))<|AE<|AB ?_
 refine oc [(57,cOn JM 1),(59,ceI [.one (lst 1 eIn Z0W),.one (.list true 1 2 (BG 1 2 [.i 0,.i 2]))] (Hd Z0W [0,2])),(62,cOn JM 2),(64,ceI [.one (lst 1 eIn (FOn JM 2)),.one (.list true 1 3 (BG 1 3 [.i 0,.i 1,.i 2]))] (Hd (FOn JM 2) [0,1,2])),(68,cOn JM 3),(69,ceI [.one (lst 1 eIn (FOn JM 3)),.one vN] (Hd (FOn JM 3) []))] ((CD (cOn (DJ AR.1 AR.2) 1).2.1)::(CD (ceI [.one (lst 1 eIn Z0W),.one (.list true 1 2 (BG 1 2 [.i 0,.i 2]))] (Hd Z0W [0,2])).2.1)::(gt N6)::(gk N6 (CD (cOn (DJ AR.1 AR.2) 2).2.1))::(t2 N6 [gk N6 (CD (ceI [.one (lst 1 eIn (FOn (DJ AR.1 AR.2) 2)),.one (.list true 1 3 (BG 1 3 [.i 0,.i 1,.i 2]))] (Hd (FOn (DJ AR.1 AR.2) 2) [0,1,2])).2.1),gt N6,(Z0X=true)->(Z0X=true),(Z0X=true)->(CD (cOn (DJ AR.1 AR.2) 3).2.1),(Z0X=true)->(Z0X=true),(Z0X=true)->(CD (ceI [.one (lst 1 eIn (FOn (DJ AR.1 AR.2) 3)),.one vN] (Hd (FOn (DJ AR.1 AR.2) 3) [])).2.1),Z0X=true->(Z0X=true)])) (.cons (qZ (DJ AR.1 AR.2) 1 au14) (.cons (Cf (Ot Z0W [0,2] au14) (.cons (AvE.refl _) (.cons (.one (BW true (Ba (c:=eIn) (xs:=([0,2]:List Int)) rfl kr))) .nil))) (.cons (qZ (DJ AR.1 AR.2) 2 au14) (.cons (Cf (Ot (FOn (DJ AR.1 AR.2) 2) [0,1,2] au14) (.cons (AvE.refl _) (.cons (.one (BW true (Ba (c:=eIn) (xs:=([0,1,2]:List Int)) rfl kr))) .nil))) (.cons (qZ (DJ AR.1 AR.2) 3 au14) (.cons (Cf (Ot (FOn (DJ AR.1 AR.2) 3) [] au14) (.cons (AvE.refl _) (.cons (.one (Cm 1 eIn)) .nil))) .nil)))))) (.cons rfl (.cons rfl (ci (.cons (fun _=>rfl) (c2 (.cons (fun _=>rfl) (ci (ci (.cons (fun _=>rfl) (ci (.cons (fun _=>rfl) (ci .nil))))))))))))<|AE<|AB ?_
 refine oe [] _ [none,none,0<=(0:Int)/\(0:Int)<((AR.1.Slots.length:Nat):Int)] (J2 72 75 (J4 (AC.mk 100 50) 2) (J4 (AC.mk 20 20) 2)) (H1 (by decide +kernel))<|AE<|AB<|oe [] _ [0<=(1:Int)/\(1:Int)<(((DJ AR.1 AR.2).length:Nat):Int),0<=(2:Int)/\(2:Int)<(((DJ AR.1 AR.2).length:Nat):Int),none] (J1 91 (eA Z11 Z12)) (H2 (by decide +kernel) (by decide +kernel))<|AE<|AB<|oq 98 (ceI [.agg [.i 0,.s (⟨#[]⟩),.i 0,.i 10,.i 0,.i 0,.i 0,vN],.one (.list true 4 1 (BG 4 1 [.i 1,.i 2,.i 3,.i 4]))] (Wo (BZ.mk 0 (⟨#[]⟩) 0 10 0 0 0 []) [Ad.mk 1 2 3 4])) (Cf (lM (BZ.mk 0 (⟨#[]⟩) 0 10 0 0 0 []) [Ad.mk 1 2 3 4] au14) (.cons (.agg (rr5 (rr2 (.cons (Cm 4 Ad.c) .nil)))) (.cons (.one (BW true (Ba (c:=Ad.c) (xs:=([Ad.mk 1 2 3 4]:List Ad)) rfl kr))) .nil)))<|AE<|AB ?_
 refine od [] [(106,Sd AR.1 AR.2),(108,ceI aO (Iz (Fe AR.1 AR.2) [Aa.mk (Bs (AC.mk 100 50) 2) 1 2 true,Aa.mk (Bs (AC.mk 20 20) 2) 1 2 true,Aa.mk Z0Z 1 2 false])),(131,PX (Ad.mk 10 20 30 40)),(132,Mf (Z13.getD 0 default) (Di (Ad.mk 10 20 30 40)))] [Z0V=true->(Z0V=true),(Z14=true)->(Z14=true),(Z14=true)->(Z14=true),(Z14=true)->(CD (Sd AR.1 AR.2).2.1),(Z14=true)->(Z14=true),(Z14=true)->(Z14=true),(Z14=true)->(CD (ceI aO (Iz (Fe AR.1 AR.2) [Aa.mk (Bs (AC.mk 100 50) 2) 1 2 true,Aa.mk (Bs (AC.mk 20 20) 2) 1 2 true,Aa.mk Z0Z 1 2 false])).2.1),Z14=true->(Z14=true),Z15=true->(Z15=true),(Z16=true)->(Z16=true),Z16=true->(Z16=true),(Z17=true)->(Z17=true),Z17=true->(Z17=true),(Z18=true)->(Z18=true),(Z18=true)->(Z18=true),Z18=true->(Z18=true),(Z19=true)->(Z19=true),(Z19=true)->(0<=(0:Int)/\(0:Int)<((Z13.length:Nat):Int)),(Z19=true)->(Z19=true),(Z19=true)->(Z19=true),(Z19=true)->(CD (PX (Ad.mk 10 20 30 40)).2.1),(Z19=true)->(Z19=true),(Z19=true)->(Z19=true),(Z19=true)->(CD (Mf (Z13.getD 0 default) (Di (Ad.mk 10 20 30 40))).2.1),Z19=true->(Z19=true)] (.cons (eE AR.1 AR.2 au14 au14) (.cons (Cf (Tz (Fe AR.1 AR.2) [Aa.mk (Bs (AC.mk 100 50) 2) 1 2 true,Aa.mk (Bs (AC.mk 20 20) 2) 1 2 true,Aa.mk Z0Z 1 2 false] au14 au14 au14) (.cons (AvE.refl _) (.cons (.one (BW true (Ba (c:=Aa.c) (xs:=([Aa.mk (Bs (AC.mk 100 50) 2) 1 2 true,Aa.mk (Bs (AC.mk 20 20) 2) 1 2 true,Aa.mk Z0Z 1 2 false]:List Aa)) rfl kr))) .nil))) (.cons (Nj (Ad.mk 10 20 30 40)) (.cons (Xg (Z13.getD 0 default) (Di (Ad.mk 10 20 30 40)) au14 au14) .nil)))) (ci (ci (ci (.cons (fun _=>rfl) (ci (ci (.cons (fun _=>rfl) (ci (ci (ci (ci (ci (ci (ci (ci (ci (ci (.cons (fun hG=>by first | exact (by decide +kernel) | (simp only [decide_eq_true_eq,decide_eq_false_iff_not,Bool.not_eq_true,Bool.and_eq_true] at hG <;> omega) | (simp at hG <;> omega) | (simp only [decide_eq_true_eq,decide_eq_false_iff_not] at hG;simp only [Bf];omega)) (ci (ci (.cons (fun _=>rfl) (ci (ci (.cons (fun _=>rfl) (ci .nil)))))))))))))))))))))))))<|AE<|AW ?_
 exact zl (by simp only [DD,h1,cond_true,cond_false] <;> kernel_rfl)
theorem V9  : OKc (Q1 ):=cPu<|Y7
theorem pL:DD=true:=by decide +kernel
section
open Go.RowKit
def Z1b:Blk:=.cells N8 82
variable (types:List AN) (l:List AC) (k:Int) (x0:AC) (name:ByteArray) (r:Ad) (x1:Int)
def Z1c:Bool:=((types.getD k.toNat default).Name.toList==name.toList)
def Dx (types:(List AN)) (name:ByteArray):Nat->Int->(AN×Bool)
 | 0,_=>default
 | n0+1,k=>bif decide ((k:Int)<(types.length:Int)) then (bif Z1c types k name then (types.getD k.toNat default,true) else ((Dx types name n0) (k+1))) else (AN.mk (⟨#[]⟩) [] [],false)
def Bn (types:(List AN)) (name:ByteArray):(AN×Bool):=Dx types name (((types.length:Int)-0).toNat+1) 0
def iH:CT:=(33,[.one (HX types),.one (.s name)],.val [] (.tup [.agg (AN.c (Bn types name).1),.one (.b (Bn types name).2)]))
theorem qI (types:(List AN)) (name:ByteArray) (h0:(types.length:Int)<=1000000):PuP 33 (iH types name).2.1 (.tup [.agg (AN.c (Bn types name).1),.one (.b (Bn types name).2)]):=by
 refine pwf Tryz.func33 fun W0 M0 => ?_
 refine AB<|on<|AB<|AB<|rn ⟨[(0,tO (HX types)),(1,tO (.s name)),(4,tP 4 0),(6,tI 0)],[(4,Z1b)]⟩<|AM<|lpC (κ:=Int) (fun x=>⟨[(0,tO (HX types)),(1,tO (.s name)),(4,tP 4 0),(6,tI x.2)],[(4,Z1b)]⟩) (fun x=>((types.length:Int)-x.2).toNat) (fun x=>(0<=x.2/\0<=x.2/\(x.2<=(types.length:Int)\/x.2=0))/\Dx types name x.1 x.2=Bn types name) ?_ (((types.length:Int)-0).toNat+1,0) ⟨Nat.lt_succ_self _,⟨ax0,ax0,ax0⟩,(by simp only [Bn,cond_true,cond_false])⟩
 rintro n0 k hm0 ⟨hinv0,hF0⟩
 try dsimp only at hm0 hinv0 hF0
 refine AB<|AB<|on<|kb (decide ((k:Int)<(types.length:Int))) (fun h1 => ?_) (fun h1 => ?_)
 ·have g1:=oT h1
  refine AQ<|AE<|AB<|AM<|AB<|oc [] [0<=(k:Int)/\(k:Int)<((types.length:Nat):Int)] .nil (H1 au0)<|AE<|kb (Z1c types k name) (fun h2 => ?_) (fun h2 => ?_)
  ·exact AB<|oc [] [0<=(k:Int)/\(k:Int)<((types.length:Nat):Int)] .nil (H1 au0)<|AE<|AW<|DB<|Be<|Be<|DB<|Be<|zl (by rw [<- hF0];simp only [Dx,h1,h2,cond_true,cond_false] <;> kernel_rfl)
  refine AQ<|A3<|AE<|rg ⟨[(0,tO (HX types)),(1,tO (.s name)),(4,tP 4 0),(6,tI (W64 (k+1)))],[(4,Z1b)]⟩ ?_
  (try rw [(show W64 (k+1)=k+1 from Ae oM oM)])
  refine AE ?_
  refine ⟨(n0,k+1),⟨?_,?_,(by rw [<- hF0];simp only [Dx,h1,h2,cond_true,cond_false])⟩,Nat.lt_succ_self _,Al kr⟩
  ·dsimp only;omega
  exact ⟨ax0,ax0,ax0⟩
 exact An<|Ai<|Ai<|Ao<|AE<|AB<|on<|AW<|xl (.tup [.agg N8,.one (.b false)]) (D3 (y:=.tup aW) (.tup (.cons (.agg (rr (.cons (Cm 7 BH.c) (.cons (Cm 2 A7.c) .nil)))) (.cons (AvE.refl _) .nil))) (by rw [<- hF0];first | (simp only [Dx,h1,cond_true,cond_false] <;> rfl)))
theorem Xh (types:(List AN)) (name:ByteArray) (h0:(types.length:Int)<=1000000):OKc (iH types name):=cPu<|qI types name h0
theorem mO {α β:Type} [Inhabited α] (f:α->Bool) (K:α->β) (D:β) (xs:List α) (g:Nat->Int->β) (hg:∀ m (v:Nat),g (m+1) v=bif decide ((v:Int)<(xs.length:Int)) then (bif f (xs.getD v default) then K (xs.getD v default) else g m ((v:Int)+1)) else D) :
  ∀ (k v m:Nat),xs.length-v=k->v<=xs.length->k<m->g m v=match (xs.drop v).find? f with | some x=>K x | none=>D:=by
 intro k
 induction k with
 | zero =>
  intro v m hk hv hm
  obtain ⟨m,rfl⟩:∃ k,m=k+1:=⟨m-1,by omega⟩
  rw [hg,decide_eq_false (by omega),cond_false,List.drop_eq_nil_of_le (by omega)]
  rfl
 | succ k ih =>
  intro v m hk hv hm
  obtain ⟨m,rfl⟩:∃ k,m=k+1:=⟨m-1,by omega⟩
  have hlt:v<xs.length:=by omega
  have e:xs.getD v default=xs[v]:=by rw [List.getD_eq_getElem?_getD,List.getElem?_eq_getElem hlt];rfl
  rw [hg,decide_eq_true (by omega),cond_true,e,List.drop_eq_getElem_cons hlt,List.find?_cons]
  cases f xs[v] with
  | true=>rfl
  | false=>exact ih (v+1) m (by omega) (by omega) (by omega)
theorem ba_eq {a c:ByteArray} (h:(a.toList==c.toList)=true):a=c:=by have:=(We a c).1 h;cases this;rfl
theorem RW (types:List AN) (name:ByteArray):Bn types name=BA types name:=by
 rw [L8]
 unfold Bn Zh
 have h:=mO (fun t=>Hf t name) (fun t=>((t,true):AN×Bool)) (⟨⟨#[]⟩,[],[]⟩,false) types (Dx types name) (fun m v=>by rw [Dx];unfold Z1c;rw [Int.toNat_natCast];rfl) types.length 0 (((types.length:Int)-0).toNat+1) rfl (Nat.zero_le _) (by omega)
 rw [List.drop_zero] at h
 refine h.trans ?_
 cases hf:types.find? (fun t=>Hf t name) with
 | none=>rfl
 | some t =>
  have e:t.Name=name:=ba_eq (List.find?_some (p:=fun t=>Hf t name) hf)
  subst e
  rfl
def Z1d:Blk:=.cells [.i 0,vN,.i 0] 28
def Z1g:AC:=l.getD (Int.tmod (W64 (k+1)) (l.length:Int)).toNat default
abbrev VG:=[AK.mk 1 (l.getD k.toNat default) (Z1g l k) (AC.mk 0 0)]
def Ju (l:(List AC)):Nat->List AK->Int->AO
 | 0,_,_=>default
 | n0+1,s_1,k=>bif decide ((k:Int)<(l.length:Int)) then ((Ju l n0) (s_1++[AK.mk 1 (l.getD k.toNat default) (Z1g l k) (AC.mk 0 0)]) (k+1)) else (AO.mk 2 s_1 0)
def U2 (l:(List AC)):AO:=Ju l (((l.length:Int)-0).toNat+1) ([]:List AK) 0
def iG:CT:=(92,[.one (lst 2 AC.c l)],.val [] (.av (.agg (AO.c (U2 l)))))
abbrev RZ (t_:List (Nat×Tv)):List (Nat×Tv):=(0,tO (lst 2 AC.c l))::(2,tP 2 0)::(3,tP 3 0)::t_
theorem pLoop (l:(List AC)) (h0:(l.length:Int)<=1000000):PuP 92 (iG l).2.1 (.av (.agg (AO.c (U2 l)))):=by
 refine pwf Tryz.func92 fun W0 M0 => ?_
 refine AB<|on<|AB<|on<|AB<|AB<|rn ⟨(RZ l [(4,tI 0)]),[(2,Z1d),(3,.cells [.i 2,vN,.i 0] 28)]⟩<|AM<|BE (Cv.trans (vg 2000 7 (fun _ _=>default) 68 [] [(3,[1])] hk0) (Cv.trans (A5 2000 (B9 7 (fun _ _=>default) AK.c)) (ck (⟨(RZ l [(4,tI 0)]),[(2,Z1d),(3,.cells [.i 2,.own 2000 7 ([]:List AK).length,.i 0] 28),(2000,.row 7 ([]:List AK).length (AP AK.c ([]:List AK)) 68)]⟩))))<|lpC (κ:=List AK×Int) (fun x=>⟨(RZ l [(4,tI x.2.2)]),[(2,Z1d),(3,.cells [.i 2,.own 2000 7 x.2.1.length,.i 0] 28),(2000,.row 7 x.2.1.length (AP AK.c x.2.1) 68)]⟩) (fun x=>((l.length:Int)-x.2.2).toNat) (fun x=>(0<=x.2.2/\(x.2.2<=(l.length:Int)\/x.2.2=0)/\(x.2.1.length:Int)<=0+1*(x.2.2-0))/\Ju l x.1 x.2.1 x.2.2=U2 l) ?_ (((l.length:Int)-0).toNat+1,([]:List AK),0) ⟨Nat.lt_succ_self _,⟨ax0,ax0,ax0⟩,(by simp only [U2,cond_true,cond_false])⟩
 rintro n0 ⟨s_1,k⟩ hm0 ⟨hinv0,hF0⟩
 try dsimp only at hm0 hinv0 hF0
 refine AB<|AB<|on<|kb (decide ((k:Int)<(l.length:Int))) (fun h1 => ?_) (fun h1 => ?_)
 ·have g1:=oT h1
  refine AQ<|AE<|AB<|AM<|od [] [] [0<=(k:Int)/\(k:Int)<((l.length:Nat):Int),((l.length:Int):Int)≠0,0<=(Int.tmod (W64 (k+1)) (l.length:Int):Int)/\(Int.tmod (W64 (k+1)) (l.length:Int):Int)<((l.length:Nat):Int),s_1.length=s_1.length,s_1.length+1<=maxLen,(s_1.length+1)*56<=140737488355328] .nil (H6 au0 au15 au0 rfl au2 au2)<|A3<|AE<|BE (A5 28 (BF (A1 7 AK.c s_1) (BC 7 AK.c ([AK.mk 1 (l.getD k.toNat default) (Z1g l k) (AC.mk 0 0)]:List AK))))<|rg ⟨(RZ l [(4,tI (W64 (k+1)))]),[(2,Z1d),(3,.cells [.i 2,.own 28 7 (s_1++(VG l k)).length,.i 0] 28),(28,.row 7 (s_1++(VG l k)).length (AP AK.c (s_1++(VG l k))) 68)]⟩ ?_
  (try rw [(show W64 (k+1)=k+1 from Ae oM au3)])
  refine AE ?_
  refine ⟨(n0,s_1++[AK.mk 1 (l.getD k.toNat default) (Z1g l k) (AC.mk 0 0)],k+1),⟨?_,?_,(by rw [<- hF0];simp only [Ju,h1,cond_true,cond_false])⟩,Nat.lt_succ_self _,Cv.trans (vr 28 2000 hk0) (Al kr)⟩
  ·dsimp only;omega
  exact ⟨ax0,ax0,ax0⟩
 exact An<|Ai<|Ai<|Ao<|AE<|AB<|on<|AW<|zy (vf 2000 hk0) (by rw [<- hF0];simp only [Ju,h1,cond_true,cond_false] <;> kernel_rfl)
theorem rB (l:(List AC)) (h0:(l.length:Int)<=1000000):OKc (iG l):=cPu<|pLoop l h0
def Z1j:AO:=U2 [AC.mk r.X0 r.Y0,AC.mk r.X1 r.Y0,AC.mk r.X1 r.Y1,AC.mk r.X0 r.Y1]
def HP (r:Ad):AO:=Z1j r
def PY:CT:=(41,[.agg (Ad.c r)],.val [] (.av (.agg (AO.c (HP r)))))
theorem qA (r:Ad):PuP 41 (PY r).2.1 (.av (.agg (AO.c (HP r)))):=by
 refine pwf Tryz.func41 fun W0 M0 => ?_
 exact AB<|on<|AB<|oq 24 (ceI [.one (.list true 2 4 (BG 2 4 [.i r.X0,.i r.Y0,.i r.X1,.i r.Y0,.i r.X1,.i r.Y1,.i r.X0,.i r.Y1]))] (iG [AC.mk r.X0 r.Y0,AC.mk r.X1 r.Y0,AC.mk r.X1 r.Y1,AC.mk r.X0 r.Y1])) (Cf (rB [AC.mk r.X0 r.Y0,AC.mk r.X1 r.Y0,AC.mk r.X1 r.Y1,AC.mk r.X0 r.Y1] au10) (.cons (.one (BW true (Ba (c:=AC.c) (xs:=([AC.mk r.X0 r.Y0,AC.mk r.X1 r.Y0,AC.mk r.X1 r.Y1,AC.mk r.X0 r.Y1]:List AC)) rfl kr))) .nil))<|AE<|AW<|zl
theorem SD (r:Ad):OKc (PY r):=cPu<|qA r
def Pq (x0:AC) (x1:Int):AO:=AO.mk 1 [AK.mk 1 x0 x0 (AC.mk 0 0)] x1
def Wn:CT:=(49,[.agg (AC.c x0),.one (.i x1)],.val [] (.av (.agg (AO.c (Pq x0 x1)))))
theorem qK (x0:AC) (x1:Int):PuP 49 (Wn x0 x1).2.1 (.av (.agg (AO.c (Pq x0 x1)))):=by
 refine pwf Tryz.func49 fun W0 M0 => ?_
 exact AB<|on<|AB<|on<|AW<|xl (.av (.agg [.i 1,.list true 7 1 (BG 7 1 [.i 1,.i x0.X,.i x0.Y,.i x0.X,.i x0.Y,.i 0,.i 0]),.i x1])) (D3 (y:=.av (.agg [.i 1,lst 7 AK.c [AK.mk 1 x0 x0 (AC.mk 0 0)],.i x1])) (.av (.agg (rr (.cons (BW true (Ba (c:=AK.c) (xs:=([AK.mk 1 x0 x0 (AC.mk 0 0)]:List AK)) rfl kr)) (rr .nil))))) (by rfl))
theorem lL (x0:AC) (x1:Int):OKc (Wn x0 x1):=cPu<|qK x0 x1
end
section
open Go.RowKit
def Af (k:Int):ByteArray:=([({ data := #[80,49] }:ByteArray),({ data := #[80,50] }:ByteArray),({ data := #[80,51] }:ByteArray),({ data := #[80,52] }:ByteArray),({ data := #[80,53] }:ByteArray),({ data := #[80,54] }:ByteArray)]:List ByteArray).getD k.toNat ⟨#[]⟩
variable (a:AC) (b:AG) (b_:AC) (l:List (List Int)) (d:AD) (k:Int) (types:List AN) (x0:AF)
def Cs:CT:=(91,[.one (.i k)],.val [] (.av (.one (.s (Af k)))))
theorem dE (k:Int) (hk:0<=k/\k<6):PuP 91 (Cs k).2.1 (tO (.s (Af k))):=by
 refine pwf Tryz.func91 fun W0 M0 => ?_
 exact AB<|on<|AB<|oc [] [0<=(k:Int)/\(k:Int)<((6:Nat):Int)] .nil (H1 au0)<|AE<|AW<|zl
theorem Ea (k:Int) (hk:0<=k/\k<6):OKc (Cs k):=cPu<|dE k hk
def KJ (x0:AF):AZ:=AZ.mk x0.At x0.Turn x0.Under
def Q7:CT:=(145,[.agg (AF.c x0)],.val [] (.av (.agg (AZ.c (KJ x0)))))
theorem ZJ (x0:AF):PuP 145 (Q7 x0).2.1 (.av (.agg (AZ.c (KJ x0)))):=by
 refine pwf Tryz.func145 fun W0 M0 => ?_
 exact AB<|on<|AB<|on<|AW<|zl
theorem WG (x0:AF):OKc (Q7 x0):=cPu<|ZJ x0
def E5 (x0:AC) (x1:AC):AK:=AK.mk 1 x0 x1 (AC.mk 0 0)
def K9 (x0:AC) (x1:AC):CT:=(98,[.agg (AC.c x0),.agg (AC.c x1)],.val [] (.av (.agg (AK.c (E5 x0 x1)))))
theorem Vq (x0:AC) (x1:AC):PuP 98 (K9 x0 x1).2.1 (.av (.agg (AK.c (E5 x0 x1)))):=by
 refine pwf Tryz.func98 fun W0 M0 => ?_
 exact AB<|on<|AB<|on<|AW<|zl
theorem GL (x0:AC) (x1:AC):OKc (K9 x0 x1):=cPu<|Vq x0 x1
def AY (l:(List (List Int))) (k:Int):(List Int):=bif decide ((k:Int)<(l.length:Int)) then (l.getD k.toNat default) else ([])
def Lj:CT:=(40,[.one (lst 1 (fun x=>[lst 1 eIn x]) l),.one (.i k)],.val [] (.av (.one (lst 1 eIn (AY l k)))))
theorem kO (l:(List (List Int))) (k:Int) (hk:0<=k):PuP 40 (Lj l k).2.1 (tO (lst 1 eIn (AY l k))):=by
 refine pwf Tryz.func40 fun W0 M0 => ?_
 refine AB<|on<|AB<|AB<|on<|kb (decide ((k:Int)<(l.length:Int))) (fun h1 => ?_) (fun h1 => ?_)
 ·have g1:=oT h1
  exact AB<|oc [] [0<=(k:Int)/\(k:Int)<((l.length:Nat):Int)] .nil (H1 au0)<|AE<|AW<|Be<|zl (by simp only [AY,h1,cond_true,cond_false] <;> kernel_rfl)
 exact AQ<|AE<|AB<|on<|AW<|xl (.av (.one vN)) (D3 (y:=tO (lst 1 eIn [])) (.av (.one (Cm 1 eIn))) (by simp only [AY,h1,cond_true,cond_false] <;> rfl))
theorem GM (l:(List (List Int))) (k:Int) (hk:0<=k):OKc (Lj l k):=cPu<|kO l k hk
abbrev pD:List Av:=[.one (.ptr 1000 0),.one (.i 4)]
abbrev Hk:Blk:=.cells (AD.c d) 117
abbrev Hj:List Av:=(pD:List Av)
def Z1k:CT:=(42,Hj.map (Bo 1000 1000),wrI 1000 (Hk d) (tI (AA d 4).1) (.cells (AD.c (AA d 4).2) 117))
def Z1l:AK:=E5 a (AC.mk (bif (decide (a.X=b_.X)&&(decide (a.Y=b_.Y)&&true)) then (W64 (b_.X+20)) else b_.X) a.Y)
def Z1m:AK:=E5 (AC.mk (bif (decide (a.X=b_.X)&&(decide (a.Y=b_.Y)&&true)) then (W64 (b_.X+20)) else b_.X) a.Y) (AC.mk (bif (decide (a.X=b_.X)&&(decide (a.Y=b_.Y)&&true)) then (W64 (b_.X+20)) else b_.X) b_.Y)
def Z1n:CT:=(42,([.one (.ptr 1000 0),.one (.i 20)]:List Av).map (Bo 1000 1000),wrI 1000 (.cells (AD.c (AA d 4).2) 117) (tI (AA (AA d 4).2 20).1) (.cells (AD.c (AA (AA d 4).2 20).2) 117))
def Z1p:AK:=FD (AC.mk (bif (decide (a.X=b_.X)&&(decide (a.Y=b_.Y)&&true)) then (W64 (b_.X+20)) else b_.X) (W64 (b_.Y+(W64 (5+(AA (AA d 4).2 20).1))))) (W64 (5+(AA (AA d 4).2 20).1)) 3 2
def Z1q:AK:=E5 a (AC.mk (bif (decide (a.X=b_.X)&&(decide (a.Y=b_.Y)&&true)) then (W64 (b_.X+20)) else b_.X) b_.Y)
def Cc (a:AC) (b_:AC) (d:AD):((List AK)×AD):=bif bif bif bif decide ((0:Int)<(AA d 4).1) then decide (((AA d 4).1:Int)<3) else false then !(decide ((bif (decide (a.X=b_.X)&&(decide (a.Y=b_.Y)&&true)) then (W64 (b_.X+20)) else b_.X)=a.X)&&(decide (a.Y=a.Y)&&true)) else false then !(decide ((bif (decide (a.X=b_.X)&&(decide (a.Y=b_.Y)&&true)) then (W64 (b_.X+20)) else b_.X)=(bif (decide (a.X=b_.X)&&(decide (a.Y=b_.Y)&&true)) then (W64 (b_.X+20)) else b_.X))&&(decide (a.Y=b_.Y)&&true)) else false then ([Z1l a b_,Z1m a b_],(AA d 4).2) else (bif decide (((AA d 4).1:Int)=3) then ([Z1q a b_,Z1p a b_ d],(AA (AA d 4).2 20).2) else ([Z1q a b_],(AA d 4).2))
abbrev JA:Bool:=decide (a.X=b_.X)&&(decide (a.Y=b_.Y)&&true)
abbrev Rn:=bif (JA a b_) then (W64 (b_.X+20)) else b_.X
abbrev ME:Nat×Blk:=(3,.cells (AC.c a) 66)
abbrev VF:List (Nat×Tv):=[(2,tP 1000 0),(3,tP 3 0),(4,tP 4 0)]
abbrev aL:List (Nat×Blk):=[(ME a),(4,.cells [.i (Rn a b_),.i b_.Y] 66),(7,.cells [.i (Rn a b_),.i a.Y] 66),(1000,.cells (AD.c (AA d 4).2) 117)]
theorem au20 {p:Prop} (h:p:=by repeat (first | assumption | exact CV (by assumption) | refine BO ?_ | refine Cr ?_ ?_ | refine hKd _ _ ?_ | refine cond_dk _ ?_)):p:=h
theorem au8 {p:Prop} (h:p:=by first | decide | omega | (simp only [Bf];omega)):p:=h
theorem dG  (a:AC) (b_:AC) (d:AD) (hd:CJ d):Wr Tryz.prog 96 1000 [.agg (AC.c a),.agg (AC.c b_),.one (.ptr 1000 0)] (.cells (AD.c d) 117) (tO (lst 7 AK.c (Cc a b_ d).1)) (.cells (AD.c (Cc a b_ d).2) 117):=by
 refine Ht Tryz.func96 rfl kr kr kr kr fun W0 M0 X hX => ?_
 refine AB<|on<|AB<|AB<|rn ⟨[(2,tP 1000 0),(3,tP 3 0),(4,tP 4 0),(13,tB (JA a b_))],[(ME a),(4,.cells (AC.c b_) 66),(1000,.cells (AD.c d) 117)]⟩<|Bd (⟨VF,[(ME a),(4,.cells [.i (bif (JA a b_) then (W64 (b_.X+20)) else b_.X),.i b_.Y] 66),(1000,.cells (AD.c d) 117)]⟩) ?_ ?_
 ·refine Ap _ rfl (fun h1 => ?_) (fun h1 => ?_)
  ·refine rn ⟨VF,[(ME a),(4,.cells [.i (W64 (b_.X+20)),.i b_.Y] 66),(1000,.cells (AD.c d) 117)]⟩<|Al ?_
   first | rfl | (simp only [h1,cond_true,cond_false] <;> rfl)
  refine AQ<|AE<|Cv.trans (ck (⟨VF,[(ME a),(4,.cells (AC.c b_) 66),(1000,.cells (AD.c d) 117)]⟩)) (Al ?_)
  first | rfl | (simp only [h1,cond_true,cond_false] <;> rfl)
 refine AB<|on<|AB<|AB<|rb 24 (Z1k d) (Hk d) ⟨[(2,tP 1000 0),(3,tP 3 0),(4,tP 4 0),(7,tP 7 0),(8,tI (AA d 4).1)],(aL a b_ d)⟩ (cWr (BR d 4 au20 au8))<|AE<|AM<|AB<|rc [] (t2 (decide ((0:Int)<(AA d 4).1)) (t3 (bif decide ((0:Int)<(AA d 4).1) then decide (((AA d 4).1:Int)<3) else false) (t3 (bif bif decide ((0:Int)<(AA d 4).1) then decide (((AA d 4).1:Int)<3) else false then !(decide ((Rn a b_)=a.X)&&(decide (a.Y=a.Y)&&true)) else false) []))) ⟨[(2,tP 1000 0),(3,tP 3 0),(4,tP 4 0),(7,tP 7 0),(8,tI (AA d 4).1),(25,tB (bif bif bif decide ((0:Int)<(AA d 4).1) then decide (((AA d 4).1:Int)<3) else false then !(decide ((bif (decide (a.X=b_.X)&&(decide (a.Y=b_.Y)&&true)) then (W64 (b_.X+20)) else b_.X)=a.X)&&(decide (a.Y=a.Y)&&true)) else false then !(decide ((bif (decide (a.X=b_.X)&&(decide (a.Y=b_.Y)&&true)) then (W64 (b_.X+20)) else b_.X)=(bif (decide (a.X=b_.X)&&(decide (a.Y=b_.Y)&&true)) then (W64 (b_.X+20)) else b_.X))&&(decide (a.Y=b_.Y)&&true)) else false))],(aL a b_ d)⟩ .nil (c2 (c3 (c3 .nil)))<|AE ?_
 refine Ap (bif bif bif decide ((0:Int)<(AA d 4).1) then decide (((AA d 4).1:Int)<3) else false then !(decide ((bif (JA a b_) then (W64 (b_.X+20)) else b_.X)=a.X)&&(decide (a.Y=a.Y)&&true)) else false then !(decide ((bif (JA a b_) then (W64 (b_.X+20)) else b_.X)=(bif (JA a b_) then (W64 (b_.X+20)) else b_.X))&&(decide (a.Y=b_.Y)&&true)) else false) kr (fun h1 => ?_) (fun h1 => ?_)
 ·exact AB<|oe [] _ [none,none] (J2 44 47 (GL a (AC.mk (bif (JA a b_) then (W64 (b_.X+20)) else b_.X) a.Y)) (GL (AC.mk (bif (JA a b_) then (W64 (b_.X+20)) else b_.X) a.Y) (AC.mk (bif (JA a b_) then (W64 (b_.X+20)) else b_.X) b_.Y))) .nil<|AE<|AW<|DB<|Be<|xl (.av (.one (.list true 7 2 (BG 7 2 [.i (Z1l a b_).Kind,.i (Z1l a b_).A.X,.i (Z1l a b_).A.Y,.i (Z1l a b_).B.X,.i (Z1l a b_).B.Y,.i (Z1l a b_).C.X,.i (Z1l a b_).C.Y,.i (Z1m a b_).Kind,.i (Z1m a b_).A.X,.i (Z1m a b_).A.Y,.i (Z1m a b_).B.X,.i (Z1m a b_).B.Y,.i (Z1m a b_).C.X,.i (Z1m a b_).C.Y])))) ⟨D3 (y:=tO (lst 7 AK.c [Z1l a b_,Z1m a b_])) (.av (.one (BW true (Ba (c:=AK.c) (xs:=([Z1l a b_,Z1m a b_]:List AK)) rfl kr)))) (by unfold Cc;rw [h1];rfl),.cells (AD.c (AA d 4).2) 117,by kernel_rfl,DP (by unfold Cc;rw [h1];kernel_rfl)⟩
 refine AB<|on<|kb (decide (((AA d 4).1:Int)=3)) (fun h2 => ?_) (fun h2 => ?_)
 ·have g2:=oT h2
  exact AB<|rb 53 (Z1n d) (.cells (AD.c (AA d 4).2) 117) ⟨[(3,tP 3 0),(4,tP 4 0),(9,tI (W64 (5+(AA (AA d 4).2 20).1)))],[(ME a),(4,.cells [.i (Rn a b_),.i b_.Y] 66),(1000,.cells (AD.c (AA (AA d 4).2 20).2) 117)]⟩ (cWr (BR (AA d 4).2 20 au20 au8))<|AE<|AB<|oq 63 _ (D5 (AC.mk (bif (JA a b_) then (W64 (b_.X+20)) else b_.X) (W64 (b_.Y+(W64 (5+(AA (AA d 4).2 20).1))))) (W64 (5+(AA (AA d 4).2 20).1)) 3 2)<|AE<|AB<|oe [] _ [none] (J1 66 (GL a (AC.mk (bif (JA a b_) then (W64 (b_.X+20)) else b_.X) b_.Y))) .nil<|AE<|AW<|DB<|Be<|xl (.av (.one (.list true 7 2 (BG 7 2 [.i (Z1q a b_).Kind,.i (Z1q a b_).A.X,.i (Z1q a b_).A.Y,.i (Z1q a b_).B.X,.i (Z1q a b_).B.Y,.i (Z1q a b_).C.X,.i (Z1q a b_).C.Y,.i (Z1p a b_ d).Kind,.i (Z1p a b_ d).A.X,.i (Z1p a b_ d).A.Y,.i (Z1p a b_ d).B.X,.i (Z1p a b_ d).B.Y,.i (Z1p a b_ d).C.X,.i (Z1p a b_ d).C.Y])))) ⟨D3 (y:=tO (lst 7 AK.c [Z1q a b_,Z1p a b_ d])) (.av (.one (BW true (Ba (c:=AK.c) (xs:=([Z1q a b_,Z1p a b_ d]:List AK)) rfl kr)))) (by unfold Cc;rw [h1,h2];rfl),.cells (AD.c (AA (AA d 4).2 20).2) 117,by kernel_rfl,DP (by unfold Cc;rw [h1,h2];kernel_rfl)⟩
 exact AQ<|A3<|AE<|AB<|oq 71 _ (GL a (AC.mk (bif (JA a b_) then (W64 (b_.X+20)) else b_.X) b_.Y))<|AE<|AW<|xl (.av (.one (.list true 7 1 (BG 7 1 (AK.c (Z1q a b_)))))) ⟨D3 (y:=tO (lst 7 AK.c [Z1q a b_])) (.av (.one (BW true (Ba (c:=AK.c) (xs:=([Z1q a b_]:List AK)) rfl kr)))) (by unfold Cc;rw [h1,h2];rfl),.cells (AD.c (AA d 4).2) 117,by kernel_rfl,DP (by unfold Cc;rw [h1,h2];kernel_rfl)⟩
def Z1r:CT:=(42,([.one (.ptr 1000 0),.one (.i (b.Nets.length:Int))]:List Av).map (Bo 1000 1001),wrI 1001 (Hk d) (tI (AA d (b.Nets.length:Int)).1) (.cells (AD.c (AA d (b.Nets.length:Int)).2) 117))
def CU (b:AG) (d:AD):(ByteArray×AD):=((b.Nets.getD (AA d (b.Nets.length:Int)).1.toNat default).Name,(AA d (b.Nets.length:Int)).2)
theorem R3  (b:AG) (d:AD) (vs:Nat->Value) (hd:CJ d) (hn:1<=(b.Nets.length:Int)/\(b.Nets.length:Int)<=1000000):Wr2 Tryz.prog 95 1000 1001 [.one (.ptr 1000 0),.one (.ptr 1001 0)] (.cells [.i b.Layers,.i b.Outline.Kind,lst 7 AK.c b.Outline.Edges,.i b.Outline.R,lst 7 AF.c b.Parts,lst 2 Bz.c b.Nets,.val (vs 6),.val (vs 7),.val (vs 8),.val (vs 9),.val (vs 10),.val (vs 11),.val (vs 12),.val (vs 13),.val (vs 14)] 41) (.cells (AD.c d) 117) (tO (.s (CU b d).1)) (.cells [.i b.Layers,.i b.Outline.Kind,lst 7 AK.c b.Outline.Edges,.i b.Outline.R,lst 7 AF.c b.Parts,lst 2 Bz.c b.Nets,.val (vs 6),.val (vs 7),.val (vs 8),.val (vs 9),.val (vs 10),.val (vs 11),.val (vs 12),.val (vs 13),.val (vs 14)] 41) (.cells (AD.c (CU b d).2) 117):=by
 refine OV Tryz.func95 rfl kr kr kr rfl kr kr kr fun W0 M0 X hX => ?_
 have hnb:=DO d (b.Nets.length:Int) oM oM
 exact AB<|on<|AB<|oe [] [(15,(Z1r b d))] [none,Br (Hk d),0<=((AA d (b.Nets.length:Int)).1:Int)/\((AA d (b.Nets.length:Int)).1:Int)<((b.Nets.length:Nat):Int)] (.cons (cWr (BR d (b.Nets.length:Int) au20 au8)) .nil) (H2 rfl oM)<|AE<|AW<|xl (tO (.s (b.Nets.getD (AA d (b.Nets.length:Int)).1.toNat default).Name)) ⟨Ej (by rfl),⟨.cells (BM b [.val (vs 6),.val (vs 7),.val (vs 8),.val (vs 9),.val (vs 10),.val (vs 11),.val (vs 12),.val (vs 13),.val (vs 14)]) 41,by kernel_rfl,DP rfl⟩,.cells (AD.c (AA d (b.Nets.length:Int)).2) 117,by kernel_rfl,DP kr⟩
theorem Lm {p q:Prop} [Decidable p] [Decidable q] (h:(bif decide p then decide q else false)=true):q:=by
 by_cases hp:p
 ·rw [decide_eq_true hp] at h;exact oT h
 rw [decide_eq_false hp] at h;cases h
def Nx (b:AG) (types:List AN):Prop:=∀ k:Int,0<=k->k<(b.Parts.length:Int)->1<=((Bn types (b.Parts.getD k.toNat default).Type').1.Pads.length:Int)
theorem TG {b:AG} {d:AD} (h:(bif decide ((AA d 12).1<8) then decide ((0:Int)<(b.Parts.length:Int)) else false)=true):0<=Int.tmod (AA d 12).1 (b.Parts.length:Int)/\Int.tmod (AA d 12).1 (b.Parts.length:Int)<(b.Parts.length:Int):=Ld (DO d 12 (by decide) (by decide)).1 (Lm h)
theorem LM {b:AG} {types:List AN} {d:AD} (hg:Nx b types) (h:(bif decide ((AA d 12).1<8) then decide ((0:Int)<(b.Parts.length:Int)) else false)=true):1<=((Bn types (b.Parts.getD (Int.tmod (AA d 12).1 (b.Parts.length:Int)).toNat default).Type').1.Pads.length:Int):=hg _ (TG h).1 (TG h).2
abbrev VO:List Cl:=[.i b.Layers,.i b.Outline.Kind,lst 7 AK.c b.Outline.Edges,.i b.Outline.R,lst 7 AF.c b.Parts,.any,.any,.any,.any,.any,.any,.any,.any,.any,.any]
abbrev VA:List Av:=[.one (.ptr 1000 0),.one (.i 12)]
def Z1t:CT:=(42,(VA:List Av).map (Bo 1000 1000),wrI 1000 (Hk d) (tI (AA d 12).1) (.cells (AD.c (AA d 12).2) 117))
abbrev OI:List Av:=[.one (.ptr 1000 0),.one (.i 6)]
def Z1u:CT:=(42,(OI:List Av).map (Bo 1000 1000),wrI 1000 (.cells (AD.c (AA d 12).2) 117) (tI (AA (AA d 12).2 6).1) (.cells (AD.c (AA (AA d 12).2 6).2) 117))
def Z1w:AF:=b.Parts.getD (Int.tmod (AA d 12).1 (b.Parts.length:Int)).toNat default
def Z1x (types:(List AN)) (b:AG) (d:AD):AC:=((Bn types (Z1w b d).Type').1.Pads.getD (Int.tmod (AA (AA d 12).2 6).1 ((Bn types (Z1w b d).Type').1.Pads.length:Int)).toNat default).At
def Z1y:AC:=Az (KJ (Z1w b d)) (Z1x types b d)
def Bj (b:AG) (types:(List AN)) (d:AD):(AC×AD):=bif bif decide (((AA d 12).1:Int)<8) then decide ((0:Int)<(b.Parts.length:Int)) else false then (Z1y b d types,(AA (AA d 12).2 6).2) else (AC.mk (W64 (30+(Int.tmod (W64 (40*(AA d 12).1)) 360))) (W64 (30+(W64 (60*(AA (AA d 12).2 6).1)))),(AA (AA d 12).2 6).2)
theorem LO  (b:AG) (types:(List AN)) (d:AD) (hd:CJ d) (hb:(b.Parts.length:Int)<=1000000) (ht:(types.length:Int)<=1000000) (hg:Nx b types):Wr Tryz.prog 97 1000 [.agg [.i b.Layers,.i b.Outline.Kind,lst 7 AK.c b.Outline.Edges,.i b.Outline.R,lst 7 AF.c b.Parts,.any,.any,.any,.any,.any,.any,.any,.any,.any,.any],.one (lst 3 AN.c types),.one (.ptr 1000 0)] (.cells (AD.c d) 117) (.av (.agg (AC.c (Bj b types d).1))) (.cells (AD.c (Bj b types d).2) 117):=by
 refine Ht Tryz.func97 rfl kr kr kr kr fun W0 M0 X hX => ?_
 refine AB<|on<|AB<|rb 13 (Z1t d) (Hk d) ⟨[(Gl types),(2,tP 1000 0),(3,tP 3 0),(6,tP 6 0),(7,tI (AA d 12).1)],[(3,.cells (VO b) 41),(6,.cells [.i 0,.i 0] 66),(1000,.cells (AD.c (AA d 12).2) 117)]⟩ (cWr (BR d 12 au20 au8))<|AE<|AB<|rb 15 (Z1u d) (.cells (AD.c (AA d 12).2) 117) ⟨[(Gl types),(3,tP 3 0),(6,tP 6 0),(7,tI (AA d 12).1),(8,tI (AA (AA d 12).2 6).1)],[(3,.cells (VO b) 41),(6,.cells [.i 0,.i 0] 66),(1000,.cells (AD.c (AA (AA d 12).2 6).2) 117)]⟩ (cWr (BR (AA d 12).2 6 au20 au8))<|AE<|AB<|AB<|oc [] (t4 (decide (((AA d 12).1:Int)<8)) []) .nil (c4 .nil)<|AE<|kb (bif decide (((AA d 12).1:Int)<8) then decide ((0:Int)<(b.Parts.length:Int)) else false) (fun h1 => ?_) (fun h1 => ?_)
 ·have g1:=Nw h1
  refine AB<|od [] [] [((b.Parts.length:Int):Int)≠0,0<=(Int.tmod (AA d 12).1 (b.Parts.length:Int):Int)/\(Int.tmod (AA d 12).1 (b.Parts.length:Int):Int)<((b.Parts.length:Nat):Int)] .nil (H2 (by first | decide | (have hq:=Lm h1;omega) | (have hq:=LM hg h1;show ¬ ((Bn types (b.Parts.getD (Int.tmod (AA d 12).1 (b.Parts.length:Int)).toNat default).Type').1.Pads.length:Int)=0;omega)) (by first | exact TG h1 | exact Ld (DO _ 6 (by decide) (by decide)).1 (by have hq:=LM hg h1;show (0:Int)<((Bn types (b.Parts.getD (Int.tmod (AA d 12).1 (b.Parts.length:Int)).toNat default).Type').1.Pads.length:Int);omega) | decide | omega))<|AE<|AB<|oq 37 _ (Xh types (Z1w b d).Type' au10)<|AE<|AB ?_
  exact oe [] _ [none,(((Bn types (Z1w b d).Type').1.Pads.length:Int):Int)≠0,0<=(Int.tmod (AA (AA d 12).2 6).1 ((Bn types (Z1w b d).Type').1.Pads.length:Int):Int)/\(Int.tmod (AA (AA d 12).2 6).1 ((Bn types (Z1w b d).Type').1.Pads.length:Int):Int)<(((Bn types (Z1w b d).Type').1.Pads.length:Nat):Int),none] (J2 41 52 (WG (Z1w b d)) (EZ (KJ (Z1w b d)) (Z1x types b d))) (H2 (by first | decide | (have hq:=Lm h1;omega) | (have hq:=LM hg h1;show ¬ ((Bn types (b.Parts.getD (Int.tmod (AA d 12).1 (b.Parts.length:Int)).toNat default).Type').1.Pads.length:Int)=0;omega)) (by first | exact TG h1 | exact Ld (DO _ 6 (by decide) (by decide)).1 (by have hq:=LM hg h1;show (0:Int)<((Bn types (b.Parts.getD (Int.tmod (AA d 12).1 (b.Parts.length:Int)).toNat default).Type').1.Pads.length:Int);omega) | decide | omega))<|AE<|AW<|Be<|xl (.av (.agg (AC.c (Z1y b d types)))) ⟨Ej (by simp only [Bj,h1,cond_true,cond_false] <;> rfl),.cells (AD.c (AA (AA d 12).2 6).2) 117,by kernel_rfl,DP (by first | (simp only [Bj,h1,cond_true,cond_false];done) | (simp only [Bj,h1,cond_true,cond_false];kernel_rfl))⟩
 exact AQ<|AE<|AB<|oc [] [(360:Int)≠0] .nil (H1 (by first | decide | (have hq:=Lm h1;omega) | (have hq:=LM hg h1;show ¬ ((Bn types (b.Parts.getD (Int.tmod (AA d 12).1 (b.Parts.length:Int)).toNat default).Type').1.Pads.length:Int)=0;omega)))<|AE<|AW<|xl (.av (.agg [.i (W64 (30+(Int.tmod (W64 (40*(AA d 12).1)) 360))),.i (W64 (30+(W64 (60*(AA (AA d 12).2 6).1))))])) ⟨Ej (by simp only [Bj,h1,cond_true,cond_false] <;> rfl),.cells (AD.c (AA (AA d 12).2 6).2) 117,by kernel_rfl,DP (by first | (simp only [Bj,h1,cond_true,cond_false];done) | (simp only [Bj,h1,cond_true,cond_false];kernel_rfl))⟩
theorem Dq {α:Type} {c:Bool} {a b:α×AD} (ha:CJ a.2) (hb:CJ b.2):CJ (bif c then a else b).2:=by cases c <;> assumption
theorem Ek {b:AG} {d:AD} (h:CJ d):CJ (CU b d).2:=BO h
theorem DH {a c:AC} {d:AD} (h:CJ d):CJ (Cc a c d).2:=by
 unfold Cc
 exact Dq (BO h) (Dq (BO (BO h)) (BO h))
theorem Dk {b:AG} {types:List AN} {d:AD} (h:CJ d):CJ (Bj b types d).2:=by
 unfold Bj
 exact Dq (BO (BO h)) (BO (BO h))
theorem DV {l:List (List Int)} (hl:∀ x∈l,(x.length:Int)<=9223372036854775807) (k:Int):((AY l k).length:Int)<=9223372036854775807:=by
 unfold AY
 by_cases h:k<(l.length:Int)
 ·rw [decide_eq_true h]
  simp only [cond_true]
  by_cases hk:k.toNat<l.length
  ·rw [List.getD_eq_getElem?_getD,List.getElem?_eq_getElem hk]
   exact hl _ (List.getElem_mem _)
  rw [List.getD_eq_getElem?_getD,List.getElem?_eq_none oM]
  decide
 rw [decide_eq_false h]
 exact Int.le_of_lt (by decide:((([]:List Int).length:Nat):Int)<9223372036854775807)
theorem SK {v:Int} {d:AD} {n:Int} (h:v<(AA d n).1) (h0:0<n) (h1:n<=1000000):v<n:=by
 have:=DO d n h0 (by omega)
 omega
end
section
open Go.RowKit
variable (b:AG) (AX:List AV) (Ah:List Aw) (types:List AN) (Au:List BZ) (v12:Int) (l:List (List Int)) (v6 v6' v6'':AD)
abbrev VW:List Cl:=(BM b [vN,vN,vN,vN,vN,vN,vN,vN,vN])
def Z1A:Blk:=.cells (VW b) 41
abbrev Sw:List Cl:=(BM b [lst 6 AV.c [],lst 8 Aw.c [],lst 8 BZ.c [],lst 5 C4.c [],lst 4 Aj.c [],lst 2 Ch.c [],lst 20 A0.c [],lst 3 CG.c [],lst 3 Ds.c []])
abbrev JQ:=AG.mk b.Layers b.Outline b.Parts b.Nets [] [] [] [] [] [] [] [] []
abbrev OM:List Av:=[.one (.ptr 1000 0),.one (.ptr 1001 0)]
def Z1B:CT:=(95,(OM:List Av).map (Fo 1000 1000 1001 22),wqV 1000 22 [6,7,8,9,10,11,12,13,14] (Sw b) 41 (.cells [lst 1 eIn (AY l 4),.i 0] 117) (.av (.one (.s (CU (JQ b) (AD.mk (AY l 4) 0)).1))) (.cells (AD.c (CU (JQ b) (AD.mk (AY l 4) 0)).2) 117))
abbrev Z1C:AD:=(CU (AG.mk b.Layers b.Outline b.Parts b.Nets [] [] [] [] [] [] [] [] []) (AD.mk (AY l 4) 0)).2
def Z1D:Tv:=.av (.one (.s (CU (JQ b) (AD.mk (AY l 4) 0)).1))
def Z1E:CT:=(42,(OI:List Av).map (Bo 1000 22),wrI 22 (.cells (AD.c (Z1C b l)) 117) (tI (AA (Z1C b l) 6).1) (.cells (AD.c (AA (Z1C b l) 6).2) 117))
def Z1F:Blk:=.cells (AD.c (AA (Z1C b l) 6).2) 117
abbrev E9:List Av:=[.one (.ptr 1000 0),.one (.i 3)]
def Z1G:CT:=(42,(E9:List Av).map (Bo 1000 75),wrI 75 (.cells [lst 1 eIn (AY l 5),.i 0] 117) (tI (AA (AD.mk (AY l 5) 0) 3).1) (.cells (AD.c (AA (AD.mk (AY l 5) 0) 3).2) 117))
def Z1H:Tv:=tI (AA (AD.mk (AY l 5) 0) 3).1
def Z1I:Blk:=.cells (AD.c (AA (AD.mk (AY l 5) 0) 3).2) 117
abbrev Kh:=AA (AD.mk (AY l 6) 0) 3
def Z1J:CT:=(42,(E9:List Av).map (Bo 1000 189),wrI 189 (.cells [lst 1 eIn (AY l 6),.i 0] 117) (tI (Kh l).1) (.cells (AD.c (Kh l).2) 117))
def Z1K:Blk:=.cells (AD.c (Kh l).2) 117
abbrev S4:List Av:=[.agg (VO b),.one (HX types),.one (.ptr 1000 0)]
abbrev KR:=AG.mk b.Layers b.Outline b.Parts [] [] [] [] [] [] [] [] [] []
def Z1L:CT:=(97,((S4 b types):List Av).map (Bo 1000 189),wrI 189 (.cells (AD.c (Kh l).2) 117) (.av (.agg (AC.c (Bj (KR b) types (Kh l).2).1))) (.cells (AD.c (Bj (KR b) types (Kh l).2).2) 117))
abbrev Z1M:AD:=(Bj (AG.mk b.Layers b.Outline b.Parts [] [] [] [] [] [] [] [] [] []) types (AA (AD.mk (AY l 6) 0) 3).2).2
def Z1N:AC:=(Bj (AG.mk b.Layers b.Outline b.Parts [] [] [] [] [] [] [] [] [] []) types (AA (AD.mk (AY l 6) 0) 3).2).1
def Z1O:CT:=(42,(E9:List Av).map (Bo 1000 189),wrI 189 (.cells (AD.c (Z1M b types l)) 117) (tI (AA (Z1M b types l) 3).1) (.cells (AD.c (AA (Z1M b types l) 3).2) 117))
def Z1P:AO:=HP (Ad.mk (Z1N b types l).X (Z1N b types l).Y (W64 ((Z1N b types l).X+30)) (W64 ((Z1N b types l).Y+20)))
abbrev Z1Q (l:(List (List Int))) (b:AG) (types:(List AN)):AD:=bif decide (((AA (AD.mk (AY l 6) 0) 3).1:Int)=0) then (AA (Z1M b types l) 3).2 else (AA (AD.mk (AY l 6) 0) 3).2
def Z1R (l:(List (List Int))) (b:AG) (types:(List AN)):(List C4):=bif decide (((AA (AD.mk (AY l 6) 0) 3).1:Int)=0) then [C4.mk 41 (AA (Z1M b types l) 3).1 (Z1P b types l)] else []
def Z1S (l:(List (List Int))) (b:AG) (types:(List AN)):CT:=(42,(E9:List Av).map (Bo 1000 189),wrI 189 (.cells (AD.c (Z1Q l b types)) 117) (tI (AA (Z1Q l b types) 3).1) (.cells (AD.c (AA (Z1Q l b types) 3).2) 117))
def Z1T (l:(List (List Int))) (b:AG) (types:(List AN)):Tv:=tB (decide (((AA (Z1Q l b types) 3).1:Int)=0))
def Z1U (l:(List (List Int))) (b:AG) (types:(List AN)):Blk:=.cells (AD.c (AA (Z1Q l b types) 3).2) 117
def Z1V:CT:=(97,((S4 b types):List Av).map (Bo 1000 189),wrI 189 (.cells (AD.c (AA (Z1Q l b types) 3).2) 117) (.av (.agg (AC.c (Bj (KR b) types (AA (Z1Q l b types) 3).2).1))) (.cells (AD.c (Bj (KR b) types (AA (Z1Q l b types) 3).2).2) 117))
abbrev Z1W:AD:=(Bj (AG.mk b.Layers b.Outline b.Parts [] [] [] [] [] [] [] [] [] []) types (AA (Z1Q l b types) 3).2).2
def Z1X:AC:=(Bj (AG.mk b.Layers b.Outline b.Parts [] [] [] [] [] [] [] [] [] []) types (AA (Z1Q l b types) 3).2).1
def Z1Y:CT:=(42,Hj.map (Bo 1000 189),wrI 189 (.cells (AD.c (Z1W b types l)) 117) (tI (AA (Z1W b types l) 4).1) (.cells (AD.c (AA (Z1W b types l) 4).2) 117))
def Z1Z:AK:=E5 (Z1X b types l) (AC.mk (W64 ((Z1X b types l).X+25)) (W64 ((Z1X b types l).Y+10)))
def Z21:Blk:=.row 8 Au.length (AP BZ.c Au) 97
def Z22:Blk:=.row 8 ([]:List Aw).length (AP Aw.c ([]:List Aw)) 133
def Z24:Blk:=.row 6 ([]:List AV).length (AP AV.c ([]:List AV)) 131
def Z25:Blk:=.cells (BM b [.own 2000 6 ([]:List AV).length,vN,vN,vN,vN,vN,vN,vN,vN]) 41
abbrev Z7:List Cl:=(BM b [.own 2000 6 AX.length,vN,vN,vN,vN,vN,vN,vN,vN])
def Z26:Blk:=.cells (Z7 b AX) 41
abbrev Hq:List Av:=[.one (.ptr 1000 0),.one (.i 2)]
def Z28:CT:=(42,(Hq:List Av).map (Bo 1000 22),wrI 22 (.cells (AD.c v6) 117) (tI (AA v6 2).1) (.cells (AD.c (AA v6 2).2) 117))
abbrev JH:=AA (AA v6 2).2 4
def Z29:CT:=(42,Hj.map (Bo 1000 22),wrI 22 (.cells (AD.c (AA v6 2).2) 117) (tI (JH v6).1) (.cells (AD.c (JH v6).2) 117))
def Z2a:CT:=(97,((S4 b types):List Av).map (Bo 1000 22),wrI 22 (.cells (AD.c (JH v6).2) 117) (.av (.agg (AC.c (Bj (KR b) types (JH v6).2).1))) (.cells (AD.c (Bj (KR b) types (JH v6).2).2) 117))
abbrev Z2b:AD:=(Bj (AG.mk b.Layers b.Outline b.Parts [] [] [] [] [] [] [] [] [] []) types (AA (AA v6 2).2 4).2).2
def Z2c:AC:=(Bj (AG.mk b.Layers b.Outline b.Parts [] [] [] [] [] [] [] [] [] []) types (AA (AA v6 2).2 4).2).1
def Z2d:CT:=(97,((S4 b types):List Av).map (Bo 1000 22),wrI 22 (.cells (AD.c (Z2b b types v6)) 117) (.av (.agg (AC.c (Bj (KR b) types (Z2b b types v6)).1))) (.cells (AD.c (Bj (KR b) types (Z2b b types v6)).2) 117))
abbrev Z2e:AD:=(Bj (AG.mk b.Layers b.Outline b.Parts [] [] [] [] [] [] [] [] [] []) types (Z2b b types v6)).2
def Z2f:AC:=(Bj (AG.mk b.Layers b.Outline b.Parts [] [] [] [] [] [] [] [] [] []) types (Z2b b types v6)).1
abbrev OA:=Cc (Z2c b types v6) (Z2f b types v6) (Z2e b types v6)
def Z2g:CT:=(96,([.agg (AC.c (Z2c b types v6)),.agg (AC.c (Z2f b types v6)),.one (.ptr 1000 0)]:List Av).map (Bo 1000 22),wrI 22 (.cells (AD.c (Z2e b types v6)) 117) (.av (.one (lst 7 AK.c (OA b types v6).1))) (.cells (AD.c (OA b types v6).2) 117))
abbrev Z2h:AD:=(Cc (Z2c b types v6) (Z2f b types v6) (Z2e b types v6)).2
abbrev sW (v9:Int) (v7:ByteArray) (v6:AD) (b:AG) (types:List AN):=[AV.mk (W64 (11+v9)) v7 (W64 (1+(AA v6 2).1)) (AO.mk 1 (OA b types v6).1 (W64 (3+(JH v6).1)))]
def Z2i (AX:List AV) (v9:Int) (v7:ByteArray) (v6:AD) (b:AG) (types:(List AN)):Blk:=.row 6 (AX++(sW v9 v7 v6 b types)).length (AP AV.c (AX++(sW v9 v7 v6 b types))) 131
abbrev aH (b:AG) (AX:List AV) (v9:Int) (v7:ByteArray) (v6:AD) (types:List AN):List Cl:=(BM b [.own 66 6 (AX++(sW v9 v7 v6 b types)).length,vN,vN,vN,vN,vN,vN,vN,vN])
def Z2j (b:AG) (AX:List AV) (v9:Int) (v7:ByteArray) (v6:AD) (types:(List AN)):Blk:=.cells (aH b AX v9 v7 v6 types) 41
def Z2k:CT:=(95,(OM:List Av).map (Fo 1000 1000 1001 22),wqV 1000 22 [6,7,8,9,10,11,12,13,14] (Sw b) 41 (.cells (AD.c (Z2h b types v6)) 117) (.av (.one (.s (CU (JQ b) (Z2h b types v6)).1))) (.cells (AD.c (CU (JQ b) (Z2h b types v6)).2) 117))
abbrev Z2l:AD:=(CU (AG.mk b.Layers b.Outline b.Parts b.Nets [] [] [] [] [] [] [] [] []) (Z2h b types v6)).2
def Z2n:Blk:=.cells (AD.c (Z2l b types v6)) 117
def Z2o:CT:=(95,(OM:List Av).map (Fo 1000 1000 1001 75),wqV 1000 75 [6,7,8,9,10,11,12,13,14] (Sw b) 41 (.cells (AD.c v6') 117) (.av (.one (.s (CU (JQ b) v6').1))) (.cells (AD.c (CU (JQ b) v6').2) 117))
abbrev Z2p:AD:=(CU (AG.mk b.Layers b.Outline b.Parts b.Nets [] [] [] [] [] [] [] [] []) v6').2
def Z2q:CT:=(97,((S4 b types):List Av).map (Bo 1000 75),wrI 75 (.cells (AD.c (Z2p b v6')) 117) (.av (.agg (AC.c (Bj (KR b) types (Z2p b v6')).1))) (.cells (AD.c (Bj (KR b) types (Z2p b v6')).2) 117))
abbrev Z2r:AD:=(Bj (AG.mk b.Layers b.Outline b.Parts [] [] [] [] [] [] [] [] [] []) types (Z2p b v6')).2
def Z2s:AC:=(Bj (AG.mk b.Layers b.Outline b.Parts [] [] [] [] [] [] [] [] [] []) types (Z2p b v6')).1
abbrev pC:List Av:=[.one (.ptr 1000 0),.one (.i 5)]
abbrev Kc:List Av:=(pC:List Av)
def Z2t:CT:=(42,Kc.map (Bo 1000 75),wrI 75 (.cells (AD.c (Z2r b types v6')) 117) (tI (AA (Z2r b types v6') 5).1) (.cells (AD.c (AA (Z2r b types v6') 5).2) 117))
def Z2u:CT:=(42,(E9:List Av).map (Bo 1000 75),wrI 75 (.cells (AD.c (AA (Z2r b types v6') 5).2) 117) (tI (AA (AA (Z2r b types v6') 5).2 3).1) (.cells (AD.c (AA (AA (Z2r b types v6') 5).2 3).2) 117))
abbrev Z2v:AD:=(AA (AA (Z2r b types v6') 5).2 3).2
def Z2w:Blk:=.cells (AD.c (Z2v b types v6')) 117
abbrev VS (v11:Int) (b:AG) (v6':AD) (types:List AN):=[Aw.mk (W64 (21+v11)) (CU (JQ b) v6').1 (Z2s b types v6') (W64 (6+(AA (Z2r b types v6') 5).1)) (W64 (4+(W64 (2*(AA (AA (Z2r b types v6') 5).2 3).1)))) 1 2]
def Z2x (Ah:List Aw) (v11:Int) (b:AG) (v6':AD) (types:(List AN)):Blk:=.row 8 (Ah++(VS v11 b v6' types)).length (AP Aw.c (Ah++(VS v11 b v6' types))) 133
def Z2y (b:AG) (AX:List AV) (Ah:List Aw) (v11:Int) (v6':AD) (types:(List AN)):Blk:=.cells (BM b [.own 2000 6 AX.length,.own 108 8 (Ah++(VS v11 b v6' types)).length,vN,vN,vN,vN,vN,vN,vN]) 41
def Z2z:CT:=(42,(E9:List Av).map (Bo 1000 75),wrI 75 (.cells (AD.c v6') 117) (tI (AA v6' 3).1) (.cells (AD.c (AA v6' 3).2) 117))
def Z2A:CT:=(42,(VA:List Av).map (Bo 1000 75),wrI 75 (.cells (AD.c v6'') 117) (tI (AA v6'' 12).1) (.cells (AD.c (AA v6'' 12).2) 117))
abbrev KS:=AA (AA v6'' 12).2 12
def Z2B:CT:=(42,(VA:List Av).map (Bo 1000 75),wrI 75 (.cells (AD.c (AA v6'' 12).2) 117) (tI (KS v6'').1) (.cells (AD.c (KS v6'').2) 117))
def Z2C:CT:=(42,(OI:List Av).map (Bo 1000 75),wrI 75 (.cells (AD.c (KS v6'').2) 117) (tI (AA (KS v6'').2 6).1) (.cells (AD.c (AA (KS v6'').2 6).2) 117))
abbrev Z2D:AD:=(AA (AA (AA v6'' 12).2 12).2 6).2
def Z2E:CT:=(42,Kc.map (Bo 1000 75),wrI 75 (.cells (AD.c (Z2D v6'')) 117) (tI (AA (Z2D v6'') 5).1) (.cells (AD.c (AA (Z2D v6'') 5).2) 117))
abbrev Ro:=CU (JQ b) (AA (Z2D v6'') 5).2
def Z2F:CT:=(95,(OM:List Av).map (Fo 1000 1000 1001 75),wqV 1000 75 [6,7,8,9,10,11,12,13,14] (Sw b) 41 (.cells (AD.c (AA (Z2D v6'') 5).2) 117) (.av (.one (.s (Ro b v6'').1))) (.cells (AD.c (Ro b v6'').2) 117))
abbrev Z2G:AD:=(CU (AG.mk b.Layers b.Outline b.Parts b.Nets [] [] [] [] [] [] [] [] []) (AA (Z2D v6'') 5).2).2
def Z2H:CT:=(42,(Hq:List Av).map (Bo 1000 75),wrI 75 (.cells (AD.c (Z2G b v6'')) 117) (tI (AA (Z2G b v6'') 2).1) (.cells (AD.c (AA (Z2G b v6'') 2).2) 117))
abbrev sS:=AA (AA (Z2G b v6'') 2).2 3
def Z2I:CT:=(42,(E9:List Av).map (Bo 1000 75),wrI 75 (.cells (AD.c (AA (Z2G b v6'') 2).2) 117) (tI (sS b v6'').1) (.cells (AD.c (sS b v6'').2) 117))
abbrev Z2J:AD:=(AA (AA (Z2G b v6'') 2).2 3).2
def Z2K:CT:=(42,(Hq:List Av).map (Bo 1000 75),wrI 75 (.cells (AD.c (Z2J b v6'')) 117) (tI (AA (Z2J b v6'') 2).1) (.cells (AD.c (AA (Z2J b v6'') 2).2) 117))
abbrev sR:=AA (AA (Z2J b v6'') 2).2 4
def Z2L:CT:=(42,Hj.map (Bo 1000 75),wrI 75 (.cells (AD.c (AA (Z2J b v6'') 2).2) 117) (tI (sR b v6'').1) (.cells (AD.c (sR b v6'').2) 117))
abbrev Z2M:AD:=(AA (AA (Z2J b v6'') 2).2 4).2
def Z2N:CT:=(42,(OI:List Av).map (Bo 1000 75),wrI 75 (.cells (AD.c (Z2M b v6'')) 117) (tI (AA (Z2M b v6'') 6).1) (.cells (AD.c (AA (Z2M b v6'') 6).2) 117))
abbrev NS:=[Ad.mk (AA v6'' 12).1 (KS v6'').1 (W64 ((W64 ((AA v6'' 12).1+1))+(AA (KS v6'').2 6).1)) (W64 ((W64 ((KS v6'').1+1))+(AA (Z2D v6'') 5).1))]
abbrev Rd (v12:Int) (b:AG) (v6'':AD) (t_:List Cl):List Cl:=(.i (W64 (31+v12)))::(.s (Ro b v6'').1)::(.i (W64 (1+(AA (Z2G b v6'') 2).1)))::(.i (W64 (20+(W64 (5*(sS b v6'').1)))))::(.i (AA (Z2J b v6'') 2).1)::(.i (([0,0,5,9]:List Int).getD (sR b v6'').1.toNat 0))::(.i (W64 (4+(AA (Z2M b v6'') 6).1)))::t_
def Z2P:Blk:=.row 4 ((NS v6'').length) (AP Ad.c (NS v6'')) 90
def Z2Q:CT:=(42,(E9:List Av).map (Bo 1000 75),wrI 75 (.cells (AD.c (AA (Z2M b v6'') 6).2) 117) (tI (AA (AA (Z2M b v6'') 6).2 3).1) (.cells (AD.c (AA (AA (Z2M b v6'') 6).2 3).2) 117))
abbrev Z2R:AD:=(AA (AA (Z2M b v6'') 6).2 3).2
def Z2S:Blk:=.cells (AD.c (Z2R b v6'')) 117
abbrev VP:=[Ad.mk (W64 ((AA v6'' 12).1-2)) (KS v6'').1 (W64 ((AA v6'' 12).1+1)) (W64 ((KS v6'').1+2))]
def Z2T:Blk:=.row 4 ((NS v6'')++(VP v6'')).length (AP Ad.c ((NS v6'')++(VP v6''))) 90
def Z2U:(List Ad):=bif decide (((AA (AA (Z2M b v6'') 6).2 3).1:Int)=0) then ([Ad.mk (AA v6'' 12).1 (AA (AA v6'' 12).2 12).1 (W64 ((W64 ((AA v6'' 12).1+1))+(AA (AA (AA v6'' 12).2 12).2 6).1)) (W64 ((W64 ((AA (AA v6'' 12).2 12).1+1))+(AA (Z2D v6'') 5).1))]++[Ad.mk (W64 ((AA v6'' 12).1-2)) (AA (AA v6'' 12).2 12).1 (W64 ((AA v6'' 12).1+1)) (W64 ((AA (AA v6'' 12).2 12).1+2))]) else [Ad.mk (AA v6'' 12).1 (AA (AA v6'' 12).2 12).1 (W64 ((W64 ((AA v6'' 12).1+1))+(AA (AA (AA v6'' 12).2 12).2 6).1)) (W64 ((W64 ((AA (AA v6'' 12).2 12).1+1))+(AA (Z2D v6'') 5).1))]
abbrev VT (v12:Int) (b:AG) (v6'':AD):=[BZ.mk (W64 (31+v12)) (Ro b v6'').1 (W64 (1+(AA (Z2G b v6'') 2).1)) (W64 (20+(W64 (5*(sS b v6'').1)))) (AA (Z2J b v6'') 2).1 (([0,0,5,9]:List Int).getD (sR b v6'').1.toNat 0) (W64 (4+(AA (Z2M b v6'') 6).1)) (Z2U b v6'')]
def Z2V (Au:List BZ) (v12:Int) (b:AG) (v6'':AD):Blk:=.row 8 (Au++(VT v12 b v6'')).length (AP BZ.c (Au++(VT v12 b v6''))) 97
def Z2X:Blk:=.cells (BM b [.own 2000 6 AX.length,.own 2001 8 ([]:List Aw).length,vN,vN,vN,vN,vN,vN,vN]) 41
abbrev Hh (t_:List Cl):List Cl:=(.own 2000 6 AX.length)::(.own 2001 8 Ah.length)::t_
abbrev Sz:List Cl:=(BM b (Hh AX Ah [vN,vN,vN,vN,vN,vN,vN]))
def Z2Y:Blk:=.cells (Sz b AX Ah) 41
def Z2Z:Blk:=.cells (BM b (Hh AX Ah [.own 183 8 (Au++(VT v12 b v6'')).length,vN,vN,vN,vN,vN,vN])) 41
def Z31:Blk:=.cells (BM b (Hh AX Ah [.own 2002 8 ([]:List BZ).length,vN,vN,vN,vN,vN,vN])) 41
abbrev S2:List Cl:=(BM b (Hh AX Ah [.own 2002 8 Au.length,vN,vN,vN,vN,vN,vN]))
def Z32:Blk:=.cells (S2 b AX Ah Au) 41
abbrev aV (b:AG) (AX:List AV) (Ah:List Aw) (Au:List BZ) (l:List (List Int)) (types:List AN):List Cl:=(BM b (Hh AX Ah [.own 2002 8 Au.length,lst 5 C4.c (Z1R l b types),vN,vN,vN,vN,vN]))
def Z34 (v12:Int) (b:AG) (v6'':AD):Blk:=.cells (Rd v12 b v6'' [.own 2003 4 ((NS v6'')++(VP v6'')).length]) 97
def Z35 (v12:Int) (b:AG) (v6'':AD):Blk:=.cells (Rd v12 b v6'' [.own 2003 4 ((NS v6'').length)]) 97
def B2 (b:AG) (types:(List AN)) (l:(List (List Int))) (AX:List AV) (v6:AD) (v7:ByteArray) (v9:Int) (Ah:List Aw) (v6':AD) (v11:Int) (K0:List AV->AD->ByteArray->Int->AG) (K1:List Aw->AD->Int->AG):Nat->List BZ->AD->Int->AG
 | 0,_,_,_=>default
 | n2+1,Au,v6'',v12=>bif decide ((v12:Int)<(AA v6' 3).1) then ((B2 b types l AX v6 v7 v9 Ah v6' v11 K0 K1 n2) (Au++[BZ.mk (W64 (31+v12)) (CU (AG.mk b.Layers b.Outline b.Parts b.Nets [] [] [] [] [] [] [] [] []) (AA (Z2D v6'') 5).2).1 (W64 (1+(AA (Z2G b v6'') 2).1)) (W64 (20+(W64 (5*(AA (AA (Z2G b v6'') 2).2 3).1)))) (AA (Z2J b v6'') 2).1 (([0,0,5,9]:List Int).getD (AA (AA (Z2J b v6'') 2).2 4).1.toNat 0) (W64 (4+(AA (Z2M b v6'') 6).1)) (Z2U b v6'')]) (Z2R b v6'') (v12+1)) else (bif decide (((AA (Z1Q l b types) 3).1:Int)=0) then (AG.mk b.Layers b.Outline b.Parts b.Nets AX Ah Au (Z1R l b types) [Aj.mk 51 (AO.mk 1 [Z1Z b types l] (W64 (3+(AA (Z1W b types l) 4).1)))] [] [] [] []) else (AG.mk b.Layers b.Outline b.Parts b.Nets AX Ah Au (Z1R l b types) [] [] [] [] []))
def CC (b:AG) (types:(List AN)) (l:(List (List Int))) (AX:List AV) (v6:AD) (v7:ByteArray) (v9:Int) (K0:List AV->AD->ByteArray->Int->AG):Nat->List Aw->AD->Int->AG
 | 0,_,_,_=>default
 | n1+1,Ah,v6',v11=>bif decide ((v11:Int)<(AA (AD.mk (AY l 5) 0) 3).1) then ((CC b types l AX v6 v7 v9 K0 n1) (Ah++[Aw.mk (W64 (21+v11)) (CU (AG.mk b.Layers b.Outline b.Parts b.Nets [] [] [] [] [] [] [] [] []) v6').1 (Z2s b types v6') (W64 (6+(AA (Z2r b types v6') 5).1)) (W64 (4+(W64 (2*(AA (AA (Z2r b types v6') 5).2 3).1)))) 1 2]) (Z2v b types v6') (v11+1)) else (B2 b types l AX v6 v7 v9 Ah v6' v11 K0 (CC b types l AX v6 v7 v9 K0 n1) (((AA v6' 3).1-0).toNat+1) ([]:List BZ) (AA v6' 3).2 0)
def Bu (b:AG) (types:(List AN)) (l:(List (List Int))):Nat->List AV->AD->ByteArray->Int->AG
 | 0,_,_,_,_=>default
 | n0+1,AX,v6,v7,v9=>bif decide ((v9:Int)<(AA (Z1C b l) 6).1) then ((Bu b types l n0) (AX++[AV.mk (W64 (11+v9)) v7 (W64 (1+(AA v6 2).1)) (AO.mk 1 (Cc (Z2c b types v6) (Z2f b types v6) (Z2e b types v6)).1 (W64 (3+(AA (AA v6 2).2 4).1)))]) (Z2l b types v6) (CU (AG.mk b.Layers b.Outline b.Parts b.Nets [] [] [] [] [] [] [] [] []) (Z2h b types v6)).1 (v9+1)) else (CC b types l AX v6 v7 v9 (Bu b types l n0) (((AA (AD.mk (AY l 5) 0) 3).1-0).toNat+1) ([]:List Aw) (AA (AD.mk (AY l 5) 0) 3).2 0)
def Bl (b:AG) (types:(List AN)) (l:(List (List Int))):AG:=Bu b types l (((AA (Z1C b l) 6).1-0).toNat+1) ([]:List AV) (AA (Z1C b l) 6).2 (CU (AG.mk b.Layers b.Outline b.Parts b.Nets [] [] [] [] [] [] [] [] []) (AD.mk (AY l 4) 0)).1 0
abbrev oL (l:List (List Int)):Av:=.one (lst 1 (fun x=>[lst 1 (fun x=>[.i x]) x]) l)
abbrev E2 (t_:List (Nat×Tv)):List (Nat×Tv):=(0,tP 1000 0)::(Gl types)::(2,.av (oL l))::(6,tP 75 0)::t_
abbrev G3:Nat×Tv:=(8,tI (AA v6' 3).1)
abbrev sV (types:List AN) (l:List (List Int)) (v6':AD) (v12:Int):List (Nat×Tv):=(E2 types l [(G3 v6'),(12,tI v12),(16,tP 16 0)])
abbrev C6:Nat×Blk:=(2000,.row 6 AX.length (AP AV.c AX) 131)
abbrev OE:List (Nat×Tv):=[(0,tP 1000 0),(Gl types),(6,tP 189 0)]
abbrev EJ:Nat×Blk:=(2001,.row 8 Ah.length (AP Aw.c Ah) 133)
abbrev aK (v12:Int) (b:AG) (v6'':AD) (t_:List Cl):List Cl:=(.i (W64 (31+v12)))::(.s (Ro b v6'').1)::(.i (W64 (1+(AA (Z2G b v6'') 2).1)))::(.i (W64 (20+(W64 (5*(AA (AA (Z2G b v6'') 2).2 3).1)))))::(.i (AA (Z2J b v6'') 2).1)::(.i (([0,0,5,9]:List Int).getD (AA (AA (Z2J b v6'') 2).2 4).1.toNat 0))::(.i (W64 (4+(AA (Z2M b v6'') 6).1)))::t_
abbrev MA (t_:List (Nat×Tv)):List (Nat×Tv):=(0,tP 1000 0)::(Gl types)::(2,.av (oL l))::(6,tP 22 0)::t_
theorem au5 {p:Prop} (h:p:=by repeat (first | with_reducible assumption | exact CV (DV hll _) | with_reducible refine BO ?_ | with_reducible refine Ek ?_ | with_reducible refine Dk ?_ | with_reducible refine DH ?_  | with_reducible refine Cr ?_ ?_)):p:=h
set_option maxHeartbeats 2000000 in
theorem Vv  (b:AG) (types:(List AN)) (l:(List (List Int))) (hb:(b.Parts.length:Int)<=1000000) (ht:(types.length:Int)<=1000000) (hg:Nx b types) (hn:1<=(b.Nets.length:Int)/\(b.Nets.length:Int)<=1000000) (hl:(l.length:Int)<=9223372036854775807) (hll:∀ x∈l,(x.length:Int)<=9223372036854775807):Wr Tryz.prog 44 1000 [.one (.ptr 1000 0),.one (lst 3 AN.c types),.one (lst 1 (fun x=>[lst 1 eIn x]) l)] (.cells [.i b.Layers,.i b.Outline.Kind,lst 7 AK.c b.Outline.Edges,.i b.Outline.R,lst 7 AF.c b.Parts,lst 2 Bz.c b.Nets,vN,vN,vN,vN,vN,vN,vN,vN,vN] 41) (.tup []) (.cells [.i (Bl b types l).Layers,.i (Bl b types l).Outline.Kind,lst 7 AK.c (Bl b types l).Outline.Edges,.i (Bl b types l).Outline.R,lst 7 AF.c (Bl b types l).Parts,lst 2 Bz.c (Bl b types l).Nets,lst 6 AV.c (Bl b types l).Tracks,lst 8 Aw.c (Bl b types l).Vias,lst 8 BZ.c (Bl b types l).Pours,lst 5 C4.c (Bl b types l).Keeps,lst 4 Aj.c (Bl b types l).Slots,vN,vN,vN,vN] 41):=by
 refine Ht Tryz.func44 rfl kr kr kr kr fun W0 M0 X hX => ?_
 refine AB<|oq 20 _ (GM l 4 au10)<|AE<|AB<|oo [(25,(Z1B b l))] [none,Blk.cells (VW b) 41=Blk.cells (Pv [6,7,8,9,10,11,12,13,14] 0 (VW b) (Sw b)) 41,Br (.cells [lst 1 eIn (AY l 4),.i 0] 117)] (.cons (Iy (B0:=fun vs=>(BM b [.val (vs 6),.val (vs 7),.val (vs 8),.val (vs 9),.val (vs 10),.val (vs 11),.val (vs 12),.val (vs 13),.val (vs 14)])) (fun _ _=>kr) kr rfl rfl kr (fun vs=>by kernel_rfl) (fun vs=>by kernel_rfl) (fun vs=>R3 (AG.mk b.Layers b.Outline b.Parts b.Nets [] [] [] [] [] [] [] [] []) (AD.mk (AY l 4) 0) vs au5 oM)) .nil) (H2 rfl rfl)<|AE<|AB<|rb 27 (Z1E b l) (.cells (AD.c (Z1C b l)) 117) ⟨(MA types l [(7,Z1D b l),(8,tI (AA (Z1C b l) 6).1)]),[(22,Z1F b l),(1000,Z1A b)]⟩ (cWr (BR (Z1C b l) 6 au5 au8))<|AE<|AB<|AB<|rn ⟨(MA types l [(7,Z1D b l),(8,tI (AA (Z1C b l) 6).1),(9,tI 0)]),[(22,Z1F b l),(1000,Z1A b)]⟩<|AM<|BE (Cv.trans (vg 2000 6 (fun _ _=>default) 131 [] [(1000,[6])] (K:=[1000]) hX) (Cv.trans (A5 2000 (B9 6 (fun _ _=>default) AV.c)) (ck (⟨(MA types l [(7,Z1D b l),(8,tI (AA (Z1C b l) 6).1),(9,tI 0)]),[(22,Z1F b l),(1000,Z25 b),(2000,Z24)]⟩)))) ?_
 refine lpC (κ:=List AV×AD×ByteArray×Int) (fun x=>⟨(MA types l [(7,tO (.s x.2.2.2.1)),(8,tI (AA (Z1C b l) 6).1),(9,tI x.2.2.2.2)]),[(22,.cells (AD.c x.2.2.1) 117),(1000,.cells (BM b [.own 2000 6 x.2.1.length,vN,vN,vN,vN,vN,vN,vN,vN]) 41),(2000,.row 6 x.2.1.length (AP AV.c x.2.1) 131)]⟩) (fun x=>((AA (Z1C b l) 6).1-x.2.2.2.2).toNat) (fun x=>(CJ x.2.2.1/\0<=x.2.2.2.2/\(x.2.2.2.2<=(AA (Z1C b l) 6).1\/x.2.2.2.2=0)/\(x.2.1.length:Int)<=0+1*(x.2.2.2.2-0))/\Bu b types l x.1 x.2.1 x.2.2.1 x.2.2.2.1 x.2.2.2.2=Bl b types l) ?_ (((AA (Z1C b l) 6).1-0).toNat+1,([]:List AV),(AA (Z1C b l) 6).2,(CU (AG.mk b.Layers b.Outline b.Parts b.Nets [] [] [] [] [] [] [] [] []) (AD.mk (AY l 4) 0)).1,0) ⟨Nat.lt_succ_self _,⟨(by dsimp only;repeat (first | with_reducible assumption | exact CV (DV hll _) | with_reducible refine BO ?_ | with_reducible refine Ek ?_ | with_reducible refine Dk ?_ | with_reducible refine DH ?_  | with_reducible refine Cr ?_ ?_)),ax0,ax0,ax0⟩,(by simp only [Bl,cond_true,cond_false])⟩
 rintro n0 ⟨AX,v6,v7,v9⟩ hm0 ⟨hinv0,hF0⟩
 try dsimp only at hm0 hinv0 hF0
 have hi0_0:=hinv0.1
 refine AB<|AB<|on<|kb (decide ((v9:Int)<(AA (Z1C b l) 6).1)) (fun h1 => ?_) (fun h1 => ?_)
 ·have g1:=oT h1
  have k1:=SK g1 (by decide) (by decide)
  refine AQ<|AE<|AB<|AM<|AB<|rb 37 (Z28 v6) (.cells (AD.c v6) 117) ⟨(MA types l [(8,tI (AA (Z1C b l) 6).1),(9,tI v9),(10,tP 10 0)]),[(10,.cells [.i (W64 (11+v9)),.s v7,.i (W64 (1+(AA v6 2).1)),.i 0,vN,.i 0] 131),(22,.cells (AD.c (AA v6 2).2) 117),(1000,Z26 b AX),(C6 AX)]⟩ (cWr (BR v6 2 au5 au8))<|AE<|AB ?_
  refine oe [] [(41,(Z29 v6)),(48,ceI [.agg (Z7 b AX),.one (HX types),.one (.ptr 22 0)] (Z2a b types v6)),(54,ceI [.agg (Z7 b AX),.one (HX types),.one (.ptr 22 0)] (Z2d b types v6)),(56,(Z2g b types v6))] [none,Br (.cells (AD.c (AA v6 2).2) 117),none,Br (.cells (AD.c (AA (AA v6 2).2 4).2) 117),none,Br (.cells (AD.c (Z2b b types v6)) 117),none,Br (.cells (AD.c (Z2e b types v6)) 117)] (.cons (cWr (BR (AA v6 2).2 4 au5 au8)) (.cons (Cf (cWr (LO (AG.mk b.Layers b.Outline b.Parts [] [] [] [] [] [] [] [] [] []) types (AA (AA v6 2).2 4).2 au5 oM oM (by assumption))) (.cons (.agg (rr5 (rA (rA (rA (rA (rA (rA (rA (rA (rA (rA .nil)))))))))))) (.cons (AvE.refl _) (.cons (AvE.refl _) .nil)))) (.cons (Cf (cWr (LO (AG.mk b.Layers b.Outline b.Parts [] [] [] [] [] [] [] [] [] []) types (Z2b b types v6) au5 oM oM (by assumption))) (.cons (.agg (rr5 (rA (rA (rA (rA (rA (rA (rA (rA (rA (rA .nil)))))))))))) (.cons (AvE.refl _) (.cons (AvE.refl _) .nil)))) (.cons (cWr (dG (Z2c b types v6) (Z2f b types v6) (Z2e b types v6) au5)) .nil)))) (H4 rfl rfl rfl rfl)<|AE<|AB<|od [] [] [AX.length=AX.length,AX.length+1<=maxLen,(AX.length+1)*72<=140737488355328] .nil (H3 rfl au2 au2)<|AE ?_
  refine BE (A5 66 (BF (A1 6 AV.c AX) (BC 6 AV.c ([AV.mk (W64 (11+v9)) v7 (W64 (1+(AA v6 2).1)) (AO.mk 1 (Cc (Z2c b types v6) (Z2f b types v6) (Z2e b types v6)).1 (W64 (3+(AA (AA v6 2).2 4).1)))]:List AV))))<|oo [(71,(Z2k b types v6))] [none,Blk.cells (aH b AX v9 v7 v6 types) 41=Blk.cells (Pv [6,7,8,9,10,11,12,13,14] 0 (aH b AX v9 v7 v6 types) (Sw b)) 41,Br (.cells (AD.c (Z2h b types v6)) 117)] (.cons (Iy (B0:=fun vs=>(BM b [.val (vs 6),.val (vs 7),.val (vs 8),.val (vs 9),.val (vs 10),.val (vs 11),.val (vs 12),.val (vs 13),.val (vs 14)])) (fun _ _=>kr) kr rfl rfl kr (fun vs=>by kernel_rfl) (fun vs=>by kernel_rfl) (fun vs=>R3 (AG.mk b.Layers b.Outline b.Parts b.Nets [] [] [] [] [] [] [] [] []) (Z2h b types v6) vs au5 oM)) .nil) (H2 rfl rfl)<|A3<|AE<|rg ⟨(MA types l [(7,.av (.one (.s (CU (JQ b) (Z2h b types v6)).1))),(8,tI (AA (Z1C b l) 6).1),(9,tI (W64 (v9+1)))]),[(22,Z2n b types v6),(66,Z2i AX v9 v7 v6 b types),(1000,Z2j b AX v9 v7 v6 types)]⟩ ?_
  (try rw [(show W64 (v9+1)=v9+1 from Ae oM au3)])
  refine AE ?_
  refine ⟨(n0,AX++[AV.mk (W64 (11+v9)) v7 (W64 (1+(AA v6 2).1)) (AO.mk 1 (Cc (Z2c b types v6) (Z2f b types v6) (Z2e b types v6)).1 (W64 (3+(AA (AA v6 2).2 4).1)))],Z2l b types v6,(CU (AG.mk b.Layers b.Outline b.Parts b.Nets [] [] [] [] [] [] [] [] []) (Z2h b types v6)).1,v9+1),⟨?_,?_,(by rw [<- hF0];simp only [Bu,h1,cond_true,cond_false])⟩,Nat.lt_succ_self _,Cv.trans (vr 66 2000 (K:=[1000]) hX) (Cv.trans (vk [0,1,2,6,7,8,9] [22,1000,2000]) (Al kr))⟩
  ·dsimp only;omega
  exact ⟨(by dsimp only;repeat (first | with_reducible assumption | exact CV (DV hll _) | with_reducible refine BO ?_ | with_reducible refine Ek ?_ | with_reducible refine Dk ?_ | with_reducible refine DH ?_  | with_reducible refine Cr ?_ ?_)),ax0,ax0,ax0⟩
 have g1:=oF h1
 refine An<|Ai<|Ai<|Ao<|AE<|AB<|oq 73 _ (GM l 5 au10)<|AE<|AB<|rb 77 (Z1G l) (.cells [lst 1 eIn (AY l 5),.i 0] 117) ⟨(E2 types l [(8,Z1H l)]),[(75,Z1I l),(1000,Z26 b AX),(C6 AX)]⟩ (cWr (BR (AD.mk (AY l 5) 0) 3 au5 au8))<|AE<|AB<|AB<|rn ⟨(E2 types l [(8,Z1H l),(11,tI 0)]),[(75,Z1I l),(1000,Z26 b AX),(C6 AX)]⟩<|AM<|BE (Cv.trans (vg 2001 8 (fun _ _=>default) 133 [] [(1000,[7])] (K:=[1000]) hX) (Cv.trans (A5 2001 (B9 8 (fun _ _=>default) Aw.c)) (ck (⟨(E2 types l [(8,Z1H l),(11,tI 0)]),[(75,Z1I l),(1000,Z2X b AX),(C6 AX),(2001,Z22)]⟩)))) ?_
 refine lpC (κ:=List Aw×AD×Int) (fun x=>⟨(E2 types l [(8,Z1H l),(11,tI x.2.2.2)]),[(75,.cells (AD.c x.2.2.1) 117),(1000,.cells (BM b [.own 2000 6 AX.length,.own 2001 8 x.2.1.length,vN,vN,vN,vN,vN,vN,vN]) 41),(C6 AX),(2001,.row 8 x.2.1.length (AP Aw.c x.2.1) 133)]⟩) (fun x=>((AA (AD.mk (AY l 5) 0) 3).1-x.2.2.2).toNat) (fun x=>(CJ x.2.2.1/\0<=x.2.2.2/\(x.2.2.2<=(AA (AD.mk (AY l 5) 0) 3).1\/x.2.2.2=0)/\(x.2.1.length:Int)<=0+1*(x.2.2.2-0))/\CC b types l AX v6 v7 v9 (Bu b types l n0) x.1 x.2.1 x.2.2.1 x.2.2.2=Bl b types l) ?_ (((AA (AD.mk (AY l 5) 0) 3).1-0).toNat+1,([]:List Aw),(AA (AD.mk (AY l 5) 0) 3).2,0) ⟨Nat.lt_succ_self _,⟨(by dsimp only;repeat (first | with_reducible assumption | exact CV (DV hll _) | with_reducible refine BO ?_ | with_reducible refine Ek ?_ | with_reducible refine Dk ?_ | with_reducible refine DH ?_  | with_reducible refine Cr ?_ ?_)),ax0,ax0,ax0⟩,(by rw [<- hF0];simp only [Bu,h1,cond_true,cond_false])⟩
 rintro n1 ⟨Ah,v6',v11⟩ hm1 ⟨hinv1,hF1⟩
 try dsimp only at hm1 hinv1 hF1
 have hi1_0:=hinv1.1
 refine AB<|AB<|on<|kb (decide ((v11:Int)<(AA (AD.mk (AY l 5) 0) 3).1)) (fun h2 => ?_) (fun h2 => ?_)
 ·have g2:=oT h2
  have k2:=SK g2 (by decide) (by decide)
  refine AQ<|AE<|AB<|AM ?_
  refine oe [] [(92,(Z2o b v6')),(98,ceI [.agg (Sz b AX Ah),.one (HX types),.one (.ptr 75 0)] (Z2q b types v6')),(100,(Z2t b types v6')),(103,(Z2u b types v6'))] [none,Blk.cells (Sz b AX Ah) 41=Blk.cells (Pv [6,7,8,9,10,11,12,13,14] 0 (Sz b AX Ah) (Sw b)) 41,Br (.cells (AD.c v6') 117),none,Br (.cells (AD.c (Z2p b v6')) 117),none,Br (.cells (AD.c (Z2r b types v6')) 117),none,Br (.cells (AD.c (AA (Z2r b types v6') 5).2) 117),Ah.length=Ah.length,Ah.length+1<=maxLen,(Ah.length+1)*72<=140737488355328] (.cons (Iy (B0:=fun vs=>(BM b [.val (vs 6),.val (vs 7),.val (vs 8),.val (vs 9),.val (vs 10),.val (vs 11),.val (vs 12),.val (vs 13),.val (vs 14)])) (fun _ _=>kr) kr rfl rfl kr (fun vs=>by kernel_rfl) (fun vs=>by kernel_rfl) (fun vs=>R3 (AG.mk b.Layers b.Outline b.Parts b.Nets [] [] [] [] [] [] [] [] []) v6' vs au5 oM)) (.cons (Cf (cWr (LO (AG.mk b.Layers b.Outline b.Parts [] [] [] [] [] [] [] [] [] []) types (Z2p b v6') au5 oM oM (by assumption))) (.cons (.agg (rr5 (rA (rA (rA (rA (rA (rA (rA (rA (rA (rA .nil)))))))))))) (.cons (AvE.refl _) (.cons (AvE.refl _) .nil)))) (.cons (cWr (BR (Z2r b types v6') 5 au5 au8)) (.cons (cWr (BR (AA (Z2r b types v6') 5).2 3 au5 au8)) .nil)))) (H8 rfl rfl rfl rfl rfl rfl au2 au2)<|A3<|AE ?_
  refine BE (A5 108 (BF (A1 8 Aw.c Ah) (BC 8 Aw.c ([Aw.mk (W64 (21+v11)) (CU (AG.mk b.Layers b.Outline b.Parts b.Nets [] [] [] [] [] [] [] [] []) v6').1 (Z2s b types v6') (W64 (6+(AA (Z2r b types v6') 5).1)) (W64 (4+(W64 (2*(AA (AA (Z2r b types v6') 5).2 3).1)))) 1 2]:List Aw))))<|rg ⟨(E2 types l [(8,Z1H l),(11,tI (W64 (v11+1)))]),[(75,Z2w b types v6'),(108,Z2x Ah v11 b v6' types),(1000,Z2y b AX Ah v11 v6' types),(C6 AX)]⟩ ?_
  (try rw [(show W64 (v11+1)=v11+1 from Ae oM au3)])
  refine AE ?_
  refine ⟨(n1,Ah++[Aw.mk (W64 (21+v11)) (CU (AG.mk b.Layers b.Outline b.Parts b.Nets [] [] [] [] [] [] [] [] []) v6').1 (Z2s b types v6') (W64 (6+(AA (Z2r b types v6') 5).1)) (W64 (4+(W64 (2*(AA (AA (Z2r b types v6') 5).2 3).1)))) 1 2],Z2v b types v6',v11+1),⟨?_,?_,(by rw [<- hF1];simp only [CC,h2,cond_true,cond_false])⟩,Nat.lt_succ_self _,Cv.trans (vr 108 2001 (K:=[1000]) hX) (Cv.trans (vk [0,1,2,6,8,11] [75,1000,2000,2001]) (Al kr))⟩
  ·dsimp only;omega
  exact ⟨(by dsimp only;repeat (first | with_reducible assumption | exact CV (DV hll _) | with_reducible refine BO ?_ | with_reducible refine Ek ?_ | with_reducible refine Dk ?_ | with_reducible refine DH ?_  | with_reducible refine Cr ?_ ?_)),ax0,ax0,ax0⟩
 have g2:=oF h2
 refine An<|Ai<|Ai<|Ao<|AE<|AB<|rb 112 (Z2z v6') (.cells (AD.c v6') 117) ⟨(E2 types l [(G3 v6')]),[(75,.cells (AD.c (AA v6' 3).2) 117),(1000,Z2Y b AX Ah),(C6 AX),(EJ Ah)]⟩ (cWr (BR v6' 3 au5 au8))<|AE<|AB<|AB<|rn ⟨(E2 types l [(G3 v6'),(12,tI 0)]),[(75,.cells (AD.c (AA v6' 3).2) 117),(1000,Z2Y b AX Ah),(C6 AX),(EJ Ah)]⟩<|AM<|BE (Cv.trans (vg 2002 8 (fun _ _=>default) 97 [] [(1000,[8])] (K:=[1000]) hX) (Cv.trans (A5 2002 (B9 8 (fun _ _=>default) BZ.c)) (ck (⟨(E2 types l [(G3 v6'),(12,tI 0)]),[(75,.cells (AD.c (AA v6' 3).2) 117),(1000,Z31 b AX Ah),(C6 AX),(EJ Ah),(2002,.row 8 ([]:List BZ).length (AP BZ.c ([]:List BZ)) 97)]⟩)))) ?_
 refine lpC (κ:=List BZ×AD×Int) (fun x=>⟨(E2 types l [(G3 v6'),(12,tI x.2.2.2)]),[(75,.cells (AD.c x.2.2.1) 117),(1000,.cells (BM b (Hh AX Ah [.own 2002 8 x.2.1.length,vN,vN,vN,vN,vN,vN])) 41),(C6 AX),(EJ Ah),(2002,.row 8 x.2.1.length (AP BZ.c x.2.1) 97)]⟩) (fun x=>((AA v6' 3).1-x.2.2.2).toNat) (fun x=>(CJ x.2.2.1/\0<=x.2.2.2/\(x.2.2.2<=(AA v6' 3).1\/x.2.2.2=0)/\(x.2.1.length:Int)<=0+1*(x.2.2.2-0))/\B2 b types l AX v6 v7 v9 Ah v6' v11 (Bu b types l n0) (CC b types l AX v6 v7 v9 (Bu b types l n0) n1) x.1 x.2.1 x.2.2.1 x.2.2.2=Bl b types l) ?_ (((AA v6' 3).1-0).toNat+1,([]:List BZ),(AA v6' 3).2,0) ⟨Nat.lt_succ_self _,⟨(by dsimp only;repeat (first | with_reducible assumption | exact CV (DV hll _) | with_reducible refine BO ?_ | with_reducible refine Ek ?_ | with_reducible refine Dk ?_ | with_reducible refine DH ?_  | with_reducible refine Cr ?_ ?_)),ax0,ax0,ax0⟩,(by rw [<- hF1];simp only [CC,h2,cond_true,cond_false])⟩
 rintro n2 ⟨Au,v6'',v12⟩ hm2 ⟨hinv2,hF2⟩
 try dsimp only at hm2 hinv2 hF2
 have hi2_0:=hinv2.1
 refine AB<|AB<|on<|kb (decide ((v12:Int)<(AA v6' 3).1)) (fun h3 => ?_) (fun h3 => ?_)
 ·have g3:=oT h3
  have k3:=SK g3 (by decide) (by decide)
  refine AQ<|AE<|AB<|AM<|AB<|oo [(119,(Z2A v6'')),(121,(Z2B v6''))] [none,Br (.cells (AD.c v6'') 117),none,Br (.cells (AD.c (AA v6'' 12).2) 117)] (.cons (cWr (BR v6'' 12 au5 au8)) (.cons (cWr (BR (AA v6'' 12).2 12 au5 au8)) .nil)) (H2 rfl rfl)<|AE<|AB<|oo [(127,(Z2C v6'')),(132,(Z2E v6''))] [none,Br (.cells (AD.c (AA (AA v6'' 12).2 12).2) 117),none,Br (.cells (AD.c (Z2D v6'')) 117)] (.cons (cWr (BR (AA (AA v6'' 12).2 12).2 6 au5 au8)) (.cons (cWr (BR (Z2D v6'') 5 au5 au8)) .nil)) (H2 rfl rfl)<|AE<|AB ?_
  refine oe [158] [(139,(Z2F b v6'')),(141,(Z2H b v6'')),(144,(Z2I b v6'')),(148,(Z2K b v6'')),(151,(Z2L b v6'')),(155,(Z2N b v6''))] [none,Blk.cells (S2 b AX Ah Au) 41=Blk.cells (Pv [6,7,8,9,10,11,12,13,14] 0 (S2 b AX Ah Au) (Sw b)) 41,Br (.cells (AD.c (AA (Z2D v6'') 5).2) 117),none,Br (.cells (AD.c (Z2G b v6'')) 117),none,Br (.cells (AD.c (AA (Z2G b v6'') 2).2) 117),none,Br (.cells (AD.c (Z2J b v6'')) 117),none,Br (.cells (AD.c (AA (Z2J b v6'') 2).2) 117),0<=((AA (AA (Z2J b v6'') 2).2 4).1:Int)/\((AA (AA (Z2J b v6'') 2).2 4).1:Int)<((4:Nat):Int),none,Br (.cells (AD.c (Z2M b v6'')) 117)] (.cons (Iy (B0:=fun vs=>(BM b [.val (vs 6),.val (vs 7),.val (vs 8),.val (vs 9),.val (vs 10),.val (vs 11),.val (vs 12),.val (vs 13),.val (vs 14)])) (fun _ _=>kr) kr rfl rfl kr (fun vs=>by kernel_rfl) (fun vs=>by kernel_rfl) (fun vs=>R3 (AG.mk b.Layers b.Outline b.Parts b.Nets [] [] [] [] [] [] [] [] []) (AA (Z2D v6'') 5).2 vs au5 oM)) (.cons (cWr (BR (Z2G b v6'') 2 au5 au8)) (.cons (cWr (BR (AA (Z2G b v6'') 2).2 3 au5 au8)) (.cons (cWr (BR (Z2J b v6'') 2 au5 au8)) (.cons (cWr (BR (AA (Z2J b v6'') 2).2 4 au5 au8)) (.cons (cWr (BR (Z2M b v6'') 6 au5 au8)) .nil)))))) (H8 rfl rfl rfl rfl rfl rfl (by first | exact J7 _ _ _ (by decide) (by decide) (by decide) | decide | omega) rfl)<|AE ?_
  refine BE (A5 158 (BC 4 Ad.c ([Ad.mk (AA v6'' 12).1 (AA (AA v6'' 12).2 12).1 (W64 ((W64 ((AA v6'' 12).1+1))+(AA (AA (AA v6'' 12).2 12).2 6).1)) (W64 ((W64 ((AA (AA v6'' 12).2 12).1+1))+(AA (Z2D v6'') 5).1))]:List Ad)))<|AB<|AB<|rb 161 (Z2Q b v6'') (.cells (AD.c (AA (Z2M b v6'') 6).2) 117) ⟨(E2 types l [(G3 v6'),(12,tI v12),(13,tI (AA v6'' 12).1),(14,tI (KS v6'').1),(16,tP 16 0),(162,tB (decide (((AA (AA (Z2M b v6'') 6).2 3).1:Int)=0)))]),[(16,.cells (Rd v12 b v6'' [.own 158 4 ((NS v6'').length)]) 97),(75,Z2S b v6''),(158,Z2P v6''),(1000,Z32 b AX Ah Au),(C6 AX),(EJ Ah),(2002,Z21 Au)]⟩ (cWr (BR (AA (Z2M b v6'') 6).2 3 au5 au8))<|AE<|Bd (⟨[(0,tP 1000 0),(Gl types),(2,.av (oL l)),(6,tP 75 0),(G3 v6'),(12,tI v12),(16,tP 16 0)],[(16,.cells (Rd v12 b v6'' [.own 2003 4 (Z2U b v6'').length]) 97),(75,.cells (AD.c (Z2R b v6'')) 117),(1000,.cells (S2 b AX Ah Au) 41),(2000,.row 6 AX.length (AP AV.c AX) 131),(2001,.row 8 Ah.length (AP Aw.c Ah) 133),(2002,.row 8 Au.length (AP BZ.c Au) 97),(2003,.row 4 (Z2U b v6'').length (AP Ad.c (Z2U b v6'')) 90)]⟩) ?_ ?_
  ·refine Ap _ rfl (fun h4 => ?_) (fun h4 => ?_)
   ·have g4:=oT h4
    refine rc [] [[Ad.mk (AA v6'' 12).1 (AA (AA v6'' 12).2 12).1 (W64 ((W64 ((AA v6'' 12).1+1))+(AA (AA (AA v6'' 12).2 12).2 6).1)) (W64 ((W64 ((AA (AA v6'' 12).2 12).1+1))+(AA (Z2D v6'') 5).1))].length=[Ad.mk (AA v6'' 12).1 (AA (AA v6'' 12).2 12).1 (W64 ((W64 ((AA v6'' 12).1+1))+(AA (AA (AA v6'' 12).2 12).2 6).1)) (W64 ((W64 ((AA (AA v6'' 12).2 12).1+1))+(AA (Z2D v6'') 5).1))].length,([Ad.mk (AA v6'' 12).1 (AA (AA v6'' 12).2 12).1 (W64 ((W64 ((AA v6'' 12).1+1))+(AA (AA (AA v6'' 12).2 12).2 6).1)) (W64 ((W64 ((AA (AA v6'' 12).2 12).1+1))+(AA (Z2D v6'') 5).1))].length)+1<=maxLen,(([Ad.mk (AA v6'' 12).1 (AA (AA v6'' 12).2 12).1 (W64 ((W64 ((AA v6'' 12).1+1))+(AA (AA (AA v6'' 12).2 12).2 6).1)) (W64 ((W64 ((AA (AA v6'' 12).2 12).1+1))+(AA (Z2D v6'') 5).1))].length)+1)*32<=140737488355328] ⟨(sV types l v6' v12),[(16,.cells (aK v12 b v6'' [.own 174 4 (((NS v6'').length)+1)]) 97),(75,Z2S b v6''),(174,.row 4 (((NS v6'').length)+1) (fun i_ j_=>if i_<((NS v6'').length) then (AP Ad.c (NS v6'')) i_ j_ else (BG 4 1 [.i (W64 ((AA v6'' 12).1-2)),.i (KS v6'').1,.i (W64 ((AA v6'' 12).1+1)),.i (W64 ((KS v6'').1+2))]) (i_-((NS v6'').length)) j_) 90),(1000,Z32 b AX Ah Au),(C6 AX),(EJ Ah),(2002,Z21 Au)]⟩ .nil (H3 rfl au2 au2)<|AE ?_
    refine Cv.trans (A5 174 (BF (A1 4 Ad.c [Ad.mk (AA v6'' 12).1 (AA (AA v6'' 12).2 12).1 (W64 ((W64 ((AA v6'' 12).1+1))+(AA (AA (AA v6'' 12).2 12).2 6).1)) (W64 ((W64 ((AA (AA v6'' 12).2 12).1+1))+(AA (Z2D v6'') 5).1))]) (BC 4 Ad.c ([Ad.mk (W64 ((AA v6'' 12).1-2)) (AA (AA v6'' 12).2 12).1 (W64 ((AA v6'' 12).1+1)) (W64 ((AA (AA v6'' 12).2 12).1+2))]:List Ad)))) (Cv.trans (vr 174 2003 (K:=[1000]) hX) (Cv.trans (ck (⟨(sV types l v6' v12),[(16,Z34 v12 b v6''),(75,Z2S b v6''),(1000,Z32 b AX Ah Au),(C6 AX),(EJ Ah),(2002,Z21 Au),(2003,Z2T v6'')]⟩)) (Al ?_)))
    first | rfl | (simp only [h4,Z2U,cond_true,cond_false] <;> rfl)
   refine AQ<|AE<|Cv.trans (vk [0,1,2,6,8,12,16] [16,75,158,1000,2000,2001,2002]) (Cv.trans (vr 158 2003 (K:=[1000]) hX) (Cv.trans (ck (⟨(sV types l v6' v12),[(16,Z35 v12 b v6''),(75,Z2S b v6''),(1000,Z32 b AX Ah Au),(C6 AX),(EJ Ah),(2002,Z21 Au),(2003,Z2P v6'')]⟩)) (Al ?_)))
   first | rfl | (simp only [h4,Z2U,cond_true,cond_false] <;> rfl)
  refine BE (Q0 (⟨(sV types l v6' v12),[(16,.cells (aK v12 b v6'' [lst 4 Ad.c (Z2U b v6'')]) 97),(75,Z2S b v6''),(1000,Z32 b AX Ah Au),(C6 AX),(EJ Ah),(2002,Z21 Au)]⟩) 2003 (K:=[1000]) hX)<|od [] [] [Au.length=Au.length,Au.length+1<=maxLen,(Au.length+1)*88<=140737488355328] .nil (H3 rfl au2 au2)<|A3<|AE<|BE (A5 183 (BF (A1 8 BZ.c Au) (BC 8 BZ.c ([BZ.mk (W64 (31+v12)) (CU (AG.mk b.Layers b.Outline b.Parts b.Nets [] [] [] [] [] [] [] [] []) (AA (Z2D v6'') 5).2).1 (W64 (1+(AA (Z2G b v6'') 2).1)) (W64 (20+(W64 (5*(AA (AA (Z2G b v6'') 2).2 3).1)))) (AA (Z2J b v6'') 2).1 (([0,0,5,9]:List Int).getD (AA (AA (Z2J b v6'') 2).2 4).1.toNat 0) (W64 (4+(AA (Z2M b v6'') 6).1)) (Z2U b v6'')]:List BZ))))<|rg ⟨(E2 types l [(G3 v6'),(12,tI (W64 (v12+1)))]),[(75,Z2S b v6''),(183,Z2V Au v12 b v6''),(1000,Z2Z b AX Ah Au v12 v6''),(C6 AX),(EJ Ah)]⟩ ?_
  (try rw [(show W64 (v12+1)=v12+1 from Ae oM au3)])
  refine AE ?_
  refine ⟨(n2,Au++[BZ.mk (W64 (31+v12)) (CU (AG.mk b.Layers b.Outline b.Parts b.Nets [] [] [] [] [] [] [] [] []) (AA (Z2D v6'') 5).2).1 (W64 (1+(AA (Z2G b v6'') 2).1)) (W64 (20+(W64 (5*(AA (AA (Z2G b v6'') 2).2 3).1)))) (AA (Z2J b v6'') 2).1 (([0,0,5,9]:List Int).getD (AA (AA (Z2J b v6'') 2).2 4).1.toNat 0) (W64 (4+(AA (Z2M b v6'') 6).1)) (Z2U b v6'')],Z2R b v6'',v12+1),⟨?_,?_,(by rw [<- hF2];simp only [B2,h3,cond_true,cond_false])⟩,Nat.lt_succ_self _,Cv.trans (vr 183 2002 (K:=[1000]) hX) (Cv.trans (vk [0,1,2,6,8,12] [75,1000,2000,2001,2002]) (Al kr))⟩
  ·dsimp only;omega
  exact ⟨(by dsimp only;repeat (first | with_reducible assumption | exact CV (DV hll _) | with_reducible refine BO ?_ | with_reducible refine Ek ?_ | with_reducible refine Dk ?_ | with_reducible refine DH ?_  | with_reducible refine Cr ?_ ?_)),ax0,ax0,ax0⟩
 have g3:=oF h3
 refine An<|Ai<|Ai<|Ao<|AE<|AB<|oq 187 _ (GM l 6 au10)<|AE<|AB<|AB<|rb 191 (Z1J l) (.cells [lst 1 eIn (AY l 6),.i 0] 117) ⟨[(0,tP 1000 0),(Gl types),(6,tP 189 0),(192,tB (decide (((Kh l).1:Int)=0)))],[(189,Z1K l),(1000,Z32 b AX Ah Au),(C6 AX),(EJ Ah),(2002,Z21 Au)]⟩ (cWr (BR (AD.mk (AY l 6) 0) 3 au5 au8))<|AE<|Bd (⟨(OE types),[(189,.cells (AD.c (Z1Q l b types)) 117),(1000,.cells (BM b (Hh AX Ah [.own 2002 8 Au.length,lst 5 C4.c (Z1R l b types),vN,vN,vN,vN,vN])) 41),(2000,.row 6 AX.length (AP AV.c AX) 131),(2001,.row 8 Ah.length (AP Aw.c Ah) 133),(2002,.row 8 Au.length (AP BZ.c Au) 97)]⟩) ?_ ?_
 ·refine Ap _ rfl (fun h4 => ?_) (fun h4 => ?_)
  ·have g4:=oT h4
   refine AB<|rb 198 (ceI [.agg (S2 b AX Ah Au),.one (lst 3 AN.c types),.one (.ptr 189 0)] (Z1L b types l)) (.cells (AD.c (AA (AD.mk (AY l 6) 0) 3).2) 117) ⟨[(0,tP 1000 0),(Gl types),(6,tP 189 0),(17,tP 17 0)],[(17,.cells (AC.c (Z1N b types l)) 66),(189,.cells (AD.c (Z1M b types l)) 117),(1000,Z32 b AX Ah Au),(C6 AX),(EJ Ah),(2002,Z21 Au)]⟩ (Cf (cWr (LO (AG.mk b.Layers b.Outline b.Parts [] [] [] [] [] [] [] [] [] []) types (AA (AD.mk (AY l 6) 0) 3).2 au5 oM oM (by assumption))) (.cons (.agg (rr5 (rA (rA (rA (rA (rA (rA (rA (rA (rA (rA .nil)))))))))))) (.cons (AvE.refl _) (.cons (AvE.refl _) .nil))))<|AE ?_
   refine dO [] [(201,(Z1O b types l)),(213,PY (Ad.mk (Z1N b types l).X (Z1N b types l).Y (W64 ((Z1N b types l).X+30)) (W64 ((Z1N b types l).Y+20))))] [none,Br (.cells (AD.c (Z1M b types l)) 117),none] ⟨(OE types),[(189,.cells (AD.c (AA (Z1M b types l) 3).2) 117),(1000,.cells (BM b (Hh AX Ah [.own 2002 8 Au.length,.list true 5 1 (BG 5 1 [.i 41,.i (AA (Z1M b types l) 3).1,.i (Z1P b types l).Kind,lst 7 AK.c (Z1P b types l).Edges,.i (Z1P b types l).R]),vN,vN,vN,vN,vN])) 41),(C6 AX),(EJ Ah),(2002,Z21 Au)]⟩ (.cons (cWr (BR (Z1M b types l) 3 au5 au8)) (.cons (SD (Ad.mk (Z1N b types l).X (Z1N b types l).Y (W64 ((Z1N b types l).X+30)) (W64 ((Z1N b types l).Y+20)))) .nil)) (H1 rfl)<|AE<|Cv.trans (Es (⟨(OE types),[(189,.cells (AD.c (AA (Z1M b types l) 3).2) 117),(1000,.cells (BM b (Hh AX Ah [.own 2002 8 Au.length,lst 5 C4.c [C4.mk 41 (AA (Z1M b types l) 3).1 (Z1P b types l)],vN,vN,vN,vN,vN])) 41),(C6 AX),(EJ Ah),(2002,Z21 Au)]⟩) lr (rz (.cons ⟨rfl,.cells _ (rr9 (.cons (BW true (Ba (c:=C4.c) (xs:=([C4.mk 41 (AA (Z1M b types l) 3).1 (Z1P b types l)]:List C4)) rfl kr)) (rr (rr (rr (rr (rr .nil)))))))⟩ lr))) (Al ?_)
   first | rfl | (simp only [h4,Z1Q,Z1R,cond_true,cond_false] <;> rfl)
  refine AQ<|AE<|Cv.trans (ck (⟨(OE types),[(189,Z1K l),(1000,Z32 b AX Ah Au),(C6 AX),(EJ Ah),(2002,Z21 Au)]⟩)) (Cv.trans (Es (⟨(OE types),[(189,Z1K l),(1000,.cells (BM b (Hh AX Ah [.own 2002 8 Au.length,lst 5 C4.c [],vN,vN,vN,vN,vN])) 41),(C6 AX),(EJ Ah),(2002,Z21 Au)]⟩) lr (rz (.cons ⟨rfl,.cells _ (rr9 (.cons (Cm 5 C4.c) (rr (rr (rr (rr (rr .nil)))))))⟩ lr))) (Al ?_))
  first | rfl | (simp only [h4,Z1Q,Z1R,cond_true,cond_false] <;> rfl)
 refine AB<|rb 219 (Z1S l b types) (.cells (AD.c (Z1Q l b types)) 117) ⟨[(0,tP 1000 0),(Gl types),(6,tP 189 0),(220,Z1T l b types)],[(189,Z1U l b types),(1000,.cells (aV b AX Ah Au l types) 41),(C6 AX),(EJ Ah),(2002,Z21 Au)]⟩ (cWr (BR (Z1Q l b types) 3 au5 au8))<|AE<|Ap _ rfl (fun h4 => ?_) (fun h4 => ?_)
 ·have g4:=oT h4
  refine AB<|rb 226 (ceI [.agg (aV b AX Ah Au l types),.one (lst 3 AN.c types),.one (.ptr 189 0)] (Z1V b types l)) (.cells (AD.c (AA (Z1Q l b types) 3).2) 117) ⟨[(0,tP 1000 0),(6,tP 189 0),(18,tP 18 0)],[(18,.cells (AC.c (Z1X b types l)) 66),(189,.cells (AD.c (Z1W b types l)) 117),(1000,.cells (aV b AX Ah Au l types) 41),(C6 AX),(EJ Ah),(2002,Z21 Au)]⟩ (Cf (cWr (LO (AG.mk b.Layers b.Outline b.Parts [] [] [] [] [] [] [] [] [] []) types (AA (Z1Q l b types) 3).2 au5 oM oM (by assumption))) (.cons (.agg (rr5 (rA (rA (rA (rA (rA (rA (rA (rA (rA (rA .nil)))))))))))) (.cons (AvE.refl _) (.cons (AvE.refl _) .nil))))<|AE<|oe [] [(229,(Z1Y b types l)),(239,K9 (Z1X b types l) (AC.mk (W64 ((Z1X b types l).X+25)) (W64 ((Z1X b types l).Y+10))))] [none,Br (.cells (AD.c (Z1W b types l)) 117),none] (.cons (cWr (BR (Z1W b types l) 4 au5 au8)) (.cons (GL (Z1X b types l) (AC.mk (W64 ((Z1X b types l).X+25)) (W64 ((Z1X b types l).Y+10)))) .nil)) (H1 rfl) ?_
  exact yn (Cv.trans (vf 2000 (K:=[1000]) hX) (Cv.trans (vf 2001 (K:=[1000]) hX) (vf 2002 (K:=[1000]) hX))) (.tup []) ⟨Ej rfl,.cells (BM b [lst 6 AV.c AX,lst 8 Aw.c Ah,lst 8 BZ.c Au,lst 5 C4.c (Z1R l b types),.list true 4 1 (BG 4 1 [.i 51,.i 1,.list true 7 1 (BG 7 1 (AK.c (Z1Z b types l))),.i (W64 (3+(AA (Z1W b types l) 4).1))]),vN,vN,vN,vN]) 41,by kernel_rfl,Sg (y:=.cells (BM b [lst 6 AV.c AX,lst 8 Aw.c Ah,lst 8 BZ.c Au,lst 5 C4.c (Z1R l b types),lst 4 Aj.c [Aj.mk 51 (AO.mk 1 [Z1Z b types l] (W64 (3+(AA (Z1W b types l) 4).1)))],vN,vN,vN,vN]) 41) (.cells _ (rr9 (rr (.cons (BW true (Fu (c:=Aj.c) (xs:=([Aj.mk 51 (AO.mk 1 [Z1Z b types l] (W64 (3+(AA (Z1W b types l) 4).1)))]:List Aj)) (y:=[[.i 51,.i 1,.list true 7 1 (BG 7 1 (AK.c (Z1Z b types l))),.i (W64 (3+(AA (Z1W b types l) 4).1))]]) (z:=[[.i 51,.i 1,lst 7 AK.c [Z1Z b types l],.i (W64 (3+(AA (Z1W b types l) 4).1))]]) rfl kr kr (.cons (rr (rr (.cons (BW true (Ba (c:=AK.c) (xs:=([Z1Z b types l]:List AK)) rfl kr)) (rr .nil)))) .nil))) (rr (rr (rr (rr .nil)))))))) (by rw [<- hF2];first | (simp only [B2,h3,h4,cond_true,cond_false];done) | (simp only [B2,h3,h4,cond_true,cond_false];kernel_rfl))⟩
 exact AQ<|yn (Cv.trans (vf 2000 (K:=[1000]) hX) (Cv.trans (vf 2001 (K:=[1000]) hX) (vf 2002 (K:=[1000]) hX))) (.tup []) ⟨Ej rfl,.cells (BM b [lst 6 AV.c AX,lst 8 Aw.c Ah,lst 8 BZ.c Au,lst 5 C4.c (Z1R l b types),vN,vN,vN,vN,vN]) 41,by kernel_rfl,Sg (y:=.cells (BM b [lst 6 AV.c AX,lst 8 Aw.c Ah,lst 8 BZ.c Au,lst 5 C4.c (Z1R l b types),lst 4 Aj.c [],vN,vN,vN,vN]) 41) (.cells _ (rr9 (rr (.cons (Cm 4 Aj.c) (rr (rr (rr (rr .nil)))))))) (by rw [<- hF2];first | (simp only [B2,h3,h4,cond_true,cond_false];done) | (simp only [B2,h3,h4,cond_true,cond_false];kernel_rfl))⟩
end
structure Lp (b:AG) (B:AG):Prop where
 lay:B.Layers=b.Layers
 out:B.Outline=b.Outline
 par:B.Parts=b.Parts
 net:B.Nets=b.Nets
 trk:(B.Tracks.length:Int)<=6
 edg:∀ t∈B.Tracks,(t.Shape.Edges.length:Int)<=2
 via:(B.Vias.length:Int)<=3
 pou:(B.Pours.length:Int)<=2
 kee:(B.Keeps.length:Int)<=1
 slo:(B.Slots.length:Int)<=1
theorem lO {b B C:AG} {c:Bool} (h:Lp b B) (k:Lp b C):Lp b (bif c then B else C):=by cases c <;> assumption
theorem R9 {α:Type} {c:Bool} {x:α}:((bif c then [x] else []:List α).length:Int)<=1:=by cases c <;> simp
theorem Ma (a c:AC) (d:AD):((Cc a c d).1.length:Int)<=2:=by
 unfold Cc
 generalize (bif _ then _ else false:Bool)=q
 cases q with
 | true=>simp
 | false =>
  simp only [cond_false]
  cases decide (((AA d 4).1:Int)=3) <;> simp
theorem Xj (b:AG) (types:List AN) (l:List (List Int)) (v1:List AV) (v6:AD) (v7:ByteArray) (v9:Int) (v2:List Aw) (v6':AD) (v11:Int) (K0:List AV->AD->ByteArray->Int->AG) (K1:List Aw->AD->Int->AG) (h1:(v1.length:Int)<=6) (he:∀ t∈v1,(t.Shape.Edges.length:Int)<=2) (h2:(v2.length:Int)<=3):∀ (n:Nat) (v:List BZ) (d:AD) (k:Int),0<=k->(v.length:Int)<=k->k<=2->((AA v6' 3).1-k).toNat<n->Lp b (B2 b types l v1 v6 v7 v9 v2 v6' v11 K0 K1 n v d k)
 | 0,v,d,k,_,_,_,h=>absurd h (Nat.not_lt_zero _)
 | n+1,v,d,k,k0,kv,k3,h=>by
  unfold B2
  have hb:=DO v6' 3 (by decide) (by decide)
  by_cases hc:k<(AA v6' 3).1
  ·simp only [hc,decide_true,cond_true]
   exact Xj b types l v1 v6 v7 v9 v2 v6' v11 K0 K1 h1 he h2 n _ _ _ (by omega) (by simp only [List.length_append,List.length_cons,List.length_nil];omega) (by omega) (by omega)
  simp only [hc,decide_false,cond_false]
  have hv:(v.length:Int)<=2:=by omega
  repeat (first | exact ⟨rfl,rfl,rfl,rfl,h1,he,h2,hv,R9,R9⟩ | exact ⟨rfl,rfl,rfl,rfl,h1,he,h2,hv,R9,(by simp:((([_]:List Aj).length:Nat):Int)<=1)⟩ | exact ⟨rfl,rfl,rfl,rfl,h1,he,h2,hv,R9,(by simp:((([]:List Aj).length:Nat):Int)<=1)⟩ | refine lO ?_ ?_)
theorem Xk (b:AG) (types:List AN) (l:List (List Int)) (v1:List AV) (v6:AD) (v7:ByteArray) (v9:Int) (K0:List AV->AD->ByteArray->Int->AG) (h1:(v1.length:Int)<=6) (he:∀ t∈v1,(t.Shape.Edges.length:Int)<=2):∀ (n:Nat) (v:List Aw) (d:AD) (k:Int),0<=k->(v.length:Int)<=k->k<=3->((AA (AD.mk (AY l 5) 0) 3).1-k).toNat<n->Lp b (CC b types l v1 v6 v7 v9 K0 n v d k)
 | 0,v,d,k,_,_,_,h=>absurd h (Nat.not_lt_zero _)
 | n+1,v,d,k,k0,kv,k3,h=>by
  unfold CC
  have hb:=DO (AD.mk (AY l 5) 0) 3 (by decide) (by decide)
  by_cases hc:k<(AA (AD.mk (AY l 5) 0) 3).1
  ·simp only [hc,decide_true,cond_true]
   exact Xk b types l v1 v6 v7 v9 K0 h1 he n _ _ _ (by omega) (by simp only [List.length_append,List.length_cons,List.length_nil];omega) (by omega) (by omega)
  simp only [hc,decide_false,cond_false]
  exact Xj b types l v1 v6 v7 v9 v d k K0 _ h1 he (by omega) _ _ _ 0 (by omega) (by simp) (by omega) (by omega)
theorem Xl (b:AG) (types:List AN) (l:List (List Int)):∀ (n:Nat) (v:List AV) (d:AD) (s:ByteArray) (k:Int),0<=k->(v.length:Int)<=k->k<=6->(∀ t∈v,(t.Shape.Edges.length:Int)<=2)->((AA (Z1C b l) 6).1-k).toNat<n->Lp b (Bu b types l n v d s k)
 | 0,v,d,s,k,_,_,_,_,h=>absurd h (Nat.not_lt_zero _)
 | n+1,v,d,s,k,k0,kv,k3,he,h=>by
  unfold Bu
  have hb:=DO (Z1C b l) 6 (by decide) (by decide)
  by_cases hc:k<(AA (Z1C b l) 6).1
  ·simp only [hc,decide_true,cond_true]
   refine Xl b types l n _ _ _ _ (by omega) (by simp only [List.length_append,List.length_cons,List.length_nil];omega) (by omega) (fun t ht => ?_) (by omega)
   rcases List.mem_append.1 ht with ht | ht
   ·exact he t ht
   rw [List.mem_singleton.1 ht];exact Ma _ _ _
  simp only [hc,decide_false,cond_false]
  exact Xk b types l v d s k _ (by omega) he _ _ _ 0 (by omega) (by simp) (by omega) (by omega)
theorem HZ (b:AG) (types:List AN) (l:List (List Int)):Lp b (Bl b types l):=by
 have hb:=DO (Z1C b l) 6 (by decide) (by decide)
 unfold Bl
 exact Xl b types l _ _ _ _ 0 (by omega) (by simp) (by omega) (fun t ht=>by cases ht) (by omega)
section
open Go.RowKit
def AJ:DW:=DW.mk 1 (⟨#[]⟩) 0 (Ad.mk 0 0 0 0) (OpL.mk 0 (fun _ _=>default))
def Cu:CT:=(99,[],.val [] (.av (.agg (DW.c AJ))))
abbrev aX:Tv:=.av (.agg [.i 1,.s (⟨#[]⟩),.i 0,.i 0,.i 0,.i 0,.i 0,vN])
theorem ZB  : FV Tryz.prog 99 (Cu ).2.1 (.av (.agg (DW.c AJ))):=by
 refine pwf Tryz.func99 fun W0 M0 => ?_
 exact AB<|on<|AB<|on<|AW<|xl aX (D3 (y:=.av (.agg [.i 1,.s (⟨#[]⟩),.i 0,.i 0,.i 0,.i 0,.i 0,opL (OpL.mk 0 (fun _ _=>default))])) (.av (.agg (rr5 (rr2 (.cons (.nil _ _) .nil))))) (by rfl))
theorem ER  : OKc (Cu ):=cPu<|ZB
variable (v3:List Int) (b:AG) (d:AD) (v4 v6:Int)
abbrev Gb:Blk:=.cells (AD.c (AA d 9).2) 117
def Z38:CT:=(42,([.one (.ptr 1000 0),.one (.i 9)]:List Av).map (Bo 1000 1000),wrI 1000 (Hk d) (tI (AA d 9).1) (Gb d))
abbrev JI:=AA (AA d 9).2 2
def Z39:CT:=(42,(Hq:List Av).map (Bo 1000 1000),wrI 1000 (Gb d) (tI (JI d).1) (.cells (AD.c (JI d).2) 117))
def Z3b:CT:=(42,Kc.map (Bo 1000 1000),wrI 1000 (Gb d) (tI (AA (AA d 9).2 5).1) (.cells (AD.c (AA (AA d 9).2 5).2) 117))
def Z3c:CT:=(42,(E9:List Av).map (Bo 1000 1000),wrI 1000 (Gb d) (tI (AA (AA d 9).2 3).1) (.cells (AD.c (AA (AA d 9).2 3).2) 117))
def Z3d:CT:=(42,(OI:List Av).map (Bo 1000 1000),wrI 1000 (Gb d) (tI (AA (AA d 9).2 6).1) (.cells (AD.c (AA (AA d 9).2 6).2) 117))
def Z3e:CT:=(42,Hj.map (Bo 1000 1000),wrI 1000 (.cells (AD.c (JI d).2) 117) (tI (AA (JI d).2 4).1) (.cells (AD.c (AA (JI d).2 4).2) 117))
abbrev Z3f:AD:=(AA (AA (AA d 9).2 2).2 4).2
def BD (d:AD):(DW×AD):=bif decide (((AA d 9).1:Int)=0) then (DW.mk 2 (([({ data := #[78,49] }:ByteArray),({ data := #[71,78,68] }:ByteArray)]:List ByteArray).getD (AA (AA d 9).2 2).1.toNat ⟨#[]⟩) 0 (Ad.mk 0 0 0 0) (OpL.mk 0 (fun _ _=>default)),(AA (AA d 9).2 2).2) else (bif decide (((AA d 9).1:Int)=1) then (DW.mk 3 ({ data := #[112,111,119,101,114] }:ByteArray) 0 (Ad.mk 0 0 0 0) (OpL.mk 0 (fun _ _=>default)),(AA d 9).2) else (bif decide (((AA d 9).1:Int)=2) then (DW.mk 4 (⟨#[]⟩) (W64 (1+(AA (AA d 9).2 5).1)) (Ad.mk 0 0 0 0) (OpL.mk 0 (fun _ _=>default)),(AA (AA d 9).2 5).2) else (bif decide (((AA d 9).1:Int)=3) then (DW.mk 5 (⟨#[]⟩) (W64 (1+(AA (AA d 9).2 2).1)) (Ad.mk 0 0 0 0) (OpL.mk 0 (fun _ _=>default)),(AA (AA d 9).2 2).2) else (bif decide (((AA d 9).1:Int)=4) then (DW.mk 6 (⟨#[]⟩) (W64 (1+(AA (AA d 9).2 3).1)) (Ad.mk 0 0 0 0) (OpL.mk 0 (fun _ _=>default)),(AA (AA d 9).2 3).2) else (bif decide (((AA d 9).1:Int)=5) then (DW.mk 7 (⟨#[]⟩) 0 (Ad.mk 0 0 (W64 (100+(W64 (50*(AA (AA d 9).2 6).1)))) 400) (OpL.mk 0 (fun _ _=>default)),(AA (AA d 9).2 6).2) else (bif decide (((AA d 9).1:Int)=6) then (DW.mk 8 (⟨#[]⟩) 0 (Ad.mk 0 0 0 0) (OpL.mk 1 (BG 8 1 [.i 5,.s (⟨#[]⟩),.i (W64 (1+(AA (AA d 9).2 2).1)),.i 0,.i 0,.i 0,.i 0,vN])),(AA (AA d 9).2 2).2) else (bif decide (((AA d 9).1:Int)=7) then (DW.mk (W64 (9+(AA (AA d 9).2 2).1)) (⟨#[]⟩) 0 (Ad.mk 0 0 0 0) (OpL.mk 2 (BG 8 2 [.i 4,.s (⟨#[]⟩),.i (W64 (1+(AA (AA (AA d 9).2 2).2 4).1)),.i 0,.i 0,.i 0,.i 0,vN,.i 2,.s ({ data := #[71,78,68] }:ByteArray),.i 0,.i 0,.i 0,.i 0,.i 0,vN])),Z3f d) else (DW.mk 1 (⟨#[]⟩) 0 (Ad.mk 0 0 0 0) (OpL.mk 0 (fun _ _=>default)),(AA d 9).2))))))))
abbrev W4:List Cl:=[.i 5,.s (⟨#[]⟩),.i (W64 (1+(JI d).1)),.i 0,.i 0,.i 0,.i 0,vN]
abbrev aY:List Cl:=[.i 7,.s (⟨#[]⟩),.i 0,.i 0,.i 0,.i (W64 (100+(W64 (50*(AA (AA d 9).2 6).1)))),.i 400,vN]
abbrev aU:List Cl:=[.i 4,.s (⟨#[]⟩),.i (W64 (1+(AA (AA d 9).2 5).1)),.i 0,.i 0,.i 0,.i 0,vN]
abbrev aS:List Cl:=[.i 6,.s (⟨#[]⟩),.i (W64 (1+(AA (AA d 9).2 3).1)),.i 0,.i 0,.i 0,.i 0,vN]
abbrev aR:List Cl:=[.i 8,.s (⟨#[]⟩),.i 0,.i 0,.i 0,.i 0,.i 0,.list true 8 1 (BG 8 1 (W4 d))]
theorem XZ  (d:AD) (hd:CJ d):Wr Tryz.prog 100 1000 [.one (.ptr 1000 0)] (.cells (AD.c d) 117) (.av (.agg (DW.c (BD d).1))) (.cells (AD.c (BD d).2) 117):=by
 refine Ht Tryz.func100 rfl kr kr kr kr fun W0 M0 X hX => ?_
 refine AB<|on<|AB<|AB<|rb 4 (Z38 d) (Hk d) ⟨[(0,tP 1000 0),(2,tP 2 0),(4,tI (AA d 9).1)],[(2,.cells [.i 0,.s (⟨#[]⟩),.i 0,.i 0,.i 0,.i 0,.i 0,vN] 145),(1000,.cells (AD.c (AA d 9).2) 117)]⟩ (cWr (BR d 9 au5 au8))<|AE<|AM<|AB<|on<|kb (decide (((AA d 9).1:Int)=0)) (fun h1 => ?_) (fun h1 => ?_)
 ·have g1:=oT h1
  exact AB<|oo [(9,(Z39 d))] [none,Br (Gb d),0<=((AA (AA d 9).2 2).1:Int)/\((AA (AA d 9).2 2).1:Int)<((2:Nat):Int)] (.cons (cWr (BR (AA d 9).2 2 au5 au8)) .nil) (H2 rfl (by first | exact J7 _ _ _ (by decide) (by decide) (by decide) | decide | omega))<|AE<|AW<|DB<|Be<|xl (.av (.agg [.i 2,.s (([({ data := #[78,49] }:ByteArray),({ data := #[71,78,68] }:ByteArray)]:List ByteArray).getD (AA (AA d 9).2 2).1.toNat ⟨#[]⟩),.i 0,.i 0,.i 0,.i 0,.i 0,vN])) ⟨D3 (y:=.av (.agg [.i 2,.s (([({ data := #[78,49] }:ByteArray),({ data := #[71,78,68] }:ByteArray)]:List ByteArray).getD (AA (AA d 9).2 2).1.toNat ⟨#[]⟩),.i 0,.i 0,.i 0,.i 0,.i 0,opL (OpL.mk 0 (fun _ _=>default))])) (.av (.agg (rr5 (rr2 (.cons (.nil _ _) .nil))))) (by unfold BD;rw [h1];rfl),.cells (AD.c (AA (AA d 9).2 2).2) 117,by kernel_rfl,DP (by unfold BD;rw [h1];kernel_rfl)⟩
 have g1:=oF h1
 refine AB<|on<|kb (decide (((AA d 9).1:Int)=1)) (fun h2 => ?_) (fun h2 => ?_)
 ·exact AB<|on<|AW<|DB<|Be<|xl (.av (.agg [.i 3,.s ({ data := #[112,111,119,101,114] }:ByteArray),.i 0,.i 0,.i 0,.i 0,.i 0,vN])) ⟨D3 (y:=.av (.agg [.i 3,.s ({ data := #[112,111,119,101,114] }:ByteArray),.i 0,.i 0,.i 0,.i 0,.i 0,opL (OpL.mk 0 (fun _ _=>default))])) (.av (.agg (rr5 (rr2 (.cons (.nil _ _) .nil))))) (by unfold BD;rw [h1,h2];rfl),.cells (AD.c (AA d 9).2) 117,by kernel_rfl,DP (by unfold BD;rw [h1,h2];kernel_rfl)⟩
 have g2:=oF h2
 refine AB<|on<|kb (decide (((AA d 9).1:Int)=2)) (fun h3 => ?_) (fun h3 => ?_)
 ·have g3:=oT h3
  exact AB<|rb 19 (Z3b d) (Gb d) ⟨[(2,tP 2 0)],[(2,.cells (aU d) 145),(1000,.cells (AD.c (AA (AA d 9).2 5).2) 117)]⟩ (cWr (BR (AA d 9).2 5 au5 au8))<|AE<|AW<|DB<|Be<|xl (.av (.agg (aU d))) ⟨D3 (y:=.av (.agg [.i 4,.s (⟨#[]⟩),.i (W64 (1+(AA (AA d 9).2 5).1)),.i 0,.i 0,.i 0,.i 0,opL (OpL.mk 0 (fun _ _=>default))])) (.av (.agg (rr5 (rr2 (.cons (.nil _ _) .nil))))) (by unfold BD;rw [h1,h2,h3];rfl),.cells (AD.c (AA (AA d 9).2 5).2) 117,by kernel_rfl,DP (by unfold BD;rw [h1,h2,h3];kernel_rfl)⟩
 have g3:=oF h3
 refine AB<|on<|kb (decide (((AA d 9).1:Int)=3)) (fun h4 => ?_) (fun h4 => ?_)
 ·have g4:=oT h4
  exact AB<|rb 25 (Z39 d) (Gb d) ⟨[(2,tP 2 0)],[(2,.cells (W4 d) 145),(1000,.cells (AD.c (JI d).2) 117)]⟩ (cWr (BR (AA d 9).2 2 au5 au8))<|AE<|AW<|DB<|Be<|xl (.av (.agg (W4 d))) ⟨D3 (y:=.av (.agg [.i 5,.s (⟨#[]⟩),.i (W64 (1+(AA (AA d 9).2 2).1)),.i 0,.i 0,.i 0,.i 0,opL (OpL.mk 0 (fun _ _=>default))])) (.av (.agg (rr5 (rr2 (.cons (.nil _ _) .nil))))) (by unfold BD;rw [h1,h2,h3,h4];rfl),.cells (AD.c (AA (AA d 9).2 2).2) 117,by kernel_rfl,DP (by unfold BD;rw [h1,h2,h3,h4];kernel_rfl)⟩
 have g4:=oF h4
 refine AB<|on<|kb (decide (((AA d 9).1:Int)=4)) (fun h5 => ?_) (fun h5 => ?_)
 ·have g5:=oT h5
  exact AB<|rb 31 (Z3c d) (Gb d) ⟨[(2,tP 2 0)],[(2,.cells (aS d) 145),(1000,.cells (AD.c (AA (AA d 9).2 3).2) 117)]⟩ (cWr (BR (AA d 9).2 3 au5 au8))<|AE<|AW<|DB<|Be<|xl (.av (.agg (aS d))) ⟨D3 (y:=.av (.agg [.i 6,.s (⟨#[]⟩),.i (W64 (1+(AA (AA d 9).2 3).1)),.i 0,.i 0,.i 0,.i 0,opL (OpL.mk 0 (fun _ _=>default))])) (.av (.agg (rr5 (rr2 (.cons (.nil _ _) .nil))))) (by unfold BD;rw [h1,h2,h3,h4,h5];rfl),.cells (AD.c (AA (AA d 9).2 3).2) 117,by kernel_rfl,DP (by unfold BD;rw [h1,h2,h3,h4,h5];kernel_rfl)⟩
 have g5:=oF h5
 refine AB<|on<|kb (decide (((AA d 9).1:Int)=5)) (fun h6 => ?_) (fun h6 => ?_)
 ·have g6:=oT h6
  exact AB<|rb 37 (Z3d d) (Gb d) ⟨[(2,tP 2 0)],[(2,.cells (aY d) 145),(1000,.cells (AD.c (AA (AA d 9).2 6).2) 117)]⟩ (cWr (BR (AA d 9).2 6 au5 au8))<|AE<|AW<|DB<|Be<|xl (.av (.agg (aY d))) ⟨D3 (y:=.av (.agg [.i 7,.s (⟨#[]⟩),.i 0,.i 0,.i 0,.i (W64 (100+(W64 (50*(AA (AA d 9).2 6).1)))),.i 400,opL (OpL.mk 0 (fun _ _=>default))])) (.av (.agg (rr5 (rr2 (.cons (.nil _ _) .nil))))) (by unfold BD;rw [h1,h2,h3,h4,h5,h6];rfl),.cells (AD.c (AA (AA d 9).2 6).2) 117,by kernel_rfl,DP (by unfold BD;rw [h1,h2,h3,h4,h5,h6];kernel_rfl)⟩
 have g6:=oF h6
 refine AB<|on<|kb (decide (((AA d 9).1:Int)=6)) (fun h7 => ?_) (fun h7 => ?_)
 ·have g7:=oT h7
  exact AB<|rb 45 (Z39 d) (Gb d) ⟨[(2,tP 2 0)],[(2,.cells (aR d) 145),(1000,.cells (AD.c (JI d).2) 117)]⟩ (cWr (BR (AA d 9).2 2 au5 au8))<|AE<|AW<|DB<|Be<|xl (.av (.agg (aR d))) ⟨D3 (y:=.av (.agg [.i 8,.s (⟨#[]⟩),.i 0,.i 0,.i 0,.i 0,.i 0,opL (OpL.mk 1 (BG 8 1 (W4 d)))])) (.av (.agg (rr5 (rr2 (.cons (.list true false _ _ _ _ (fun _ _ _ _=>.refl _) (fun h=>by cases h)) .nil))))) (by unfold BD;rw [h1,h2,h3,h4,h5,h6,h7];rfl),.cells (AD.c (AA (AA d 9).2 2).2) 117,by kernel_rfl,DP (by unfold BD;rw [h1,h2,h3,h4,h5,h6,h7];kernel_rfl)⟩
 have g7:=oF h7
 refine AB<|on<|kb (decide (((AA d 9).1:Int)=7)) (fun h8 => ?_) (fun h8 => ?_)
 ·have g8:=oT h8
  exact AB<|oo [(53,(Z39 d)),(56,(Z3e d))] [none,Br (Gb d),none,Br (.cells (AD.c (AA (AA d 9).2 2).2) 117)] (.cons (cWr (BR (AA d 9).2 2 au5 au8)) (.cons (cWr (BR (AA (AA d 9).2 2).2 4 au5 au8)) .nil)) (H2 rfl rfl)<|AE<|AW<|DB<|Be<|xl (.av (.agg [.i (W64 (9+(AA (AA d 9).2 2).1)),.s (⟨#[]⟩),.i 0,.i 0,.i 0,.i 0,.i 0,.list true 8 2 (BG 8 2 [.i 4,.s (⟨#[]⟩),.i (W64 (1+(AA (AA (AA d 9).2 2).2 4).1)),.i 0,.i 0,.i 0,.i 0,vN,.i 2,.s ({ data := #[71,78,68] }:ByteArray),.i 0,.i 0,.i 0,.i 0,.i 0,vN])])) ⟨D3 (y:=.av (.agg [.i (W64 (9+(AA (AA d 9).2 2).1)),.s (⟨#[]⟩),.i 0,.i 0,.i 0,.i 0,.i 0,opL (OpL.mk 2 (BG 8 2 [.i 4,.s (⟨#[]⟩),.i (W64 (1+(AA (AA (AA d 9).2 2).2 4).1)),.i 0,.i 0,.i 0,.i 0,vN,.i 2,.s ({ data := #[71,78,68] }:ByteArray),.i 0,.i 0,.i 0,.i 0,.i 0,vN]))])) (.av (.agg (rr5 (rr2 (.cons (.list true false _ _ _ _ (fun _ _ _ _=>.refl _) (fun h=>by cases h)) .nil))))) (by unfold BD;rw [h1,h2,h3,h4,h5,h6,h7,h8];rfl),.cells (AD.c (Z3f d)) 117,by kernel_rfl,DP (by unfold BD;rw [h1,h2,h3,h4,h5,h6,h7,h8];kernel_rfl)⟩
 exact AQ<|A3<|AE<|AB<|on<|AW<|xl aX ⟨D3 (y:=.av (.agg [.i 1,.s (⟨#[]⟩),.i 0,.i 0,.i 0,.i 0,.i 0,opL (OpL.mk 0 (fun _ _=>default))])) (.av (.agg (rr5 (rr2 (.cons (.nil _ _) .nil))))) (by unfold BD;rw [h1,h2,h3,h4,h5,h6,h7,h8];rfl),.cells (AD.c (AA d 9).2) 117,by kernel_rfl,DP (by unfold BD;rw [h1,h2,h3,h4,h5,h6,h7,h8];kernel_rfl)⟩
theorem Zq {d:AD} (h:CJ d):CJ (BD d).2:=by
 unfold BD
 exact Dq (BO (BO h)) (Dq (BO h) (Dq (BO (BO h)) (Dq (BO (BO h)) (Dq (BO (BO h)) (Dq (BO (BO h)) (Dq (BO (BO h)) (Dq (BO (BO (BO h))) (BO h))))))))
abbrev bI:List Cl:=[.i b.Layers,.any,.any,.any,lst 7 AF.c b.Parts,.any,lst 6 AV.c b.Tracks,lst 8 Aw.c b.Vias,lst 8 BZ.c b.Pours,lst 5 C4.c b.Keeps,lst 4 Aj.c b.Slots,.any,.any,.any,.any]
def Z3g:Blk:=.cells (bI b) 41
def Z3i:Tv:=.av (.one (.own 2000 1 ([]:List Int).length))
def Z3j:Blk:=.row 1 (v3++[(b.Parts.getD v4.toNat default).Id]).length (AP eIn (v3++[(b.Parts.getD v4.toNat default).Id])) 3
def Z3k (v3':List Int) (b:AG) (v5:Int):Blk:=.row 1 (v3'++[(b.Tracks.getD v5.toNat default).Id]).length (AP eIn (v3'++[(b.Tracks.getD v5.toNat default).Id])) 3
abbrev D2:=b.Vias.getD v6.toNat default
def Z3l (v3'':List Int) (b:AG) (v6:Int):Blk:=.row 1 (v3''++[(D2 b v6).Id]).length (AP eIn (v3''++[(D2 b v6).Id])) 3
def GA (b:AG) (v3:List Int) (v4:Int) (v3':List Int) (v5:Int) (v3'':List Int) (v6:Int) (v3''':List Int) (v7:Int) (v3'''':List Int) (v8:Int) (K0:List Int->Int->(List Int)) (K1:List Int->Int->(List Int)) (K2:List Int->Int->(List Int)) (K3:List Int->Int->(List Int)) (K4:List Int->Int->(List Int)):Nat->List Int->Int->(List Int)
 | 0,_,_=>default
 | n5+1,v3''''',v9=>bif decide ((v9:Int)<(b.Slots.length:Int)) then ((GA b v3 v4 v3' v5 v3'' v6 v3''' v7 v3'''' v8 K0 K1 K2 K3 K4 n5) (v3'''''++[(b.Slots.getD v9.toNat default).Id]) (v9+1)) else v3'''''
def Ei (b:AG) (v3:List Int) (v4:Int) (v3':List Int) (v5:Int) (v3'':List Int) (v6:Int) (v3''':List Int) (v7:Int) (K0:List Int->Int->(List Int)) (K1:List Int->Int->(List Int)) (K2:List Int->Int->(List Int)) (K3:List Int->Int->(List Int)):Nat->List Int->Int->(List Int)
 | 0,_,_=>default
 | n4+1,v3'''',v8=>bif decide ((v8:Int)<(b.Keeps.length:Int)) then ((Ei b v3 v4 v3' v5 v3'' v6 v3''' v7 K0 K1 K2 K3 n4) (v3''''++[(b.Keeps.getD v8.toNat default).Id]) (v8+1)) else (GA b v3 v4 v3' v5 v3'' v6 v3''' v7 v3'''' v8 K0 K1 K2 K3 (Ei b v3 v4 v3' v5 v3'' v6 v3''' v7 K0 K1 K2 K3 n4) (((b.Slots.length:Int)-0).toNat+1) v3'''' 0)
def Dv (b:AG) (v3:List Int) (v4:Int) (v3':List Int) (v5:Int) (v3'':List Int) (v6:Int) (K0:List Int->Int->(List Int)) (K1:List Int->Int->(List Int)) (K2:List Int->Int->(List Int)):Nat->List Int->Int->(List Int)
 | 0,_,_=>default
 | n3+1,v3''',v7=>bif decide ((v7:Int)<(b.Pours.length:Int)) then ((Dv b v3 v4 v3' v5 v3'' v6 K0 K1 K2 n3) (v3'''++[(b.Pours.getD v7.toNat default).Id]) (v7+1)) else (Ei b v3 v4 v3' v5 v3'' v6 v3''' v7 K0 K1 K2 (Dv b v3 v4 v3' v5 v3'' v6 K0 K1 K2 n3) (((b.Keeps.length:Int)-0).toNat+1) v3''' 0)
def Cj (b:AG) (v3:List Int) (v4:Int) (v3':List Int) (v5:Int) (K0:List Int->Int->(List Int)) (K1:List Int->Int->(List Int)):Nat->List Int->Int->(List Int)
 | 0,_,_=>default
 | n2+1,v3'',v6=>bif decide ((v6:Int)<(b.Vias.length:Int)) then ((Cj b v3 v4 v3' v5 K0 K1 n2) (v3''++[(b.Vias.getD v6.toNat default).Id]) (v6+1)) else (Dv b v3 v4 v3' v5 v3'' v6 K0 K1 (Cj b v3 v4 v3' v5 K0 K1 n2) (((b.Pours.length:Int)-0).toNat+1) v3'' 0)
def Bm (b:AG) (v3:List Int) (v4:Int) (K0:List Int->Int->(List Int)):Nat->List Int->Int->(List Int)
 | 0,_,_=>default
 | n1+1,v3',v5=>bif decide ((v5:Int)<(b.Tracks.length:Int)) then ((Bm b v3 v4 K0 n1) (v3'++[(b.Tracks.getD v5.toNat default).Id]) (v5+1)) else (Cj b v3 v4 v3' v5 K0 (Bm b v3 v4 K0 n1) (((b.Vias.length:Int)-0).toNat+1) v3' 0)
def A6 (b:AG):Nat->List Int->Int->(List Int)
 | 0,_,_=>default
 | n0+1,v3,v4=>bif decide ((v4:Int)<(b.Parts.length:Int)) then ((A6 b n0) (v3++[(b.Parts.getD v4.toNat default).Id]) (v4+1)) else (Bm b v3 v4 (A6 b n0) (((b.Tracks.length:Int)-0).toNat+1) v3 0)
def En (b:AG):(List Int):=A6 b (((b.Parts.length:Int)-0).toNat+1) ([]:List Int) 0
def Wm:CT:=(101,[.agg (bI b)],.val [] (.av (.one (lst 1 eIn (En b)))))
theorem qH (b:AG) (h0:(b.Parts.length:Int)<=1000000) (h1:(b.Tracks.length:Int)<=1000000) (h2:(b.Vias.length:Int)<=1000000) (h3:(b.Pours.length:Int)<=1000000) (h4:(b.Keeps.length:Int)<=1000000) (h5:(b.Slots.length:Int)<=1000000):PuP 101 (Wm b).2.1 (tO (lst 1 eIn (En b))):=by
 refine pwf Tryz.func101 fun W0 M0 => ?_
 refine AB<|on<|AB<|on<|AB<|AB<|rn ⟨[(1,tP 1 0),(3,.av (.one vN)),(4,tI 0)],[(1,Z3g b)]⟩<|AM<|BE (Cv.trans (vg 2000 1 (fun _ _=>default) 3 [(3,[0])] [] hk0) (Cv.trans (A5 2000 (B9 1 (fun _ _=>default) eIn)) (ck (⟨[(1,tP 1 0),(3,Z3i),(4,tI 0)],[(1,Z3g b),(2000,.row 1 ([]:List Int).length (AP eIn ([]:List Int)) 3)]⟩))))<|lpC (κ:=List Int×Int) (fun x=>⟨[(1,tP 1 0),(3,tO (.own 2000 1 x.2.1.length)),(4,tI x.2.2)],[(1,Z3g b),(2000,.row 1 x.2.1.length (AP eIn x.2.1) 3)]⟩) (fun x=>((b.Parts.length:Int)-x.2.2).toNat) (fun x=>(0<=x.2.2/\(x.2.2<=(b.Parts.length:Int)\/x.2.2=0)/\(x.2.1.length:Int)<=0+1*(x.2.2-0))/\A6 b x.1 x.2.1 x.2.2=En b) ?_ (((b.Parts.length:Int)-0).toNat+1,([]:List Int),0) ⟨Nat.lt_succ_self _,⟨ax0,ax0,ax0⟩,(by simp only [En,cond_true,cond_false])⟩
 rintro n0 ⟨v3,v4⟩ hm0 ⟨hinv0,hF0⟩
 try dsimp only at hm0 hinv0 hF0
 refine AB<|AB<|on<|kb (decide ((v4:Int)<(b.Parts.length:Int))) (fun h1 => ?_) (fun h1 => ?_)
 ·have g1:=oT h1
  refine AQ<|AE<|AB<|AM<|oc [] [0<=(v4:Int)/\(v4:Int)<((b.Parts.length:Nat):Int),v3.length=v3.length,v3.length+1<=maxLen,(v3.length+1)*8<=140737488355328] .nil (H4 au0 rfl au2 au2)<|A3<|AE<|BE (A5 25 (BF (A1 1 eIn v3) (BC 1 eIn ([(b.Parts.getD v4.toNat default).Id]:List Int))))<|rg ⟨[(1,tP 1 0),(3,tO (.own 25 1 (v3++[(b.Parts.getD v4.toNat default).Id]).length)),(4,tI (W64 (v4+1)))],[(1,Z3g b),(25,Z3j v3 b v4)]⟩ ?_
  (try rw [(show W64 (v4+1)=v4+1 from Ae oM au3)])
  refine AE ?_
  refine ⟨(n0,v3++[(b.Parts.getD v4.toNat default).Id],v4+1),⟨?_,?_,(by rw [<- hF0];simp only [A6,h1,cond_true,cond_false])⟩,Nat.lt_succ_self _,Cv.trans (vr 25 2000 hk0) (Al kr)⟩
  ·dsimp only;omega
  exact ⟨ax0,ax0,ax0⟩
 have g1:=oF h1
 refine An<|Ai<|Ai<|Ao<|AE<|AB<|AB<|rn ⟨[(1,tP 1 0),(3,tO (.own 2000 1 v3.length)),(5,tI 0)],[(1,Z3g b),(2000,.row 1 v3.length (AP eIn v3) 3)]⟩<|AM<|lpC (κ:=List Int×Int) (fun x=>⟨[(1,tP 1 0),(3,tO (.own 2000 1 x.2.1.length)),(5,tI x.2.2)],[(1,Z3g b),(2000,.row 1 x.2.1.length (AP eIn x.2.1) 3)]⟩) (fun x=>((b.Tracks.length:Int)-x.2.2).toNat) (fun x=>(0<=x.2.2/\(x.2.2<=(b.Tracks.length:Int)\/x.2.2=0)/\(x.2.1.length:Int)<=(v3.length:Int)+1*(x.2.2-0))/\Bm b v3 v4 (A6 b n0) x.1 x.2.1 x.2.2=En b) ?_ (((b.Tracks.length:Int)-0).toNat+1,v3,0) ⟨Nat.lt_succ_self _,⟨ax0,ax0,ax0⟩,(by rw [<- hF0];simp only [A6,h1,cond_true,cond_false])⟩
 rintro n1 ⟨v3',v5⟩ hm1 ⟨hinv1,hF1⟩
 try dsimp only at hm1 hinv1 hF1
 refine AB<|AB<|on<|kb (decide ((v5:Int)<(b.Tracks.length:Int))) (fun h2 => ?_) (fun h2 => ?_)
 ·have g2:=oT h2
  refine AQ<|AE<|AB<|AM<|oc [] [0<=(v5:Int)/\(v5:Int)<((b.Tracks.length:Nat):Int),v3'.length=v3'.length,v3'.length+1<=maxLen,(v3'.length+1)*8<=140737488355328] .nil (H4 au0 rfl au2 au2)<|A3<|AE<|BE (A5 41 (BF (A1 1 eIn v3') (BC 1 eIn ([(b.Tracks.getD v5.toNat default).Id]:List Int))))<|rg ⟨[(1,tP 1 0),(3,tO (.own 41 1 (v3'++[(b.Tracks.getD v5.toNat default).Id]).length)),(5,tI (W64 (v5+1)))],[(1,Z3g b),(41,Z3k v3' b v5)]⟩ ?_
  (try rw [(show W64 (v5+1)=v5+1 from Ae oM au3)])
  refine AE ?_
  refine ⟨(n1,v3'++[(b.Tracks.getD v5.toNat default).Id],v5+1),⟨?_,?_,(by rw [<- hF1];simp only [Bm,h2,cond_true,cond_false])⟩,Nat.lt_succ_self _,Cv.trans (vr 41 2000 hk0) (Al kr)⟩
  ·dsimp only;omega
  exact ⟨ax0,ax0,ax0⟩
 have g2:=oF h2
 refine An<|Ai<|Ai<|Ao<|AE<|AB<|AB<|rn ⟨[(1,tP 1 0),(3,tO (.own 2000 1 v3'.length)),(6,tI 0)],[(1,Z3g b),(2000,.row 1 v3'.length (AP eIn v3') 3)]⟩<|AM<|lpC (κ:=List Int×Int) (fun x=>⟨[(1,tP 1 0),(3,tO (.own 2000 1 x.2.1.length)),(6,tI x.2.2)],[(1,Z3g b),(2000,.row 1 x.2.1.length (AP eIn x.2.1) 3)]⟩) (fun x=>((b.Vias.length:Int)-x.2.2).toNat) (fun x=>(0<=x.2.2/\(x.2.2<=(b.Vias.length:Int)\/x.2.2=0)/\(x.2.1.length:Int)<=(v3'.length:Int)+1*(x.2.2-0))/\Cj b v3 v4 v3' v5 (A6 b n0) (Bm b v3 v4 (A6 b n0) n1) x.1 x.2.1 x.2.2=En b) ?_ (((b.Vias.length:Int)-0).toNat+1,v3',0) ⟨Nat.lt_succ_self _,⟨ax0,ax0,ax0⟩,(by rw [<- hF1];simp only [Bm,h2,cond_true,cond_false])⟩
 rintro n2 ⟨v3'',v6⟩ hm2 ⟨hinv2,hF2⟩
 try dsimp only at hm2 hinv2 hF2
 refine AB<|AB<|on<|kb (decide ((v6:Int)<(b.Vias.length:Int))) (fun h3 => ?_) (fun h3 => ?_)
 ·have g3:=oT h3
  refine AQ<|AE<|AB<|AM<|oc [] [0<=(v6:Int)/\(v6:Int)<((b.Vias.length:Nat):Int),v3''.length=v3''.length,v3''.length+1<=maxLen,(v3''.length+1)*8<=140737488355328] .nil (H4 au0 rfl au2 au2)<|A3<|AE<|BE (A5 57 (BF (A1 1 eIn v3'') (BC 1 eIn ([(b.Vias.getD v6.toNat default).Id]:List Int))))<|rg ⟨[(1,tP 1 0),(3,tO (.own 57 1 (v3''++[(D2 b v6).Id]).length)),(6,tI (W64 (v6+1)))],[(1,Z3g b),(57,Z3l v3'' b v6)]⟩ ?_
  (try rw [(show W64 (v6+1)=v6+1 from Ae oM au3)])
  refine AE ?_
  refine ⟨(n2,v3''++[(b.Vias.getD v6.toNat default).Id],v6+1),⟨?_,?_,(by rw [<- hF2];simp only [Cj,h3,cond_true,cond_false])⟩,Nat.lt_succ_self _,Cv.trans (vr 57 2000 hk0) (Al kr)⟩
  ·dsimp only;omega
  exact ⟨ax0,ax0,ax0⟩
 have g3:=oF h3
 refine An<|Ai<|Ai<|Ao<|AE<|AB<|AB<|rn ⟨[(1,tP 1 0),(3,tO (.own 2000 1 v3''.length)),(7,tI 0)],[(1,Z3g b),(2000,.row 1 v3''.length (AP eIn v3'') 3)]⟩<|AM<|lpC (κ:=List Int×Int) (fun x=>⟨[(1,tP 1 0),(3,tO (.own 2000 1 x.2.1.length)),(7,tI x.2.2)],[(1,Z3g b),(2000,.row 1 x.2.1.length (AP eIn x.2.1) 3)]⟩) (fun x=>((b.Pours.length:Int)-x.2.2).toNat) (fun x=>(0<=x.2.2/\(x.2.2<=(b.Pours.length:Int)\/x.2.2=0)/\(x.2.1.length:Int)<=(v3''.length:Int)+1*(x.2.2-0))/\Dv b v3 v4 v3' v5 v3'' v6 (A6 b n0) (Bm b v3 v4 (A6 b n0) n1) (Cj b v3 v4 v3' v5 (A6 b n0) (Bm b v3 v4 (A6 b n0) n1) n2) x.1 x.2.1 x.2.2=En b) ?_ (((b.Pours.length:Int)-0).toNat+1,v3'',0) ⟨Nat.lt_succ_self _,⟨ax0,ax0,ax0⟩,(by rw [<- hF2];simp only [Cj,h3,cond_true,cond_false])⟩
 rintro n3 ⟨v3''',v7⟩ hm3 ⟨hinv3,hF3⟩
 try dsimp only at hm3 hinv3 hF3
 refine AB<|AB<|on<|kb (decide ((v7:Int)<(b.Pours.length:Int))) (fun h4 => ?_) (fun h4 => ?_)
 ·have g4:=oT h4
  refine AQ<|AE<|AB<|AM<|oc [] [0<=(v7:Int)/\(v7:Int)<((b.Pours.length:Nat):Int),v3'''.length=v3'''.length,v3'''.length+1<=maxLen,(v3'''.length+1)*8<=140737488355328] .nil (H4 au0 rfl au2 au2)<|A3<|AE<|BE (A5 73 (BF (A1 1 eIn v3''') (BC 1 eIn ([(b.Pours.getD v7.toNat default).Id]:List Int))))<|rg ⟨[(1,tP 1 0),(3,tO (.own 73 1 (v3'''++[(b.Pours.getD v7.toNat default).Id]).length)),(7,tI (W64 (v7+1)))],[(1,Z3g b),(73,.row 1 (v3'''++[(b.Pours.getD v7.toNat default).Id]).length (AP eIn (v3'''++[(b.Pours.getD v7.toNat default).Id])) 3)]⟩ ?_
  (try rw [(show W64 (v7+1)=v7+1 from Ae oM au3)])
  refine AE ?_
  refine ⟨(n3,v3'''++[(b.Pours.getD v7.toNat default).Id],v7+1),⟨?_,?_,(by rw [<- hF3];simp only [Dv,h4,cond_true,cond_false])⟩,Nat.lt_succ_self _,Cv.trans (vr 73 2000 hk0) (Al kr)⟩
  ·dsimp only;omega
  exact ⟨ax0,ax0,ax0⟩
 have g4:=oF h4
 refine An<|Ai<|Ai<|Ao<|AE<|AB<|AB<|rn ⟨[(1,tP 1 0),(3,tO (.own 2000 1 v3'''.length)),(8,tI 0)],[(1,Z3g b),(2000,.row 1 v3'''.length (AP eIn v3''') 3)]⟩<|AM<|lpC (κ:=List Int×Int) (fun x=>⟨[(1,tP 1 0),(3,tO (.own 2000 1 x.2.1.length)),(8,tI x.2.2)],[(1,Z3g b),(2000,.row 1 x.2.1.length (AP eIn x.2.1) 3)]⟩) (fun x=>((b.Keeps.length:Int)-x.2.2).toNat) (fun x=>(0<=x.2.2/\(x.2.2<=(b.Keeps.length:Int)\/x.2.2=0)/\(x.2.1.length:Int)<=(v3'''.length:Int)+1*(x.2.2-0))/\Ei b v3 v4 v3' v5 v3'' v6 v3''' v7 (A6 b n0) (Bm b v3 v4 (A6 b n0) n1) (Cj b v3 v4 v3' v5 (A6 b n0) (Bm b v3 v4 (A6 b n0) n1) n2) (Dv b v3 v4 v3' v5 v3'' v6 (A6 b n0) (Bm b v3 v4 (A6 b n0) n1) (Cj b v3 v4 v3' v5 (A6 b n0) (Bm b v3 v4 (A6 b n0) n1) n2) n3) x.1 x.2.1 x.2.2=En b) ?_ (((b.Keeps.length:Int)-0).toNat+1,v3''',0) ⟨Nat.lt_succ_self _,⟨ax0,ax0,ax0⟩,(by rw [<- hF3];simp only [Dv,h4,cond_true,cond_false])⟩
 rintro n4 ⟨v3'''',v8⟩ hm4 ⟨hinv4,hF4⟩
 try dsimp only at hm4 hinv4 hF4
 refine AB<|AB<|on<|kb (decide ((v8:Int)<(b.Keeps.length:Int))) (fun h5 => ?_) (fun h5 => ?_)
 ·have g5:=oT h5
  refine AQ<|AE<|AB<|AM<|oc [] [0<=(v8:Int)/\(v8:Int)<((b.Keeps.length:Nat):Int),v3''''.length=v3''''.length,v3''''.length+1<=maxLen,(v3''''.length+1)*8<=140737488355328] .nil (H4 au0 rfl au2 au2)<|A3<|AE<|BE (A5 89 (BF (A1 1 eIn v3'''') (BC 1 eIn ([(b.Keeps.getD v8.toNat default).Id]:List Int))))<|rg ⟨[(1,tP 1 0),(3,tO (.own 89 1 (v3''''++[(b.Keeps.getD v8.toNat default).Id]).length)),(8,tI (W64 (v8+1)))],[(1,Z3g b),(89,.row 1 (v3''''++[(b.Keeps.getD v8.toNat default).Id]).length (AP eIn (v3''''++[(b.Keeps.getD v8.toNat default).Id])) 3)]⟩ ?_
  (try rw [(show W64 (v8+1)=v8+1 from Ae oM au3)])
  refine AE ?_
  refine ⟨(n4,v3''''++[(b.Keeps.getD v8.toNat default).Id],v8+1),⟨?_,?_,(by rw [<- hF4];simp only [Ei,h5,cond_true,cond_false])⟩,Nat.lt_succ_self _,Cv.trans (vr 89 2000 hk0) (Al kr)⟩
  ·dsimp only;omega
  exact ⟨ax0,ax0,ax0⟩
 have g5:=oF h5
 refine An<|Ai<|Ai<|Ao<|AE<|AB<|AB<|rn ⟨[(1,tP 1 0),(3,tO (.own 2000 1 v3''''.length)),(9,tI 0)],[(1,Z3g b),(2000,.row 1 v3''''.length (AP eIn v3'''') 3)]⟩<|AM ?_
 refine lpC (κ:=List Int×Int) (fun x=>⟨[(1,tP 1 0),(3,tO (.own 2000 1 x.2.1.length)),(9,tI x.2.2)],[(1,Z3g b),(2000,.row 1 x.2.1.length (AP eIn x.2.1) 3)]⟩) (fun x=>((b.Slots.length:Int)-x.2.2).toNat) (fun x=>(0<=x.2.2/\(x.2.2<=(b.Slots.length:Int)\/x.2.2=0)/\(x.2.1.length:Int)<=(v3''''.length:Int)+1*(x.2.2-0))/\GA b v3 v4 v3' v5 v3'' v6 v3''' v7 v3'''' v8 (A6 b n0) (Bm b v3 v4 (A6 b n0) n1) (Cj b v3 v4 v3' v5 (A6 b n0) (Bm b v3 v4 (A6 b n0) n1) n2) (Dv b v3 v4 v3' v5 v3'' v6 (A6 b n0) (Bm b v3 v4 (A6 b n0) n1) (Cj b v3 v4 v3' v5 (A6 b n0) (Bm b v3 v4 (A6 b n0) n1) n2) n3) (Ei b v3 v4 v3' v5 v3'' v6 v3''' v7 (A6 b n0) (Bm b v3 v4 (A6 b n0) n1) (Cj b v3 v4 v3' v5 (A6 b n0) (Bm b v3 v4 (A6 b n0) n1) n2) (Dv b v3 v4 v3' v5 v3'' v6 (A6 b n0) (Bm b v3 v4 (A6 b n0) n1) (Cj b v3 v4 v3' v5 (A6 b n0) (Bm b v3 v4 (A6 b n0) n1) n2) n3) n4) x.1 x.2.1 x.2.2=En b) ?_ (((b.Slots.length:Int)-0).toNat+1,v3'''',0) ⟨Nat.lt_succ_self _,⟨ax0,ax0,ax0⟩,(by rw [<- hF4];simp only [Ei,h5,cond_true,cond_false])⟩
 rintro n5 ⟨v3''''',v9⟩ hm5 ⟨hinv5,hF5⟩
 try dsimp only at hm5 hinv5 hF5
 refine AB<|AB<|on<|kb (decide ((v9:Int)<(b.Slots.length:Int))) (fun h6 => ?_) (fun h6 => ?_)
 ·have g6:=oT h6
  refine AQ<|AE<|AB<|AM<|oc [] [0<=(v9:Int)/\(v9:Int)<((b.Slots.length:Nat):Int),v3'''''.length=v3'''''.length,v3'''''.length+1<=maxLen,(v3'''''.length+1)*8<=140737488355328] .nil (H4 au0 rfl au2 au2)<|A3<|AE<|BE (A5 105 (BF (A1 1 eIn v3''''') (BC 1 eIn ([(b.Slots.getD v9.toNat default).Id]:List Int))))<|rg ⟨[(1,tP 1 0),(3,tO (.own 105 1 (v3'''''++[(b.Slots.getD v9.toNat default).Id]).length)),(9,tI (W64 (v9+1)))],[(1,Z3g b),(105,.row 1 (v3'''''++[(b.Slots.getD v9.toNat default).Id]).length (AP eIn (v3'''''++[(b.Slots.getD v9.toNat default).Id])) 3)]⟩ ?_
  (try rw [(show W64 (v9+1)=v9+1 from Ae oM au3)])
  refine AE ?_
  refine ⟨(n5,v3'''''++[(b.Slots.getD v9.toNat default).Id],v9+1),⟨?_,?_,(by rw [<- hF5];simp only [GA,h6,cond_true,cond_false])⟩,Nat.lt_succ_self _,Cv.trans (vr 105 2000 hk0) (Al kr)⟩
  ·dsimp only;omega
  exact ⟨ax0,ax0,ax0⟩
 exact An<|Ai<|Ai<|Ao<|AE<|AB<|on<|AW<|zy (vf 2000 hk0) (by rw [<- hF5];simp only [GA,h6,cond_true,cond_false] <;> kernel_rfl)
theorem lK (b:AG) (h0:(b.Parts.length:Int)<=1000000) (h1:(b.Tracks.length:Int)<=1000000) (h2:(b.Vias.length:Int)<=1000000) (h3:(b.Pours.length:Int)<=1000000) (h4:(b.Keeps.length:Int)<=1000000) (h5:(b.Slots.length:Int)<=1000000):OKc (Wm b):=cPu<|qH b h0 h1 h2 h3 h4 h5
theorem fR (b:AG) (v3:List Int) (v4:Int) (v3':List Int) (v5:Int) (v3'':List Int) (v6:Int) (v3''':List Int) (v7:Int) (v3'''':List Int) (v8:Int) (K0:List Int->Int->List Int) (K1:List Int->Int->List Int) (K2:List Int->Int->List Int) (K3:List Int->Int->List Int) (K4:List Int->Int->List Int):∀ (n:Nat) (v:List Int) (i:Int),0<=i->i<=b.Slots.length->((b.Slots.length:Int)-i).toNat<n->((GA b v3 v4 v3' v5 v3'' v6 v3''' v7 v3'''' v8 K0 K1 K2 K3 K4 n v i).length:Int)=v.length+((b.Slots.length:Int)-i)
 | 0,v,i,h0,h1,h2=>absurd h2 (Nat.not_lt_zero _)
 | n+1,v,i,h0,h1,h2=>by
  unfold GA
  by_cases h:i<(b.Slots.length:Int)
  ·simp only [h,decide_true,cond_true]
   have:=fR b v3 v4 v3' v5 v3'' v6 v3''' v7 v3'''' v8 K0 K1 K2 K3 K4 n (v++[(b.Slots.getD i.toNat default).Id]) (i+1) (by omega) (by omega) (by omega)
   rw [this]
   simp only [List.length_append,List.length_cons,List.length_nil]
   omega
  simp only [h,decide_false,cond_false]
  omega
theorem fT (b:AG) (v3:List Int) (v4:Int) (v3':List Int) (v5:Int) (v3'':List Int) (v6:Int) (v3''':List Int) (v7:Int) (K0:List Int->Int->List Int) (K1:List Int->Int->List Int) (K2:List Int->Int->List Int) (K3:List Int->Int->List Int):∀ (n:Nat) (v:List Int) (i:Int),0<=i->i<=b.Keeps.length->((b.Keeps.length:Int)-i).toNat<n->((Ei b v3 v4 v3' v5 v3'' v6 v3''' v7 K0 K1 K2 K3 n v i).length:Int)=v.length+((b.Keeps.length:Int)-i)+(b.Slots.length:Int)
 | 0,v,i,h0,h1,h2=>absurd h2 (Nat.not_lt_zero _)
 | n+1,v,i,h0,h1,h2=>by
  unfold Ei
  by_cases h:i<(b.Keeps.length:Int)
  ·simp only [h,decide_true,cond_true]
   have:=fT b v3 v4 v3' v5 v3'' v6 v3''' v7 K0 K1 K2 K3 n (v++[(b.Keeps.getD i.toNat default).Id]) (i+1) (by omega) (by omega) (by omega)
   rw [this]
   simp only [List.length_append,List.length_cons,List.length_nil]
   omega
  simp only [h,decide_false,cond_false]
  rw [fR _ _ _ _ _ _ _ _ _ _ _ _ _ _ _ _ _ v 0 (by omega) (by omega) (by omega)]
  omega
theorem fU (b:AG) (v3:List Int) (v4:Int) (v3':List Int) (v5:Int) (v3'':List Int) (v6:Int) (K0:List Int->Int->List Int) (K1:List Int->Int->List Int) (K2:List Int->Int->List Int):∀ (n:Nat) (v:List Int) (i:Int),0<=i->i<=b.Pours.length->((b.Pours.length:Int)-i).toNat<n->((Dv b v3 v4 v3' v5 v3'' v6 K0 K1 K2 n v i).length:Int)=v.length+((b.Pours.length:Int)-i)+(b.Keeps.length:Int)+(b.Slots.length:Int)
 | 0,v,i,h0,h1,h2=>absurd h2 (Nat.not_lt_zero _)
 | n+1,v,i,h0,h1,h2=>by
  unfold Dv
  by_cases h:i<(b.Pours.length:Int)
  ·simp only [h,decide_true,cond_true]
   have:=fU b v3 v4 v3' v5 v3'' v6 K0 K1 K2 n (v++[(b.Pours.getD i.toNat default).Id]) (i+1) (by omega) (by omega) (by omega)
   rw [this]
   simp only [List.length_append,List.length_cons,List.length_nil]
   omega
  simp only [h,decide_false,cond_false]
  rw [fT _ _ _ _ _ _ _ _ _ _ _ _ _ _ v 0 (by omega) (by omega) (by omega)]
  omega
theorem fV (b:AG) (v3:List Int) (v4:Int) (v3':List Int) (v5:Int) (K0:List Int->Int->List Int) (K1:List Int->Int->List Int):∀ (n:Nat) (v:List Int) (i:Int),0<=i->i<=b.Vias.length->((b.Vias.length:Int)-i).toNat<n->((Cj b v3 v4 v3' v5 K0 K1 n v i).length:Int)=v.length+((b.Vias.length:Int)-i)+(b.Pours.length:Int)+(b.Keeps.length:Int)+(b.Slots.length:Int)
 | 0,v,i,h0,h1,h2=>absurd h2 (Nat.not_lt_zero _)
 | n+1,v,i,h0,h1,h2=>by
  unfold Cj
  by_cases h:i<(b.Vias.length:Int)
  ·simp only [h,decide_true,cond_true]
   have:=fV b v3 v4 v3' v5 K0 K1 n (v++[(b.Vias.getD i.toNat default).Id]) (i+1) (by omega) (by omega) (by omega)
   rw [this]
   simp only [List.length_append,List.length_cons,List.length_nil]
   omega
  simp only [h,decide_false,cond_false]
  rw [fU _ _ _ _ _ _ _ _ _ _ _ v 0 (by omega) (by omega) (by omega)]
  omega
theorem fW (b:AG) (v3:List Int) (v4:Int) (K0:List Int->Int->List Int):∀ (n:Nat) (v:List Int) (i:Int),0<=i->i<=b.Tracks.length->((b.Tracks.length:Int)-i).toNat<n->((Bm b v3 v4 K0 n v i).length:Int)=v.length+((b.Tracks.length:Int)-i)+(b.Vias.length:Int)+(b.Pours.length:Int)+(b.Keeps.length:Int)+(b.Slots.length:Int)
 | 0,v,i,h0,h1,h2=>absurd h2 (Nat.not_lt_zero _)
 | n+1,v,i,h0,h1,h2=>by
  unfold Bm
  by_cases h:i<(b.Tracks.length:Int)
  ·simp only [h,decide_true,cond_true]
   have:=fW b v3 v4 K0 n (v++[(b.Tracks.getD i.toNat default).Id]) (i+1) (by omega) (by omega) (by omega)
   rw [this]
   simp only [List.length_append,List.length_cons,List.length_nil]
   omega
  simp only [h,decide_false,cond_false]
  rw [fV _ _ _ _ _ _ _ _ v 0 (by omega) (by omega) (by omega)]
  omega
theorem fX (b:AG)   : ∀ (n:Nat) (v:List Int) (i:Int),0<=i->i<=b.Parts.length->((b.Parts.length:Int)-i).toNat<n->((A6 b n v i).length:Int)=v.length+((b.Parts.length:Int)-i)+(b.Tracks.length:Int)+(b.Vias.length:Int)+(b.Pours.length:Int)+(b.Keeps.length:Int)+(b.Slots.length:Int)
 | 0,v,i,h0,h1,h2=>absurd h2 (Nat.not_lt_zero _)
 | n+1,v,i,h0,h1,h2=>by
  unfold A6
  by_cases h:i<(b.Parts.length:Int)
  ·simp only [h,decide_true,cond_true]
   have:=fX b n (v++[(b.Parts.getD i.toNat default).Id]) (i+1) (by omega) (by omega) (by omega)
   rw [this]
   simp only [List.length_append,List.length_cons,List.length_nil]
   omega
  simp only [h,decide_false,cond_false]
  rw [fW _ _ _ _ _ v 0 (by omega) (by omega) (by omega)]
  omega
theorem X5 (b:AG):((En b).length:Int)=(b.Parts.length:Int)+(b.Tracks.length:Int)+(b.Vias.length:Int)+(b.Pours.length:Int)+(b.Keeps.length:Int)+(b.Slots.length:Int):=by
 unfold En
 rw [fX b _ _ 0 (by omega) (by omega) (by omega)]
 simp only [List.length_nil]
 omega
end
section
open Go.RowKit
theorem UN {b:AG} (d:AD) (hp:1<=(b.Parts.length:Int)) (h0:(b.Parts.length:Int)<=1000000) (h1:(b.Tracks.length:Int)<=1000000) (h2:(b.Vias.length:Int)<=1000000) (h3:(b.Pours.length:Int)<=1000000) (h4:(b.Keeps.length:Int)<=1000000) (h5:(b.Slots.length:Int)<=1000000):0<=(AA d ((En b).length:Int)).1/\(AA d ((En b).length:Int)).1<((En b).length:Int):=by
 have hq:=X5 b
 exact J7 _ _ _ (by omega) (by omega) (by omega)
theorem rS {b:AG} (hp:1<=(b.Parts.length:Int)):((En b).length:Int)≠0:=by
 have hq:=X5 b
 omega
theorem mJ {α:Type} {c:Bool} {a b:List α} {k n:Nat} (ha:a.length+k<=n) (hb:b.length+k<=n):(bif c then a else b).length+k<=n:=by cases c <;> assumption
theorem fG {α:Type} {c:Bool} {a b:List α} {k n m:Nat} (ha:(a.length+k)*m<=n) (hb:(b.length+k)*m<=n):((bif c then a else b).length+k)*m<=n:=by cases c <;> assumption
variable (b:AG) (d:AD)
def Z3p:CT:=(42,([.one (.ptr 1000 0),.one (.i 10)]:List Av).map (Bo 1000 1001),wrI 1001 (Hk d) (tI (AA d 10).1) (.cells (AD.c (AA d 10).2) 117))
abbrev FM:=AA (AA d 10).2 8
def Z3q:CT:=(42,([.one (.ptr 1000 0),.one (.i 8)]:List Av).map (Bo 1000 1001),wrI 1001 (.cells (AD.c (AA d 10).2) 117) (tI (FM d).1) (.cells (AD.c (FM d).2) 117))
def Z3s:Blk:=.row 20 ([A0.mk ({ data := #[99,49] }:ByteArray) 1 1 AJ AJ (W64 (3+(AA d 10).1)),A0.mk ({ data := #[101,49] }:ByteArray) 1 3 AJ AJ (W64 (2+(FM d).1))].length) (AP A0.c [A0.mk ({ data := #[99,49] }:ByteArray) 1 1 AJ AJ (W64 (3+(AA d 10).1)),A0.mk ({ data := #[101,49] }:ByteArray) 1 3 AJ AJ (W64 (2+(FM d).1))]) 147
def Z3u:CT:=(42,(Hq:List Av).map (Bo 1000 1001),wrI 1001 (.cells (AD.c (FM d).2) 117) (tI (AA (FM d).2 2).1) (.cells (AD.c (AA (FM d).2 2).2) 117))
abbrev Z3v:AD:=(AA (AA (AA d 10).2 8).2 2).2
def Z3w:CT:=(42,Kc.map (Bo 1000 1001),wrI 1001 (.cells (AD.c (Z3v d)) 117) (tI (AA (Z3v d) 5).1) (.cells (AD.c (AA (Z3v d) 5).2) 117))
abbrev Kf:=AA (AA (Z3v d) 5).2 4
def Z3x:CT:=(42,Hj.map (Bo 1000 1001),wrI 1001 (.cells (AD.c (AA (Z3v d) 5).2) 117) (tI (Kf d).1) (.cells (AD.c (Kf d).2) 117))
def Z3y:Blk:=.cells (AD.c (Kf d).2) 117
def Z3z:Blk:=.row 20 ([A0.mk ({ data := #[99,49] }:ByteArray) 1 1 AJ AJ (W64 (3+(AA d 10).1)),A0.mk ({ data := #[101,49] }:ByteArray) 1 3 AJ AJ (W64 (2+(FM d).1))]++[A0.mk ({ data := #[119,49] }:ByteArray) 1 2 AJ AJ (W64 (6+(AA (Z3v d) 5).1)),A0.mk ({ data := #[114,49] }:ByteArray) 1 4 AJ AJ (W64 (2+(Kf d).1))]).length (AP A0.c ([A0.mk ({ data := #[99,49] }:ByteArray) 1 1 AJ AJ (W64 (3+(AA d 10).1)),A0.mk ({ data := #[101,49] }:ByteArray) 1 3 AJ AJ (W64 (2+(FM d).1))]++[A0.mk ({ data := #[119,49] }:ByteArray) 1 2 AJ AJ (W64 (6+(AA (Z3v d) 5).1)),A0.mk ({ data := #[114,49] }:ByteArray) 1 4 AJ AJ (W64 (2+(Kf d).1))])) 147
def Z3A:Blk:=.cells (BM b (CQ b [vN,.own 2000 20 ([A0.mk ({ data := #[99,49] }:ByteArray) 1 1 AJ AJ (W64 (3+(AA d 10).1)),A0.mk ({ data := #[101,49] }:ByteArray) 1 3 AJ AJ (W64 (2+(FM d).1))]++[A0.mk ({ data := #[119,49] }:ByteArray) 1 2 AJ AJ (W64 (6+(AA (Z3v d) 5).1)),A0.mk ({ data := #[114,49] }:ByteArray) 1 4 AJ AJ (W64 (2+(Kf d).1))]).length,vN,vN])) 41
def Z3B:Blk:=.cells (BM b (CQ b [vN,.own 2000 20 ([A0.mk ({ data := #[99,49] }:ByteArray) 1 1 AJ AJ (W64 (3+(AA d 10).1)),A0.mk ({ data := #[101,49] }:ByteArray) 1 3 AJ AJ (W64 (2+(FM d).1))].length),vN,vN])) 41
abbrev Z3C:AD:=bif decide (((AA (AA (AA d 10).2 8).2 2).1:Int)=1) then (AA (AA (Z3v d) 5).2 4).2 else (Z3v d)
def Z3D:(List A0):=bif decide (((AA (AA (AA d 10).2 8).2 2).1:Int)=1) then ([A0.mk ({ data := #[99,49] }:ByteArray) 1 1 AJ AJ (W64 (3+(AA d 10).1)),A0.mk ({ data := #[101,49] }:ByteArray) 1 3 AJ AJ (W64 (2+(AA (AA d 10).2 8).1))]++[A0.mk ({ data := #[119,49] }:ByteArray) 1 2 AJ AJ (W64 (6+(AA (Z3v d) 5).1)),A0.mk ({ data := #[114,49] }:ByteArray) 1 4 AJ AJ (W64 (2+(AA (AA (Z3v d) 5).2 4).1))]) else [A0.mk ({ data := #[99,49] }:ByteArray) 1 1 AJ AJ (W64 (3+(AA d 10).1)),A0.mk ({ data := #[101,49] }:ByteArray) 1 3 AJ AJ (W64 (2+(AA (AA d 10).2 8).1))]
def Z3E:CT:=(42,(Hq:List Av).map (Bo 1000 1001),wrI 1001 (.cells (AD.c (Z3C d)) 117) (tI (AA (Z3C d) 2).1) (.cells (AD.c (AA (Z3C d) 2).2) 117))
def Z3F:Blk:=.cells (BM b (CQ b [vN,.own 2000 20 (Z3D d).length,vN,vN])) 41
def Z3G:Blk:=.cells (AD.c (AA (Z3C d) 2).2) 117
def Z3H:Blk:=.row 20 (Z3D d).length (AP A0.c (Z3D d)) 147
abbrev JP:=AA (AA (Z3C d) 2).2 2
def Z3I:CT:=(42,(Hq:List Av).map (Bo 1000 1001),wrI 1001 (.cells (AD.c (AA (Z3C d) 2).2) 117) (tI (JP d).1) (.cells (AD.c (JP d).2) 117))
def Z3J:CT:=(100,([.one (.ptr 1000 0)]:List Av).map (Bo 1000 1001),wrI 1001 (.cells (AD.c (JP d).2) 117) (.av (.agg (DW.c (BD (JP d).2).1))) (.cells (AD.c (BD (JP d).2).2) 117))
abbrev Z3K:AD:=(BD (AA (AA (Z3C d) 2).2 2).2).2
def Z3L:DW:=(BD (AA (AA (Z3C d) 2).2 2).2).1
def Z3M:CT:=(100,([.one (.ptr 1000 0)]:List Av).map (Bo 1000 1001),wrI 1001 (.cells (AD.c (Z3K d)) 117) (.av (.agg (DW.c (BD (Z3K d)).1))) (.cells (AD.c (BD (Z3K d)).2) 117))
abbrev N5:=AA (BD (Z3K d)).2 14
def Z3N:CT:=(42,([.one (.ptr 1000 0),.one (.i 14)]:List Av).map (Bo 1000 1001),wrI 1001 (.cells (AD.c (BD (Z3K d)).2) 117) (tI (N5 d).1) (.cells (AD.c (N5 d).2) 117))
abbrev Z3O:AD:=(AA (BD (Z3K d)).2 14).2
abbrev Z3R:AD:=bif decide (((AA (Z3C d) 2).1:Int)=1) then (Z3O d) else (AA (Z3C d) 2).2
def Z3S:(List A0):=bif decide (((AA (Z3C d) 2).1:Int)=1) then ((Z3D d)++[A0.mk ({ data := #[99,50] }:ByteArray) (W64 (1+(AA (AA (Z3C d) 2).2 2).1)) 1 (Z3L d) (BD (Z3K d)).1 (W64 (1+(AA (BD (Z3K d)).2 14).1))]) else (Z3D d)
def Z3T:CT:=(42,(E9:List Av).map (Bo 1000 1001),wrI 1001 (.cells (AD.c (Z3R d)) 117) (tI (AA (Z3R d) 3).1) (.cells (AD.c (AA (Z3R d) 3).2) 117))
def Z3U:Blk:=.cells (BM b (CQ b [vN,.own 2001 20 (Z3S d).length,vN,vN])) 41
def Z3V:Blk:=.cells (AD.c (AA (Z3R d) 3).2) 117
def Z3W:Blk:=.row 20 (Z3S d).length (AP A0.c (Z3S d)) 147
def Z3X:(List Ch):=bif decide (((AA (Z3R d) 3).1:Int)=0) then [Ch.mk ({ data := #[112,111,119,101,114] }:ByteArray) [({ data := #[71,78,68] }:ByteArray)]] else []
def Z3Y:CT:=(42,Hj.map (Bo 1000 1001),wrI 1001 (.cells (AD.c (AA (Z3R d) 3).2) 117) (tI (AA (AA (Z3R d) 3).2 4).1) (.cells (AD.c (AA (AA (Z3R d) 3).2 4).2) 117))
abbrev Z3Z:AD:=(AA (AA (Z3R d) 3).2 4).2
abbrev RX (t_:List Cl):List Cl:=(lst 2 Ch.c (Z3X d))::(.own 2001 20 (Z3S d).length)::t_
abbrev VU:List Cl:=(BM b (CQ b (RX d [vN,vN])))
def Z40:Blk:=.cells (VU b d) 41
def Z41:(List Int):=En (AG.mk b.Layers (AO.mk 0 [] 0) b.Parts [] b.Tracks b.Vias b.Pours b.Keeps b.Slots [] [] [] [])
def Z42:CT:=(42,([.one (.ptr 1000 0),.one (.i ((Z41 b).length:Int))]:List Av).map (Bo 1000 1001),wrI 1001 (.cells (AD.c (Z3Z d)) 117) (tI (AA (Z3Z d) ((Z41 b).length:Int)).1) (.cells (AD.c (AA (Z3Z d) ((Z41 b).length:Int)).2) 117))
abbrev Z43 (d:AD) (b:AG):AD:=(AA (Z3Z d) ((Z41 b).length:Int)).2
def Z44:CT:=(42,([.one (.ptr 1000 0),.one (.i ((Z41 b).length:Int))]:List Av).map (Bo 1000 1001),wrI 1001 (.cells (AD.c (Z43 d b)) 117) (tI (AA (Z43 d b) ((Z41 b).length:Int)).1) (.cells (AD.c (AA (Z43 d b) ((Z41 b).length:Int)).2) 117))
abbrev Z45 (d:AD) (b:AG):AD:=(AA (Z43 d b) ((Z41 b).length:Int)).2
abbrev Z46 (d:AD) (b:AG):AD:=bif decide (((AA (AA (Z3R d) 3).2 4).1:Int)=0) then (Z45 d b) else (Z3Z d)
def Z47 (d:AD) (b:AG):(List CG):=bif decide (((AA (AA (Z3R d) 3).2 4).1:Int)=0) then [CG.mk ((Z41 b).getD (AA (Z3Z d) ((Z41 b).length:Int)).1.toNat default) ((Z41 b).getD (AA (Z43 d b) ((Z41 b).length:Int)).1.toNat default) ({ data := #[99,49] }:ByteArray)] else []
def Z48 (d:AD) (b:AG):CT:=(42,Hj.map (Bo 1000 1001),wrI 1001 (.cells (AD.c (Z46 d b)) 117) (tI (AA (Z46 d b) 4).1) (.cells (AD.c (AA (Z46 d b) 4).2) 117))
def Z49 (d:AD) (b:AG):CT:=(42,([.one (.ptr 1000 0),.one (.i 8)]:List Av).map (Bo 1000 1001),wrI 1001 (.cells (AD.c (AA (Z46 d b) 4).2) 117) (tI (AA (AA (Z46 d b) 4).2 8).1) (.cells (AD.c (AA (AA (Z46 d b) 4).2 8).2) 117))
abbrev Z4a (d:AD) (b:AG):AD:=(AA (AA (Z46 d b) 4).2 8).2
def C5 (b:AG) (d:AD):(AG×AD):=bif decide (((AA (Z46 d b) 4).1:Int)=0) then (AG.mk b.Layers b.Outline b.Parts b.Nets b.Tracks b.Vias b.Pours b.Keeps b.Slots (Z3X d) (Z3S d) (Z47 d b) [Ds.mk ({ data := #[109,49] }:ByteArray) [({ data := #[78,49] }:ByteArray),({ data := #[78,50] }:ByteArray)] (W64 (10*(AA (AA (Z46 d b) 4).2 8).1))],Z4a d b) else (AG.mk b.Layers b.Outline b.Parts b.Nets b.Tracks b.Vias b.Pours b.Keeps b.Slots (Z3X d) (Z3S d) (Z47 d b) [],(AA (Z46 d b) 4).2)
abbrev FJ:List (Nat×Tv):=[(0,tP 1000 0),(1,tP 1001 0)]
abbrev RY (d:AD) (b:AG) (t_:List Cl):List Cl:=(lst 2 Ch.c (Z3X d))::(lst 20 A0.c (Z3S d))::(lst 3 CG.c (Z47 d b))::t_
theorem au7 {p:Prop} (h:p:=by repeat (first | with_reducible assumption | exact CV (DV hll _) | with_reducible refine BO ?_ | with_reducible refine Ek ?_ | with_reducible refine Dk ?_ | with_reducible refine Zq ?_  | with_reducible refine Cr ?_ ?_)):p:=h
theorem au9 {p:Prop} (h:p:=by first | decide | omega | exact rS (b:=AG.mk b.Layers (AO.mk 0 [] 0) b.Parts [] b.Tracks b.Vias b.Pours b.Keeps b.Slots [] [] [] []) hi | (simp only [Bf];omega)):p:=h
theorem au21 {p:Prop} (h:p:=by first | (simp only [List.length_append,List.length_cons,List.length_nil];decide) | exact mJ (by simp only [List.length_append,List.length_cons,List.length_nil];decide) (by simp only [List.length_append,List.length_cons,List.length_nil];decide) | exact fG (by simp only [List.length_append,List.length_cons,List.length_nil];decide) (by simp only [List.length_append,List.length_cons,List.length_nil];decide) | (unfold maxLen;omega) | (simp only [lR,lQ,lP,WI];omega)):p:=h
set_option maxHeartbeats 2000000 in
theorem dA  (b:AG) (d:AD) (hd:CJ d) (h0:(b.Parts.length:Int)<=1000000) (h1:(b.Tracks.length:Int)<=1000000) (h2:(b.Vias.length:Int)<=1000000) (h3:(b.Pours.length:Int)<=1000000) (h4:(b.Keeps.length:Int)<=1000000) (h5:(b.Slots.length:Int)<=1000000) (hi:1<=(b.Parts.length:Int)):Wr2 Tryz.prog 45 1000 1001 [.one (.ptr 1000 0),.one (.ptr 1001 0)] (.cells [.i b.Layers,.i b.Outline.Kind,lst 7 AK.c b.Outline.Edges,.i b.Outline.R,lst 7 AF.c b.Parts,lst 2 Bz.c b.Nets,lst 6 AV.c b.Tracks,lst 8 Aw.c b.Vias,lst 8 BZ.c b.Pours,lst 5 C4.c b.Keeps,lst 4 Aj.c b.Slots,vN,vN,vN,vN] 41) (.cells (AD.c d) 117) (.tup []) (.cells (AG.c (C5 b d).1) 41) (.cells (AD.c (C5 b d).2) 117):=by
 refine OV Tryz.func45 rfl kr kr kr rfl kr kr kr fun W0 M0 X hX => ?_
 refine AB ?_
 refine DR Cq [18] [] [(6,Cu),(7,Cu),(9,(Z3p d)),(12,Cu),(13,Cu),(15,(Z3q d))] [0,1] [18,1000,1001] [CD Cu.2.1,CD Cu.2.1,CD (Z3p d).2.1,Br (Hk d),CD Cu.2.1,CD Cu.2.1,CD (Z3q d).2.1,Br (.cells (AD.c (AA d 10).2) 117)] ⟨FJ,[(18,.row 20 2 (BG 20 2 [.s ({ data := #[99,49] }:ByteArray),.i 1,.i 1,.i AJ.Op,.s AJ.Text,.i AJ.N,.i AJ.Box.X0,.i AJ.Box.Y0,.i AJ.Box.X1,.i AJ.Box.Y1,opL AJ.L,.i AJ.Op,.s AJ.Text,.i AJ.N,.i AJ.Box.X0,.i AJ.Box.Y0,.i AJ.Box.X1,.i AJ.Box.Y1,opL AJ.L,.i (W64 (3+(AA d 10).1)),.s ({ data := #[101,49] }:ByteArray),.i 1,.i 3,.i AJ.Op,.s AJ.Text,.i AJ.N,.i AJ.Box.X0,.i AJ.Box.Y0,.i AJ.Box.X1,.i AJ.Box.Y1,opL AJ.L,.i AJ.Op,.s AJ.Text,.i AJ.N,.i AJ.Box.X0,.i AJ.Box.Y0,.i AJ.Box.X1,.i AJ.Box.Y1,opL AJ.L,.i (W64 (2+(AA (AA d 10).2 8).1))]) 147),(1000,.cells (BM b (CQ b [vN,.own 18 20 2,vN,vN])) 41),(1001,.cells (AD.c (FM d).2) 117)]⟩ (.cons ER (.cons ER (.cons (cWr (BR d 10 au7 au9)) (.cons ER (.cons ER (.cons (cWr (BR (AA d 10).2 8 au7 au9)) .nil)))))) kr (.cons rfl (.cons rfl (.cons rfl (.cons rfl (.cons rfl (.cons rfl (.cons rfl (.cons rfl .nil))))))))<|AE ?_
 refine BE (A5 18 (BC 20 A0.c ([A0.mk ({ data := #[99,49] }:ByteArray) 1 1 AJ AJ (W64 (3+(AA d 10).1)),A0.mk ({ data := #[101,49] }:ByteArray) 1 3 AJ AJ (W64 (2+(AA (AA d 10).2 8).1))]:List A0)))<|AB<|AB<|rb 22 (Z3u d) (.cells (AD.c (AA (AA d 10).2 8).2) 117) ⟨[(0,tP 1000 0),(1,tP 1001 0),(23,tB (decide (((AA (FM d).2 2).1:Int)=1)))],[(18,Z3s d),(1000,.cells (BM b (CQ b [vN,.own 18 20 ([A0.mk ({ data := #[99,49] }:ByteArray) 1 1 AJ AJ (W64 (3+(AA d 10).1)),A0.mk ({ data := #[101,49] }:ByteArray) 1 3 AJ AJ (W64 (2+(FM d).1))].length),vN,vN])) 41),(1001,.cells (AD.c (Z3v d)) 117)]⟩ (cWr (BR (AA (AA d 10).2 8).2 2 au7 au9))<|AE<|Bd (⟨FJ,[(1000,.cells (BM b (CQ b [vN,.own 2000 20 (Z3D d).length,vN,vN])) 41),(1001,.cells (AD.c (Z3C d)) 117),(2000,.row 20 (Z3D d).length (AP A0.c (Z3D d)) 147)]⟩) ?_ ?_
 ·refine Ap _ rfl (fun h1 => ?_) (fun h1 => ?_)
  ·have g1:=oT h1
   refine dO [] [(29,Cu),(30,Cu),(32,(Z3w d)),(35,Cu),(36,Cu),(38,(Z3x d))] [none,none,none,Br (.cells (AD.c (Z3v d)) 117),none,none,none,Br (.cells (AD.c (AA (Z3v d) 5).2) 117),[A0.mk ({ data := #[99,49] }:ByteArray) 1 1 AJ AJ (W64 (3+(AA d 10).1)),A0.mk ({ data := #[101,49] }:ByteArray) 1 3 AJ AJ (W64 (2+(AA (AA d 10).2 8).1))].length=[A0.mk ({ data := #[99,49] }:ByteArray) 1 1 AJ AJ (W64 (3+(AA d 10).1)),A0.mk ({ data := #[101,49] }:ByteArray) 1 3 AJ AJ (W64 (2+(AA (AA d 10).2 8).1))].length,([A0.mk ({ data := #[99,49] }:ByteArray) 1 1 AJ AJ (W64 (3+(AA d 10).1)),A0.mk ({ data := #[101,49] }:ByteArray) 1 3 AJ AJ (W64 (2+(AA (AA d 10).2 8).1))].length)+2<=maxLen,(([A0.mk ({ data := #[99,49] }:ByteArray) 1 1 AJ AJ (W64 (3+(AA d 10).1)),A0.mk ({ data := #[101,49] }:ByteArray) 1 3 AJ AJ (W64 (2+(AA (AA d 10).2 8).1))].length)+2)*216<=140737488355328] ⟨FJ,[(42,.row 20 (([A0.mk ({ data := #[99,49] }:ByteArray) 1 1 AJ AJ (W64 (3+(AA d 10).1)),A0.mk ({ data := #[101,49] }:ByteArray) 1 3 AJ AJ (W64 (2+(AA (AA d 10).2 8).1))].length)+2) (fun i_ j_=>if i_<([A0.mk ({ data := #[99,49] }:ByteArray) 1 1 AJ AJ (W64 (3+(AA d 10).1)),A0.mk ({ data := #[101,49] }:ByteArray) 1 3 AJ AJ (W64 (2+(AA (AA d 10).2 8).1))].length) then (AP A0.c [A0.mk ({ data := #[99,49] }:ByteArray) 1 1 AJ AJ (W64 (3+(AA d 10).1)),A0.mk ({ data := #[101,49] }:ByteArray) 1 3 AJ AJ (W64 (2+(AA (AA d 10).2 8).1))]) i_ j_ else (BG 20 2 [.s ({ data := #[119,49] }:ByteArray),.i 1,.i 2,.i AJ.Op,.s AJ.Text,.i AJ.N,.i AJ.Box.X0,.i AJ.Box.Y0,.i AJ.Box.X1,.i AJ.Box.Y1,opL AJ.L,.i AJ.Op,.s AJ.Text,.i AJ.N,.i AJ.Box.X0,.i AJ.Box.Y0,.i AJ.Box.X1,.i AJ.Box.Y1,opL AJ.L,.i (W64 (6+(AA (Z3v d) 5).1)),.s ({ data := #[114,49] }:ByteArray),.i 1,.i 4,.i AJ.Op,.s AJ.Text,.i AJ.N,.i AJ.Box.X0,.i AJ.Box.Y0,.i AJ.Box.X1,.i AJ.Box.Y1,opL AJ.L,.i AJ.Op,.s AJ.Text,.i AJ.N,.i AJ.Box.X0,.i AJ.Box.Y0,.i AJ.Box.X1,.i AJ.Box.Y1,opL AJ.L,.i (W64 (2+(AA (AA (Z3v d) 5).2 4).1))]) (i_-([A0.mk ({ data := #[99,49] }:ByteArray) 1 1 AJ AJ (W64 (3+(AA d 10).1)),A0.mk ({ data := #[101,49] }:ByteArray) 1 3 AJ AJ (W64 (2+(AA (AA d 10).2 8).1))].length)) j_) 147),(1000,.cells (BM b (CQ b [vN,.own 42 20 (([A0.mk ({ data := #[99,49] }:ByteArray) 1 1 AJ AJ (W64 (3+(AA d 10).1)),A0.mk ({ data := #[101,49] }:ByteArray) 1 3 AJ AJ (W64 (2+(AA (AA d 10).2 8).1))].length)+2),vN,vN])) 41),(1001,Z3y d)]⟩ (.cons ER (.cons ER (.cons (cWr (BR (Z3v d) 5 au7 au9)) (.cons ER (.cons ER (.cons (cWr (BR (AA (Z3v d) 5).2 4 au7 au9)) .nil)))))) (H5 rfl rfl rfl au21 au21)<|AE ?_
   refine Cv.trans (A5 42 (BF (A1 20 A0.c [A0.mk ({ data := #[99,49] }:ByteArray) 1 1 AJ AJ (W64 (3+(AA d 10).1)),A0.mk ({ data := #[101,49] }:ByteArray) 1 3 AJ AJ (W64 (2+(AA (AA d 10).2 8).1))]) (BC 20 A0.c ([A0.mk ({ data := #[119,49] }:ByteArray) 1 2 AJ AJ (W64 (6+(AA (Z3v d) 5).1)),A0.mk ({ data := #[114,49] }:ByteArray) 1 4 AJ AJ (W64 (2+(AA (AA (Z3v d) 5).2 4).1))]:List A0)))) (Cv.trans (vr 42 2000 (K:=[1000,1001]) hX) (Cv.trans (ck (⟨FJ,[(1000,Z3A b d),(1001,Z3y d),(2000,Z3z d)]⟩)) (Al ?_)))
   first | rfl | (simp only [h1,Z3C,Z3D,cond_true,cond_false] <;> rfl)
  refine AQ<|AE<|Cv.trans (vk [0,1] [18,1000,1001]) (Cv.trans (vr 18 2000 (K:=[1000,1001]) hX) (Cv.trans (ck (⟨FJ,[(1000,Z3B b d),(1001,.cells (AD.c (Z3v d)) 117),(2000,Z3s d)]⟩)) (Al ?_)))
  first | rfl | (simp only [h1,Z3C,Z3D,cond_true,cond_false] <;> rfl)
 refine AB<|AB<|rb 46 (Z3E d) (.cells (AD.c (Z3C d)) 117) ⟨[(0,tP 1000 0),(1,tP 1001 0),(47,tB (decide (((AA (Z3C d) 2).1:Int)=1)))],[(1000,Z3F b d),(1001,Z3G d),(2000,Z3H d)]⟩ (cWr (BR (Z3C d) 2 au7 au9))<|AE<|Bd (⟨FJ,[(1000,.cells (BM b (CQ b [vN,.own 2001 20 (Z3S d).length,vN,vN])) 41),(1001,.cells (AD.c (Z3R d)) 117),(2001,.row 20 (Z3S d).length (AP A0.c (Z3S d)) 147)]⟩) ?_ ?_
 ·refine Ap _ rfl (fun h1 => ?_) (fun h1 => ?_)
  ·have g1:=oT h1
   refine dO [] [(54,(Z3I d)),(57,(Z3J d)),(59,(Z3M d)),(61,(Z3N d))] [none,Br (.cells (AD.c (AA (Z3C d) 2).2) 117),none,Br (.cells (AD.c (AA (AA (Z3C d) 2).2 2).2) 117),none,Br (.cells (AD.c (Z3K d)) 117),none,Br (.cells (AD.c (BD (Z3K d)).2) 117),(Z3D d).length=(Z3D d).length,(Z3D d).length+1<=maxLen,((Z3D d).length+1)*216<=140737488355328] ⟨FJ,[(65,.row 20 ((Z3D d).length+1) (fun i_ j_=>if i_<(Z3D d).length then (AP A0.c (Z3D d)) i_ j_ else (BG 20 1 [.s ({ data := #[99,50] }:ByteArray),.i (W64 (1+(AA (AA (Z3C d) 2).2 2).1)),.i 1,.i (Z3L d).Op,.s (Z3L d).Text,.i (Z3L d).N,.i (Z3L d).Box.X0,.i (Z3L d).Box.Y0,.i (Z3L d).Box.X1,.i (Z3L d).Box.Y1,opL (Z3L d).L,.i (BD (Z3K d)).1.Op,.s (BD (Z3K d)).1.Text,.i (BD (Z3K d)).1.N,.i (BD (Z3K d)).1.Box.X0,.i (BD (Z3K d)).1.Box.Y0,.i (BD (Z3K d)).1.Box.X1,.i (BD (Z3K d)).1.Box.Y1,opL (BD (Z3K d)).1.L,.i (W64 (1+(AA (BD (Z3K d)).2 14).1))]) (i_-(Z3D d).length) j_) 147),(1000,.cells (BM b (CQ b [vN,.own 65 20 ((Z3D d).length+1),vN,vN])) 41),(1001,.cells (AD.c (Z3O d)) 117)]⟩ (.cons (cWr (BR (AA (Z3C d) 2).2 2 au7 au9)) (.cons (cWr (XZ (AA (AA (Z3C d) 2).2 2).2 au7)) (.cons (cWr (XZ (Z3K d) au7)) (.cons (cWr (BR (BD (Z3K d)).2 14 au7 au9)) .nil)))) (H7 rfl rfl rfl rfl rfl au21 au21)<|AE ?_
   refine Cv.trans (A5 65 (BF (A1 20 A0.c (Z3D d)) (BC 20 A0.c ([A0.mk ({ data := #[99,50] }:ByteArray) (W64 (1+(AA (AA (Z3C d) 2).2 2).1)) 1 (Z3L d) (BD (Z3K d)).1 (W64 (1+(AA (BD (Z3K d)).2 14).1))]:List A0)))) (Cv.trans (vr 65 2001 (K:=[1000,1001]) hX) (Cv.trans (ck (⟨FJ,[(1000,.cells (BM b (CQ b [vN,.own 2001 20 ((Z3D d)++[A0.mk ({ data := #[99,50] }:ByteArray) (W64 (1+(JP d).1)) 1 (Z3L d) (BD (Z3K d)).1 (W64 (1+(N5 d).1))]).length,vN,vN])) 41),(1001,.cells (AD.c (Z3O d)) 117),(2001,.row 20 ((Z3D d)++[A0.mk ({ data := #[99,50] }:ByteArray) (W64 (1+(JP d).1)) 1 (Z3L d) (BD (Z3K d)).1 (W64 (1+(N5 d).1))]).length (AP A0.c ((Z3D d)++[A0.mk ({ data := #[99,50] }:ByteArray) (W64 (1+(JP d).1)) 1 (Z3L d) (BD (Z3K d)).1 (W64 (1+(N5 d).1))])) 147)]⟩)) (Al ?_)))
   first | rfl | (simp only [h1,Z3R,Z3S,cond_true,cond_false] <;> rfl)
  refine AQ<|AE<|Cv.trans (vk [0,1] [1000,1001,2000]) (Cv.trans (wr (⟨FJ,[(1000,.cells (BM b (CQ b [vN,.own 2001 20 (Z3D d).length,vN,vN])) 41),(1001,Z3G d),(2001,Z3H d)]⟩) 2000 2001 (K:=[1000,1001]) hX) (Al ?_))
  first | rfl | (simp only [h1,Z3R,Z3S,cond_true,cond_false] <;> rfl)
 refine AB<|AB<|rb 69 (Z3T d) (.cells (AD.c (Z3R d)) 117) ⟨[(0,tP 1000 0),(1,tP 1001 0),(70,tB (decide (((AA (Z3R d) 3).1:Int)=0)))],[(1000,Z3U b d),(1001,Z3V d),(2001,Z3W d)]⟩ (cWr (BR (Z3R d) 3 au7 au9))<|AE<|Bd (⟨FJ,[(1000,.cells (BM b (CQ b [lst 2 Ch.c (Z3X d),.own 2001 20 (Z3S d).length,vN,vN])) 41),(1001,.cells (AD.c (AA (Z3R d) 3).2) 117),(2001,.row 20 (Z3S d).length (AP A0.c (Z3S d)) 147)]⟩) ?_ ?_
 ·refine Ap _ rfl (fun h1 => ?_) (fun h1 => ?_)
  ·refine rn ⟨FJ,[(1000,.cells (BM b (CQ b [.list true 2 1 (BG 2 1 [.s ({ data := #[112,111,119,101,114] }:ByteArray),.list true 1 1 (BG 1 1 [.s ({ data := #[71,78,68] }:ByteArray)])]),.own 2001 20 (Z3S d).length,vN,vN])) 41),(1001,Z3V d),(2001,Z3W d)]⟩<|Cv.trans (Es (⟨FJ,[(1000,.cells (BM b (CQ b [lst 2 Ch.c [Ch.mk ({ data := #[112,111,119,101,114] }:ByteArray) [({ data := #[71,78,68] }:ByteArray)]],.own 2001 20 (Z3S d).length,vN,vN])) 41),(1001,Z3V d),(2001,Z3W d)]⟩) lr (.cons ⟨rfl,.cells _ (rr9 (rr2 (.cons (BW true (Fu (c:=Ch.c) (xs:=([Ch.mk ({ data := #[112,111,119,101,114] }:ByteArray) [({ data := #[71,78,68] }:ByteArray)]]:List Ch)) (y:=[[.s ({ data := #[112,111,119,101,114] }:ByteArray),.list true 1 1 (BG 1 1 [.s ({ data := #[71,78,68] }:ByteArray)])]]) (z:=[[.s ({ data := #[112,111,119,101,114] }:ByteArray),lst 1 (fun x=>[.s x]) [({ data := #[71,78,68] }:ByteArray)]]]) rfl kr kr (.cons (rr (.cons (BW true (Ba (c:=(fun x=>[.s x])) (xs:=([({ data := #[71,78,68] }:ByteArray)]:List ByteArray)) rfl kr)) .nil)) .nil))) (rr (rr (rr .nil))))))⟩ lr)) (Al ?_)
   first | rfl | (simp only [h1,Z3X,cond_true,cond_false] <;> rfl)
  refine AQ<|AE<|Cv.trans (ck (⟨FJ,[(1000,Z3U b d),(1001,Z3V d),(2001,Z3W d)]⟩)) (Cv.trans (Es (⟨FJ,[(1000,.cells (BM b (CQ b [lst 2 Ch.c [],.own 2001 20 (Z3S d).length,vN,vN])) 41),(1001,Z3V d),(2001,Z3W d)]⟩) lr (.cons ⟨rfl,.cells _ (rr9 (rr2 (.cons (Cm 2 Ch.c) (rr (rr (rr .nil))))))⟩ lr)) (Al ?_))
  first | rfl | (simp only [h1,Z3X,cond_true,cond_false] <;> rfl)
 refine AB<|AB<|rb 78 (Z3Y d) (.cells (AD.c (AA (Z3R d) 3).2) 117) ⟨[(0,tP 1000 0),(1,tP 1001 0),(79,tB (decide (((AA (AA (Z3R d) 3).2 4).1:Int)=0)))],[(1000,Z40 b d),(1001,.cells (AD.c (Z3Z d)) 117),(2001,Z3W d)]⟩ (cWr (BR (AA (Z3R d) 3).2 4 au7 au9))<|AE<|Bd (⟨FJ,[(1000,.cells (BM b (CQ b [lst 2 Ch.c (Z3X d),.own 2001 20 (Z3S d).length,lst 3 CG.c (Z47 d b),vN])) 41),(1001,.cells (AD.c (Z46 d b)) 117),(2001,.row 20 (Z3S d).length (AP A0.c (Z3S d)) 147)]⟩) ?_ ?_
 ·refine Ap _ rfl (fun h1 => ?_) (fun h1 => ?_)
  ·have g1:=oT h1
   refine AB<|oq 83 (ceI [.agg (VU b d)] (Wm (AG.mk b.Layers (AO.mk 0 [] 0) b.Parts [] b.Tracks b.Vias b.Pours b.Keeps b.Slots [] [] [] []))) (Cf (lK (AG.mk b.Layers (AO.mk 0 [] 0) b.Parts [] b.Tracks b.Vias b.Pours b.Keeps b.Slots [] [] [] []) au10 au10 au10 au10 au10 au10) (.cons (.agg (rr (rA (rA (rA (rr (rA (rr5 (rA (rA (rA (rA .nil)))))))))))) .nil))<|AE ?_
   refine dO [] [(89,(Z42 b d)),(96,(Z44 b d))] [none,Br (.cells (AD.c (Z3Z d)) 117),0<=((AA (Z3Z d) ((Z41 b).length:Int)).1:Int)/\((AA (Z3Z d) ((Z41 b).length:Int)).1:Int)<(((Z41 b).length:Nat):Int),none,Br (.cells (AD.c (Z43 d b)) 117),0<=((AA (Z43 d b) ((Z41 b).length:Int)).1:Int)/\((AA (Z43 d b) ((Z41 b).length:Int)).1:Int)<(((Z41 b).length:Nat):Int)] ⟨FJ,[(1000,.cells (BM b (CQ b (RX d [.list true 3 1 (BG 3 1 [.i ((Z41 b).getD (AA (Z3Z d) ((Z41 b).length:Int)).1.toNat default),.i ((Z41 b).getD (AA (Z43 d b) ((Z41 b).length:Int)).1.toNat default),.s ({ data := #[99,49] }:ByteArray)]),vN]))) 41),(1001,.cells (AD.c (Z45 d b)) 117),(2001,Z3W d)]⟩ (.cons (cWr (BR (Z3Z d) ((Z41 b).length:Int) au7 au9)) (.cons (cWr (BR (Z43 d b) ((Z41 b).length:Int) au7 au9)) .nil)) (H4 rfl (by first | exact J7 _ _ _ (by decide) (by decide) (by decide) | exact UN (b:=AG.mk b.Layers (AO.mk 0 [] 0) b.Parts [] b.Tracks b.Vias b.Pours b.Keeps b.Slots [] [] [] []) _ hi (by assumption) (by assumption) (by assumption) (by assumption) (by assumption) (by assumption) | decide | omega) rfl (by first | exact J7 _ _ _ (by decide) (by decide) (by decide) | exact UN (b:=AG.mk b.Layers (AO.mk 0 [] 0) b.Parts [] b.Tracks b.Vias b.Pours b.Keeps b.Slots [] [] [] []) _ hi (by assumption) (by assumption) (by assumption) (by assumption) (by assumption) (by assumption) | decide | omega))<|AE ?_
   refine Cv.trans (Es (⟨FJ,[(1000,.cells (BM b (CQ b [lst 2 Ch.c (Z3X d),.own 2001 20 (Z3S d).length,lst 3 CG.c [CG.mk ((Z41 b).getD (AA (Z3Z d) ((Z41 b).length:Int)).1.toNat default) ((Z41 b).getD (AA (Z43 d b) ((Z41 b).length:Int)).1.toNat default) ({ data := #[99,49] }:ByteArray)],vN])) 41),(1001,.cells (AD.c (Z45 d b)) 117),(2001,Z3W d)]⟩) lr (.cons ⟨rfl,.cells _ (rr9 (rr4 (.cons (BW true (Ba (c:=CG.c) (xs:=([CG.mk ((Z41 b).getD (AA (Z3Z d) ((Z41 b).length:Int)).1.toNat default) ((Z41 b).getD (AA (Z43 d b) ((Z41 b).length:Int)).1.toNat default) ({ data := #[99,49] }:ByteArray)]:List CG)) rfl kr)) (rr .nil))))⟩ lr)) (Al ?_)
   first | rfl | (simp only [h1,Z46,Z47,cond_true,cond_false] <;> rfl)
  refine AQ<|AE<|Cv.trans (ck (⟨FJ,[(1000,Z40 b d),(1001,.cells (AD.c (Z3Z d)) 117),(2001,Z3W d)]⟩)) (Cv.trans (Es (⟨FJ,[(1000,.cells (BM b (CQ b [lst 2 Ch.c (Z3X d),.own 2001 20 (Z3S d).length,lst 3 CG.c [],vN])) 41),(1001,.cells (AD.c (Z3Z d)) 117),(2001,Z3W d)]⟩) lr (.cons ⟨rfl,.cells _ (rr9 (rr4 (.cons (Cm 3 CG.c) (rr .nil))))⟩ lr)) (Al ?_))
  first | rfl | (simp only [h1,Z46,Z47,cond_true,cond_false] <;> rfl)
 refine AB<|rb 104 (Z48 d b) (.cells (AD.c (Z46 d b)) 117) ⟨[(0,tP 1000 0),(1,tP 1001 0),(105,tB (decide (((AA (Z46 d b) 4).1:Int)=0)))],[(1000,.cells (BM b (CQ b (RX d [lst 3 CG.c (Z47 d b),vN]))) 41),(1001,.cells (AD.c (AA (Z46 d b) 4).2) 117),(2001,Z3W d)]⟩ (cWr (BR (Z46 d b) 4 au7 au9))<|AE<|Ap _ rfl (fun h1 => ?_) (fun h1 => ?_)
 ·have g1:=oT h1
  refine rb 109 (Z49 d b) (.cells (AD.c (AA (Z46 d b) 4).2) 117) ⟨[],[(1000,.cells (BM b (CQ b (RX d [lst 3 CG.c (Z47 d b),.list true 3 1 (BG 3 1 [.s ({ data := #[109,49] }:ByteArray),.list true 1 2 (BG 1 2 [.s ({ data := #[78,49] }:ByteArray),.s ({ data := #[78,50] }:ByteArray)]),.i (W64 (10*(AA (AA (Z46 d b) 4).2 8).1))])]))) 41),(1001,.cells (AD.c (Z4a d b)) 117),(2001,Z3W d)]⟩ (cWr (BR (AA (Z46 d b) 4).2 8 au7 au9)) ?_
  exact yn (vf 2001 (K:=[1000,1001]) hX) (.tup []) ⟨Ej rfl,⟨.cells (BM b (CQ b (RY d b [.list true 3 1 (BG 3 1 [.s ({ data := #[109,49] }:ByteArray),.list true 1 2 (BG 1 2 [.s ({ data := #[78,49] }:ByteArray),.s ({ data := #[78,50] }:ByteArray)]),.i (W64 (10*(AA (AA (Z46 d b) 4).2 8).1))])]))) 41,by kernel_rfl,Sg (y:=.cells (BM b (CQ b (RY d b [lst 3 Ds.c [Ds.mk ({ data := #[109,49] }:ByteArray) [({ data := #[78,49] }:ByteArray),({ data := #[78,50] }:ByteArray)] (W64 (10*(AA (AA (Z46 d b) 4).2 8).1))]]))) 41) (.cells _ (rr9 (rr5 (.cons (BW true (Fu (c:=Ds.c) (xs:=([Ds.mk ({ data := #[109,49] }:ByteArray) [({ data := #[78,49] }:ByteArray),({ data := #[78,50] }:ByteArray)] (W64 (10*(AA (AA (Z46 d b) 4).2 8).1))]:List Ds)) (y:=[[.s ({ data := #[109,49] }:ByteArray),.list true 1 2 (BG 1 2 [.s ({ data := #[78,49] }:ByteArray),.s ({ data := #[78,50] }:ByteArray)]),.i (W64 (10*(AA (AA (Z46 d b) 4).2 8).1))]]) (z:=[[.s ({ data := #[109,49] }:ByteArray),lst 1 (fun x=>[.s x]) [({ data := #[78,49] }:ByteArray),({ data := #[78,50] }:ByteArray)],.i (W64 (10*(AA (AA (Z46 d b) 4).2 8).1))]]) rfl kr kr (.cons (rr (.cons (BW true (Ba (c:=(fun x=>[.s x])) (xs:=([({ data := #[78,49] }:ByteArray),({ data := #[78,50] }:ByteArray)]:List ByteArray)) rfl kr)) (rr .nil))) .nil))) .nil)))) (by first | (simp only [C5,h1,cond_true,cond_false];done) | (simp only [C5,h1,cond_true,cond_false];kernel_rfl))⟩,.cells (AD.c (Z4a d b)) 117,by kernel_rfl,DP (by first | (simp only [C5,h1,cond_true,cond_false];done) | (simp only [C5,h1,cond_true,cond_false];kernel_rfl))⟩
 have g1:=oF h1
 exact AQ<|yn (vf 2001 (K:=[1000,1001]) hX) (.tup []) ⟨Ej rfl,⟨.cells (BM b (CQ b (RY d b [vN]))) 41,by kernel_rfl,Sg (y:=.cells (BM b (CQ b (RY d b [lst 3 Ds.c []]))) 41) (.cells _ (rr9 (rr5 (.cons (Cm 3 Ds.c) .nil)))) (by first | (simp only [C5,h1,cond_true,cond_false];done) | (simp only [C5,h1,cond_true,cond_false];kernel_rfl))⟩,.cells (AD.c (AA (Z46 d b) 4).2) 117,by kernel_rfl,DP (by first | (simp only [C5,h1,cond_true,cond_false];done) | (simp only [C5,h1,cond_true,cond_false];kernel_rfl))⟩
end
end Go.Proofs.YtheobjkgllmnmaaGreat
