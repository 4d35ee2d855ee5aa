/-
  No statement is proved in this text. It holds a part of what the proof of LengthNets needs.
-/
import Derived.Test.YtgmhnkoifdpemaaLengthNetsQb
namespace Go.Proofs.Ytgmhnkoifdpemaa
set_option maxRecDepth 100000
set_option linter.unusedVariables false
set_option linter.unusedSimpArgs false
open Go.RowKit
section
open Go.RowKit
abbrev IQ:=Exit->AS->(World->Prop)->Bool->Prop
def IOk (Ow:World->Nat->Prop) (n0:Nat) (al:Bool) (M:Nat->Option Obj) (W0:World):Prop:=al=true->n0<=W0.heap.size/\(∀ b,Ow W0 b->b<W0.heap.size)/\∀ b o,M b=some o->¬ Ow W0 b
def IWp (P:Program) (N:Nat) (Ow:World->Nat->Prop) (n0:Nat) (c:Code) (Q:IQ) (s:AS) (J:World->Prop) (al:Bool):Prop :=
 ∀ W0 M σ a w,(J W0/\a.defers=[]/\IOk Ow n0 al M W0)->Sim N W0 noX M M σ (get s.t) (get s.h) a w->c.wpIn (FW none) 0 P (fun e a' w'=>∃ s' J' al' W0' M' σ',Q e s' J' al'/\(J' W0'/\a'.defers=[]/\IOk Ow n0 al' M' W0')/\Sim N W0' noX M' M' σ' (get s'.t) (get s'.h) a' w') a w
def ITh (K:AS->(World->Prop)->Bool->Prop) (Q:IQ):IQ
 | .normal,s,J,M=>K s J M
 | e,s,J,M=>Q e s J M
def IBl (id:Nat) (Q:IQ):IQ
 | .exit id',s,J,M=>if id'=id then Q .normal s J M else Q (.exit id') s J M
 | e,s,J,M=>Q e s J M
theorem Zi {d:Nat} {v:Tv} (h:v.dv=true):v.no d=true:=by
 cases v with
 | av x=>exact Jl h
 | tup l =>
  simp only [Tv.dv,Tv.no,List.all_eq_true] at *
  exact fun x hx=>Jl (h x hx)
 | grd g x=>cases h
section
variable {P:Program} {N:Nat} {Ow:World→Nat→Prop} {n0:Nat} {Q:IQ} {s:AS} {J:World→Prop} {al:Bool} {Mc:Nat→Option Obj}
def Ln (N b:Nat) (m:Nat):Option Loc:=bif Nat.beq m N then some ⟨b,424242,true⟩ else none
theorem Tm {b m:Nat} {x:Loc} (hx:Ln N b m=some x):m=N/\x=⟨b,424242,true⟩:=by
 unfold Ln at hx
 cases hb:Nat.beq m N with
 | true=>rw [hb] at hx;injection hx with hx;exact ⟨Nat.eq_of_beq_eq_true hb,hx.symm⟩
 | false=>rw [hb] at hx;cases hx
theorem Tn {b b':Nat} (h:inX (Ln N b) b'):b'=b:=by
 obtain ⟨m,x,h1,h2⟩:=h
 rw [(Tm h1).2] at h2
 exact h2.symm
theorem Vc {b:Nat}:Na (Ln N b):=⟨N,⟨b,424242,true⟩,by unfold Ln;rw [Nat.beq_refl];rfl,rfl,rfl⟩
theorem OV {W0 w:World} {M:Nat->Option Obj} {σ:Nat->Loc} {a:Act} (hdv:∀ i v,get s.t i=some v->v.dv=true) (hh:s.h=[]) (hd:a.defers=[]) (hs:Sim N W0 noX Mc M σ (get s.t) (get s.h) a w) :
  Sim N W0 (Ln N W0.heap.size) Mc M (upd σ N ⟨W0.heap.size,424242,true⟩) (get s.t) (get s.h) a w:=by
 refine ⟨hs.os,hs.tape,hs.output,hs.size,fun b hb _=>hs.old b hb (LY b),hs.sub,hs.new,fun m x hx => ?_,⟨by rw [hd];trivial,fun _=>hd⟩,hs.room,fun i v hv=>EP (fun _ _ h=>h) (fun d hd => ?_) (hs.tmps i v hv),hs.imm,fun n b hb => ?_,fun n b hb => ?_,fun n m b c hb => ?_⟩
 ·obtain ⟨rfl,rfl⟩:=Tm hx
  exact ⟨Nat.le_refl _,by unfold upd;rw [Nat.beq_refl];rfl⟩
 ·rw [Zi (hdv i v hv)] at hd;cases hd
 all_goals rw [hh] at hb;cases hb
theorem Kz {W0 w:World} {M:Nat->Option Obj} {σ:Nat->Loc} {a:Act} {T:Nat->Option Tv} {H:Nat->Option Blk} (h2:Sim N W0 (Ln N W0.heap.size) Mc M σ T H a w):a.defers=[]/\Sim N W0 noX M M σ T H a w:=by
 have hd:=h2.defers.2 Vc
 refine ⟨hd,h2.os,h2.tape,h2.output,h2.size,fun b hb _=>h2.old b hb fun h => ?_,fun _ _ h=>h,fun b o h h'=>(by rw [h] at h';cases h'),fun m x hx=>(by cases hx),⟨by rw [hd];trivial,fun _=>hd⟩,h2.room,h2.tmps,h2.imm,h2.blk,fun n b hb=>(h2.loc n b hb).imp id fun h=>⟨h.1,?_⟩,h2.inj⟩
 ·have:=Tn h;omega
 rcases h.2 with h | h
 ·exact .inl h
 exact .inl (Nat.le_of_eq (Tn h).symm)
theorem Ry {W0 w:World} {M M':Nat->Option Obj} {X:Nat->Option Loc} {σ:Nat->Loc} {T:Nat->Option Tv} {H:Nat->Option Blk} {a:Act} (h:IOk Ow n0 al M W0) (hO:OwS Ow n0) (hs:Sim N W0 X M M' σ T H a w):IOk Ow n0 al M' W0:=fun ha=>by
 obtain ⟨h1,h3,h2⟩:=h ha
 refine ⟨h1,h3,fun b o hb ho => ?_⟩
 cases hM:M b with
 | some o'=>exact h2 b o' hM ho
 | none=>have:=hs.new b o hb hM;have:=h3 b ho;omega
theorem Nf (hO:OwS Ow n0) {c:Code} (hdv:∀ i v,get s.t i=some v->v.dv=true) (hh:s.h=[]) (h:∀ W0 X1 M1,AWp P none N W0 X1 M1 c (fun e s'=>Q e s' J al) s):IWp P N Ow n0 c Q s J al:=by
 intro W0 M σ a w hJ hs
 refine wpIn_mono (h W0 _ M M _ a w (OV hdv hh hJ.2.1 hs)) ?_
 rintro e a' w' ⟨s',M',σ',h1,h2⟩
 obtain ⟨hd,h3⟩:=Kz h2
 exact ⟨s',J,al,W0,M',σ',h1,⟨hJ.1,hd,Ry hJ.2.2 hO h2⟩,h3⟩
theorem K8 {x y:Code} (h:IWp P N Ow n0 x (ITh (fun s' J' M'=>IWp P N Ow n0 y Q s' J' M') Q) s J al):IWp P N Ow n0 (.seq x y) Q s J al:=by
 intro W0 M σ a w hJ hs
 refine wpIn_seq (wpIn_mono (h W0 M σ a w hJ hs) ?_)
 rintro e a' w' ⟨s',J',al',W0',M',σ',h1,h2,h3⟩
 cases e with
 | normal=>exact h1 W0' M' σ' a' w' h2 h3
 | _=>exact ⟨s',J',al',W0',M',σ',h1,h2,h3⟩
theorem TY {id:Nat} {c:Code} (h:IWp P N Ow n0 c (IBl id Q) s J al):IWp P N Ow n0 (.block id c) Q s J al:=by
 intro W0 M σ a w hJ hs
 refine wpIn_block (wpIn_mono (h W0 M σ a w hJ hs) ?_)
 rintro e a' w' ⟨s',J',al',W0',M',σ',h1,h2,h3⟩
 cases e with
 | exit id' =>
  simp only [IBl] at h1
  simp only [Exit.inBlock]
  split
  ·rename_i he;rw [if_pos he] at h1;exact ⟨s',J',al',W0',M',σ',h1,h2,h3⟩
  rename_i he;rw [if_neg he] at h1;exact ⟨s',J',al',W0',M',σ',h1,h2,h3⟩
 | _=>exact ⟨s',J',al',W0',M',σ',h1,h2,h3⟩
theorem Ng {c:Operand} {x y:Code} (b:Bool) (hc:evT (get s.t) c=some (.av (.one (.val (.bool b))))) (h1:b=true->IWp P N Ow n0 x Q s J al) (h2:b=false->IWp P N Ow n0 y Q s J al):IWp P N Ow n0 (.cond c x y) Q s J al:=by
 intro W0 M σ a w hJ hs
 have hv:a.eval c=.bool b:=(Hm hs.tmps hc).1
 exact wpIn_cond_split hv (fun hb=>h1 hb W0 M σ a w hJ hs) (fun hb=>h2 hb W0 M σ a w hJ hs)
theorem Rx (h:Q .normal s J al):IWp P N Ow n0 .skip Q s J al:=fun W0 M σ a w hJ hs=>wpIn_skip ⟨s,J,al,W0,M,σ,h,hJ,hs⟩
theorem mR (h:Q .ret s J al):IWp P N Ow n0 .ret Q s J al:=fun W0 M σ a w hJ hs=>wpIn_ret ⟨s,J,al,W0,M,σ,h,hJ,hs⟩
theorem iC {id:Nat} (h:Q (.exit id) s J al):IWp P N Ow n0 (.exit id) Q s J al:=fun W0 M σ a w hJ hs=>wpIn_exit ⟨s,J,al,W0,M,σ,h,hJ,hs⟩
theorem iB {ι:Type} {c:Code} (S:ι->AS) (Jf:ι->World->Prop) (Inv:ι->Prop) (μ:ι->Nat) (round:∀ x,Inv x->IWp P N Ow n0 c (ITh (fun s' J' al'=>∃ y,Inv y/\μ y<μ x/\s'=S y/\J'=Jf y/\al'=al) Q) (S x) (Jf x) al) (x:ι) (hx:Inv x):IWp P N Ow n0 (.loop c) Q (S x) (Jf x) al:=by
 have key:∀ n x,μ x<n->Inv x->∀ W0 M σ a w,(Jf x W0/\a.defers=[]/\IOk Ow n0 al M W0)->Sim N W0 noX M M σ (get (S x).t) (get (S x).h) a w->Code.roundsIn (FW none) 0 P c (fun e a' w'=>∃ s' J' al' W0' M' σ',Q e s' J' al'/\(J' W0'/\a'.defers=[]/\IOk Ow n0 al' M' W0')/\Sim N W0' noX M' M' σ' (get s'.t) (get s'.h) a' w') n a w:=by
  intro n
  induction n with
  | zero=>intro x h;omega
  | succ n ih =>
   intro x hlt hx W0 M σ a w hJ hs
   rw [roundsIn_succ]
   refine wpIn_mono (round x hx W0 M σ a w hJ hs) ?_
   rintro e a' w' ⟨s',J',al',W0',M',σ',h1,h2,h3⟩
   cases e with
   | normal =>
    obtain ⟨y,hy,hm,rfl,rfl,rfl⟩:=h1
    exact ih y (by omega) hy W0' M' σ' a' w' h2 h3
   | _=>exact ⟨s',J',al',W0',M',σ',h1,h2,h3⟩
 intro W0 M σ a w hJ hs
 exact wpIn_loop_rounds (μ x+1) (key (μ x+1) x (Nat.lt_succ_self _) hx W0 M σ a w hJ hs)
end
def Cl.isV:Cl->Bool
 | .val _=>true
 | _=>false
def Cl.toV:Cl->Value
 | .val v=>v
 | _=>undef
def Av.isV:Av->Bool
 | .one c=>c.isV
 | .agg l=>l.all Cl.isV
def Av.toV:Av->Value
 | .one c=>c.toV
 | .agg l=>.agg (l.map Cl.toV).toArray
theorem eO {M:Nat->Option Obj} {σ:Nat->Loc}:∀ {l:List Cl} {vs:List Value},L2 (R M σ) l vs->l.all Cl.isV=true->vs=l.map Cl.toV
 | [],_,h,_=>by cases h;rfl
 | c::l,_,h,hv=>by
  cases h with
  | cons h1 h2 =>
   simp only [List.all_cons,Bool.and_eq_true] at hv
   rw [eO h2 hv.2]
   cases c with
   | val v=>rw [h1.1];rfl
   | _=>cases hv.1
theorem nI {M:Nat->Option Obj} {σ:Nat->Loc} {x:Av} {V:Value} (h:RA M σ x V) (hv:x.isV=true):V=x.toV:=by
 cases x with
 | one c =>
  cases c with
  | val v=>exact h.1
  | _=>cases hv
 | agg l =>
  obtain ⟨vs,rfl,h2⟩:=h
  rw [eO h2 hv];rfl
theorem kX {M:Nat->Option Obj} {σ:Nat->Loc} {x:Av} (hv:x.isV=true) (ho:∀ c∈x.cells,c.toV.oneCell'=true):RA M σ x x.toV:=by
 cases x with
 | one c =>
  cases c with
  | val v=>exact ⟨rfl,ho (.val v) (by simp [Av.cells])⟩
  | _=>cases hv
 | agg l =>
  refine ⟨_,rfl,?_⟩
  simp only [Av.isV] at hv
  simp only [Av.cells] at ho
  induction l with
  | nil=>exact .nil
  | cons c l ih =>
   simp only [List.all_cons,Bool.and_eq_true] at hv
   refine .cons ?_ (ih hv.2 fun c hc=>ho c (List.mem_cons_of_mem _ hc))
   cases c with
   | val v=>exact ⟨rfl,ho (.val v) (List.mem_cons_self ..)⟩
   | _=>cases hv.1
section
variable {P:Program} {V:Env P} {N:Nat} {W0:World} {X:Nat→Option Loc} {M0 M:Nat→Option Obj} {σ:Nat→Loc} {w:World} {a:Act}
theorem Zf {o:Oper} {c:Call} {f:Operand} {ly:Nat} {xs:List Av} {T:Nat->Option Tv} (hT:∀ i v,T i=some v->RT M σ v (a.tmps.getD i undef)) (ho:o.op=.call c) (hcf:c.callee=.value f) (hf:evT T f=some (.av (.one (.val (.func (.yield ly) #[] #[]))))) (hxs:Fd (evT T) c.args.toList=some xs) (hv:xs.all Av.isV=true)
  {R:Ending->World->Prop} (hY:YieldAt (FW none) 0 P ly (xs.map Av.toV).toArray w R) {K:Act->World->Prop} {Q:Exit->Act->World->Prop} (hK:∀ e w',R e w'->∃ V,e=.returned V/\K (a.put o.dst V) w'):o.wpIn (FW none) 0 P a w K Q:=by
 obtain ⟨fn,tmps,assign,body,hy,hR⟩:=hY
 refine ⟨fun _ _=>trivial,?_⟩
 rw [Oper.semAt_eq _ _ _ (fun d h=>by rw [ho] at h;cases h)]
 have hfv:=(Hm hT hf).1
 have hargs:=KD (fun x v=>Hm hT) _ _ hxs
 have hmap:c.args.map a.eval=(xs.map Av.toV).toArray:=by
  have e:c.args.toList.map a.eval=xs.map Av.toV:=by
   clear hxs hy hR
   revert hargs hv
   generalize c.args.toList.map a.eval=vs
   intro hv hargs
   induction hargs with
   | nil=>rfl
   | cons h1 _ ih =>
    simp only [List.all_cons,Bool.and_eq_true] at hv
    rw [ih hv.2,List.map_cons,nI h1 hv.1]
  rw [<- e]
  apply Array.ext';simp
 have hres:(execOp a.eval o).run P w=.ok (.round ly fn tmps assign body) w:=by
  simp only [execOp,ho,Sem.run_bind,resolve,hcf,hfv,Deferred.ofValue,hmap]
  simpa [invoke] using hy
 rw [hres,Oper.uponIn_round]
 refine ⟨fun h=>(by cases h),?_⟩
 have h1:RoundIn (FW none) (0-1) P ly fn tmps assign body w R:=hR
 refine h1.mono ?_
 rintro e w' he
 obtain ⟨V,rfl,hk⟩:=hK e w' he
 exact hk
end
end
section
open Go.RowKit
section
variable {P:Program} {V:Env P} {rd:Option Nat} {N:Nat} {W0:World} {X:Nat→Option Loc} {M0:Nat→Option Obj} {l1 l2:List Oper} {o:Oper} {s0:AS}
theorem Wv {L:Array Bool} {j:Nat} (h:j<L.size):L.getD j true=L.getD j false:=by simp [h]
theorem Tt {l r:List Oper} {L:Array Bool} (h:LL (l++r) L):LL l L:=fun j o ho=>h j o (by rw [List.getElem?_append_left (List.getElem?_eq_some_iff.1 ho).1];exact ho)
theorem cK (hV:KY P V) (hrun:Iw P V N l1 s0) (hback1:Ls l1=true) (hord:Np P V N l1 s0 (fun j i=>((DY l1 []).getD j 0).testBit i=true)) (hback:Ls (l1++o::l2)=true)
  (hk:∀ j,j<l1.length->((DY (l1++o::l2) []).getD l1.length 0).testBit j=true) (hlater:∀ i,l1.length<i->i<(l1++o::l2).length->((DY (l1++o::l2) []).getD i 0).testBit l1.length=true) (hg:∀ x∈l1,x.guard=none)
  {Q:Exit->Act->World->Prop} (hlast:∀ (f:Nat) (L:Array Bool) (a:Act) (w:World),L.size=(l1++o::l2).length->(∀ j,L.getD j false=decide (j<l1.length))->(List.range (l1++o::l2).length).countP (fun j => !L.getD j false)<=f+1 ->
   (∃ M σ,Sim N W0 X M0 M σ (get (stN P V N l1 s0 l1.length).t) (get (stN P V N l1 s0 l1.length).h) a w)->wpOpIn (FW rd) 0 P (l1++o::l2).toArray Q l1.length (wpAnyIn (FW rd) 0 P .any (l1++o::l2).toArray Q f (L.setIfInBounds l1.length true)) a w) :
  ∀ (f:Nat) (L:Array Bool) (a:Act) (w:World),L.size=(l1++o::l2).length->LL (l1++o::l2) L->(∀ j,l1.length<=j->L.getD j false=false)->(List.range (l1++o::l2).length).countP (fun j => !L.getD j false)<=f->V1 P V N W0 X M0 l1 s0 L a w->wpAnyIn (FW rd) 0 P .any (l1++o::l2).toArray Q f L a w:=by
 have hlen:(l1++o::l2).length=l1.length+(l2.length+1):=by simp
 intro f
 induction f with
 | zero =>
  intro L a w hsz hcl hno hcnt hinv
  exfalso
  have h0:(List.range (l1++o::l2).length).countP (fun j => !L.getD j false)=0:=by omega
  rw [List.countP_eq_zero] at h0
  have:=h0 l1.length (List.mem_range.2 (by omega))
  rw [hno _ (Nat.le_refl _)] at this
  simp at this
 | succ f ih =>
  intro L a w hsz hcl hno hcnt hinv
  have anc:=fun i o' ho' hpre=>Ir hback hcl (i+1) i (Nat.lt_succ_self _) o' ho' hpre
  have allready:∀ n j,j<n->j<(l1++o::l2).length->Region.ready .any (l1++o::l2).toArray L=[]->L.getD j false=true:=by
   intro n
   induction n with
   | zero=>intro j h;omega
   | succ n ihn =>
    intro j hj hjl hr
    cases hd:L.getD j false with
    | true=>rfl
    | false =>
     have ho:=List.getElem?_eq_getElem hjl
     have:j∈Region.ready .any (l1++o::l2).toArray L:=by
      rw [mem_ready]
      refine ⟨?_,(l1++o::l2)[j],by simp,fun e he hb => ?_⟩
      ·have hj':j<L.size:=by omega
       simp [hj'] at hd ⊢;exact hd
      have h1:=(List.all_eq_true.1 hback) ((l1++o::l2)[j],j) (List.mem_zipIdx_iff_getElem?.2 ho)
      have h2:=(List.all_eq_true.1 h1) e (by simpa using he)
      simp only [hb,Bool.not_true,Bool.false_or] at h2
      have hlt:=Nat.le_of_ble_eq_true h2
      exact ihn e.on (by omega) (by omega) hr
     rw [hr] at this;cases this
  refine ⟨fun hr => ?_,fun i hi => ?_⟩
  ·exfalso
   have:=allready (l1.length+1) l1.length (by omega) (by omega) hr
   rw [hno _ (Nat.le_refl _)] at this;cases this
  rw [mem_ready] at hi
  obtain ⟨h1,oi,hoi,hpre⟩:=hi
  have ho':(l1++o::l2)[i]? = some oi:=by simpa using hoi
  have hil:i<(l1++o::l2).length:=(List.getElem?_eq_some_iff.1 ho').1
  have hun:L.getD i false=false:=by
   have hi':i<L.size:=by omega
   simp [hi'] at h1 ⊢;exact h1
  rcases Nat.lt_trichotomy i l1.length with hlt | heq | hgt
  ·have ho1:l1[i]? = some oi:=by rw [List.getElem?_append_left hlt] at ho';exact ho'
   unfold wpOpIn
   rw [hoi]
   have hfin:=QO (rd:=rd) (a:=a) (w:=w) (Q:=Q) (K:=wpAnyIn (FW rd) 0 P .any (l1++o::l2).toArray Q f (L.setIfInBounds i true)) hV hrun hback1 hord (by omega) (Tt hcl) hinv ho1 hun hpre fun a' w' hinv'=>by
    refine ih _ a' w' (by simp [hsz]) ?_ (fun j hj => ?_) ?_ hinv'
    ·intro j oj hj hd e he hb
     by_cases hji:j=i
     ·subst hji
      rw [ho'] at hj;injection hj with hj;subst hj
      exact getD_set_true (hpre e he hb)
     rw [getD_set_ne false (Ne.symm hji)] at hd
     exact getD_set_true (hcl j oj hj hd e he hb)
    ·rw [getD_set_ne false (by omega)];exact hno j hj
    have hlt2:(List.range (l1++o::l2).length).countP (fun j => !(L.setIfInBounds i true).getD j false)<(List.range (l1++o::l2).length).countP (fun j => !L.getD j false):=by
     refine J9 ?_ (List.mem_range.2 hil) ?_ ?_
     ·intro j _ hj
      by_cases hji:i=j
      ·subst hji;simp [show i<L.size by omega] at hj
      rwa [getD_set_ne false hji] at hj
     ·rw [hun];rfl
     simp [show i<L.size by omega]
    omega
   have hgi:oi.guard=none:=hg oi (List.mem_of_getElem? ho1)
   have hw:∀ ys,Region.wanted oi ys=true:=fun ys=>by simp [Region.wanted,hgi]
   simp only [hw,if_true] at hfin ⊢
   exact hfin
  ·subst heq
   have hall:∀ j,L.getD j false=decide (j<l1.length):=fun j=>by
    by_cases hj:j<l1.length
    ·rw [decide_eq_true hj]
     exact (anc l1.length oi ho' hpre j (hk j hj)).1
    rw [decide_eq_false hj]
    exact hno j (by omega)
   refine hlast f L a w hsz hall hcnt ?_
   obtain ⟨M,σ,T,H,hs,hT,hH⟩:=hinv
   have eT:T=get (stN P V N l1 s0 l1.length).t:=by
    funext x
    obtain ⟨k,hk2,hag,he⟩:=hT x
    rw [he]
    refine U1 hrun hk2 (Nat.le_refl _) hag fun j oj hj hd => ?_
    have hjl:j<l1.length:=(List.getElem?_eq_some_iff.1 hj).1
    exact ⟨fun _=>hjl,fun _=>by rw [hall,decide_eq_true hjl]⟩
   have eH:H=get (stN P V N l1 s0 l1.length).h:=by
    funext x
    obtain ⟨k,hk2,hag,he⟩:=hH x
    rw [he]
    refine U2 hrun hk2 (Nat.le_refl _) hag fun j oj hj hd => ?_
    have hjl:j<l1.length:=(List.getElem?_eq_some_iff.1 hj).1
    exact ⟨fun _=>hjl,fun _=>by rw [hall,decide_eq_true hjl]⟩
   rw [eT,eH] at hs
   exact ⟨M,σ,hs⟩
  exfalso
  have:=(anc i oi ho' hpre l1.length (hlater i hgt hil)).1
  rw [hno _ (Nat.le_refl _)] at this;cases this
theorem Zr (hback:Ls (l1++o::l2)=true) (h2:l2.length<=1) {Q:Exit->Act->World->Prop} {f:Nat} {L:Array Bool} {a:Act} {w:World} (hsz:L.size=(l1++o::l2).length) (hall:∀ j,L.getD j false=decide (j<l1.length)) (hcnt:(List.range (l1++o::l2).length).countP (fun j => !L.getD j false)<=f+1)
  (hg:∀ x∈l2,x.guard=none) (hQ1:l2=[]->Q .normal a w) (hQ2:∀ u,l2=[u]->u.wpIn (FW rd) 0 P a w (fun a' w'=>Q .normal a' w') Q):wpAnyIn (FW rd) 0 P .any (l1++o::l2).toArray Q f (L.setIfInBounds l1.length true) a w:=by
 have hL1:∀ j,(L.setIfInBounds l1.length true).getD j false=decide (j<l1.length+1):=fun j=>by
  by_cases hj:l1.length=j
  ·subst hj
   have hlt:l1.length<L.size:=by rw [hsz];simp
   simp [hlt]
  rw [getD_set_ne false hj,hall]
  exact decide_eq_decide.2 (by omega)
 have hdone:∀ (L':Array Bool) (f':Nat) (a':Act) (w':World),L'.size=(l1++o::l2).length->(∀ j,j<(l1++o::l2).length->L'.getD j false=true)->Q .normal a' w'->wpAnyIn (FW rd) 0 P .any (l1++o::l2).toArray Q f' L' a' w':=by
  intro L' f' a' w' hs' hd' hq
  have hr:Region.ready .any (l1++o::l2).toArray L'=[]:=by
   rw [List.eq_nil_iff_forall_not_mem]
   intro j hj
   rw [mem_ready] at hj
   obtain ⟨h1,oj,hoj,_⟩:=hj
   have hjl:j<(l1++o::l2).length:=(List.getElem?_eq_some_iff.1 (by simpa using hoj:(l1++o::l2)[j]? = some oj)).1
   have:=hd' j hjl
   have hj':j<L'.size:=by omega
   simp [hj'] at h1 this
   rw [h1] at this;cases this
  cases f' with
  | zero=>exact ⟨hr,hq⟩
  | succ f'=>exact ⟨fun _=>hq,fun i hi=>by rw [hr] at hi;cases hi⟩
 cases l2 with
 | nil=>exact hdone _ _ _ _ (by simpa using hsz) (fun j hj=>by rw [hL1];simp at hj;exact decide_eq_true hj) (hQ1 rfl)
 | cons u r =>
  have hr0:r=[]:=by
   cases r with
   | nil=>rfl
   | cons=>simp at h2
  subst hr0
  have hlen:(l1++o::[u]).length=l1.length+2:=by simp
  cases f with
  | zero =>
   exfalso
   have hlt:(List.range (l1++o::[u]).length).countP (fun j => !(L.setIfInBounds l1.length true).getD j false)<(List.range (l1++o::[u]).length).countP (fun j => !L.getD j false):=by
    refine J9 ?_ (List.mem_range.2 (show l1.length<_ by omega)) ?_ ?_
    ·intro j _ hj
     rw [hL1] at hj
     rw [hall]
     simp at hj ⊢;omega
    ·rw [hall];simp
    rw [hL1];simp
   have h0:(List.range (l1++o::[u]).length).countP (fun j => !(L.setIfInBounds l1.length true).getD j false)=0:=by omega
   rw [List.countP_eq_zero] at h0
   have:=h0 (l1.length+1) (List.mem_range.2 (by omega))
   rw [hL1] at this
   simp at this
  | succ f =>
   have hu:(l1++o::[u])[l1.length+1]? = some u:=by rw [List.getElem?_append_right (by omega)];simp
   refine ⟨fun hr => ?_,fun i hi => ?_⟩
   ·exfalso
    have:l1.length+1∈Region.ready .any (l1++o::[u]).toArray (L.setIfInBounds l1.length true):=by
     rw [mem_ready]
     refine ⟨?_,u,by simp,fun e he hb => ?_⟩
     ·rw [Wv (by simp [hsz]),hL1]
      exact decide_eq_false (by omega)
     have h1:=(List.all_eq_true.1 hback) (u,l1.length+1) (List.mem_zipIdx_iff_getElem?.2 hu)
     have h3:=(List.all_eq_true.1 h1) e (by simpa using he)
     simp only [hb,Bool.not_true,Bool.false_or] at h3
     have hlt:=Nat.le_of_ble_eq_true h3
     rw [hL1]
     exact decide_eq_true (by omega)
    rw [hr] at this;cases this
   rw [mem_ready] at hi
   obtain ⟨h1,oi,hoi,hpre⟩:=hi
   have ho':(l1++o::[u])[i]? = some oi:=by simpa using hoi
   have hil:i<(l1++o::[u]).length:=(List.getElem?_eq_some_iff.1 ho').1
   have hi1:i=l1.length+1:=by
    have h3:=hL1 i
    have h4:i<(L.setIfInBounds l1.length true).size:=by simp [hsz];omega
    rw [Wv h4,h3] at h1
    have h5:=of_decide_eq_false h1
    omega
   subst hi1
   rw [hu] at ho';injection ho' with ho';subst ho'
   unfold wpOpIn
   rw [hoi]
   have hw:∀ ys,Region.wanted u ys=true:=fun ys=>by simp [Region.wanted,hg u (by simp)]
   simp only [hw,if_true]
   refine Oper.wpIn_mono (fun a' w' hq=>hdone _ _ _ _ (by simp [hsz]) (fun j hj => ?_) hq) (hQ2 u rfl)
   by_cases hji:l1.length+1=j
   ·subst hji
    have h4:l1.length+1<(L.setIfInBounds l1.length true).size:=by simp [hsz]
    simp at h4
    simp [h4]
   rw [getD_set_ne false hji,hL1]
   exact decide_eq_true (by omega)
end
def noM:Nat->Option Obj:=fun _=>none
def dN (M:Nat->Option Obj) (b:Nat):Option Obj:=match M b with
 | some (.cells c t f)=>some (.cells c t f)
 | _=>none
theorem Lr {M:Nat->Option Obj} {b:Nat} {o:Obj} (h:dN M b=some o):M b=some o/\o.isCells=true:=by
 unfold dN at h
 cases hM:M b with
 | none=>rw [hM] at h;cases h
 | some o' =>
  rw [hM] at h
  cases o' with
  | cells c t f=>injection h with h;subst h;exact ⟨rfl,rfl⟩
  | _=>cases h
theorem Vn {M:Nat->Option Obj} (b:Nat) (c:Array Value) (t:TypeId) (f:Nat×Nat) (h:M b=some (.cells c t f)):dN M b=some (.cells c t f):=by unfold dN;rw [h]
def bL (l1:List Oper) (o:Oper) (l2:List Oper):Bool :=
 Ls (l1++o::l2)&&((List.range l1.length).all fun j=>((DY (l1++o::l2) []).getD l1.length 0).testBit j)&&((List.range l2.length).all fun j=>((DY (l1++o::l2) []).getD (l1.length+1+j) 0).testBit l1.length) &&
 (l1++o::l2).all fun x=>match x.guard with | none=>true | some _=>false
section
variable {P:Program} {N:Nat} {Ow:World→Nat→Prop} {n0:Nat} {Q:IQ} {s:AS} {J:World→Prop}
theorem cB (hO:OwS Ow n0) (hm:P.follows .mixedOrders=true) {E:TypeId->Option (List Kd)} (hE:Jr P ⟨fun _=>none,E,fun _=>false,fun _=>none⟩) {id:Nat} (l1:List Oper) (o:Oper) (l2:List Oper) (ow:List Nat) (qs:List (Nat×(Bool×Nat))) (ts ts2:List Nat) (cs:List Prop) (T1:List (Nat×Tv))
  (hr:Hs P ⟨D4 [],E,BB ow,get qs⟩ N l1 ts [] s=some (cs,⟨T1,[]⟩)) (hdraw:PD P ⟨D4 [],E,BB ow,get qs⟩ N l1 s=true) (hc:CU cs) (hms:bL l1 o l2=true) (h2:l2.length<=1) {c:Call} {f:Operand} {ly d:Nat} (xs:List Av) (ho:o.op=.call c) (hcf:c.callee=.value f)
  (hf:evT (get T1) f=some (.av (.one (.val (.func (.yield ly) #[] #[]))))) (hxs:Fd (evT (get T1)) c.args.toList=some xs) (hv:xs.all Av.isV=true) (hod:o.dst=some d) (hdN:Nat.blt d N=true) (hT1:∀ i v,get T1 i=some v->v.dv=true/\TvM v)
  (hJg:∀ A B,J A->A.grownBy B none->J B) (Jt Jf:World->Prop)
  (hY:∀ W,J W->YieldAt (FW none) 0 P ly (xs.map Av.toV).toArray W (fun e W'=>(e=.returned (.bool true)/\Jt W'/\KpS Ow W W')\/(e=.returned (.bool false)/\Jf W')))
  (c2 c3:List Prop) (St Sf:AS) (h2t:Hs P ⟨D4 [],E,BB ow,get qs⟩ N l2 ts2 [] ⟨(d,tB true)::T1,[]⟩=some (c2,St)) (hc2:CU c2) (h2f:Hs P ⟨D4 [],E,BB ow,get qs⟩ N l2 ts2 [] ⟨[(d,tB false)],[]⟩=some (c3,Sf)) (hc3:CU c3)
  (hQt:Q .normal St Jt true) (hQf:Q .normal Sf Jf false) (hdv:∀ i v,get s.t i=some v->v.dv=true) (hh:s.h=[]):IWp P N Ow n0 (.region id (l1++o::l2).toArray true) Q s J true:=by
 have hV:KY P ⟨D4 [],E,BB ow,get qs⟩:=(HM.nil (P:=P)).env (O:=BB ow) (q:=get qs) hE
 simp only [bL,Bool.and_eq_true] at hms
 obtain ⟨⟨⟨hback,hk⟩,hl⟩,hgs⟩:=hms
 have hguard:∀ x∈l1++o::l2,x.guard=none:=fun x hx=>by
  have:=List.all_eq_true.1 hgs x hx
  cases hg:x.guard with
  | none=>rfl
  | some _=>rw [hg] at this;cases this
 intro W0 M σ a w hJ hs
 have hK:∀ {l:List Oper} {u:List Nat} {a b:AS} {cc:List Prop},Hs P ⟨D4 [],E,BB ow,get qs⟩ N l u [] a=some (cc,b)->∃ b1,JW P ⟨D4 [],E,BB ow,get qs⟩ N l.toArray l a=some (cc,b1)/\Lg u [] b1=b:=by
  intro l u a b cc h
  unfold Hs at h
  split at h
  ·rename_i c1 b1 h1
   simp only [Option.some.injEq,Prod.mk.injEq] at h
   obtain ⟨rfl,h⟩:=h
   exact ⟨b1,h1,h⟩
  cases h
 obtain ⟨s1,hr1,hkeep⟩:=hK hr
 obtain ⟨e1,hruns⟩:=Ky (s0:=s) l1 0 s s1 cs (fun j=>by rw [Nat.zero_add]) rfl hr1 hc
 simp only [Nat.zero_add] at e1 hruns
 obtain ⟨hback1,hord⟩:=Oj hdraw
 have hs1:=OV hdv hh hJ.2.1 hs
 have hs0:Sim N W0 (Ln N W0.heap.size) M M (upd σ N ⟨W0.heap.size,424242,true⟩) (get s.t) (get s.h) a { w with drawn:=w.drawn+1 }:=⟨hs1.os,hs1.tape,hs1.output,hs1.size,hs1.old,hs1.sub,hs1.new,hs1.pin,hs1.defers,hs1.room,hs1.tmps,hs1.imm,fun n b hb=>(hs1.blk n b hb).mono (fun _ _ h=>h) (fun _ _=>rfl) (fun _=>rfl),hs1.loc,hs1.inj⟩
 have hrep:∀ (n j:Nat),(Array.replicate n false).getD j false=false:=fun n j=>by
  by_cases hj':j<n
  ·simp [hj']
  simp [hj']
 have hinv:V1 P ⟨D4 [],E,BB ow,get qs⟩ N W0 (Ln N W0.heap.size) M l1 s (Array.replicate (l1++o::l2).toArray.size false) a { w with drawn:=w.drawn+1 } :=
  ⟨M,_,get s.t,get s.h,hs0,fun x=>⟨0,Nat.zero_le _,fun j o hj hd=>⟨fun hh=>(by rw [hrep] at hh;cases hh),fun hh=>absurd hh (by omega)⟩,rfl⟩,fun m=>⟨0,Nat.zero_le _,fun j o hj hd=>⟨fun hh=>(by rw [hrep] at hh;cases hh),fun hh=>absurd hh (by omega)⟩,rfl⟩⟩
 refine wpIn_region_any hm (cK (rd:=none) hV hruns hback1 hord hback (fun j hj=>List.all_eq_true.1 hk j (List.mem_range.2 hj)) (fun i h3 h4 => ?_) (fun x hx=>hguard x (List.mem_append_left _ hx)) (fun f L a1 w1 hsz hall hcnt hsim => ?_) _ _ a _ (by simp) (fun j oj _ hd=>by rw [hrep] at hd;cases hd) (fun j _=>hrep _ j) (Nat.le_trans List.countP_le_length (by simp)) hinv)
 ·have:=List.all_eq_true.1 hl (i-(l1.length+1)) (List.mem_range.2 (by simp at h4;omega))
  rwa [show l1.length+1+(i-(l1.length+1))=i by omega] at this
 obtain ⟨M1,σ1,hs2⟩:=hsim
 rw [<- e1] at hs2
 have hs2:=GN hs2 ts []
 rw [hkeep] at hs2
 obtain ⟨hd1,hs3⟩:=Kz hs2
 have hgrow:W0.grownBy w1 none:={ os:=hs3.os,tape:=hs3.tape,output:=hs3.output,size:=hs3.size,block:=fun b hb _=>hs3.old b hb (LY b) }
 have hJ1:=hJg W0 w1 hJ.1 hgrow
 have hiok:=Ry hJ.2.2 hO hs2
 have hok:(l1++o::l2).toArray[l1.length]? = some o:=by simp
 unfold wpOpIn
 rw [hok]
 have hw:∀ ys,Region.wanted o ys=true:=fun ys=>by simp [Region.wanted,hguard o (by simp)]
 simp only [hw,if_true]
 have hdN':d<N:=by have:=Nat.le_of_ble_eq_true hdN;omega
 have hput:∀ (b:Bool) (T:List (Nat×Tv)) (M':Nat->Option Obj) (σ':Nat->Loc),(∀ i v,get T i=some v->RT M' σ' v (a1.tmps.getD i undef))->∀ i v,get ((d,tB b)::T) i=some v->RT M' σ' v ((a1.put o.dst (.bool b)).tmps.getD i undef):=fun b T M' σ' hT i v hv=>by
  have hds:d<a1.tmps.size:=by rw [hs3.room];exact hdN'
  simp only [get,CQ] at hv
  rw [hod]
  by_cases hi:d=i
  ·subst hi
   simp at hv;subst hv
   have:(a1.put (some d) (.bool b)).tmps.getD d undef=.bool b:=by simp [Act.put,Array.getD_eq_getD_getElem?,hds]
   rw [this]
   exact ⟨rfl,rfl⟩
  simp [hi] at hv
  have:(a1.put (some d) (.bool b)).tmps.getD i undef=a1.tmps.getD i undef:=by simp [Act.put,Array.getD_eq_getD_getElem?,Array.getElem?_setIfInBounds,hi]
  rw [this];exact hT i v hv
 have hsize:∀ b:Bool,(a1.put o.dst (.bool b)).tmps.size=N:=fun b=>by rw [hod];simpa [Act.put] using hs3.room
 have hdef:∀ b:Bool,(a1.put o.dst (.bool b)).defers=[]:=fun b=>by rw [hod];simpa [Act.put] using hd1
 have hgo:∀ (b:Bool) (w2:World) (T:List (Nat×Tv)) (Mn:Nat->Option Obj) (S2:AS) (cx:List Prop) (J2:World->Prop) (al2:Bool),IOk Ow n0 al2 Mn w2->(∀ i v,get T i=some v->v.dv=true)->(∀ i v,get T i=some v->RT Mn σ1 v (a1.tmps.getD i undef))->(∀ b o,Mn b=some o->w2.heap[b]? = some o) ->
   Hs P ⟨D4 [],E,BB ow,get qs⟩ N l2 ts2 [] ⟨(d,tB b)::T,[]⟩=some (cx,S2)->CU cx->Q .normal S2 J2 al2->J2 w2 ->
   wpAnyIn (FW none) 0 P .any (l1++o::l2).toArray (fun e a' w'=>∃ s' J' al' W0' M' σ',Q e s' J' al'/\(J' W0'/\a'.defers=[]/\IOk Ow n0 al' M' W0')/\Sim N W0' noX M' M' σ' (get s'.t) (get s'.h) a' w') f (L.setIfInBounds l1.length true) (a1.put o.dst (.bool b)) w2:=by
  intro b w2 T Mn S2 cx J2 al2 hiok2 hdvT hT himm2 hrun2 hcx hQ2 hJ2
  have hs4:Sim N w2 noX Mn Mn σ1 (get ((d,tB b)::T)) (get []) (a1.put o.dst (.bool b)) w2:=⟨rfl,rfl,rfl,Nat.le_refl _,fun _ _ _=>rfl,fun _ _ h=>h,fun b o h h'=>(by rw [h] at h';cases h'),fun m x hx=>(by cases hx),⟨by rw [hdef b];trivial,fun _=>hdef b⟩,hsize b,hput b T Mn σ1 hT,himm2,fun n b hb=>(by cases hb),fun n b hb=>(by cases hb),fun n m b c hb=>(by cases hb)⟩
  have hdv2:∀ i v,get ((d,tB b)::T) i=some v->v.dv=true:=fun i v hv=>by
   simp only [get,CQ] at hv
   by_cases hi:d=i
   ·subst hi;simp at hv;subst hv;rfl
   simp [hi] at hv;exact hdvT i v hv
  have hs5:=OV (s:=⟨(d,tB b)::T,[]⟩) hdv2 rfl (hdef b) hs4
  refine Zr hback h2 hsz hall hcnt (fun x hx=>hguard x (by simp [hx])) (fun h0 => ?_) (fun u h0 => ?_)
  ·subst h0
   obtain ⟨b1,hb1,hb2⟩:=hK hrun2
   simp only [JW,Option.some.injEq,Prod.mk.injEq] at hb1
   obtain ⟨_,rfl⟩:=hb1
   refine ⟨S2,J2,al2,w2,Mn,σ1,hQ2,⟨hJ2,hdef b,hiok2⟩,?_⟩
   rw [<- hb2]
   exact GN (s:=⟨(d,tB b)::T,[]⟩) hs4 ts2 []
  subst h0
  obtain ⟨b1,hb1,hb2⟩:=hK hrun2
  have hlist:=LS (rd:=none) hV (ops:=[u].toArray) (Q':=fun e a' w'=>∃ s' J' al' W0' M' σ',Q e s' J' al'/\(J' W0'/\a'.defers=[]/\IOk Ow n0 al' M' W0')/\Sim N W0' noX M' M' σ' (get s'.t) (get s'.h) a' w') [u] _ b1 cx hb1 hcx _ _ _ _ hs5 fun M' σ' a' w' hs6=>by
   have hs6:=GN hs6 ts2 []
   rw [hb2] at hs6
   obtain ⟨hd6,hs7⟩:=Kz hs6
   exact ⟨S2,J2,al2,w2,M',σ',hQ2,⟨hJ2,hd6,Ry hiok2 hO hs6⟩,hs7⟩
  have hwu:∀ ys,Region.wanted u ys=true:=fun ys=>by simp [Region.wanted,hguard u (by simp)]
  unfold wpListIn at hlist
  simp only [hwu,if_true] at hlist
  exact hlist
 refine Zf hs3.tmps ho hcf hf hxs hv (hY w1 hJ1) fun e w2 he => ?_
 rcases he with ⟨rfl,h5,h6⟩ | ⟨rfl,h5⟩
 ·have hst:∀ b,Ow w1 b->Ow W0 b:=hO.st W0 w1 (hiok rfl).1 fun b hb=>hs3.old b hb (LY b)
  refine ⟨_,rfl,hgo true w2 T1 (dN M1) St c2 Jt true (fun _=>⟨?_,fun b h=>(h6.2.2 b h).elim (fun h7=>Nat.lt_of_lt_of_le ((hiok rfl).2.1 b (hst b h7)) (Nat.le_trans hs3.size h6.1)) And.right,fun b o' h hw2 => ?_⟩) (fun i v hv=>(hT1 i v hv).1) (fun i v hv=>eM Vn (hs3.tmps i v hv) (hT1 i v hv).2) (fun b o' h => ?_) h2t hc2 hQt h5⟩
  ·exact Nat.le_trans (hiok rfl).1 (Nat.le_trans hs3.size h6.1)
  ·rcases h6.2.2 b hw2 with h7 | h7
   ·exact (hiok rfl).2.2 b o' (Lr h).1 (hst b h7)
   have:=(Array.getElem?_eq_some_iff.1 (hs3.imm b o' (Lr h).1)).1;omega
  exact h6.2.1 b o' (hs3.imm b o' (Lr h).1) (Lr h).2 fun h7=>(hiok rfl).2.2 b o' (Lr h).1 (hst b h7)
 exact ⟨_,rfl,hgo false w2 [] noM Sf c3 Jf false (fun h=>by cases h) (fun i v hv=>by cases hv) (fun i v hv=>by cases hv) (fun b o' h=>by cases h) h2f hc3 hQf h5⟩
theorem P5 (hO:OwS Ow n0) (hm:P.follows .mixedOrders=true) {E:TypeId->Option (List Kd)} (hE:Jr P ⟨fun _=>none,E,fun _=>false,fun _=>none⟩) {id:Nat} {l:List Oper} (k:Nat) {o:Oper} (ho1:l[k]? = some o) (ow:List Nat) (qs:List (Nat×(Bool×Nat))) (ts ts2:List Nat) (cs:List Prop) (T1:List (Nat×Tv))
  (hr:Hs P ⟨D4 [],E,BB ow,get qs⟩ N (l.take k) ts [] s=some (cs,⟨T1,[]⟩)) (hdraw:PD P ⟨D4 [],E,BB ow,get qs⟩ N (l.take k) s=true) (hc:CU cs) (hms:bL (l.take k) o (l.drop (k+1))=true) (h2:Nat.ble (l.drop (k+1)).length 1=true) {c:Call} {f:Operand} {ly d:Nat} (xs:List Av) (ho:o.op=.call c) (hcf:c.callee=.value f)
  (hf:evT (get T1) f=some (.av (.one (.val (.func (.yield ly) #[] #[]))))) (hxs:Fd (evT (get T1)) c.args.toList=some xs) (hv:xs.all Av.isV=true) (hod:o.dst=some d) (hdN:Nat.blt d N=true) (hT1:∀ i v,get T1 i=some v->v.dv=true/\TvM v)
  (hJg:∀ A B,J A->A.grownBy B none->J B) (Jt Jf:World->Prop)
  (hY:∀ W,J W->YieldAt (FW none) 0 P ly (xs.map Av.toV).toArray W (fun e W'=>(e=.returned (.bool true)/\Jt W'/\KpS Ow W W')\/(e=.returned (.bool false)/\Jf W')))
  (c2 c3:List Prop) (St Sf:AS) (h2t:Hs P ⟨D4 [],E,BB ow,get qs⟩ N (l.drop (k+1)) ts2 [] ⟨(d,tB true)::T1,[]⟩=some (c2,St)) (hc2:CU c2) (h2f:Hs P ⟨D4 [],E,BB ow,get qs⟩ N (l.drop (k+1)) ts2 [] ⟨[(d,tB false)],[]⟩=some (c3,Sf)) (hc3:CU c3)
  (hQt:Q .normal St Jt true) (hQf:Q .normal Sf Jf false) (hdv:∀ i v,get s.t i=some v->v.dv=true) (hh:s.h=[]):IWp P N Ow n0 (.region id l.toArray true) Q s J true:=by
 have e:l=l.take k++o::l.drop (k+1):=by
  obtain ⟨hk,ho2⟩:=List.getElem?_eq_some_iff.1 ho1
  rw [<- ho2,List.getElem_cons_drop,List.take_append_drop]
 have:=cB (id:=id) hO hm hE (l.take k) o (l.drop (k+1)) ow qs ts ts2 cs T1 hr hdraw hc hms (Nat.le_of_ble_eq_true h2) xs ho hcf hf hxs hv hod hdN hT1 hJg Jt Jf hY c2 c3 St Sf h2t hc2 h2f hc3 hQt hQf hdv hh
 rwa [<- e] at this
theorem Lh {K:AS->(World->Prop)->Bool->Prop} {Q:IQ} {s:AS} {J:World->Prop} {al:Bool} (h:K s J al):ITh K Q .normal s J al:=h
theorem kK {K:AS->(World->Prop)->Bool->Prop} {Q:IQ} {s:AS} {J:World->Prop} {al:Bool} {id:Nat} (h:Q (.exit id) s J al):ITh K Q (.exit id) s J al:=h
theorem ibl_n {Q:IQ} {s:AS} {J:World->Prop} {al:Bool} {id:Nat} (h:Q .normal s J al):IBl id Q .normal s J al:=h
theorem iE {Q:IQ} {s:AS} {J:World->Prop} {al:Bool} {id:Nat} (h:Q .normal s J al):IBl id Q (.exit id) s J al:=by simp only [IBl,if_true];exact h
theorem DT {α:Type} {p:α->Prop}:∀ {l:List (Nat×α)},(∀ x∈l,p x.2)->∀ i v,get l i=some v->p v
 | [],_,_,_,h=>by cases h
 | (k,x)::l,h,i,v,hv=>by
  simp only [get,CQ] at hv
  by_cases hi:k=i
  ·subst hi;simp at hv;subst hv;exact h (k,x) (List.mem_cons_self ..)
  simp [hi] at hv;exact DT (fun y hy=>h y (List.mem_cons_of_mem _ hy)) i v hv
theorem VU {α:Type} [Inhabited α] {sz:Nat} {c:α->List Cl} {xs:List α} (h:∀ x,∀ y∈c x,NM y):NM (lst sz c xs):=by
 refine .list _ _ _ _ fun i j => ?_
 rw [List.getD_eq_getElem?_getD]
 cases hj:(c (xs.getD i default))[j]? with
 | none=>exact .val _
 | some y=>exact h _ y (List.mem_of_getElem? hj)
theorem MV {L:List Cl} {sz len i off:Nat} (h:∀ y∈L,NM y):NM (.eptr sz len (fun _ j=>(L:List Cl).getD j default) i off):=by
 refine .eptr _ _ _ _ _ fun _ j => ?_
 show NM (L.getD j default)
 rw [List.getD_eq_getElem?_getD]
 cases hj:L[j]? with
 | none=>exact .val _
 | some y=>exact h y (List.mem_of_getElem? hj)
theorem bkM {l:List Cl} {ty:TypeId} (h:∀ c∈l,NM c):BkM (.cells l ty):=h
theorem mF {g:FuncId} {k:Nat} {L:List Cl} (h:∀ y∈L,NM y):NM (.clo g k (D9 L)):=by
 refine .clo _ _ _ fun i => ?_
 show NM (L.getD i default)
 rw [List.getD_eq_getElem?_getD]
 cases hj:L[i]? with
 | none=>exact .val _
 | some y=>exact h y (List.mem_of_getElem? hj)
theorem Da {c:Cl} (h:NM c):TvM (.av (.one c)):=fun y hy=>by simp only [Av.cells,List.mem_singleton] at hy;subst hy;exact h
end
end
def IEnd (n:Nat) (JJ Jx:Nat->World->Prop):IQ:=fun e s' J' al'=>(e=.ret\/e=.normal)/\(J'=JJ n\/∃ j,j<n/\J'=Jx (j+1))
theorem iD {P:Program} {gf:FuncId} {fn:Func} {c:Code} (hf:P.funcs[gf]? = some fn) (hb:fn.body=some c) (hnr:fn.results.toList=[]) {k:Nat} {caps:Nat->Cl} {n:Nat} {E:Fin n->List Av} (hE:∀ x,(E x).all Av.isV=true) (hE1:∀ x,∀ e∈E x,∀ c∈e.cells,c.toV.oneCell'=true) (hN:Nat.ble (k+1) fn.ntmps=true) (hcd:∀ i,i<k->(caps i).dv=true)
  (h:∀ (Ow:World->Nat->Prop) (n0 ly:Nat) (JJ Jx:Nat->World->Prop),OwS Ow n0->(∀ j A B,JJ j A->A.grownBy B none->JJ j B) ->
   (∀ j (hj:j<n) W,JJ j W->YieldAt (FW none) 0 P ly ((E ⟨j,hj⟩).map Av.toV).toArray W (fun e W'=>(e=.returned (.bool true)/\JJ (j+1) W'/\KpS Ow W W')\/(e=.returned (.bool false)/\Jx (j+1) W'))) ->
   IWp P fn.ntmps Ow n0 c (IEnd n JJ Jx) ⟨Gc 0 (.one (.val (.func (.yield ly) #[] #[]))::E4 k caps),[]⟩ (JJ 0) true):SM P gf k caps n E:=by
 intro M w cs Ow himm hOs hOw hcs hcaps
 refine ⟨fun x=>((E x).map Av.toV).toArray,fun x => ?_,?_⟩
 ·have h1:=hE x
  have h2:=hE1 x
  show L2 _ (E x) ((E x).map Av.toV)
  generalize E x=l at h1 h2 ⊢
  induction l with
  | nil=>exact .nil
  | cons e l ih =>
   simp only [List.all_cons,Bool.and_eq_true] at h1
   exact .cons (fun σ=>kX h1.1 (h2 e (List.mem_cons_self ..))) (ih h1.2 fun e he=>h2 e (List.mem_cons_of_mem _ he))
 intro l J Jx W hB hJ hJx hY h0
 have hJg:∀ s A B,J s A->A.grownBy B none->J s B:=fun s A B h1 h2=>hJ s A B none h1 h2 (fun r e=>by cases e)
 have hlt:∀ b o,M b=some o->b<w.heap.size:=fun b o hb=>(Array.getElem?_eq_some_iff.1 (himm b o hb)).1
 have himmW:∀ b o,M b=some o->W.heap[b]? = some o:=fun b o hb=>(hB.block b (hlt b o hb)).trans (himm b o hb)
 have hst:∀ b,Ow W b->Ow w b:=hOs.st w W (Nat.le_refl _) fun b hb=>hB.block b hb
 have hbody:=h Ow w.heap.size l (fun j W=>∃ pre:List (Fin n),pre.map Fin.val=List.range j/\J pre W) (fun j W=>∃ pre:List (Fin n),pre.map Fin.val=List.range j/\Jx pre W) hOs (fun j A B ⟨pre,h1,h2⟩ h3=>⟨pre,h1,hJg pre A B h2 h3⟩) (fun j hj W1 ⟨pre,h1,h2⟩=>by
  have hlen:pre.length=j:=by
   have:=congrArg List.length h1
   simpa using this
  have hstep:(pre++[(⟨j,hj⟩:Fin n)]).map Fin.val=List.range (j+1):=by rw [List.map_append,h1,List.range_succ];rfl
  obtain ⟨fn',tm,as',bd,hy,hR⟩:=hY pre (⟨j,hj⟩:Fin n) W1 h2 (by omega)
  refine ⟨fn',tm,as',bd,hy,hR.mono ?_⟩
  rintro e W' (⟨rfl,h3,h4⟩ | ⟨rfl,h3⟩)
  ·exact Or.inl (And.intro rfl (And.intro (Exists.intro _ (And.intro hstep h3)) h4))
  exact Or.inr (And.intro rfl (Exists.intro _ (And.intro hstep h3))))
 obtain ⟨a0,ha0⟩:∃ a0:Act,a0={ tmps:=(#[Value.func (.yield l) #[] #[]]++cs)++Array.replicate (fn.ntmps-(#[Value.func (.yield l) #[] #[]]++cs).size) undef,defers:=[] }:=⟨_,rfl⟩
 have hs0:Sim fn.ntmps W noX M M (fun _=>⟨0,0,false⟩) (get (Gc 0 (.one (.val (.func (.yield l) #[] #[]))::E4 k caps))) (get []) a0 W := ?hs0
 ·have hbod:=hbody W M (fun _=>⟨0,0,false⟩) a0 W ⟨⟨[],rfl,h0⟩,by rw [ha0],fun _=>⟨hB.size,fun b hb=>Nat.lt_of_lt_of_le (hOw b (hst b hb)).1 hB.size,fun b o hb ho=>by rw [(hOw b (hst b ho)).2] at hb;cases hb⟩⟩ hs0
  rw [ha0] at hbod
  refine callsIn_wide.2 (callsIn_wide.1 (callsIn_of_wp_marks (F:=FW none) (n:=0) hf hb trivial (wpIn_mono hbod ?_)))
  clear hbod hs0
  rintro e a' w' ⟨s',J',al',W0',M',σ',⟨he,hend⟩,⟨hJ',hd,_⟩,hs'⟩
  have hgrow:W0'.grownBy w' none:={ os:=hs'.os,tape:=hs'.tape,output:=hs'.output,size:=hs'.size,block:=fun b hb _=>hs'.old b hb (LY b) }
  have hres:(∃ xs:List (Fin n),xs.map Fin.val=List.range n/\J xs w')\/(∃ pre:List (Fin n),(∃ j,j<n/\pre.map Fin.val=List.range (j+1))/\Jx pre w'):=by
   rcases hend with rfl | ⟨j,hj,rfl⟩
   ·obtain ⟨pre,h1,h2⟩:=hJ'
    exact .inl ⟨pre,h1,hJg pre _ _ h2 hgrow⟩
   obtain ⟨pre,h1,h2⟩:=hJ'
   exact .inr ⟨pre,⟨j,hj,h1⟩,hJx pre _ _ none h2 hgrow (fun r e=>by cases e)⟩
  obtain ⟨U,hU,_⟩:=WK (P:=P) (fn:=fn) (r:=.tup []) hs' (by rw [hnr];rfl)
  have key:LeavesInM (FW none) 0 P fn a'.tmps (fun e W'=>(∃ v,e=.returned v)/\((∃ xs:List (Fin n),xs.map Fin.val=List.range n/\J xs W')\/(∃ pre:List (Fin n),(∃ j,j<n/\pre.map Fin.val=List.range (j+1))/\Jx pre W'))) a'.defers .returning w':=by
   rw [hd]
   exact ⟨U,hU,⟨U,rfl⟩,hres⟩
  rcases he with rfl | rfl
  ·exact key
  exact key
 case hs0 =>
  subst ha0
  have hsz:(#[Value.func (.yield l) #[] #[]]++cs).size=k+1:=by simp [hcs];omega
  have hNk:=Nat.le_of_ble_eq_true hN
  refine ⟨rfl,rfl,rfl,Nat.le_refl _,fun _ _ _=>rfl,fun _ _ h=>h,fun b o h h'=>(by rw [h] at h';cases h'),fun m x hx=>(by cases hx),IA.nil,?_,fun i v hv => ?_,himmW,fun m b hb=>(by cases hb),fun m b hb=>(by cases hb),fun m m' b c hb=>(by cases hb)⟩
  ·simp only [Array.size_append,Array.size_replicate] at hsz ⊢
   omega
  obtain ⟨_,x,hx,rfl⟩:=K9 _ _ _ _ hv
  rw [Nat.sub_zero] at hx
  have hargs:L2 (RA M fun _=>⟨0,0,false⟩) (.one (.val (.func (.yield l) #[] #[]))::E4 k caps) (.func (.yield l) #[] #[]::cs.toList):=by
   refine .cons ⟨rfl,rfl⟩ (L2.of (by simp [E4,hcs]) fun i x y hx hy => ?_)
   have hi:i<k:=by have:=(List.getElem?_eq_some_iff.1 hx).1;simpa [E4] using this
   have:=(Lw (σ:=fun _=>⟨0,0,false⟩) (hcd i hi)).2 (hcaps i hi)
   simp only [E4,List.getElem?_map,List.getElem?_range hi,Option.map_some,Option.some.injEq] at hx
   subst hx
   have hy':cs.getD i undef=y:=by
    simp only [Array.getD_eq_getD_getElem?]
    rw [<- Array.getElem?_toList,hy];rfl
   rw [hy'] at this
   exact this
  obtain ⟨u,hu,hRu⟩:=hargs.get i x hx
  have:((#[Value.func (.yield l) #[] #[]]++cs)++Array.replicate (fn.ntmps-(#[Value.func (.yield l) #[] #[]]++cs).size) undef).getD i undef=u:=by
   have hu2:(#[Value.func (.yield l) #[] #[]]++cs)[i]? = some u:=by
    rw [<- Array.getElem?_toList]
    simpa using hu
   have hi:i<(#[Value.func (.yield l) #[] #[]]++cs).size:=(Array.getElem?_eq_some_iff.1 hu2).1
   rw [Array.getD_eq_getD_getElem?,Array.getElem?_append_left hi,hu2];rfl
  show RA M _ x _
  rw [this]
  exact hRu
section
open Go.RowKit
theorem Oz:∀ {l:List Nat} {n:Nat},n∈l->BB l n=true
 | k::r,n,h=>by
  simp only [BB]
  cases hk:Nat.beq k n with
  | true=>rfl
  | false =>
   rcases List.mem_cons.1 h with e | h
   ·rw [e,Nat.beq_refl] at hk;cases hk
   exact Oz h
def Z9 (N:Nat) (pids:List Nat) (fid q:Nat) (t0:List (Nat×Tv)) (h0:List (Nat×Blk)) (ps:Array Tmp):Bool :=
 t0.all (fun p=>pvT pids p.2)&&(h0.all (fun p=>BB pids p.1&&(p.2.isC&&(p.2.no fid && !Nat.beq p.1 fid)))&&(pids.all (fun q=>(get h0 q).isSome&&Nat.ble N q)&&(!BB pids fid&&(Nat.ble N fid&&(BB pids q&&ps.toList.all (fun p=>Nat.blt p N))))))
theorem Sd {fid:Nat}:∀ (ps:List Tmp) (es:List Av) (t:List (Nat×Tv)),(∀ i v,get t i=some v->v.no fid=true)->es.all Av.dv=true->∀ i v,get (OW t ps es) i=some v->v.no fid=true
 | [],_,t,h,_,i,v,hv=>h i v (by cases ‹List Av› <;> exact hv)
 | p::ps,[],t,h,_,i,v,hv=>h i v hv
 | p::ps,e::es,t,h,he,i,v,hv=>by
  simp only [List.all_cons,Bool.and_eq_true] at he
  refine Sd ps es ((p,.av e)::t) (fun j u hu => ?_) he.2 i v hv
  simp only [get,CQ] at hu
  by_cases hj:p=j
  ·subst hj;simp at hu;subst hu;exact Jl he.1
  simp [hj] at hu;exact h j u hu
section
variable {P:Program} {N:Nat} {W0:World} {X:Nat→Option Loc} {M0:Nat→Option Obj}
theorem YG {Q:Exit->AS->Prop} {g:Operand} {ps:Array Tmp} {assign body:Code} {t0:List (Nat×Tv)} {h0:List (Nat×Blk)} (pids:List Nat) (fid q:Nat) {gf:FuncId} {k:Nat} {caps:Nat->Cl} {n:Nat} {E:Fin n->List Av} (t1:Fin n->List (Nat×Tv)) (Fm:Nat->Prop)
  (hX0:∀ m,X m=none) (hg:evT (get t0) g=some (.av (.one (.clo gf k caps)))) (hcd:(Cl.clo gf k caps).dv=true) (eg:∀ args w,(callFunc gf args).run P w=.ok (.enter gf args) w)
  (It:SM P gf k caps n E) (hck:Z9 N pids fid q t0 h0 ps=true) (hE:∀ x,(E x).length=ps.size) (hEd:∀ x,(E x).all Av.dv=true) (hm:HsM h0) (ht1:∀ x,TsM (t1 x)) (hF:Fm 0)
  (hassign:∀ l W1 M1 X1 x,PX pids X1->AWp P (some l) N W1 X1 M1 assign (fun e s'=>e=.normal/\s'=⟨t1 x,h0⟩) ⟨OW t0 ps.toList (E x),h0⟩)
  (hbody:∀ l W1 M1 X1 (x:Fin n),PX pids X1->AWp P (some l) N W1 X1 M1 body (kN Q t0 h0 Fm x.val) ⟨t1 x,h0⟩)
  (hdone:Fm n->Q .normal ⟨t0,h0⟩):AWp P none N W0 X M0 (.rangeFunc g ps assign body) Q ⟨t0,h0⟩:=by
 unfold Z9 at hck
 simp only [Bool.and_eq_true] at hck
 obtain ⟨c1,c2,c3,c4,c5,c6,c7⟩:=hck
 have hfp:BB pids fid=false:=by simpa using c4
 have hh:∀ m b,get h0 m=some b->BB pids m=true/\b.isC=true/\b.no fid=true/\m≠fid:=fun m b hb=>by
  have:=List.all_eq_true.1 c2 (m,b) (DL hb)
  simp only [Bool.and_eq_true] at this
  refine ⟨this.1,this.2.1,this.2.2.1,fun e => ?_⟩
  have h4:=this.2.2.2
  rw [e,Nat.beq_refl] at h4
  cases h4
 have hpv:∀ i v,get t0 i=some v->pvT pids v=true/\v.no fid=true:=fun i v hv=>by
  have h1:=List.all_eq_true.1 c1 (i,v) (DL hv)
  refine ⟨h1,?_⟩
  cases hn:v.no fid with
  | true=>rfl
  | false=>have:=Oz (aA h1 hn);rw [hfp] at this;cases this
 refine dZ pids fid q (fun x=>⟨t1 x,h0⟩) Fm (fun ⟨m,x,h1,_⟩=>by rw [hX0] at h1;cases h1) (hX0 fid) (fun m x h1=>by rw [hX0] at h1;cases h1) hg hcd eg It hE (fun p hp => ?_) hpv hh (fun m hm' => ?_) hfp (Nat.le_of_ble_eq_true c5) (fun m hm' => ?_) (fun m hm'=>Oz hm') c6 (fun x i v hv=>Sd _ _ _ (fun j u hu=>(hpv j u hu).2) (hEd x) i v hv) hm (fun x=>⟨ht1 x,hm,fun _ _ h=>h,fun m b hb=>⟨(hh m b hb).1,(hh m b hb).2.1⟩⟩) hF hassign hbody hdone
 ·have:=Nat.le_of_ble_eq_true (List.all_eq_true.1 c7 p hp)
  exact this
 ·have:=List.all_eq_true.1 c3 m (Hy hm')
  simp only [Bool.and_eq_true] at this
  exact Option.isSome_iff_exists.1 this.1
 have:=List.all_eq_true.1 c3 m hm'
 simp only [Bool.and_eq_true] at this
 exact Nat.le_of_ble_eq_true this.2
end
end
section
open Go.RowKit Go.MapKept
section
variable {K V:Type} [Inhabited K] [Inhabited V]
def kfG (ck:K->Value) (l:List (K×V)):Nat->Value:=fun i=>ck (l.getD i default).1
def vfG (c:V->List Cl) (l:List (K×V)):Nat->Nat->Cl:=fun i j=>(c (l.getD i default).2).getD j default
def El (eq:K->K->Bool) (l:List (K×V)) (k:K):Bool:=l.any fun e=>eq e.1 k
def Dm (eq:K->K->Bool) (l:List (K×V)) (k:K):Nat:=l.findIdx fun e=>eq e.1 k
def K6 (eq:K->K->Bool) (l:List (K×V)) (k:K) (v:V):List (K×V):=bif El eq l k then l.set (Dm eq l k) (k,v) else l++[(k,v)]
theorem Oy {eq:K->K->Bool} {l:List (K×V)} {k:K} (h:El eq l k=true):Dm eq l k<l.length/\eq (l.getD (Dm eq l k) default).1 k=true/\∀ j,j<Dm eq l k->eq (l.getD j default).1 k=false:=by
 unfold El at h
 obtain ⟨x,hx,hxk⟩:=List.any_eq_true.1 h
 have hlt:l.findIdx (fun e=>eq e.1 k)<l.length:=List.findIdx_lt_length.2 ⟨x,hx,hxk⟩
 refine ⟨hlt,?_,fun j hj => ?_⟩
 ·have:=List.findIdx_getElem (w:=hlt)
  unfold Dm
  rw [List.getD_eq_getElem?_getD,List.getElem?_eq_getElem hlt]
  exact this
 have:=List.not_of_lt_findIdx hj
 have hj':j<l.length:=Nat.lt_trans hj hlt
 rw [List.getD_eq_getElem?_getD,List.getElem?_eq_getElem hj']
 exact this
theorem gU {eq:K->K->Bool} {l:List (K×V)} {k:K} (h:El eq l k=false):∀ j,j<l.length->eq (l.getD j default).1 k=false:=by
 intro j hj
 unfold El at h
 have:=(List.any_eq_false.1 h) l[j] (List.getElem_mem hj)
 rw [List.getD_eq_getElem?_getD,List.getElem?_eq_getElem hj]
 simpa using this
theorem TQ {P:Program} {E:TypeId->Option (List Kd)} {kt:TypeId} {ck:K->Value} {eq:K->K->Bool} (heq:∀ a b,eq a b=true↔ck a=ck b) (hfit:∀ k,F3 P E kt (ck k)) (l:List (K×V)) (k:K) :
  T4 P E kt l.length (kfG ck l) (ck k) (El eq l k) (Dm eq l k):=by
 refine ⟨hfit k,fun j _=>hfit _,fun h => ?_,fun h j hj => ?_⟩
 ·obtain ⟨h1,h2,h3⟩:=Oy h
  refine ⟨h1,(heq _ _).1 h2,fun j hj e => ?_⟩
  have:=(heq _ _).2 e
  rw [h3 j hj] at this
  cases this
 intro e
 have:=(heq _ _).2 e
 rw [gU h j hj] at this
 cases this
omit [Inhabited K] [Inhabited V] in
theorem TL (eq:K->K->Bool) (l:List (K×V)) (k:K) (v:V):(bif El eq l k then l.length else l.length+1)=(K6 eq l k v).length:=by
 unfold K6
 cases El eq l k <;> simp
theorem TM {eq:K->K->Bool} {l:List (K×V)} {k:K} {v:V} (j:Nat) (hj:j<(K6 eq l k v).length):(K6 eq l k v).getD j default=bif Nat.beq j (bif El eq l k then Dm eq l k else l.length) then (k,v) else l.getD j default:=by
 rw [<- TL] at hj
 unfold K6
 cases h:El eq l k with
 | true =>
  rw [h] at hj
  simp only [cond_true] at *
  have hlt:=(Oy h).1
  rw [List.getD_eq_getElem?_getD,List.getElem?_set,CQ]
  by_cases e:Dm eq l k=j
  ·subst e;simp [hlt]
  rw [if_neg e,decide_eq_false (Ne.symm e),cond_false,List.getD_eq_getElem?_getD]
 | false =>
  rw [h] at hj
  simp only [cond_false] at *
  rw [List.getD_eq_getElem?_getD,CQ]
  by_cases e:j=l.length
  ·subst e
   rw [decide_eq_true rfl,cond_true,List.getElem?_append_right (Nat.le_refl _),Nat.sub_self]
   rfl
  rw [decide_eq_false e,cond_false,List.getElem?_append_left (by omega),List.getD_eq_getElem?_getD]
theorem dV {ck:K->Value} {cv:V->List Cl} {eq:K->K->Bool} {agg:Bool} {nv:Nat} (l:List (K×V)) (k:K) (v:V) (cells:List Cl) (hc:cells=cv v) :
  I1 (.omap agg nv (bif El eq l k then l.length else l.length+1) (fun j=>bif Nat.beq j (bif El eq l k then Dm eq l k else l.length) then ck k else kfG ck l j) (fun j c=>bif Nat.beq j (bif El eq l k then Dm eq l k else l.length) then cells.getD c default else vfG cv l j c))
   (.omap agg nv (K6 eq l k v).length (kfG ck (K6 eq l k v)) (vfG cv (K6 eq l k v))):=by
 subst hc
 refine .omap agg nv (TL eq l k v) (fun j hj => ?_) (fun j c hj _ => ?_)
 ·unfold kfG
  rw [TM j hj]
  cases Nat.beq j (bif El eq l k then Dm eq l k else l.length) <;> rfl
 have:(bif Nat.beq j (bif El eq l k then Dm eq l k else l.length) then (cv v).getD c default else vfG cv l j c)=vfG cv (K6 eq l k v) j c:=by
  unfold vfG
  rw [TM j hj]
  cases Nat.beq j (bif El eq l k then Dm eq l k else l.length) <;> rfl
 rw [this]
 exact .refl _
theorem dW {ck:K->Value} {cv:V->List Cl} {agg:Bool} {nv:Nat}:I1 (.omap agg nv 0 (fun _=>undef) (fun _ _=>default)) (.omap agg nv ([]:List (K×V)).length (kfG ck ([]:List (K×V))) (vfG cv ([]:List (K×V)))) :=
 .omap agg nv rfl (fun j hj=>absurd hj (Nat.not_lt_zero _)) (fun j c hj _=>absurd hj (Nat.not_lt_zero _))
end
def eqS (a b:ByteArray):Bool:=a.toList==b.toList
theorem Vg (a b:ByteArray):eqS a b=true↔Value.string a=Value.string b:=by
 unfold eqS
 rw [beq_iff_eq,Value.string.injEq]
 exact ⟨dY,fun h=>by rw [h]⟩
theorem Wy {P:Program} {E:TypeId->Option (List Kd)} {kt:TypeId} (h:P.underlying kt=some .string) (k:ByteArray):F3 P E kt (.string k):=.inl ⟨_,h,trivial⟩
end
section
open Go.RowKit
theorem KU:Try.prog.follows .mixedOrders=true:=by kernel_rfl
structure AD where
 X:Int
 Y:Int
 deriving Inhabited
def AD.c (x:AD):List Cl:=[.i x.X,.i x.Y]
structure BO where
 At:AD
 Turn:Int
 Mirror:Bool
 deriving Inhabited
def BO.c (x:BO):List Cl:=[.i x.At.X,.i x.At.Y,.i x.Turn,.b x.Mirror]
structure AG where
 Kind:Int
 A:AD
 B:AD
 C:AD
 deriving Inhabited
def AG.c (x:AG):List Cl:=[.i x.Kind,.i x.A.X,.i x.A.Y,.i x.B.X,.i x.B.Y,.i x.C.X,.i x.C.Y]
structure AE where
 L:(List Int)
 At:Int
 deriving Inhabited
def AE.c (x:AE):List Cl:=[lst 1 (fun x=>[.i x]) x.L,.i x.At]
structure OpL where
 len:Nat
 f:Nat->Nat->Cl
 deriving Inhabited
abbrev opL (x:OpL):Cl:=.list false 8 x.len x.f
structure AX where
 Kind:Int
 Edges:(List AG)
 R:Int
 deriving Inhabited
def AX.c (x:AX):List Cl:=[.i x.Kind,lst 7 AG.c x.Edges,.i x.R]
structure AO where
 Id:Int
 Net:ByteArray
 Layer:Int
 Shape:AX
 deriving Inhabited
def AO.c (x:AO):List Cl:=[.i x.Id,.s x.Net,.i x.Layer,.i x.Shape.Kind,lst 7 AG.c x.Shape.Edges,.i x.Shape.R]
structure AU where
 Id:Int
 Ref:ByteArray
 Type':ByteArray
 At:AD
 Turn:Int
 Under:Bool
 deriving Inhabited
def AU.c (x:AU):List Cl:=[.i x.Id,.s x.Ref,.s x.Type',.i x.At.X,.i x.At.Y,.i x.Turn,.b x.Under]
structure Ag where
 Ref:ByteArray
 Pad:ByteArray
 deriving Inhabited
def Ag.c (x:Ag):List Cl:=[.s x.Ref,.s x.Pad]
structure A9 where
 Name:ByteArray
 Pins:(List Ag)
 deriving Inhabited
def A9.c (x:A9):List Cl:=[.s x.Name,lst 2 Ag.c x.Pins]
structure BW where
 Id:Int
 Net:ByteArray
 At:AD
 R:Int
 Drill:Int
 From:Int
 To:Int
 deriving Inhabited
def BW.c (x:BW):List Cl:=[.i x.Id,.s x.Net,.i x.At.X,.i x.At.Y,.i x.R,.i x.Drill,.i x.From,.i x.To]
structure Ah where
 X0:Int
 Y0:Int
 X1:Int
 Y1:Int
 deriving Inhabited
def Ah.c (x:Ah):List Cl:=[.i x.X0,.i x.Y0,.i x.X1,.i x.Y1]
structure A4 where
 Id:Int
 Net:ByteArray
 Layer:Int
 Pitch:Int
 Priority:Int
 Relief:Int
 Spoke:Int
 Rects:(List Ah)
 deriving Inhabited
def A4.c (x:A4):List Cl:=[.i x.Id,.s x.Net,.i x.Layer,.i x.Pitch,.i x.Priority,.i x.Relief,.i x.Spoke,lst 4 Ah.c x.Rects]
structure A5 where
 Id:Int
 Layer:Int
 Shape:AX
 deriving Inhabited
def A5.c (x:A5):List Cl:=[.i x.Id,.i x.Layer,.i x.Shape.Kind,lst 7 AG.c x.Shape.Edges,.i x.Shape.R]
structure BC where
 Id:Int
 Shape:AX
 deriving Inhabited
def BC.c (x:BC):List Cl:=[.i x.Id,.i x.Shape.Kind,lst 7 AG.c x.Shape.Edges,.i x.Shape.R]
structure BE where
 Name:ByteArray
 Nets:(List ByteArray)
 deriving Inhabited
def BE.c (x:BE):List Cl:=[.s x.Name,lst 1 (fun x=>[.s x]) x.Nets]
structure Bl where
 Op:Int
 Text:ByteArray
 N:Int
 Box:Ah
 L:OpL
 deriving Inhabited
def Bl.c (x:Bl):List Cl:=[.i x.Op,.s x.Text,.i x.N,.i x.Box.X0,.i x.Box.Y0,.i x.Box.X1,.i x.Box.Y1,opL x.L]
structure Az where
 Name:ByteArray
 Priority:Int
 What:Int
 A:Bl
 B:Bl
 Value:Int
 deriving Inhabited
def Az.c (x:Az):List Cl:=[.s x.Name,.i x.Priority,.i x.What,.i x.A.Op,.s x.A.Text,.i x.A.N,.i x.A.Box.X0,.i x.A.Box.Y0,.i x.A.Box.X1,.i x.A.Box.Y1,opL x.A.L,.i x.B.Op,.s x.B.Text,.i x.B.N,.i x.B.Box.X0,.i x.B.Box.Y0,.i x.B.Box.X1,.i x.B.Box.Y1,opL x.B.L,.i x.Value]
structure An where
 A:Int
 B:Int
 Rule:ByteArray
 deriving Inhabited
def An.c (x:An):List Cl:=[.i x.A,.i x.B,.s x.Rule]
structure AN where
 Name:ByteArray
 Nets:(List ByteArray)
 Within:Int
 deriving Inhabited
def AN.c (x:AN):List Cl:=[.s x.Name,lst 1 (fun x=>[.s x]) x.Nets,.i x.Within]
structure AC where
 Layers:Int
 Outline:AX
 Parts:(List AU)
 Nets:(List A9)
 Tracks:(List AO)
 Vias:(List BW)
 Pours:(List A4)
 Keeps:(List A5)
 Slots:(List BC)
 Classes:(List BE)
 Rules:(List Az)
 Waivers:(List An)
 Matches:(List AN)
 deriving Inhabited
def AC.c (x:AC):List Cl:=[.i x.Layers,.i x.Outline.Kind,lst 7 AG.c x.Outline.Edges,.i x.Outline.R,lst 7 AU.c x.Parts,lst 2 A9.c x.Nets,lst 6 AO.c x.Tracks,lst 8 BW.c x.Vias,lst 8 A4.c x.Pours,lst 5 A5.c x.Keeps,lst 4 BC.c x.Slots,lst 2 BE.c x.Classes,lst 20 Az.c x.Rules,lst 3 An.c x.Waivers,lst 3 AN.c x.Matches]
structure EO where
 e0:Int
 e1:Int
 e2:Int
 deriving Inhabited
def EO.c (x:EO):List Cl:=[.i x.e0,.i x.e1,.i x.e2]
structure FG where
 Shape:(List Int)
 Edge:(List Int)
 Board:(List (List Int))
 Odd:EO
 deriving Inhabited
def FG.c (x:FG):List Cl:=[lst 1 (fun x=>[.i x]) x.Shape,lst 1 (fun x=>[.i x]) x.Edge,lst 1 (fun x=>[lst 1 (fun x=>[.i x]) x]) x.Board,.i x.Odd.e0,.i x.Odd.e1,.i x.Odd.e2]
structure TRaw where
 Edge:AG
 Shape:AX
 deriving Inhabited
def TRaw.c (x:TRaw):List Cl:=[.i x.Edge.Kind,.i x.Edge.A.X,.i x.Edge.A.Y,.i x.Edge.B.X,.i x.Edge.B.Y,.i x.Edge.C.X,.i x.Edge.C.Y,.i x.Shape.Kind,lst 7 AG.c x.Shape.Edges,.i x.Shape.R]
structure Eb where
 Name:ByteArray
 Shape:AX
 At:AD
 Drill:Int
 deriving Inhabited
def Eb.c (x:Eb):List Cl:=[.s x.Name,.i x.Shape.Kind,lst 7 AG.c x.Shape.Edges,.i x.Shape.R,.i x.At.X,.i x.At.Y,.i x.Drill]
structure Ct where
 Pad:ByteArray
 Group:Int
 deriving Inhabited
def Ct.c (x:Ct):List Cl:=[.s x.Pad,.i x.Group]
structure B3 where
 Kind:Int
 Legs:(List Ct)
 deriving Inhabited
def B3.c (x:B3):List Cl:=[.i x.Kind,lst 2 Ct.c x.Legs]
structure BA where
 Name:ByteArray
 Pads:(List Eb)
 Gates:(List B3)
 deriving Inhabited
def BA.c (x:BA):List Cl:=[.s x.Name,lst 7 Eb.c x.Pads,lst 2 B3.c x.Gates]
def eqE:TypeId->Option (List Kd):=fun T=>get [(31,[.int .i64,.int .i64])] T
theorem DU:Jr Try.prog ⟨fun _=>none,eqE,fun _=>false,fun _=>none⟩:=by
 intro T ks h
 have hm:(T,ks)∈_:=DL h
 simp only [List.mem_cons,Prod.mk.injEq,List.not_mem_nil,or_false] at hm
 obtain ⟨rfl,rfl⟩:=hm
 exact ⟨by kernel_rfl,by kernel_rfl,_,rfl,rfl⟩
theorem rg {rd:Option Nat} {N:Nat} {W0:World} {X:Nat→Option Loc} {M0:Nat→Option Obj} {Q:Exit→AS→Prop} {s:AS} {id:Nat} {l:List Oper} (S:AS) (h:Q .normal S) (hr:Hs Try.prog ⟨D4 [],eqE,BB [],get []⟩ N l (S.t.map Prod.fst) (S.h.map Prod.fst) s=some ([],S):=by kernel_rfl):AWp Try.prog rd N W0 X M0 (.region id l.toArray false) Q s:=CN DU [] [] [] _ _ [] S .nil hr .nil h
theorem rn {rd:Option Nat} {N:Nat} {W0:World} {X:Nat→Option Loc} {M0:Nat→Option Obj} {K:AS→Prop} {Q:Exit→AS→Prop} {s:AS} {id:Nat} {l:List Oper} (S:AS) (h:K S) (hr:Hs Try.prog ⟨D4 [],eqE,BB [],get []⟩ N l (S.t.map Prod.fst) (S.h.map Prod.fst) s=some ([],S):=by kernel_rfl):AWp Try.prog rd N W0 X M0 (.region id l.toArray false) (ATh K Q) s:=rg S (AF h) hr
theorem rc {rd:Option Nat} {N:Nat} {W0:World} {X:Nat→Option Loc} {M0:Nat→Option Obj} {Q:Exit→AS→Prop} {s:AS} {id:Nat} {l:List Oper} (tbl:List (Nat×FuncId×List Av×Ef)) (cs:List Prop) (S:AS) (htbl:HM Try.prog tbl) (hc:CU cs) (h:Q .normal S) (hr:Hs Try.prog ⟨D4 tbl,eqE,BB [],get []⟩ N l (S.t.map Prod.fst) (S.h.map Prod.fst) s=some (cs,S):=by kernel_rfl):AWp Try.prog rd N W0 X M0 (.region id l.toArray false) Q s:=CN DU [] [] tbl _ _ cs S htbl hr hc h
abbrev gi (c:Bool):Prop:=c=false→c=false
abbrev gt (c:Bool):Prop:=c=true→c=true
abbrev gj (c:Bool) (p:Prop):Prop:=c=false→p
abbrev gk (c:Bool) (p:Prop):Prop:=c=true→p
theorem ci {p:Prop} {l:List Prop} (h:CU l):CU ((p→p)::l):=.cons id h
abbrev tO (c:Cl):Tv:=.av (.one c)
abbrev gD (l:List Cl):Nat→Nat→Cl:=fun _ j_=>l.getD j_ default
theorem rr {a:Cl} {x y:List Cl} (h:L2 ClE x y):L2 ClE (a::x) (a::y):=.cons (.refl _) h
theorem oT {p:Prop} [Decidable p] (h:decide p=true):p:=of_decide_eq_true h
theorem oF {p:Prop} [Decidable p] (h:decide p=false):¬ p:=of_decide_eq_false h
theorem vk {N:Nat} {W0:World} {X:Nat→Option Loc} {M0:Nat→Option Obj} {s:AS} (ts ns:List Nat):Cv N W0 X M0 s (Lg ts ns s):=CG ts ns _ rfl
theorem ck {N:Nat} {W0:World} {X:Nat→Option Loc} {M0:Nat→Option Obj} {s:AS} (S:AS) (h:Lg (S.t.map Prod.fst) (S.h.map Prod.fst) s=S:=by kernel_rfl):Cv N W0 X M0 s S:=CG _ _ S h
theorem wr {N:Nat} {W0:World} {X:Nat→Option Loc} {M0:Nat→Option Obj} {s:AS} {K:List Nat} (S:AS) (q d:Nat) (hX:C8 X W0 K) (h1:MU K q=true:=by kernel_rfl) (h2:MU K d=true:=by kernel_rfl) (hd:noD d s=true:=by kernel_rfl) (hS:fI q d s=S:=by kernel_rfl):Cv N W0 X M0 s S:=CM S q d hX h1 h2 hd hS
theorem vr {N:Nat} {W0:World} {X:Nat→Option Loc} {M0:Nat→Option Obj} {s:AS} {K:List Nat} (q d:Nat) (hX:C8 X W0 K) (h1:MU K q=true:=by kernel_rfl) (h2:MU K d=true:=by kernel_rfl) (hd:noD d s=true:=by kernel_rfl):Cv N W0 X M0 s (fI q d s):=wr _ q d hX h1 h2 hd rfl
theorem vf {N:Nat} {W0:World} {X:Nat→Option Loc} {M0:Nat→Option Obj} {s:AS} {K:List Nat} (n:Nat) (hX:C8 X W0 K) (hk:fzK K n s=true:=by kernel_rfl) (he:prS n s=fzE n s:=by kernel_rfl):Cv N W0 X M0 s (fzN n s):=Vj n hX hk he
theorem wg {N:Nat} {W0:World} {X:Nat→Option Loc} {M0:Nat→Option Obj} {s:AS} {K:List Nat} (S:AS) (d sz:Nat) (f:Nat→Nat→Cl) (ty:TypeId) (it ih:List (Nat×List Nat)) (hX:C8 X W0 K) (h2:MU K d=true:=by kernel_rfl) (hd:noD d s=true:=by kernel_rfl) (hS:ghS d sz f ty it ih s=S:=by kernel_rfl):Cv N W0 X M0 s S:=Fx S d sz f ty it ih hX h2 hd hS
theorem vg {N:Nat} {W0:World} {X:Nat→Option Loc} {M0:Nat→Option Obj} {s:AS} {K:List Nat} (d sz:Nat) (f:Nat→Nat→Cl) (ty:TypeId) (it ih:List (Nat×List Nat)) (hX:C8 X W0 K) (h2:MU K d=true:=by kernel_rfl) (hd:noD d s=true:=by kernel_rfl):Cv N W0 X M0 s (ghS d sz f ty it ih s):=wg _ d sz f ty it ih hX h2 hd rfl
theorem rs {rd:Option Nat} {N:Nat} {W0:World} {X:Nat→Option Loc} {M0:Nat→Option Obj} {Q:Exit→AS→Prop} {s:AS} {id:Nat} {l:List Oper} (d:Nat) (c:FuncId×List Av×Ef) (S:AS) (hx:FK Try.prog c.1 c.2.1 c.2.2) (h:Q .normal S) (hr:Hs Try.prog ⟨D4 [(d,c)],eqE,BB [],get []⟩ N l (S.t.map Prod.fst) (S.h.map Prod.fst) s=some ([As c.2.1],S):=by kernel_rfl):AWp Try.prog rd N W0 X M0 (.region id l.toArray false) Q s:=rc _ _ S (.cons hx .nil) (.cons rfl .nil) h hr
theorem rb {rd:Option Nat} {N:Nat} {W0:World} {X:Nat→Option Loc} {M0:Nat→Option Obj} {Q:Exit→AS→Prop} {s:AS} {id:Nat} {l:List Oper} (d:Nat) (c:FuncId×List Av×Ef) (b:Blk) (S:AS) (hx:FK Try.prog c.1 c.2.1 c.2.2) (h:Q .normal S) (hr:Hs Try.prog ⟨D4 [(d,c)],eqE,BB [],get []⟩ N l (S.t.map Prod.fst) (S.h.map Prod.fst) s=some ([As c.2.1,CL b],S):=by kernel_rfl):AWp Try.prog rd N W0 X M0 (.region id l.toArray false) Q s:=rc _ _ S (.cons hx .nil) (.cons rfl (.cons rfl .nil)) h hr
theorem nz {a:Nat} {p:Prop} (h:a<0):p:=absurd h (Nat.not_lt_zero _)
abbrev gp (p:Prop):Prop:=p→p
abbrev t2 (c:Bool) (l:List Prop):List Prop:=gt c::gt c::l
abbrev i2 (c:Bool) (l:List Prop):List Prop:=gi c::gi c::l
theorem c2 {p:Prop} {l:List Prop} (h:CU l):CU ((p→p)::(p→p)::l):=ci (ci h)
abbrev t3 (c:Bool) (l:List Prop):List Prop:=gt c::gt c::gt c::l
abbrev i3 (c:Bool) (l:List Prop):List Prop:=gi c::gi c::gi c::l
theorem c3 {p:Prop} {l:List Prop} (h:CU l):CU ((p→p)::(p→p)::(p→p)::l):=ci (ci (ci h))
abbrev t4 (c:Bool) (l:List Prop):List Prop:=gt c::gt c::gt c::gt c::l
abbrev i4 (c:Bool) (l:List Prop):List Prop:=gi c::gi c::gi c::gi c::l
theorem c4 {p:Prop} {l:List Prop} (h:CU l):CU ((p→p)::(p→p)::(p→p)::(p→p)::l):=ci (ci (ci (ci h)))
abbrev t5 (c:Bool) (l:List Prop):List Prop:=gt c::gt c::gt c::gt c::gt c::l
abbrev i5 (c:Bool) (l:List Prop):List Prop:=gi c::gi c::gi c::gi c::gi c::l
theorem c5 {p:Prop} {l:List Prop} (h:CU l):CU ((p→p)::(p→p)::(p→p)::(p→p)::(p→p)::l):=ci (ci (ci (ci (ci h))))
theorem xl {P:Program} {N:Nat} {W0:World} {X:Nat→Option Loc} {M0:Nat→Option Obj} {fn:Func} {φ:Tv→AS→Prop} {s:AS} (V:Tv) (h:φ V s) (hr:Ob P s fn.results.toList=some V:=by kernel_rfl):My P N W0 X M0 fn φ .ret s:=⟨_,Cv.refl _,.inl rfl,V,hr,h⟩
theorem xn {P:Program} {N:Nat} {W0:World} {X:Nat→Option Loc} {M0:Nat→Option Obj} {fn:Func} {φ:Tv→AS→Prop} {s:AS} (V:Tv) (h:φ V s) (hr:Ob P s fn.results.toList=some V:=by kernel_rfl):My P N W0 X M0 fn φ .normal s:=⟨_,Cv.refl _,.inr rfl,V,hr,h⟩
theorem yl {P:Program} {N:Nat} {W0:World} {X:Nat→Option Loc} {M0:Nat→Option Obj} {fn:Func} {φ:Tv→AS→Prop} {s t:AS} (cv:Cv N W0 X M0 s t) (V:Tv) (h:φ V t) (hr:Ob P t fn.results.toList=some V:=by kernel_rfl):My P N W0 X M0 fn φ .ret s:=⟨_,cv,.inl rfl,V,hr,h⟩
theorem yn {P:Program} {N:Nat} {W0:World} {X:Nat→Option Loc} {M0:Nat→Option Obj} {fn:Func} {φ:Tv→AS→Prop} {s t:AS} (cv:Cv N W0 X M0 s t) (V:Tv) (h:φ V t) (hr:Ob P t fn.results.toList=some V:=by kernel_rfl):My P N W0 X M0 fn φ .normal s:=⟨_,cv,.inr rfl,V,hr,h⟩
theorem dw {rd:Option Nat} {N:Nat} {W0:World} {X:Nat→Option Loc} {M0:Nat→Option Obj} {Q:Exit→AS→Prop} {s:AS} {id:Nat} {l:List Oper} (ow:List Nat) (tbl:List (Nat×FuncId×List Av×Ef)) (cs:List Prop) (S:AS) (htbl:HM Try.prog tbl) (hc:CU cs) (h:Q .normal S) (hr:Hs Try.prog ⟨D4 tbl,eqE,BB ow,get []⟩ N l (S.t.map Prod.fst) (S.h.map Prod.fst) s=some (cs,S):=by kernel_rfl) (hd:PD Try.prog ⟨D4 tbl,eqE,BB ow,get []⟩ N l s=true:=by kernel_rfl):AWp Try.prog rd N W0 X M0 (.region id l.toArray true) Q s:=XC KU DU ow [] tbl _ _ cs S htbl hr hd hc h
def runW (P:Program) (V:Env P) (N:Nat) (l:List Oper) (s:AS):AS:=match JW P V N l.toArray l s with
  | some (_,t)=>t
  | none=>s
def runC (P:Program) (V:Env P) (N:Nat) (l:List Oper) (s:AS):Option (List Prop):=match JW P V N l.toArray l s with
  | some (c,_)=>some c
  | none=>none
theorem runWC {P:Program} {V:Env P} {N:Nat} {l:List Oper} {s:AS} {c:List Prop} (h:runC P V N l s=some c):JW P V N l.toArray l s=some (c,runW P V N l s):=by
  unfold runC at h
  unfold runW
  split at h
  · rename_i h1
    rw [h1]
    injection h with h
    subst h
    rfl
  · cases h
theorem oc {rd:Option Nat} {N:Nat} {W0:World} {X:Nat→Option Loc} {M0:Nat→Option Obj} {Q:Exit→AS→Prop} {s:AS} {id:Nat} {l:List Oper} (tbl:List (Nat×FuncId×List Av×Ef)) (cs:List Prop) (htbl:HM Try.prog tbl) (hc:CU cs) (h:Q .normal (runW Try.prog ⟨D4 tbl,eqE,BB [],get []⟩ N l s)) (hr:runC Try.prog ⟨D4 tbl,eqE,BB [],get []⟩ N l s=some cs:=by kernel_rfl):AWp Try.prog rd N W0 X M0 (.region id l.toArray false) Q s:=by
  have hV:=htbl.env (O:=BB []) (q:=get []) DU
  intro M σ a w hs
  exact wpIn_region_lit (LS hV l s _ cs (runWC hr) hc M σ a w hs fun M' σ' a' w' hs'=>⟨_,M',σ',h,hs'⟩)
theorem og {rd:Option Nat} {N:Nat} {W0:World} {X:Nat→Option Loc} {M0:Nat→Option Obj} {Q:Exit→AS→Prop} {s:AS} {id:Nat} {l:List Oper} (h:Q .normal (runW Try.prog ⟨D4 [],eqE,BB [],get []⟩ N l s)) (hr:runC Try.prog ⟨D4 [],eqE,BB [],get []⟩ N l s=some []:=by kernel_rfl):AWp Try.prog rd N W0 X M0 (.region id l.toArray false) Q s:=oc [] [] .nil .nil h hr
theorem on {rd:Option Nat} {N:Nat} {W0:World} {X:Nat→Option Loc} {M0:Nat→Option Obj} {K:AS→Prop} {Q:Exit→AS→Prop} {s:AS} {id:Nat} {l:List Oper} (h:K (runW Try.prog ⟨D4 [],eqE,BB [],get []⟩ N l s)) (hr:runC Try.prog ⟨D4 [],eqE,BB [],get []⟩ N l s=some []:=by kernel_rfl):AWp Try.prog rd N W0 X M0 (.region id l.toArray false) (ATh K Q) s:=og (AF h) hr
theorem oq {rd:Option Nat} {N:Nat} {W0:World} {X:Nat→Option Loc} {M0:Nat→Option Obj} {Q:Exit→AS→Prop} {s:AS} {id:Nat} {l:List Oper} (d:Nat) (c:FuncId×List Av×Ef) (hx:FK Try.prog c.1 c.2.1 c.2.2) (h:Q .normal (runW Try.prog ⟨D4 [(d,c)],eqE,BB [],get []⟩ N l s)) (hr:runC Try.prog ⟨D4 [(d,c)],eqE,BB [],get []⟩ N l s=some [As c.2.1]:=by kernel_rfl):AWp Try.prog rd N W0 X M0 (.region id l.toArray false) Q s:=oc [(d,c)] [As c.2.1] (.cons hx .nil) (.cons rfl .nil) h hr
theorem od {rd:Option Nat} {N:Nat} {W0:World} {X:Nat→Option Loc} {M0:Nat→Option Obj} {Q:Exit→AS→Prop} {s:AS} {id:Nat} {l:List Oper} (ow:List Nat) (tbl:List (Nat×FuncId×List Av×Ef)) (cs:List Prop) (htbl:HM Try.prog tbl) (hc:CU cs) (h:Q .normal (Lg (runW Try.prog ⟨D4 tbl,eqE,BB ow,get []⟩ N l s |>.t.map Prod.fst) (runW Try.prog ⟨D4 tbl,eqE,BB ow,get []⟩ N l s |>.h.map Prod.fst) (runW Try.prog ⟨D4 tbl,eqE,BB ow,get []⟩ N l s))) (hr:runC Try.prog ⟨D4 tbl,eqE,BB ow,get []⟩ N l s=some cs:=by kernel_rfl) (hd:PD Try.prog ⟨D4 tbl,eqE,BB ow,get []⟩ N l s=true:=by kernel_rfl):AWp Try.prog rd N W0 X M0 (.region id l.toArray true) Q s:=XC KU DU ow [] tbl _ _ cs _ htbl (by unfold Hs;rw [runWC hr]) hd hc h
theorem zl {P:Program} {N:Nat} {W0:World} {X:Nat→Option Loc} {M0:Nat→Option Obj} {fn:Func} {s:AS} {r:Tv} (hr:Ob P s fn.results.toList=some r:=by kernel_rfl):My P N W0 X M0 fn (fun r' _=>TvE r' r) .ret s:=xl r (.refl r) hr
theorem zn {P:Program} {N:Nat} {W0:World} {X:Nat→Option Loc} {M0:Nat→Option Obj} {fn:Func} {s:AS} {r:Tv} (hr:Ob P s fn.results.toList=some r:=by kernel_rfl):My P N W0 X M0 fn (fun r' _=>TvE r' r) .normal s:=xn r (.refl r) hr
theorem zy {P:Program} {N:Nat} {W0:World} {X:Nat→Option Loc} {M0:Nat→Option Obj} {fn:Func} {s t:AS} {r:Tv} (cv:Cv N W0 X M0 s t) (hr:Ob P t fn.results.toList=some r:=by kernel_rfl):My P N W0 X M0 fn (fun r' _=>TvE r' r) .ret s:=yl cv r (.refl r) hr
theorem zx {P:Program} {N:Nat} {W0:World} {X:Nat→Option Loc} {M0:Nat→Option Obj} {fn:Func} {s t:AS} {r:Tv} (cv:Cv N W0 X M0 s t) (hr:Ob P t fn.results.toList=some r:=by kernel_rfl):My P N W0 X M0 fn (fun r' _=>TvE r' r) .normal s:=yn cv r (.refl r) hr
theorem kb {P:Program} {rd:Option Nat} {N:Nat} {W0:World} {X:Nat→Option Loc} {M0:Nat→Option Obj} {Q:Exit→AS→Prop} {s:AS} {c:Operand} {x y:Code} (b:Bool) (h1:b=true→AWp P rd N W0 X M0 x Q s) (h2:b=false→AWp P rd N W0 X M0 y Q s) (hc:evT (get s.t) c=some (.av (.one (.val (.bool b)))):=by kernel_rfl):AWp P rd N W0 X M0 (.cond c x y) Q s:=AL b hc h1 h2
abbrev CT:=FuncId×List Av×Ef
theorem hk0 {W0:World}:C8 noX W0 []:=fun k x h=>by cases h
abbrev OKc (c:CT):Prop:=FK Try.prog c.1 c.2.1 c.2.2
abbrev dfc:Nat→Cl:=fun _=>default
abbrev eIn:Int→List Cl:=fun x=>[.i x]
theorem oM {p:Prop} (h:p:=by omega):p:=h
abbrev PuP (f:FuncId) (xs:List Av) (r:Tv):Prop:=HT Try.prog f xs r
theorem pwf {f:FuncId} {fn:Func} {c:Code} (hf:Try.prog.funcs[f]? = some fn) {xs:List Av} {r:Tv}
    (h:∀ (W0:World) (M0:Nat→Option Obj),AWp Try.prog none fn.ntmps W0 noX M0 c (My Try.prog fn.ntmps W0 noX M0 fn fun r' _=>TvE r' r) ⟨Gc 0 xs,[]⟩) (hb:fn.body=some c:=by rfl) (hN:Nat.ble xs.length fn.ntmps=true:=by kernel_rfl) (hd:r.dv=true:=by kernel_rfl):PuP f xs r:=Ss hf hb hN hd h
theorem cWr {f:FuncId} {K n:Nat} {xs:List Av} {b0 b1:Blk} {r:Tv} (h:Wr Try.prog f K xs b0 r b1) (h1:∀ args w,(callFunc f args).run Try.prog w=.ok (.enter f args) w:=by intros;kernel_rfl) (hx:xs.all (Z7 K)=true:=by kernel_rfl) (hd0:Jj b0=true:=by kernel_rfl):FK Try.prog f (xs.map (CC K n)) (wrI n b0 r b1):=YD h1 hx hd0 h
theorem cPu {f:FuncId} {xs:List Av} {cs:List Prop} {r:Tv} (h:HT Try.prog f xs r) (h1:∀ args w,(callFunc f args).run Try.prog w=.ok (.enter f args) w:=by intros;kernel_rfl):FK Try.prog f xs (.val cs r):=Tx h1 fun _=>h
theorem rr2 {a b:Cl} {x y:List Cl} (q:L2 ClE x y):L2 ClE (a::b::x) (a::b::y):=rr (rr q)
theorem rr3 {a b c:Cl} {x y:List Cl} (q:L2 ClE x y):L2 ClE (a::b::c::x) (a::b::c::y):=rr (rr (rr q))
theorem rr4 {a b c d:Cl} {x y:List Cl} (q:L2 ClE x y):L2 ClE (a::b::c::d::x) (a::b::c::d::y):=rr (rr (rr (rr q)))
theorem rr5 {a b c d e:Cl} {x y:List Cl} (q:L2 ClE x y):L2 ClE (a::b::c::d::e::x) (a::b::c::d::e::y):=rr (rr (rr (rr (rr q))))
theorem rr9 {a b c d e f g h i:Cl} {x y:List Cl} (q:L2 ClE x y):L2 ClE (a::b::c::d::e::f::g::h::i::x) (a::b::c::d::e::f::g::h::i::y):=rr (rr (rr (rr (rr (rr (rr (rr (rr q))))))))

def Ao (x0:AD):Bool:=bif decide (((max x0.X x0.Y):Int)<=67108864) then decide ((((-67108864)):Int)<=(min x0.X x0.Y)) else false
variable (a0 a1 x0:AD) (m:BO) (a2:AD) (e:AG) (k:Int) (p x1:AD)
def Bt:CT:=(71,[.agg (AD.c x0)],.val [] (.av (.one (.b (Ao x0)))))
theorem XV (x0:AD):PuP 71 (Bt x0).2.1 (tO (.b (Ao x0))):=by
 refine pwf Try.func71 fun W0 M0 => ?_
 exact AA<|rn ⟨[(1,tP 1 0)],[(1,.cells (AD.c x0) 31)]⟩<|AA<|rc [] ((gt (decide (((max x0.X x0.Y):Int)<=67108864)))::(t5 (decide (((max x0.X x0.Y):Int)<=67108864)) [])) ⟨[(2,tB (bif decide (((max x0.X x0.Y):Int)<=67108864) then decide ((((-67108864)):Int)<=(min x0.X x0.Y)) else false))],[]⟩ .nil (ci (c5 .nil))<|AF<|AR<|xl (tO (.b (bif decide (((max x0.X x0.Y):Int)<=67108864) then decide ((((-67108864)):Int)<=(min x0.X x0.Y)) else false))) (BX (by rfl))
theorem DS (x0:AD):OKc (Bt x0):=cPu<|XV x0
def A3 (x0:AD) (x1:AD):AD:=AD.mk (W64 (x0.X-x1.X)) (W64 (x0.Y-x1.Y))
def Iq:CT:=(44,[.agg (AD.c x0),.agg (AD.c x1)],.val [] (.av (.agg (AD.c (A3 x0 x1)))))
theorem fL (x0:AD) (x1:AD):PuP 44 (Iq x0 x1).2.1 (.av (.agg (AD.c (A3 x0 x1)))):=by
 refine pwf Try.func44 fun W0 M0 => ?_
 exact AA<|rn ⟨[(2,tP 2 0),(3,tP 3 0),(4,tP 4 0)],[(2,.cells (AD.c x0) 31),(3,.cells (AD.c x1) 31),(4,.cells [.i 0,.i 0] 31)]⟩<|AA<|rn ⟨[(4,tP 4 0)],[(4,.cells [.i (W64 (x0.X-x1.X)),.i (W64 (x0.Y-x1.Y))] 31)]⟩<|AR<|xl (.av (.agg [.i (W64 (x0.X-x1.X)),.i (W64 (x0.Y-x1.Y))])) (BX (by rfl))
theorem LW (x0:AD) (x1:AD):OKc (Iq x0 x1):=cPu<|fL x0 x1
def L4 (x0:AD) (x1:AD):AD:=AD.mk (W64 (x0.X+x1.X)) (W64 (x0.Y+x1.Y))
def R8:CT:=(89,[.agg (AD.c x0),.agg (AD.c x1)],.val [] (.av (.agg (AD.c (L4 x0 x1)))))
theorem fN (x0:AD) (x1:AD):PuP 89 (R8 x0 x1).2.1 (.av (.agg (AD.c (L4 x0 x1)))):=by
 refine pwf Try.func89 fun W0 M0 => ?_
 exact AA<|rn ⟨[(2,tP 2 0),(3,tP 3 0),(4,tP 4 0)],[(2,.cells (AD.c x0) 31),(3,.cells (AD.c x1) 31),(4,.cells [.i 0,.i 0] 31)]⟩<|AA<|rn ⟨[(4,tP 4 0)],[(4,.cells [.i (W64 (x0.X+x1.X)),.i (W64 (x0.Y+x1.Y))] 31)]⟩<|AR<|xl (.av (.agg [.i (W64 (x0.X+x1.X)),.i (W64 (x0.Y+x1.Y))])) (BX (by rfl))
theorem aX (x0:AD) (x1:AD):OKc (R8 x0 x1):=cPu<|fN x0 x1
def Gr (x0:AD) (x1:AD):Int:=W64 ((W64 (x0.X*x1.X))+(W64 (x0.Y*x1.Y)))
def Nj:CT:=(45,[.agg (AD.c x0),.agg (AD.c x1)],.val [] (.av (.one (.i (Gr x0 x1)))))
theorem fM (x0:AD) (x1:AD):PuP 45 (Nj x0 x1).2.1 (tO (.i (Gr x0 x1))):=by
 refine pwf Try.func45 fun W0 M0 => ?_
 exact AA<|rn ⟨[(2,tP 2 0),(3,tP 3 0)],[(2,.cells (AD.c x0) 31),(3,.cells (AD.c x1) 31)]⟩<|AA<|rn ⟨[(4,tI (W64 ((W64 (x0.X*x1.X))+(W64 (x0.Y*x1.Y)))))],[]⟩<|AR<|xl (tO (.i (W64 ((W64 (x0.X*x1.X))+(W64 (x0.Y*x1.Y)))))) (BX (by rfl))
theorem aW (x0:AD) (x1:AD):OKc (Nj x0 x1):=cPu<|fM x0 x1
def Cd (m:BO):Int:=A64 m.Turn 3
def Ml:CT:=(88,[.agg (BO.c m)],.val [] (.av (.one (.i (Cd m)))))
theorem XU (m:BO):PuP 88 (Ml m).2.1 (tO (.i (Cd m))):=by
 refine pwf Try.func88 fun W0 M0 => ?_
 exact AA<|rn ⟨[(1,tP 1 0)],[(1,.cells (BO.c m) 84)]⟩<|AA<|rn ⟨[(2,tI (A64 m.Turn 3))],[]⟩<|AR<|xl (tO (.i (A64 m.Turn 3))) (BX (by rfl))
theorem VL (m:BO):OKc (Ml m):=cPu<|XU m
theorem A64_3 (t:Int):0<=A64 t 3/\A64 t 3<=3:=by
 unfold A64
 rw [IntKind.wrap_i64]
 have h:((BitVec.ofInt 64 t &&& BitVec.ofInt 64 3).toNat)<=3:=by
  rw [BitVec.toNat_and]
  exact Nat.le_trans Nat.and_le_right (by decide)
 generalize (BitVec.ofInt 64 t &&& BitVec.ofInt 64 3).toNat=n at *
 omega
theorem WA (m:BO):0<=Cd m/\Cd m<=3:=A64_3 m.Turn
def F4 (m:BO) (p:AD):Nat->AD->Int->AD
 | 0,_,_=>default
 | n0+1,p',v13=>bif decide ((v13:Int)<(Cd m)) then ((F4 m p n0) (AD.mk (W64 (0-p'.Y)) p'.X) (v13+1)) else (L4 p' m.At)
def DR (m:BO) (p:AD):AD:=F4 m p ((((Cd m))-0).toNat+1) (AD.mk (bif m.Mirror then (W64 (0-p.X)) else p.X) p.Y) 0
def J6:CT:=(65,[.agg (BO.c m),.agg (AD.c p)],.val [] (.av (.agg (AD.c (DR m p)))))
theorem kr {p:Prop} (h:p:=by kernel_rfl):p:=h
theorem at0 {p:Prop} (h:p:=by simp only [List.length_append,List.length_cons,List.length_nil];omega):p:=h
theorem at1 {p:Prop} (h:p:=by simp only [List.length_set,List.length_append,List.length_cons,List.length_nil];omega):p:=h
theorem at2 {p:Prop} (h:p:=by simp only [E6];omega):p:=h
theorem ax0 {p:Prop} (h:p:=by first | omega | (dsimp only <;> first | trivial | omega | exact at0 | exact at1 | exact at2 | (simp;omega) | simp) | (first | trivial | omega | exact at0 | exact at1 | exact at2 | (simp;omega) | simp)):p:=h
theorem XW (m:BO) (p:AD):PuP 65 (J6 m p).2.1 (.av (.agg (AD.c (DR m p)))):=by
 refine pwf Try.func65 fun W0 M0 => ?_
 refine AA<|rn ⟨[(2,tP 2 0),(3,tP 3 0),(4,tP 4 0)],[(2,.cells (BO.c m) 84),(3,.cells (AD.c p) 31),(4,.cells [.i 0,.i 0] 31)]⟩<|AA<|AA<|rn ⟨[(2,tP 2 0),(3,tP 3 0),(4,tP 4 0),(6,tB m.Mirror)],[(2,.cells (BO.c m) 84),(3,.cells (AD.c p) 31),(4,.cells [.i 0,.i 0] 31)]⟩<|CR (⟨[(2,tP 2 0),(3,tP 3 0),(4,tP 4 0)],[(2,.cells (BO.c m) 84),(3,.cells [.i (bif m.Mirror then (W64 (0-p.X)) else p.X),.i p.Y] 31),(4,.cells [.i 0,.i 0] 31)]⟩) ?_ ?_
 ·refine AL _ rfl (fun h1 => ?_) (fun h1 => ?_)
  ·refine rn ⟨[(2,tP 2 0),(3,tP 3 0),(4,tP 4 0)],[(2,.cells (BO.c m) 84),(3,.cells [.i (W64 (0-p.X)),.i p.Y] 31),(4,.cells [.i 0,.i 0] 31)]⟩<|BG ?_
   first | rfl | (simp only [h1,cond_true,cond_false] <;> rfl)
  refine AQ<|AF<|Cv.trans (ck (⟨[(2,tP 2 0),(3,tP 3 0),(4,tP 4 0)],[(2,.cells (BO.c m) 84),(3,.cells (AD.c p) 31),(4,.cells [.i 0,.i 0] 31)]⟩)) (BG ?_)
  first | rfl | (simp only [h1,cond_true,cond_false] <;> rfl)
 refine AA<|AA<|rs 12 (Ml m) ⟨[(2,tP 2 0),(3,tP 3 0),(4,tP 4 0),(12,tI (Cd m)),(13,tI 0)],[(2,.cells (BO.c m) 84),(3,.cells [.i (bif m.Mirror then (W64 (0-p.X)) else p.X),.i p.Y] 31),(4,.cells [.i 0,.i 0] 31)]⟩ (VL m)<|AF<|AM<|BK (ι:=Nat×AD×Int) (fun x=>⟨[(2,tP 2 0),(3,tP 3 0),(4,tP 4 0),(12,tI (Cd m)),(13,tI x.2.2)],[(2,.cells (BO.c m) 84),(3,.cells (AD.c x.2.1) 31),(4,.cells [.i 0,.i 0] 31)]⟩) (fun x=>(((Cd m))-x.2.2).toNat<x.1/\(0<=x.2.2/\x.2.2<=Cd m)/\F4 m p x.1 x.2.1 x.2.2=DR m p) (fun x=>x.1) ?_ ((((Cd m))-0).toNat+1,AD.mk (bif m.Mirror then (W64 (0-p.X)) else p.X) p.Y,0) ⟨Nat.lt_succ_self _,(by show 0<=0/\0<=Cd m;(have:=WA m;omega)),(by simp only [DR,cond_true,cond_false])⟩
 rintro ⟨n0,p',v13⟩ ⟨hm0,hinv0,hF0⟩
 try dsimp only at hm0 hinv0 hF0
 cases n0 with | zero=>exact nz hm0 | succ n0 => ?_
 have ht:=WA m
 have e1:W64 (v13+1)=v13+1:=Ap oM oM
 refine AA<|rn ⟨[(2,tP 2 0),(3,tP 3 0),(4,tP 4 0),(12,tI (Cd m)),(13,tI v13),(14,tB (decide ((v13:Int)<(Cd m))))],[(2,.cells (BO.c m) 84),(3,.cells (AD.c p') 31),(4,.cells [.i 0,.i 0] 31)]⟩<|AA<|AL _ rfl (fun h1 => ?_) (fun h1 => ?_)
 ·have g1:=oT h1
  refine AQ<|AF<|AA<|AM<|rg ⟨[(2,tP 2 0),(3,tP 3 0),(4,tP 4 0),(12,tI (Cd m)),(13,tI v13)],[(2,.cells (BO.c m) 84),(3,.cells [.i (W64 (0-p'.Y)),.i p'.X] 31),(4,.cells [.i 0,.i 0] 31)]⟩<|A0<|AF<|rg ⟨[(2,tP 2 0),(3,tP 3 0),(4,tP 4 0),(12,tI (Cd m)),(13,tI (W64 (v13+1)))],[(2,.cells (BO.c m) 84),(3,.cells [.i (W64 (0-p'.Y)),.i p'.X] 31),(4,.cells [.i 0,.i 0] 31)]⟩ ?_
  (try rw [e1])
  refine AF ?_
  refine ⟨(n0,AD.mk (W64 (0-p'.Y)) p'.X,v13+1),⟨?_,?_,(by rw [<- hF0];simp only [F4,h1,cond_true,cond_false])⟩,Nat.lt_succ_self _,BG kr⟩
  ·show (((Cd m))-(v13+1)).toNat<n0;omega
  exact ax0
 exact BH<|A7<|A7<|BI<|AF<|AA<|rs 25 (R8 p' m.At) ⟨[(4,tP 4 0)],[(4,.cells (AD.c (L4 p' m.At)) 31)]⟩ (aX p' m.At)<|AF<|AR<|xl (.av (.agg (AD.c (L4 p' m.At)))) (BX (by rw [<- hF0];first | (simp only [F4,h1,cond_true,cond_false] <;> rfl)))
theorem VM (m:BO) (p:AD):OKc (J6 m p):=cPu<|XW m p
def DM (x0:AG) (x1:Int):Bool:=bif !((decide ((((A3 x0.A x0.C).X):Int)=0))==(decide ((((A3 x0.A x0.C).Y):Int)=0))) then (decide (((A3 x0.B x0.C).X)=((DR (BO.mk (AD.mk 0 0) x1 false) (A3 x0.A x0.C)).X))&&(decide (((A3 x0.B x0.C).Y)=((DR (BO.mk (AD.mk 0 0) x1 false) (A3 x0.A x0.C)).Y))&&true)) else false
def Gq (x0:AG) (x1:Int):CT:=(102,[.agg (AG.c x0),.one (.i x1)],.val [] (.av (.one (.b (DM x0 x1)))))
theorem Rh (x0:AG) (x1:Int):PuP 102 (Gq x0 x1).2.1 (tO (.b (DM x0 x1))):=by
 refine pwf Try.func102 fun W0 M0 => ?_
 refine AA<|rn ⟨[(1,tI x1),(2,tP 2 0)],[(2,.cells (AG.c x0) 33)]⟩<|AA<|rs 10 (Iq x0.A x0.C) ⟨[(1,tI x1),(2,tP 2 0),(5,tP 5 0)],[(2,.cells (AG.c x0) 33),(5,.cells (AD.c (A3 x0.A x0.C)) 31)]⟩ (LW x0.A x0.C)<|AF<|AA ?_
 refine dw [] [(23,Iq x0.B x0.C),(27,J6 (BO.mk (AD.mk 0 0) x1 false) (A3 x0.A x0.C))] (t4 (!((decide ((((A3 x0.A x0.C).X):Int)=0))==(decide ((((A3 x0.A x0.C).Y):Int)=0)))) ((gk (!((decide ((((A3 x0.A x0.C).X):Int)=0))==(decide ((((A3 x0.A x0.C).Y):Int)=0)))) (As (Iq x0.B x0.C).2.1))::(t3 (!((decide ((((A3 x0.A x0.C).X):Int)=0))==(decide ((((A3 x0.A x0.C).Y):Int)=0)))) ((gk (!((decide ((((A3 x0.A x0.C).X):Int)=0))==(decide ((((A3 x0.A x0.C).Y):Int)=0)))) (As (J6 (BO.mk (AD.mk 0 0) x1 false) (A3 x0.A x0.C)).2.1))::(t3 (!((decide ((((A3 x0.A x0.C).X):Int)=0))==(decide ((((A3 x0.A x0.C).Y):Int)=0)))) []))))) ⟨[(4,tB (bif !((decide ((((A3 x0.A x0.C).X):Int)=0))==(decide ((((A3 x0.A x0.C).Y):Int)=0))) then (decide (((A3 x0.B x0.C).X)=((DR (BO.mk (AD.mk 0 0) x1 false) (A3 x0.A x0.C)).X))&&(decide (((A3 x0.B x0.C).Y)=((DR (BO.mk (AD.mk 0 0) x1 false) (A3 x0.A x0.C)).Y))&&true)) else false))],[]⟩ (.cons (LW x0.B x0.C) (.cons (VM (BO.mk (AD.mk 0 0) x1 false) (A3 x0.A x0.C)) .nil)) (c4 (.cons (fun _=>rfl) (c3 (.cons (fun _=>rfl) (c3 .nil)))))<|AF<|AR ?_
 exact xl (tO (.b (bif !((decide ((((A3 x0.A x0.C).X):Int)=0))==(decide ((((A3 x0.A x0.C).Y):Int)=0))) then (decide (((A3 x0.B x0.C).X)=((DR (BO.mk (AD.mk 0 0) x1 false) (A3 x0.A x0.C)).X))&&(decide (((A3 x0.B x0.C).Y)=((DR (BO.mk (AD.mk 0 0) x1 false) (A3 x0.A x0.C)).Y))&&true)) else false))) (BX (by rfl))
theorem KS (x0:AG) (x1:Int):OKc (Gq x0 x1):=cPu<|Rh x0 x1
def Gx (x0:AG):Bool:=(decide (x0.C.X=0)&&(decide (x0.C.Y=0)&&true))
def Mr (x0:AG):CT:=(93,[.agg (AG.c x0)],.val [] (.av (.one (.b (Gx x0)))))
theorem Xg (x0:AG):PuP 93 (Mr x0).2.1 (tO (.b (Gx x0))):=by
 refine pwf Try.func93 fun W0 M0 => ?_
 exact AA<|rn ⟨[(1,tP 1 0)],[(1,.cells (AG.c x0) 33)]⟩<|AA<|rn ⟨[(2,tB ((decide (x0.C.X=0)&&(decide (x0.C.Y=0)&&true))))],[]⟩<|AR<|xl (tO (.b ((decide (x0.C.X=0)&&(decide (x0.C.Y=0)&&true))))) (BX (by rfl))
theorem VR (x0:AG):OKc (Mr x0):=cPu<|Xg x0
def EJ (x0:AG):Bool:=DM x0 1
def HJ (x0:AG):CT:=(96,[.agg (AG.c x0)],.val [] (.av (.one (.b (EJ x0)))))
theorem Oi (x0:AG):PuP 96 (HJ x0).2.1 (tO (.b (EJ x0))):=by
 refine pwf Try.func96 fun W0 M0 => ?_
 exact AA<|rn ⟨[(1,tP 1 0)],[(1,.cells (AG.c x0) 33)]⟩<|AA<|rs 4 (Gq x0 1) ⟨[(2,tB (DM x0 1))],[]⟩ (KS x0 1)<|AF<|AR<|xl (tO (.b (DM x0 1))) (BX (by rfl))
theorem NT (x0:AG):OKc (HJ x0):=cPu<|Oi x0
def Ds (x0:AG):Bool:=DM x0 3
def Ge (x0:AG):CT:=(99,[.agg (AG.c x0)],.val [] (.av (.one (.b (Ds x0)))))
theorem NQ (x0:AG):PuP 99 (Ge x0).2.1 (tO (.b (Ds x0))):=by
 refine pwf Try.func99 fun W0 M0 => ?_
 exact AA<|rn ⟨[(1,tP 1 0)],[(1,.cells (AG.c x0) 33)]⟩<|AA<|rs 4 (Gq x0 3) ⟨[(2,tB (DM x0 3))],[]⟩ (KS x0 3)<|AF<|AR<|xl (tO (.b (DM x0 3))) (BX (by rfl))
theorem MT (x0:AG):OKc (Ge x0):=cPu<|NQ x0
def LH:CT:=(87,[.one (.i 1)],.val [] (.tup [.agg [.clo 93 0 dfc,.clo 94 0 dfc,.clo 95 0 dfc,.i 1],.one (.b true)]))
theorem VI  : HT Try.prog 87 (LH ).2.1 (.tup [.agg [.clo 93 0 dfc,.clo 94 0 dfc,.clo 95 0 dfc,.i 1],.one (.b true)]):=by
 refine pwf Try.func87 fun W0 M0 => ?_
 exact AA<|rn ⟨[(0,tI 1),(2,tP 2 0)],[(2,.cells [.val .nilFunc,.val .nilFunc,.val .nilFunc,.i 0] 153)]⟩<|AA<|AA<|rn ⟨[(0,tI 1),(2,tP 2 0),(4,tI 1)],[(2,.cells [.val .nilFunc,.val .nilFunc,.val .nilFunc,.i 0] 153)]⟩<|AM<|AA<|rn ⟨[(0,tI 1),(2,tP 2 0),(4,tI 1),(5,tB true)],[(2,.cells [.val .nilFunc,.val .nilFunc,.val .nilFunc,.i 0] 153)]⟩<|Bq kr<|AA<|rn ⟨[(2,tP 2 0),(3,tB true)],[(2,.cells [.clo 93 0 dfc,.clo 94 0 dfc,.clo 95 0 dfc,.i 1] 153)]⟩<|AR<|BN<|Au<|xl (.tup [.agg [.clo 93 0 dfc,.clo 94 0 dfc,.clo 95 0 dfc,.i 1],.one (.b true)]) (BX rfl)
theorem TB  : OKc (LH ):=cPu<|VI
def LG:CT:=(87,[.one (.i 2)],.val [] (.tup [.agg [.clo 96 0 dfc,.clo 97 0 dfc,.clo 98 0 dfc,.i 3],.one (.b true)]))
theorem VH  : HT Try.prog 87 (LG ).2.1 (.tup [.agg [.clo 96 0 dfc,.clo 97 0 dfc,.clo 98 0 dfc,.i 3],.one (.b true)]):=by
 refine pwf Try.func87 fun W0 M0 => ?_
 exact AA<|rn ⟨[(0,tI 2),(2,tP 2 0)],[(2,.cells [.val .nilFunc,.val .nilFunc,.val .nilFunc,.i 0] 153)]⟩<|AA<|AA<|rn ⟨[(0,tI 2),(2,tP 2 0),(4,tI 2)],[(2,.cells [.val .nilFunc,.val .nilFunc,.val .nilFunc,.i 0] 153)]⟩<|AM<|AA<|rn ⟨[(0,tI 2),(2,tP 2 0),(4,tI 2),(5,tB false)],[(2,.cells [.val .nilFunc,.val .nilFunc,.val .nilFunc,.i 0] 153)]⟩<|Ak kr<|AA<|rn ⟨[(0,tI 2),(2,tP 2 0),(4,tI 2),(8,tB true)],[(2,.cells [.val .nilFunc,.val .nilFunc,.val .nilFunc,.i 0] 153)]⟩<|Bq kr<|AA<|rn ⟨[(2,tP 2 0),(3,tB true)],[(2,.cells [.clo 96 0 dfc,.clo 97 0 dfc,.clo 98 0 dfc,.i 3] 153)]⟩<|AR<|BN<|Au<|xl (.tup [.agg [.clo 96 0 dfc,.clo 97 0 dfc,.clo 98 0 dfc,.i 3],.one (.b true)]) (BX rfl)
theorem TA  : OKc (LG ):=cPu<|VH
def LF:CT:=(87,[.one (.i 3)],.val [] (.tup [.agg [.clo 99 0 dfc,.clo 97 0 dfc,.clo 98 0 dfc,.i 2],.one (.b true)]))
theorem VG  : HT Try.prog 87 (LF ).2.1 (.tup [.agg [.clo 99 0 dfc,.clo 97 0 dfc,.clo 98 0 dfc,.i 2],.one (.b true)]):=by
 refine pwf Try.func87 fun W0 M0 => ?_
 exact AA<|rn ⟨[(0,tI 3),(2,tP 2 0)],[(2,.cells [.val .nilFunc,.val .nilFunc,.val .nilFunc,.i 0] 153)]⟩<|AA<|AA<|rn ⟨[(0,tI 3),(2,tP 2 0),(4,tI 3)],[(2,.cells [.val .nilFunc,.val .nilFunc,.val .nilFunc,.i 0] 153)]⟩<|AM<|AA<|rn ⟨[(0,tI 3),(2,tP 2 0),(4,tI 3),(5,tB false)],[(2,.cells [.val .nilFunc,.val .nilFunc,.val .nilFunc,.i 0] 153)]⟩<|Ak kr<|AA<|rn ⟨[(0,tI 3),(2,tP 2 0),(4,tI 3),(8,tB false)],[(2,.cells [.val .nilFunc,.val .nilFunc,.val .nilFunc,.i 0] 153)]⟩<|Ak kr<|AA<|rn ⟨[(0,tI 3),(2,tP 2 0),(11,tB true)],[(2,.cells [.val .nilFunc,.val .nilFunc,.val .nilFunc,.i 0] 153)]⟩<|Bq kr<|AA<|rn ⟨[(2,tP 2 0),(3,tB true)],[(2,.cells [.clo 99 0 dfc,.clo 97 0 dfc,.clo 98 0 dfc,.i 2] 153)]⟩<|AR<|BN<|Au<|xl (.tup [.agg [.clo 99 0 dfc,.clo 97 0 dfc,.clo 98 0 dfc,.i 2],.one (.b true)]) (BX rfl)
theorem S9  : OKc (LF ):=cPu<|VG
def LE:CT:=(87,[.one (.i k)],.val [] (.tup [.agg [.val .nilFunc,.val .nilFunc,.val .nilFunc,.i k],.one (.b false)]))
theorem VF (k:Int) (k1:¬ k=1) (k2:¬ k=2) (k3:¬ k=3):PuP 87 (LE k).2.1 (.tup [.agg [.val .nilFunc,.val .nilFunc,.val .nilFunc,.i k],.one (.b false)]):=by
 refine pwf Try.func87 fun W0 M0 => ?_
 refine AA<|rn ⟨[(0,tI k),(2,tP 2 0)],[(2,.cells [.val .nilFunc,.val .nilFunc,.val .nilFunc,.i 0] 153)]⟩<|AA<|AA<|rn ⟨[(0,tI k),(2,tP 2 0),(4,tI k)],[(2,.cells [.val .nilFunc,.val .nilFunc,.val .nilFunc,.i 0] 153)]⟩<|AM<|AA<|rn ⟨[(0,tI k),(2,tP 2 0),(4,tI k),(5,tB (decide ((k:Int)=1)))],[(2,.cells [.val .nilFunc,.val .nilFunc,.val .nilFunc,.i 0] 153)]⟩<|AL _ rfl (fun h=>absurd ((decide_eq_false k1).symm.trans h) (by decide)) (fun _ => ?_)
 refine AA<|rn ⟨[(0,tI k),(2,tP 2 0),(4,tI k),(8,tB (decide ((k:Int)=2)))],[(2,.cells [.val .nilFunc,.val .nilFunc,.val .nilFunc,.i 0] 153)]⟩<|AL _ rfl (fun h=>absurd ((decide_eq_false k2).symm.trans h) (by decide)) (fun _ => ?_)
 refine AA<|rn ⟨[(0,tI k),(2,tP 2 0),(11,tB (decide ((k:Int)=3)))],[(2,.cells [.val .nilFunc,.val .nilFunc,.val .nilFunc,.i 0] 153)]⟩<|AL _ rfl (fun h=>absurd ((decide_eq_false k3).symm.trans h) (by decide)) (fun _ => ?_)
 exact AQ<|A0<|AF<|AA<|rn ⟨[(2,tP 2 0),(3,tB false)],[(2,.cells [.val .nilFunc,.val .nilFunc,.val .nilFunc,.i k] 153)]⟩<|AR<|xl (.tup [.agg [.val .nilFunc,.val .nilFunc,.val .nilFunc,.i k],.one (.b false)]) (BX rfl)
theorem S8 (k:Int) (k1:¬ k=1) (k2:¬ k=2) (k3:¬ k=3):OKc (LE k):=cPu<|VF k k1 k2 k3
def Z00:Bool:=bif Ao a0 then Ao a1 else false
def Z01:Bool:=bif Z00 a0 a1 then Ao a2 else false
def Z02:Bool:=bif Z01 a0 a1 a2 then Gx (AG.mk 1 a0 a1 a2) else false
def iR:CT:=(64,[.agg [.i 1,.i a0.X,.i a0.Y,.i a1.X,.i a1.Y,.i a2.X,.i a2.Y]],.val [] (.tup [.agg [.clo 93 0 dfc,.clo 94 0 dfc,.clo 95 0 dfc,.i 1],.one (.b (Z02 a0 a1 a2))]))
theorem mP {p:Prop} (h:p:=by
 refine pwf Try.func64 fun W0 M0 => ?_
 refine AA<|rn ⟨[(1,tP 1 0),(2,tP 2 0)],[(1,.cells [.i mp0,.i a0.X,.i a0.Y,.i a1.X,.i a1.Y,.i a2.X,.i a2.Y] 33),(2,.cells [.val .nilFunc,.val .nilFunc,.val .nilFunc,.i 0] 153)]⟩<|AA<|rs 9 mp1 ⟨[(1,tP 1 0),(2,tP 2 0),(4,tP 4 0),(5,tB true)],[(1,.cells [.i mp0,.i a0.X,.i a0.Y,.i a1.X,.i a1.Y,.i a2.X,.i a2.Y] 33),(2,.cells [.val .nilFunc,.val .nilFunc,.val .nilFunc,.i 0] 153),(4,.cells [.clo mp2 0 (fun _=>default),.clo mp3 0 (fun _=>default),.clo mp4 0 (fun _=>default),.i mp5] 153)]⟩ (mp6)<|AF<|AA ?_
 exact dw [] [(17,Bt a0),(22,Bt a1),(27,Bt a2),(33,mp7 (AG.mk mp0 a0 a1 a2))] ((((true)=true)->((true)=true))::(((true)=true)->((true)=true))::(((true)=true)->(As (Bt a0).2.1))::((true)=true->((true)=true))::(t2 (Ao a0) ((gk (Ao a0) (As (Bt a1).2.1))::(gt (Ao a0))::(gp ((mp8 a0 a1)=true))::(gp ((mp8 a0 a1)=true))::(((mp8 a0 a1)=true)->(As (Bt a2).2.1))::(gp ((mp8 a0 a1)=true))::(t3 (mp9 a0 a1 a2) [gk (mp9 a0 a1 a2) (As (mp7 (AG.mk mp0 a0 a1 a2)).2.1),gt (mp9 a0 a1 a2)])))) ⟨[(2,tP 2 0),(3,tB (mp10 a0 a1 a2))],[(2,.cells [.clo mp2 0 (fun _=>default),.clo mp3 0 (fun _=>default),.clo mp4 0 (fun _=>default),.i mp5] 153)]⟩ (.cons (DS a0) (.cons (DS a1) (.cons (DS a2) (.cons (mp11 (AG.mk mp0 a0 a1 a2)) .nil)))) (ci (ci (.cons (fun _=>rfl) (ci (c2 (.cons (fun _=>rfl) (ci (ci (ci (.cons (fun _=>rfl) (ci (c3 (.cons (fun _=>rfl) (ci .nil))))))))))))))<|AF<|AR<|xl (.tup [.agg [.clo mp2 0 (fun _=>default),.clo mp3 0 (fun _=>default),.clo mp4 0 (fun _=>default),.i mp5],.one (.b (mp10 a0 a1 a2))]) (BX rfl)):p:=h
section
 open Go.Proofs.Ytgmhnkoifdpemaa renaming ni1→mp0,LH→mp1,nn93→mp2,nn94→mp3,nn95→mp4,ni1→mp5,TB→mp6,Mr→mp7,Z00→mp8,Z01→mp9,Z02→mp10,VR→mp11
theorem pof1 (a0:AD) (a1:AD) (a2:AD):PuP 64 (iR a0 a1 a2).2.1 (.tup [.agg [.clo 93 0 dfc,.clo 94 0 dfc,.clo 95 0 dfc,.i 1],.one (.b (Z02 a0 a1 a2))]):=mP
end
theorem kF (a0:AD) (a1:AD) (a2:AD):OKc (iR a0 a1 a2):=cPu<|pof1 a0 a1 a2
def Z03:Bool:=bif Ao a0 then Ao a1 else false
def Z04:Bool:=bif Z03 a0 a1 then Ao a2 else false
def Z05:Bool:=bif Z04 a0 a1 a2 then EJ (AG.mk 2 a0 a1 a2) else false
def iQ:CT:=(64,[.agg [.i 2,.i a0.X,.i a0.Y,.i a1.X,.i a1.Y,.i a2.X,.i a2.Y]],.val [] (.tup [.agg [.clo 96 0 dfc,.clo 97 0 dfc,.clo 98 0 dfc,.i 3],.one (.b (Z05 a0 a1 a2))]))
section
 open Go.Proofs.Ytgmhnkoifdpemaa renaming ni2→mp0,LG→mp1,nn96→mp2,nn97→mp3,nn98→mp4,ni3→mp5,TA→mp6,HJ→mp7,Z03→mp8,Z04→mp9,Z05→mp10,NT→mp11
theorem pof2 (a0:AD) (a1:AD) (a2:AD):PuP 64 (iQ a0 a1 a2).2.1 (.tup [.agg [.clo 96 0 dfc,.clo 97 0 dfc,.clo 98 0 dfc,.i 3],.one (.b (Z05 a0 a1 a2))]):=mP
end
theorem kE (a0:AD) (a1:AD) (a2:AD):OKc (iQ a0 a1 a2):=cPu<|pof2 a0 a1 a2
def Z06:Bool:=bif Ao a0 then Ao a1 else false
def Z07:Bool:=bif Z06 a0 a1 then Ao a2 else false
def Z08:Bool:=bif Z07 a0 a1 a2 then Ds (AG.mk 3 a0 a1 a2) else false
def iP:CT:=(64,[.agg [.i 3,.i a0.X,.i a0.Y,.i a1.X,.i a1.Y,.i a2.X,.i a2.Y]],.val [] (.tup [.agg [.clo 99 0 dfc,.clo 97 0 dfc,.clo 98 0 dfc,.i 2],.one (.b (Z08 a0 a1 a2))]))
section
 open Go.Proofs.Ytgmhnkoifdpemaa renaming ni3→mp0,LF→mp1,nn99→mp2,nn97→mp3,nn98→mp4,ni2→mp5,S9→mp6,Ge→mp7,Z06→mp8,Z07→mp9,Z08→mp10,MT→mp11
theorem pof3 (a0:AD) (a1:AD) (a2:AD):PuP 64 (iP a0 a1 a2).2.1 (.tup [.agg [.clo 99 0 dfc,.clo 97 0 dfc,.clo 98 0 dfc,.i 2],.one (.b (Z08 a0 a1 a2))]):=mP
end
theorem kD (a0:AD) (a1:AD) (a2:AD):OKc (iP a0 a1 a2):=cPu<|pof3 a0 a1 a2
def iO:CT:=(64,[.agg (AG.c e)],.val [] (.tup [.agg [.val .nilFunc,.val .nilFunc,.val .nilFunc,.i e.Kind],.one (.b false)]))
theorem pofN (e:AG) (k1:¬ e.Kind=1) (k2:¬ e.Kind=2) (k3:¬ e.Kind=3):PuP 64 (iO e).2.1 (.tup [.agg [.val .nilFunc,.val .nilFunc,.val .nilFunc,.i e.Kind],.one (.b false)]):=by
 refine pwf Try.func64 fun W0 M0 => ?_
 refine AA<|rn ⟨[(1,tP 1 0),(2,tP 2 0)],[(1,.cells (AG.c e) 33),(2,.cells [.val .nilFunc,.val .nilFunc,.val .nilFunc,.i 0] 153)]⟩<|AA<|rs 9 (LE e.Kind) ⟨[(1,tP 1 0),(2,tP 2 0),(4,tP 4 0),(5,tB false)],[(1,.cells (AG.c e) 33),(2,.cells [.val .nilFunc,.val .nilFunc,.val .nilFunc,.i 0] 153),(4,.cells [.val .nilFunc,.val .nilFunc,.val .nilFunc,.i e.Kind] 153)]⟩ (S8 e.Kind k1 k2 k3)<|AF<|AA ?_
 exact dw [] [(17,Bt e.A),(22,Bt e.B),(27,Bt e.C)] [((false)=true)->((false)=true),((false)=true)->((false)=true),((false)=true)->(As (Bt e.A).2.1),(false)=true->((false)=true),((false)=true)->((false)=true),((false)=true)->((false)=true),((false)=true)->(As (Bt e.B).2.1),(false)=true->((false)=true),((false)=true)->((false)=true),((false)=true)->((false)=true),((false)=true)->(As (Bt e.C).2.1),(false)=true->((false)=true),((false)=true)->((false)=true),¬ ((false)=true),(false)=true->((false)=true)] ⟨[(2,tP 2 0),(3,tB false)],[(2,.cells [.val .nilFunc,.val .nilFunc,.val .nilFunc,.i e.Kind] 153)]⟩ (.cons (DS e.A) (.cons (DS e.B) (.cons (DS e.C) .nil))) (ci (ci (.cons (fun _=>rfl) (ci (ci (ci (.cons (fun _=>rfl) (ci (ci (ci (.cons (fun _=>rfl) (ci (ci (.cons (by simp) (ci .nil)))))))))))))))<|AF<|AR<|xl (.tup [.agg [.val .nilFunc,.val .nilFunc,.val .nilFunc,.i e.Kind],.one (.b false)]) (BX rfl)
theorem kC (e:AG) (k1:¬ e.Kind=1) (k2:¬ e.Kind=2) (k3:¬ e.Kind=3):OKc (iO e):=cPu<|pofN e k1 k2 k3
def Z09:Bool := !(bif bif Ao a0 then Ao a1 else false then Ao a2 else false)
def KI (a0:AD) (a1:AD) (a2:AD):Int:=bif Z02 a0 a1 a2 then (0) else (bif Z09 a0 a1 a2 then (10) else (11))
def iX:CT:=(42,[.agg [.i 1,.i a0.X,.i a0.Y,.i a1.X,.i a1.Y,.i a2.X,.i a2.Y]],.val [] (.av (.one (.i (KI a0 a1 a2)))))
theorem mO {p:Prop} (h:p:=by
 refine pwf Try.func42 fun W0 M0 => ?_
 refine AA<|rn ⟨[(1,tP 1 0)],[(1,.cells [.i mp0,.i a0.X,.i a0.Y,.i a1.X,.i a1.Y,.i a2.X,.i a2.Y] 33)]⟩<|AA<|AA<|rs 7 (mp1 a0 a1 a2) ⟨[(1,tP 1 0),(4,tB (mp2 a0 a1 a2))],[(1,.cells [.i mp0,.i a0.X,.i a0.Y,.i a1.X,.i a1.Y,.i a2.X,.i a2.Y] 33)]⟩ (mp3 a0 a1 a2)<|AF<|AM<|AA<|rn ⟨[(1,tP 1 0),(10,tB (mp2 a0 a1 a2))],[(1,.cells [.i mp0,.i a0.X,.i a0.Y,.i a1.X,.i a1.Y,.i a2.X,.i a2.Y] 33)]⟩<|AL _ rfl (fun h1 => ?_) (fun h1 => ?_)
 ·exact AA<|rn ⟨[(2,tI 0)],[]⟩<|AR<|BN<|Au<|xl (tO (.i 0)) (BX (by simp only [mp4,h1,cond_true,cond_false] <;> rfl))
 refine AA<|rc [(24,Bt a0),(28,Bt a1),(33,Bt a2)] [((true)=true)->((true)=true),((true)=true)->((true)=true),(true)=true->((true)=true),((true)=true)->((true)=true),((true)=true)->((true)=true),((true)=true)->(As (Bt a0).2.1),((true)=true)->((true)=true),gp (((true)=true)/\(Ao a0)=true),gp (((true)=true)/\(Ao a0)=true),(((true)=true)/\(Ao a0)=true)->(As (Bt a1).2.1),((true)=true)->((true)=true),((true)=true)->((Ao a0)=true->(((true)=true)/\(Ao a0)=true)),((true)=true)->((true)=true),gp (((true)=true)/\(bif Ao a0 then Ao a1 else false)=true),gp (((true)=true)/\(bif Ao a0 then Ao a1 else false)=true),(((true)=true)/\(bif Ao a0 then Ao a1 else false)=true)->(As (Bt a2).2.1),((true)=true)->((true)=true),((true)=true)->((bif Ao a0 then Ao a1 else false)=true->(((true)=true)/\(bif Ao a0 then Ao a1 else false)=true)),((true)=true)->((true)=true),(true)=true->((true)=true)] ⟨[(12,tB (mp5 a0 a1 a2))],[]⟩ (.cons (DS a0) (.cons (DS a1) (.cons (DS a2) .nil))) (ci (ci (ci (ci (ci (.cons (fun _=>rfl) (ci (ci (ci (.cons (fun _=>rfl) (ci (.cons (by intros;first | assumption | exact ⟨by assumption,by assumption⟩ | simp_all) (ci (ci (ci (.cons (fun _=>rfl) (ci (.cons (by intros;first | assumption | exact ⟨by assumption,by assumption⟩ | simp_all) (ci (ci .nil))))))))))))))))))))<|AF ?_
 refine AL _ rfl (fun h2 => ?_) (fun h2 => ?_)
 ·exact AA<|rn ⟨[(2,tI 10)],[]⟩<|AR<|BN<|Au<|xl (tO (.i 10)) (BX (by simp only [mp4,h1,h2,cond_true,cond_false] <;> rfl))
 exact AQ<|A0<|AF<|AA<|rn ⟨[(2,tI 11)],[]⟩<|AR<|xl (tO (.i 11)) (BX (by simp only [mp4,h1,h2,cond_true,cond_false] <;> rfl))):p:=h
section
 open Go.Proofs.Ytgmhnkoifdpemaa renaming ni1→mp0,iR→mp1,Z02→mp2,kF→mp3,KI→mp4,Z09→mp5
theorem gL (a0:AD) (a1:AD) (a2:AD):PuP 42 (iX a0 a1 a2).2.1 (tO (.i (KI a0 a1 a2))):=mO
end
def Z0a:Bool := !(bif bif Ao a0 then Ao a1 else false then Ao a2 else false)
def KH (a0:AD) (a1:AD) (a2:AD):Int:=bif Z05 a0 a1 a2 then (0) else (bif Z0a a0 a1 a2 then (10) else (11))
def iW:CT:=(42,[.agg [.i 2,.i a0.X,.i a0.Y,.i a1.X,.i a1.Y,.i a2.X,.i a2.Y]],.val [] (.av (.one (.i (KH a0 a1 a2)))))
section
 open Go.Proofs.Ytgmhnkoifdpemaa renaming ni2→mp0,iQ→mp1,Z05→mp2,kE→mp3,KH→mp4,Z0a→mp5
theorem gK (a0:AD) (a1:AD) (a2:AD):PuP 42 (iW a0 a1 a2).2.1 (tO (.i (KH a0 a1 a2))):=mO
end
def Z0b:Bool := !(bif bif Ao a0 then Ao a1 else false then Ao a2 else false)
def KG (a0:AD) (a1:AD) (a2:AD):Int:=bif Z08 a0 a1 a2 then (0) else (bif Z0b a0 a1 a2 then (10) else (11))
def iV:CT:=(42,[.agg [.i 3,.i a0.X,.i a0.Y,.i a1.X,.i a1.Y,.i a2.X,.i a2.Y]],.val [] (.av (.one (.i (KG a0 a1 a2)))))
section
 open Go.Proofs.Ytgmhnkoifdpemaa renaming ni3→mp0,iP→mp1,Z08→mp2,kD→mp3,KG→mp4,Z0b→mp5
theorem gJ (a0:AD) (a1:AD) (a2:AD):PuP 42 (iV a0 a1 a2).2.1 (tO (.i (KG a0 a1 a2))):=mO
end
def I0 (e:AG):Int:=bif bif bif decide ((1:Int)<=e.Kind) then decide ((e.Kind:Int)<=3) else false then !(bif bif Ao e.A then Ao e.B else false then Ao e.C else false) else false then (10) else (11)
def iU:CT:=(42,[.agg (AG.c e)],.val [] (.av (.one (.i (I0 e)))))
theorem gI (e:AG) (k1:¬ e.Kind=1) (k2:¬ e.Kind=2) (k3:¬ e.Kind=3):PuP 42 (iU e).2.1 (tO (.i (I0 e))):=by
 refine pwf Try.func42 fun W0 M0 => ?_
 refine AA<|rn ⟨[(1,tP 1 0)],[(1,.cells (AG.c e) 33)]⟩<|AA<|AA<|rs 7 (iO e) ⟨[(1,tP 1 0),(4,tB false)],[(1,.cells (AG.c e) 33)]⟩ (kC e k1 k2 k3)<|AF<|AM<|AA<|rn ⟨[(1,tP 1 0),(10,tB false)],[(1,.cells (AG.c e) 33)]⟩<|Ak kr<|AA ?_
 refine rc [(24,Bt e.A),(28,Bt e.B),(33,Bt e.C)] (t3 (decide ((1:Int)<=e.Kind)) (t2 (bif decide ((1:Int)<=e.Kind) then decide ((e.Kind:Int)<=3) else false) ((gk (bif decide ((1:Int)<=e.Kind) then decide ((e.Kind:Int)<=3) else false) (As (Bt e.A).2.1))::(gt (bif decide ((1:Int)<=e.Kind) then decide ((e.Kind:Int)<=3) else false))::(gp (((bif decide ((1:Int)<=e.Kind) then decide ((e.Kind:Int)<=3) else false)=true)/\(Ao e.A)=true))::(gp (((bif decide ((1:Int)<=e.Kind) then decide ((e.Kind:Int)<=3) else false)=true)/\(Ao e.A)=true))::((((bif decide ((1:Int)<=e.Kind) then decide ((e.Kind:Int)<=3) else false)=true)/\(Ao e.A)=true)->(As (Bt e.B).2.1))::(gt (bif decide ((1:Int)<=e.Kind) then decide ((e.Kind:Int)<=3) else false))::(((bif decide ((1:Int)<=e.Kind) then decide ((e.Kind:Int)<=3) else false)=true)->((Ao e.A)=true->(((bif decide ((1:Int)<=e.Kind) then decide ((e.Kind:Int)<=3) else false)=true)/\(Ao e.A)=true)))::(gt (bif decide ((1:Int)<=e.Kind) then decide ((e.Kind:Int)<=3) else false))::(gp (((bif decide ((1:Int)<=e.Kind) then decide ((e.Kind:Int)<=3) else false)=true)/\(bif Ao e.A then Ao e.B else false)=true))::(gp (((bif decide ((1:Int)<=e.Kind) then decide ((e.Kind:Int)<=3) else false)=true)/\(bif Ao e.A then Ao e.B else false)=true))::((((bif decide ((1:Int)<=e.Kind) then decide ((e.Kind:Int)<=3) else false)=true)/\(bif Ao e.A then Ao e.B else false)=true)->(As (Bt e.C).2.1))::(gt (bif decide ((1:Int)<=e.Kind) then decide ((e.Kind:Int)<=3) else false))::(((bif decide ((1:Int)<=e.Kind) then decide ((e.Kind:Int)<=3) else false)=true)->((bif Ao e.A then Ao e.B else false)=true->(((bif decide ((1:Int)<=e.Kind) then decide ((e.Kind:Int)<=3) else false)=true)/\(bif Ao e.A then Ao e.B else false)=true)))::(t2 (bif decide ((1:Int)<=e.Kind) then decide ((e.Kind:Int)<=3) else false) [])))) ⟨[(12,tB (bif bif decide ((1:Int)<=e.Kind) then decide ((e.Kind:Int)<=3) else false then !(bif bif Ao e.A then Ao e.B else false then Ao e.C else false) else false))],[]⟩ (.cons (DS e.A) (.cons (DS e.B) (.cons (DS e.C) .nil))) (c3 (c2 (.cons (fun _=>rfl) (ci (ci (ci (.cons (fun _=>rfl) (ci (.cons (by intros;first | assumption | exact ⟨by assumption,by assumption⟩ | simp_all) (ci (ci (ci (.cons (fun _=>rfl) (ci (.cons (by intros;first | assumption | exact ⟨by assumption,by assumption⟩ | simp_all) (c2 .nil))))))))))))))))<|AF ?_
 refine AL _ rfl (fun h4 => ?_) (fun h4 => ?_)
 ·exact AA<|rn ⟨[(2,tI 10)],[]⟩<|AR<|BN<|Au<|xl (tO (.i 10)) (BX (by simp only [I0,h4,cond_true,cond_false] <;> rfl))
 exact AQ<|A0<|AF<|AA<|rn ⟨[(2,tI 11)],[]⟩<|AR<|xl (tO (.i 11)) (BX (by simp only [I0,h4,cond_true,cond_false] <;> rfl))
def Em (e:AG)  : Int:=if e.Kind=1 then KI e.A e.B e.C  else if e.Kind=2 then KH e.A e.B e.C  else if e.Kind=3 then KG e.A e.B e.C  else I0 e
def SD:CT:=(42,[.agg (AG.c e)],.val [] (.av (.one (.i (Em e )))))
theorem lM (e:AG)  : PuP 42 (SD e ).2.1 (.av (.one (.i (Em e )))):=by
 by_cases k1:e.Kind=1
 ·have hF:Em e  = KI e.A e.B e.C  := by unfold Em;rw [if_pos k1]
  rw [hF];obtain ⟨k,a0,a1,a2⟩:=e;simp only at k1;subst k1;exact gL a0 a1 a2 
 by_cases k2:e.Kind=2
 ·have hF:Em e  = KH e.A e.B e.C  := by unfold Em;rw [if_neg k1];rw [if_pos k2]
  rw [hF];obtain ⟨k,a0,a1,a2⟩:=e;simp only at k2;subst k2;exact gK a0 a1 a2 
 by_cases k3:e.Kind=3
 ·have hF:Em e  = KG e.A e.B e.C  := by unfold Em;rw [if_neg k1];rw [if_neg k2];rw [if_pos k3]
  rw [hF];obtain ⟨k,a0,a1,a2⟩:=e;simp only at k3;subst k3;exact gJ a0 a1 a2 
 have hF:Em e  = I0 e  := by unfold Em;rw [if_neg k1,if_neg k2,if_neg k3]
 rw [hF];exact gI e  k1 k2 k3
theorem WW (e:AG)  : OKc (SD e ):=cPu<|lM e
def Z0c:Bool:=bif !(Z02 a0 a1 a2) then true else true
def H9 (a0:AD) (a1:AD) (a2:AD):Int:=bif Z0c a0 a1 a2 then (0) else (max (max (max ((A3 a0 a2).X) (W64 (0-((A3 a0 a2).X)))) ((A3 a0 a2).Y)) (W64 (0-((A3 a0 a2).Y))))
def dR:CT:=(43,[.agg [.i 1,.i a0.X,.i a0.Y,.i a1.X,.i a1.Y,.i a2.X,.i a2.Y]],.val [] (.av (.one (.i (H9 a0 a1 a2)))))
theorem mN {p:Prop} (h:p:=by
 refine pwf Try.func43 fun W0 M0 => ?_
 refine AA<|rn ⟨[(1,tP 1 0)],[(1,.cells [.i mp0,.i a0.X,.i a0.Y,.i a1.X,.i a1.Y,.i a2.X,.i a2.Y] 33)]⟩<|AA<|AA<|rs 8 (mp1 a0 a1 a2) ⟨[(1,tP 1 0),(4,tB (mp2 a0 a1 a2))],[(1,.cells [.i mp0,.i a0.X,.i a0.Y,.i a1.X,.i a1.Y,.i a2.X,.i a2.Y] 33)]⟩ (mp3 a0 a1 a2)<|AF<|AA<|rc [] (i3 (!(mp2 a0 a1 a2)) []) ⟨[(1,tP 1 0),(17,tB (mp4 a0 a1 a2))],[(1,.cells [.i mp0,.i a0.X,.i a0.Y,.i a1.X,.i a1.Y,.i a2.X,.i a2.Y] 33)]⟩ .nil (c3 .nil)<|AF<|AL _ rfl (fun h1 => ?_) (fun h1 => ?_)
 ·exact AA<|rn ⟨[(2,tI 0)],[]⟩<|AR<|Au<|xl (tO (.i 0)) (BX (by simp only [mp5,h1,cond_true,cond_false] <;> rfl))
 exact AQ<|AF<|AA<|rs 22 (Iq a0 a2) ⟨[(5,tP 5 0)],[(5,.cells (AD.c (A3 a0 a2)) 31)]⟩ (LW a0 a2)<|AF<|AA<|rn ⟨[(2,tI (max (max (max ((A3 a0 a2).X) (W64 (0-((A3 a0 a2).X)))) ((A3 a0 a2).Y)) (W64 (0-((A3 a0 a2).Y)))))],[]⟩<|AR<|xl (tO (.i (max (max (max ((A3 a0 a2).X) (W64 (0-((A3 a0 a2).X)))) ((A3 a0 a2).Y)) (W64 (0-((A3 a0 a2).Y)))))) (BX (by simp only [mp5,h1,cond_true,cond_false] <;> rfl))):p:=h
section
 open Go.Proofs.Ytgmhnkoifdpemaa renaming ni1→mp0,iR→mp1,Z02→mp2,kF→mp3,Z0c→mp4,H9→mp5
theorem aQ (a0:AD) (a1:AD) (a2:AD):PuP 43 (dR a0 a1 a2).2.1 (tO (.i (H9 a0 a1 a2))):=mN
end
def Z0d:Bool:=bif !(Z05 a0 a1 a2) then true else false
def H8 (a0:AD) (a1:AD) (a2:AD):Int:=bif Z0d a0 a1 a2 then (0) else (max (max (max ((A3 a0 a2).X) (W64 (0-((A3 a0 a2).X)))) ((A3 a0 a2).Y)) (W64 (0-((A3 a0 a2).Y))))
def dQ:CT:=(43,[.agg [.i 2,.i a0.X,.i a0.Y,.i a1.X,.i a1.Y,.i a2.X,.i a2.Y]],.val [] (.av (.one (.i (H8 a0 a1 a2)))))
section
 open Go.Proofs.Ytgmhnkoifdpemaa renaming ni2→mp0,iQ→mp1,Z05→mp2,kE→mp3,Z0d→mp4,H8→mp5
theorem aP (a0:AD) (a1:AD) (a2:AD):PuP 43 (dQ a0 a1 a2).2.1 (tO (.i (H8 a0 a1 a2))):=mN
end
def Z0e:Bool:=bif !(Z08 a0 a1 a2) then true else false
def H7 (a0:AD) (a1:AD) (a2:AD):Int:=bif Z0e a0 a1 a2 then (0) else (max (max (max ((A3 a0 a2).X) (W64 (0-((A3 a0 a2).X)))) ((A3 a0 a2).Y)) (W64 (0-((A3 a0 a2).Y))))
def dP:CT:=(43,[.agg [.i 3,.i a0.X,.i a0.Y,.i a1.X,.i a1.Y,.i a2.X,.i a2.Y]],.val [] (.av (.one (.i (H7 a0 a1 a2)))))
section
 open Go.Proofs.Ytgmhnkoifdpemaa renaming ni3→mp0,iP→mp1,Z08→mp2,kD→mp3,Z0e→mp4,H7→mp5
theorem aO (a0:AD) (a1:AD) (a2:AD):PuP 43 (dP a0 a1 a2).2.1 (tO (.i (H7 a0 a1 a2))):=mN
end
def Jp (e:AG):Int:=0
def dO:CT:=(43,[.agg (AG.c e)],.val [] (.av (.one (.i (Jp e)))))
theorem aN (e:AG) (k1:¬ e.Kind=1) (k2:¬ e.Kind=2) (k3:¬ e.Kind=3):PuP 43 (dO e).2.1 (tO (.i (Jp e))):=by
 refine pwf Try.func43 fun W0 M0 => ?_
 exact AA<|rn ⟨[(1,tP 1 0)],[(1,.cells (AG.c e) 33)]⟩<|AA<|AA<|rs 8 (iO e) ⟨[(1,tP 1 0),(4,tB false)],[(1,.cells (AG.c e) 33)]⟩ (kC e k1 k2 k3)<|AF<|AA<|rc [] [((true)=false)->((true)=false),((true)=false)->((true)=false),(true)=false->((true)=false)] ⟨[(1,tP 1 0),(17,tB true)],[(1,.cells (AG.c e) 33)]⟩ .nil (ci (ci (ci .nil)))<|AF<|Bq kr<|AA<|rn ⟨[(2,tI 0)],[]⟩<|AR<|Au<|xl (tO (.i 0)) (BX (by rfl))
def E8 (e:AG)  : Int:=if e.Kind=1 then H9 e.A e.B e.C  else if e.Kind=2 then H8 e.A e.B e.C  else if e.Kind=3 then H7 e.A e.B e.C  else Jp e
def Nl:CT:=(43,[.agg (AG.c e)],.val [] (.av (.one (.i (E8 e )))))
theorem gC (e:AG)  : PuP 43 (Nl e ).2.1 (.av (.one (.i (E8 e )))):=by
 by_cases k1:e.Kind=1
 ·have hF:E8 e  = H9 e.A e.B e.C  := by unfold E8;rw [if_pos k1]
  rw [hF];obtain ⟨k,a0,a1,a2⟩:=e;simp only at k1;subst k1;exact aQ a0 a1 a2 
 by_cases k2:e.Kind=2
 ·have hF:E8 e  = H8 e.A e.B e.C  := by unfold E8;rw [if_neg k1];rw [if_pos k2]
  rw [hF];obtain ⟨k,a0,a1,a2⟩:=e;simp only at k2;subst k2;exact aP a0 a1 a2 
 by_cases k3:e.Kind=3
 ·have hF:E8 e  = H7 e.A e.B e.C  := by unfold E8;rw [if_neg k1];rw [if_neg k2];rw [if_pos k3]
  rw [hF];obtain ⟨k,a0,a1,a2⟩:=e;simp only at k3;subst k3;exact aO a0 a1 a2 
 have hF:E8 e  = Jp e  := by unfold E8;rw [if_neg k1,if_neg k2,if_neg k3]
 rw [hF];exact aN e  k1 k2 k3
theorem aY (e:AG)  : OKc (Nl e ):=cPu<|gC e
end
section
open Go.ChangeShapes Go.WideShapes Go.ChangeAt Go.RowKit
theorem own:ownKnob Try.prog.godebug=none:=by kernel_rfl
theorem gZ:laidOutB Try.prog=true:=by kernel_rfl
theorem aV:CS Try.prog 23 (fun xs:List Int=>[lst 1 eIn xs]) (fun xs=>xs.length<=maxLen/\∀ x∈xs,WF .i64 x):=CP 1 Try.underlying23 kr (by decide) (BU Try.underlying3)
theorem opT26:CS Try.prog 26 (fun xs:List (List Int)=>[lst 1 (fun x=>[lst 1 eIn x]) xs]) (fun xs=>xs.length<=maxLen/\∀ x∈xs,(x.length<=maxLen/\∀ y∈x,WF .i64 y)):=CP 1 Try.underlying26 kr (by decide) aV
def EO.ok (x:EO):Prop:=WF .i64 x.e0/\WF .i64 x.e1/\WF .i64 x.e2/\True
theorem opT27:CS Try.prog 27 EO.c EO.ok:=by
 refine Ck (S3 Try.underlying27 kr (BU Try.underlying3)) ?_
 rintro xs ⟨hl,hx⟩
 match xs,hl with
 | [a0,a1,a2],_=>exact ⟨⟨a0,a1,a2⟩,⟨hx _ (by simp),hx _ (by simp),hx _ (by simp),trivial⟩,rfl⟩
def FG.ok (x:FG):Prop:=(x.Shape.length<=maxLen/\∀ y∈x.Shape,WF .i64 y)/\(x.Edge.length<=maxLen/\∀ y∈x.Edge,WF .i64 y)/\(x.Board.length<=maxLen/\∀ y∈x.Board,(y.length<=maxLen/\∀ z∈y,WF .i64 z))/\EO.ok x.Odd/\True
theorem opT29:CS Try.prog 29 FG.c FG.ok:=by
 refine Ck (Bw Try.underlying29 kr (AY 1 kr rfl aV (AY 1 kr rfl aV (AY 1 kr rfl opT26 (AY 3 kr rfl opT27 CW))))) ?_
 rintro ⟨a0,a1,a2,a3,_⟩ ⟨h0,h1,h2,h3,_⟩
 exact ⟨⟨a0,a1,a2,a3⟩,⟨h0,h1,h2,h3,trivial⟩,rfl⟩
def AD.ok (x:AD):Prop:=WF .i64 x.X/\WF .i64 x.Y/\True
theorem S5:CS Try.prog 31 AD.c AD.ok:=by
 refine Ck (Bw Try.underlying31 kr (AY 1 kr rfl (BU Try.underlying3) (AY 1 kr rfl (BU Try.underlying3) CW))) ?_
 rintro ⟨a0,a1,_⟩ ⟨h0,h1,_⟩
 exact ⟨⟨a0,a1⟩,⟨h0,h1,trivial⟩,rfl⟩
def AG.ok (x:AG):Prop:=WF .i64 x.Kind/\AD.ok x.A/\AD.ok x.B/\AD.ok x.C/\True
theorem opT33:CS Try.prog 33 AG.c AG.ok:=by
 refine Ck (Bw Try.underlying33 kr (AY 1 kr rfl (BU Try.underlying3) (AY 2 kr rfl S5 (AY 2 kr rfl S5 (AY 2 kr rfl S5 CW))))) ?_
 rintro ⟨a0,a1,a2,a3,_⟩ ⟨h0,h1,h2,h3,_⟩
 exact ⟨⟨a0,a1,a2,a3⟩,⟨h0,h1,h2,h3,trivial⟩,rfl⟩
theorem opT34:CS Try.prog 34 (fun xs:List AG=>[lst 7 AG.c xs]) (fun xs=>xs.length<=maxLen/\∀ x∈xs,AG.ok x):=CP 7 Try.underlying34 kr (by decide) opT33
def AX.ok (x:AX):Prop:=WF .i64 x.Kind/\(x.Edges.length<=maxLen/\∀ y∈x.Edges,AG.ok y)/\WF .i64 x.R/\True
theorem WU:CS Try.prog 36 AX.c AX.ok:=by
 refine Ck (Bw Try.underlying36 kr (AY 1 kr rfl (BU Try.underlying3) (AY 1 kr rfl opT34 (AY 1 kr rfl (BU Try.underlying3) CW)))) ?_
 rintro ⟨a0,a1,a2,_⟩ ⟨h0,h1,h2,_⟩
 exact ⟨⟨a0,a1,a2⟩,⟨h0,h1,h2,trivial⟩,rfl⟩
def AU.ok (x:AU):Prop:=WF .i64 x.Id/\x.Ref.size<=maxLen/\x.Type'.size<=maxLen/\AD.ok x.At/\WF .i64 x.Turn/\True/\True
theorem mB:CS Try.prog 115 AU.c AU.ok:=by
 refine Ck (Bw Try.underlying115 kr (AY 1 kr rfl (BU Try.underlying3) (AY 1 kr rfl (Cs Try.underlying9) (AY 1 kr rfl (Cs Try.underlying9) (AY 2 kr rfl S5 (AY 1 kr rfl (BU Try.underlying3) (AY 1 kr rfl (VK Try.underlying4) CW))))))) ?_
 rintro ⟨a0,a1,a2,a3,a4,a5,_⟩ ⟨h0,h1,h2,h3,h4,h5,_⟩
 exact ⟨⟨a0,a1,a2,a3,a4,a5⟩,⟨h0,h1,h2,h3,h4,h5,trivial⟩,rfl⟩
theorem opT50:CS Try.prog 50 (fun xs:List AU=>[lst 7 AU.c xs]) (fun xs=>xs.length<=maxLen/\∀ x∈xs,AU.ok x):=CP 7 Try.underlying50 kr (by decide) mB
def Ag.ok (x:Ag):Prop:=x.Ref.size<=maxLen/\x.Pad.size<=maxLen/\True
theorem mA:CS Try.prog 121 Ag.c Ag.ok:=by
 refine Ck (Bw Try.underlying121 kr (AY 1 kr rfl (Cs Try.underlying9) (AY 1 kr rfl (Cs Try.underlying9) CW))) ?_
 rintro ⟨a0,a1,_⟩ ⟨h0,h1,_⟩
 exact ⟨⟨a0,a1⟩,⟨h0,h1,trivial⟩,rfl⟩
theorem opT67:CS Try.prog 67 (fun xs:List Ag=>[lst 2 Ag.c xs]) (fun xs=>xs.length<=maxLen/\∀ x∈xs,Ag.ok x):=CP 2 Try.underlying67 kr (by decide) mA
def A9.ok (x:A9):Prop:=x.Name.size<=maxLen/\(x.Pins.length<=maxLen/\∀ y∈x.Pins,Ag.ok y)/\True
theorem opT69:CS Try.prog 69 A9.c A9.ok:=by
 refine Ck (Bw Try.underlying69 kr (AY 1 kr rfl (Cs Try.underlying9) (AY 1 kr rfl opT67 CW))) ?_
 rintro ⟨a0,a1,_⟩ ⟨h0,h1,_⟩
 exact ⟨⟨a0,a1⟩,⟨h0,h1,trivial⟩,rfl⟩
theorem opT51:CS Try.prog 51 (fun xs:List A9=>[lst 2 A9.c xs]) (fun xs=>xs.length<=maxLen/\∀ x∈xs,A9.ok x):=CP 2 Try.underlying51 kr (by decide) opT69
def AO.ok (x:AO):Prop:=WF .i64 x.Id/\x.Net.size<=maxLen/\WF .i64 x.Layer/\AX.ok x.Shape/\True
theorem opT81:CS Try.prog 81 AO.c AO.ok:=by
 refine Ck (Bw Try.underlying81 kr (AY 1 kr rfl (BU Try.underlying3) (AY 1 kr rfl (Cs Try.underlying9) (AY 1 kr rfl (BU Try.underlying3) (AY 3 kr rfl WU CW))))) ?_
 rintro ⟨a0,a1,a2,a3,_⟩ ⟨h0,h1,h2,h3,_⟩
 exact ⟨⟨a0,a1,a2,a3⟩,⟨h0,h1,h2,h3,trivial⟩,rfl⟩
theorem opT52:CS Try.prog 52 (fun xs:List AO=>[lst 6 AO.c xs]) (fun xs=>xs.length<=maxLen/\∀ x∈xs,AO.ok x):=CP 6 Try.underlying52 kr (by decide) opT81
def BW.ok (x:BW):Prop:=WF .i64 x.Id/\x.Net.size<=maxLen/\AD.ok x.At/\WF .i64 x.R/\WF .i64 x.Drill/\WF .i64 x.From/\WF .i64 x.To/\True
theorem lZ:CS Try.prog 129 BW.c BW.ok:=by
 refine Ck (Bw Try.underlying129 kr (AY 1 kr rfl (BU Try.underlying3) (AY 1 kr rfl (Cs Try.underlying9) (AY 2 kr rfl S5 (AY 1 kr rfl (BU Try.underlying3) (AY 1 kr rfl (BU Try.underlying3) (AY 1 kr rfl (BU Try.underlying3) (AY 1 kr rfl (BU Try.underlying3) CW)))))))) ?_
 rintro ⟨a0,a1,a2,a3,a4,a5,a6,_⟩ ⟨h0,h1,h2,h3,h4,h5,h6,_⟩
 exact ⟨⟨a0,a1,a2,a3,a4,a5,a6⟩,⟨h0,h1,h2,h3,h4,h5,h6,trivial⟩,rfl⟩
theorem opT53:CS Try.prog 53 (fun xs:List BW=>[lst 8 BW.c xs]) (fun xs=>xs.length<=maxLen/\∀ x∈xs,BW.ok x):=CP 8 Try.underlying53 kr (by decide) lZ
def Ah.ok (x:Ah):Prop:=WF .i64 x.X0/\WF .i64 x.Y0/\WF .i64 x.X1/\WF .i64 x.Y1/\True
theorem opT99:CS Try.prog 99 Ah.c Ah.ok:=by
 refine Ck (Bw Try.underlying99 kr (AY 1 kr rfl (BU Try.underlying3) (AY 1 kr rfl (BU Try.underlying3) (AY 1 kr rfl (BU Try.underlying3) (AY 1 kr rfl (BU Try.underlying3) CW))))) ?_
 rintro ⟨a0,a1,a2,a3,_⟩ ⟨h0,h1,h2,h3,_⟩
 exact ⟨⟨a0,a1,a2,a3⟩,⟨h0,h1,h2,h3,trivial⟩,rfl⟩
theorem lY:CS Try.prog 130 (fun xs:List Ah=>[lst 4 Ah.c xs]) (fun xs=>xs.length<=maxLen/\∀ x∈xs,Ah.ok x):=CP 4 Try.underlying130 kr (by decide) opT99
def A4.ok (x:A4):Prop:=WF .i64 x.Id/\x.Net.size<=maxLen/\WF .i64 x.Layer/\WF .i64 x.Pitch/\WF .i64 x.Priority/\WF .i64 x.Relief/\WF .i64 x.Spoke/\(x.Rects.length<=maxLen/\∀ y∈x.Rects,Ah.ok y)/\True
theorem lX:CS Try.prog 132 A4.c A4.ok:=by
 refine Ck (Bw Try.underlying132 kr (AY 1 kr rfl (BU Try.underlying3) (AY 1 kr rfl (Cs Try.underlying9) (AY 1 kr rfl (BU Try.underlying3) (AY 1 kr rfl (BU Try.underlying3) (AY 1 kr rfl (BU Try.underlying3) (AY 1 kr rfl (BU Try.underlying3) (AY 1 kr rfl (BU Try.underlying3) (AY 1 kr rfl lY CW))))))))) ?_
 rintro ⟨a0,a1,a2,a3,a4,a5,a6,a7,_⟩ ⟨h0,h1,h2,h3,h4,h5,h6,h7,_⟩
 exact ⟨⟨a0,a1,a2,a3,a4,a5,a6,a7⟩,⟨h0,h1,h2,h3,h4,h5,h6,h7,trivial⟩,rfl⟩
theorem opT54:CS Try.prog 54 (fun xs:List A4=>[lst 8 A4.c xs]) (fun xs=>xs.length<=maxLen/\∀ x∈xs,A4.ok x):=CP 8 Try.underlying54 kr (by decide) lX
def A5.ok (x:A5):Prop:=WF .i64 x.Id/\WF .i64 x.Layer/\AX.ok x.Shape/\True
theorem lW:CS Try.prog 135 A5.c A5.ok:=by
 refine Ck (Bw Try.underlying135 kr (AY 1 kr rfl (BU Try.underlying3) (AY 1 kr rfl (BU Try.underlying3) (AY 3 kr rfl WU CW)))) ?_
 rintro ⟨a0,a1,a2,_⟩ ⟨h0,h1,h2,_⟩
 exact ⟨⟨a0,a1,a2⟩,⟨h0,h1,h2,trivial⟩,rfl⟩
theorem opT55:CS Try.prog 55 (fun xs:List A5=>[lst 5 A5.c xs]) (fun xs=>xs.length<=maxLen/\∀ x∈xs,A5.ok x):=CP 5 Try.underlying55 kr (by decide) lW
def BC.ok (x:BC):Prop:=WF .i64 x.Id/\AX.ok x.Shape/\True
theorem lV:CS Try.prog 137 BC.c BC.ok:=by
 refine Ck (Bw Try.underlying137 kr (AY 1 kr rfl (BU Try.underlying3) (AY 3 kr rfl WU CW))) ?_
 rintro ⟨a0,a1,_⟩ ⟨h0,h1,_⟩
 exact ⟨⟨a0,a1⟩,⟨h0,h1,trivial⟩,rfl⟩
theorem opT56:CS Try.prog 56 (fun xs:List BC=>[lst 4 BC.c xs]) (fun xs=>xs.length<=maxLen/\∀ x∈xs,BC.ok x):=CP 4 Try.underlying56 kr (by decide) lV
theorem aU:CS Try.prog 63 (fun xs:List ByteArray=>[lst 1 (fun x=>[.s x]) xs]) (fun xs=>xs.length<=maxLen/\∀ x∈xs,x.size<=maxLen):=CP 1 Try.underlying63 kr (by decide) (Cs Try.underlying9)
def BE.ok (x:BE):Prop:=x.Name.size<=maxLen/\(x.Nets.length<=maxLen/\∀ y∈x.Nets,y.size<=maxLen)/\True
theorem lU:CS Try.prog 139 BE.c BE.ok:=by
 refine Ck (Bw Try.underlying139 kr (AY 1 kr rfl (Cs Try.underlying9) (AY 1 kr rfl aU CW))) ?_
 rintro ⟨a0,a1,_⟩ ⟨h0,h1,_⟩
 exact ⟨⟨a0,a1⟩,⟨h0,h1,trivial⟩,rfl⟩
theorem opT57:CS Try.prog 57 (fun xs:List BE=>[lst 2 BE.c xs]) (fun xs=>xs.length<=maxLen/\∀ x∈xs,BE.ok x):=CP 2 Try.underlying57 kr (by decide) lU
def An.ok (x:An):Prop:=WF .i64 x.A/\WF .i64 x.B/\x.Rule.size<=maxLen/\True
theorem lT:CS Try.prog 141 An.c An.ok:=by
 refine Ck (Bw Try.underlying141 kr (AY 1 kr rfl (BU Try.underlying3) (AY 1 kr rfl (BU Try.underlying3) (AY 1 kr rfl (Cs Try.underlying9) CW)))) ?_
 rintro ⟨a0,a1,a2,_⟩ ⟨h0,h1,h2,_⟩
 exact ⟨⟨a0,a1,a2⟩,⟨h0,h1,h2,trivial⟩,rfl⟩
theorem opT59:CS Try.prog 59 (fun xs:List An=>[lst 3 An.c xs]) (fun xs=>xs.length<=maxLen/\∀ x∈xs,An.ok x):=CP 3 Try.underlying59 kr (by decide) lT
def AN.ok (x:AN):Prop:=x.Name.size<=maxLen/\(x.Nets.length<=maxLen/\∀ y∈x.Nets,y.size<=maxLen)/\WF .i64 x.Within/\True
theorem opT78:CS Try.prog 78 AN.c AN.ok:=by
 refine Ck (Bw Try.underlying78 kr (AY 1 kr rfl (Cs Try.underlying9) (AY 1 kr rfl aU (AY 1 kr rfl (BU Try.underlying3) CW)))) ?_
 rintro ⟨a0,a1,a2,_⟩ ⟨h0,h1,h2,_⟩
 exact ⟨⟨a0,a1,a2⟩,⟨h0,h1,h2,trivial⟩,rfl⟩
theorem opT60:CS Try.prog 60 (fun xs:List AN=>[lst 3 AN.c xs]) (fun xs=>xs.length<=maxLen/\∀ x∈xs,AN.ok x):=CP 3 Try.underlying60 kr (by decide) opT78
def AC.cA (x:AC):List Cl:=[.i x.Layers,.i x.Outline.Kind,lst 7 AG.c x.Outline.Edges,.i x.Outline.R,lst 7 AU.c x.Parts,lst 2 A9.c x.Nets,lst 6 AO.c x.Tracks,lst 8 BW.c x.Vias,lst 8 A4.c x.Pours,lst 5 A5.c x.Keeps,lst 4 BC.c x.Slots,lst 2 BE.c x.Classes,.any,lst 3 An.c x.Waivers,lst 3 AN.c x.Matches]
def AC.ok (x:AC):Prop:=WF .i64 x.Layers/\AX.ok x.Outline/\(x.Parts.length<=maxLen/\∀ y∈x.Parts,AU.ok y)/\(x.Nets.length<=maxLen/\∀ y∈x.Nets,A9.ok y)/\(x.Tracks.length<=maxLen/\∀ y∈x.Tracks,AO.ok y)/\(x.Vias.length<=maxLen/\∀ y∈x.Vias,BW.ok y)/\(x.Pours.length<=maxLen/\∀ y∈x.Pours,A4.ok y)/\(x.Keeps.length<=maxLen/\∀ y∈x.Keeps,A5.ok y)/\(x.Slots.length<=maxLen/\∀ y∈x.Slots,BC.ok y)/\(x.Classes.length<=maxLen/\∀ y∈x.Classes,BE.ok y)/\True/\(x.Waivers.length<=maxLen/\∀ y∈x.Waivers,An.ok y)/\(x.Matches.length<=maxLen/\∀ y∈x.Matches,AN.ok y)/\True
theorem opT62:CS Try.prog 62 AC.cA AC.ok:=by
 refine Ck (Bw Try.underlying62 kr (AY 1 kr rfl (BU Try.underlying3) (AY 3 kr rfl WU (AY 1 kr rfl opT50 (AY 1 kr rfl opT51 (AY 1 kr rfl opT52 (AY 1 kr rfl opT53 (AY 1 kr rfl opT54 (AY 1 kr rfl opT55 (AY 1 kr rfl opT56 (AY 1 kr rfl opT57 (AY 1 kr rfl (Xk (α:=(List Az)) Try.underlying58) (AY 1 kr rfl opT59 (AY 1 kr rfl opT60 CW)))))))))))))) ?_
 rintro ⟨a0,a1,a2,a3,a4,a5,a6,a7,a8,a9,a10,a11,a12,_⟩ ⟨h0,h1,h2,h3,h4,h5,h6,h7,h8,h9,h10,h11,h12,_⟩
 exact ⟨⟨a0,a1,a2,a3,a4,a5,a6,a7,a8,a9,a10,a11,a12⟩,⟨h0,h1,h2,h3,h4,h5,h6,h7,h8,h9,h10,h11,h12,trivial⟩,rfl⟩
end
def Cj (x0:AD):Bool:=bif bif bif decide ((((-67108864)):Int)<=x0.X) then decide ((x0.X:Int)<=67108864) else false then decide ((((-67108864)):Int)<=x0.Y) else false then decide ((x0.Y:Int)<=67108864) else false
def GT (x0:AD):CT:=(52,[.agg (AD.c x0)],.val [] (.av (.one (.b (Cj x0)))))
theorem Sw (x0:AD):PuP 52 (GT x0).2.1 (tO (.b (Cj x0))):=by
 refine pwf Try.func52 fun W0 M0 => ?_
 exact AA<|rn ⟨[(1,tP 1 0)],[(1,.cells (AD.c x0) 31)]⟩<|AA<|rc [] (t3 (decide ((((-67108864)):Int)<=x0.X)) (t3 (bif decide ((((-67108864)):Int)<=x0.X) then decide ((x0.X:Int)<=67108864) else false) (t3 (bif bif decide ((((-67108864)):Int)<=x0.X) then decide ((x0.X:Int)<=67108864) else false then decide ((((-67108864)):Int)<=x0.Y) else false) []))) ⟨[(2,tB (bif bif bif decide ((((-67108864)):Int)<=x0.X) then decide ((x0.X:Int)<=67108864) else false then decide ((((-67108864)):Int)<=x0.Y) else false then decide ((x0.Y:Int)<=67108864) else false))],[]⟩ .nil (c3 (c3 (c3 .nil)))<|AF<|AR<|xl (tO (.b (bif bif bif decide ((((-67108864)):Int)<=x0.X) then decide ((x0.X:Int)<=67108864) else false then decide ((((-67108864)):Int)<=x0.Y) else false then decide ((x0.Y:Int)<=67108864) else false))) (BX (by rfl))
theorem Ia (x0:AD):OKc (GT x0):=cPu<|Sw x0
def Ad (x0:AD) (x1:AD):AD:=AD.mk (W64 (x0.X-x1.X)) (W64 (x0.Y-x1.Y))
def Gu (x0:AD) (x1:AD):CT:=(47,[.agg (AD.c x0),.agg (AD.c x1)],.val [] (.av (.agg (AD.c (Ad x0 x1)))))
theorem Xb (x0:AD) (x1:AD):PuP 47 (Gu x0 x1).2.1 (.av (.agg (AD.c (Ad x0 x1)))):=by
 refine pwf Try.func47 fun W0 M0 => ?_
 exact AA<|rn ⟨[(2,tP 2 0),(3,tP 3 0),(4,tP 4 0)],[(2,.cells (AD.c x0) 31),(3,.cells (AD.c x1) 31),(4,.cells [.i 0,.i 0] 31)]⟩<|AA<|rn ⟨[(4,tP 4 0)],[(4,.cells [.i (W64 (x0.X-x1.X)),.i (W64 (x0.Y-x1.Y))] 31)]⟩<|AR<|xl (.av (.agg [.i (W64 (x0.X-x1.X)),.i (W64 (x0.Y-x1.Y))])) (BX (by rfl))
theorem IZ (x0:AD) (x1:AD):OKc (Gu x0 x1):=cPu<|Xb x0 x1
def DF (x0:AD) (x1:AD):AD:=AD.mk (W64 (x0.X+x1.X)) (W64 (x0.Y+x1.Y))
def Fc (x0:AD) (x1:AD):CT:=(36,[.agg (AD.c x0),.agg (AD.c x1)],.val [] (.av (.agg (AD.c (DF x0 x1)))))
theorem Xd (x0:AD) (x1:AD):PuP 36 (Fc x0 x1).2.1 (.av (.agg (AD.c (DF x0 x1)))):=by
 refine pwf Try.func36 fun W0 M0 => ?_
 exact AA<|rn ⟨[(2,tP 2 0),(3,tP 3 0),(4,tP 4 0)],[(2,.cells (AD.c x0) 31),(3,.cells (AD.c x1) 31),(4,.cells [.i 0,.i 0] 31)]⟩<|AA<|rn ⟨[(4,tP 4 0)],[(4,.cells [.i (W64 (x0.X+x1.X)),.i (W64 (x0.Y+x1.Y))] 31)]⟩<|AR<|xl (.av (.agg [.i (W64 (x0.X+x1.X)),.i (W64 (x0.Y+x1.Y))])) (BX (by rfl))
theorem K5 (x0:AD) (x1:AD):OKc (Fc x0 x1):=cPu<|Xd x0 x1
def Gw (x0:AD) (x1:AD):Int:=W64 ((W64 (x0.X*x1.X))+(W64 (x0.Y*x1.Y)))
def J8 (x0:AD) (x1:AD):CT:=(48,[.agg (AD.c x0),.agg (AD.c x1)],.val [] (.av (.one (.i (Gw x0 x1)))))
theorem Xc (x0:AD) (x1:AD):PuP 48 (J8 x0 x1).2.1 (tO (.i (Gw x0 x1))):=by
 refine pwf Try.func48 fun W0 M0 => ?_
 exact AA<|rn ⟨[(2,tP 2 0),(3,tP 3 0)],[(2,.cells (AD.c x0) 31),(3,.cells (AD.c x1) 31)]⟩<|AA<|rn ⟨[(4,tI (W64 ((W64 (x0.X*x1.X))+(W64 (x0.Y*x1.Y)))))],[]⟩<|AR<|xl (tO (.i (W64 ((W64 (x0.X*x1.X))+(W64 (x0.Y*x1.Y)))))) (BX (by rfl))
theorem VP (x0:AD) (x1:AD):OKc (J8 x0 x1):=cPu<|Xc x0 x1
def Ci (x0:Int):Int:=Int.tmod (W64 ((Int.tmod x0 4)+4)) 4
def Ji (x0:Int):CT:=(90,[.one (.i x0)],.val [] (.av (.one (.i (Ci x0)))))
theorem au13 {p:Prop} (h:p:=by first | assumption | decide | omega):p:=h
theorem Sv (x0:Int):PuP 90 (Ji x0).2.1 (tO (.i (Ci x0))):=by
 refine pwf Try.func90 fun W0 M0 => ?_
 exact AA<|rn ⟨[(0,tI x0)],[]⟩<|AA<|rc [] [(4:Int)≠0,(4:Int)≠0] ⟨[(2,tI (Int.tmod (W64 ((Int.tmod x0 4)+4)) 4))],[]⟩ .nil (.cons au13 (.cons au13 .nil))<|AF<|AR<|xl (tO (.i (Int.tmod (W64 ((Int.tmod x0 4)+4)) 4))) (BX (by rfl))
theorem Rl (x0:Int):OKc (Ji x0):=cPu<|Sv x0
def Cu (x0:AD) (x1:Int):AD:=bif decide (((Ci x1):Int)=1) then (AD.mk (W64 (0-x0.Y)) x0.X) else (bif decide (((Ci x1):Int)=2) then (AD.mk (W64 (0-x0.X)) (W64 (0-x0.Y))) else (bif decide (((Ci x1):Int)=3) then (AD.mk x0.Y (W64 (0-x0.X))) else (x0)))
def Gp (x0:AD) (x1:Int):CT:=(68,[.agg (AD.c x0),.one (.i x1)],.val [] (.av (.agg (AD.c (Cu x0 x1)))))
theorem Rb (x0:AD) (x1:Int):PuP 68 (Gp x0 x1).2.1 (.av (.agg (AD.c (Cu x0 x1)))):=by
 refine pwf Try.func68 fun W0 M0 => ?_
 refine AA<|rn ⟨[(1,tI x1),(2,tP 2 0),(4,tP 4 0)],[(2,.cells (AD.c x0) 31),(4,.cells [.i 0,.i 0] 31)]⟩<|AA<|AA<|rs 6 (Ji x1) ⟨[(2,tP 2 0),(4,tP 4 0),(6,tI (Ci x1))],[(2,.cells (AD.c x0) 31),(4,.cells [.i 0,.i 0] 31)]⟩ (Rl x1)<|AF<|AM<|AA<|rn ⟨[(2,tP 2 0),(4,tP 4 0),(6,tI (Ci x1)),(7,tB (decide (((Ci x1):Int)=1)))],[(2,.cells (AD.c x0) 31),(4,.cells [.i 0,.i 0] 31)]⟩<|AL _ rfl (fun h1 => ?_) (fun h1 => ?_)
 ·exact AA<|rn ⟨[(4,tP 4 0)],[(4,.cells [.i (W64 (0-x0.Y)),.i x0.X] 31)]⟩<|AR<|BN<|Au<|xl (.av (.agg [.i (W64 (0-x0.Y)),.i x0.X])) (BX (by simp only [Cu,h1,cond_true,cond_false] <;> rfl))
 refine AA<|rn ⟨[(2,tP 2 0),(4,tP 4 0),(6,tI (Ci x1)),(15,tB (decide (((Ci x1):Int)=2)))],[(2,.cells (AD.c x0) 31),(4,.cells [.i 0,.i 0] 31)]⟩<|AL _ rfl (fun h2 => ?_) (fun h2 => ?_)
 ·exact AA<|rn ⟨[(4,tP 4 0)],[(4,.cells [.i (W64 (0-x0.X)),.i (W64 (0-x0.Y))] 31)]⟩<|AR<|BN<|Au<|xl (.av (.agg [.i (W64 (0-x0.X)),.i (W64 (0-x0.Y))])) (BX (by simp only [Cu,h1,h2,cond_true,cond_false] <;> rfl))
 refine AA<|rn ⟨[(2,tP 2 0),(4,tP 4 0),(24,tB (decide (((Ci x1):Int)=3)))],[(2,.cells (AD.c x0) 31),(4,.cells [.i 0,.i 0] 31)]⟩<|AL _ rfl (fun h3 => ?_) (fun h3 => ?_)
 ·exact AA<|rn ⟨[(4,tP 4 0)],[(4,.cells [.i x0.Y,.i (W64 (0-x0.X))] 31)]⟩<|AR<|BN<|Au<|xl (.av (.agg [.i x0.Y,.i (W64 (0-x0.X))])) (BX (by simp only [Cu,h1,h2,h3,cond_true,cond_false] <;> rfl))
 exact AQ<|A0<|AF<|AA<|rn ⟨[(4,tP 4 0)],[(4,.cells (AD.c x0) 31)]⟩<|AR<|xl (.av (.agg (AD.c x0))) (BX (by simp only [Cu,h1,h2,h3,cond_true,cond_false] <;> rfl))
theorem PY (x0:AD) (x1:Int):OKc (Gp x0 x1):=cPu<|Rb x0 x1
def CY (x0:AD) (x1:Bool):AD:=AD.mk (bif x1 then (W64 (0-x0.X)) else x0.X) x0.Y
def Fz (x0:AD) (x1:Bool):CT:=(69,[.agg (AD.c x0),.one (.b x1)],.val [] (.av (.agg (AD.c (CY x0 x1)))))
theorem Od (x0:AD) (x1:Bool):PuP 69 (Fz x0 x1).2.1 (.av (.agg (AD.c (CY x0 x1)))):=by
 refine pwf Try.func69 fun W0 M0 => ?_
 refine AA<|rn ⟨[(1,tB x1),(2,tP 2 0),(4,tP 4 0)],[(2,.cells (AD.c x0) 31),(4,.cells [.i 0,.i 0] 31)]⟩<|AA<|AA<|rn ⟨[(2,tP 2 0),(4,tP 4 0),(5,tB x1)],[(2,.cells (AD.c x0) 31),(4,.cells [.i 0,.i 0] 31)]⟩<|CR (⟨[(2,tP 2 0),(4,tP 4 0)],[(2,.cells [.i (bif x1 then (W64 (0-x0.X)) else x0.X),.i x0.Y] 31),(4,.cells [.i 0,.i 0] 31)]⟩) ?_ ?_
 ·refine AL _ rfl (fun h1 => ?_) (fun h1 => ?_)
  ·refine rn ⟨[(2,tP 2 0),(4,tP 4 0)],[(2,.cells [.i (W64 (0-x0.X)),.i x0.Y] 31),(4,.cells [.i 0,.i 0] 31)]⟩<|BG ?_
   first | rfl | (simp only [h1,cond_true,cond_false] <;> rfl)
  refine AQ<|AF<|Cv.trans (ck (⟨[(2,tP 2 0),(4,tP 4 0)],[(2,.cells (AD.c x0) 31),(4,.cells [.i 0,.i 0] 31)]⟩)) (BG ?_)
  first | rfl | (simp only [h1,cond_true,cond_false] <;> rfl)
 exact AA<|rn ⟨[(4,tP 4 0)],[(4,.cells [.i (bif x1 then (W64 (0-x0.X)) else x0.X),.i x0.Y] 31)]⟩<|AR<|xl (.av (.agg [.i (bif x1 then (W64 (0-x0.X)) else x0.X),.i x0.Y])) (BX (by rfl))
theorem NS (x0:AD) (x1:Bool):OKc (Fz x0 x1):=cPu<|Od x0 x1
def Z0f (x1:AD) (x0:BO):AD:=Cu (CY x1 x0.Mirror) x0.Turn
def Ff (x0:BO) (x1:AD):AD:=DF (Z0f x1 x0) x0.At
def Fb (x0:BO) (x1:AD):CT:=(35,[.agg (BO.c x0),.agg (AD.c x1)],.val [] (.av (.agg (AD.c (Ff x0 x1)))))
theorem Sx (x0:BO) (x1:AD):PuP 35 (Fb x0 x1).2.1 (.av (.agg (AD.c (Ff x0 x1)))):=by
 refine pwf Try.func35 fun W0 M0 => ?_
 exact AA<|rn ⟨[(2,tP 2 0),(3,tP 3 0),(4,tP 4 0)],[(2,.cells (BO.c x0) 84),(3,.cells (AD.c x1) 31),(4,.cells [.i 0,.i 0] 31)]⟩<|AA<|dw [] [(8,Fz x1 x0.Mirror),(11,Gp (CY x1 x0.Mirror) x0.Turn),(14,Fc (Z0f x1 x0) x0.At)] [As (Fz x1 x0.Mirror).2.1,As (Gp (CY x1 x0.Mirror) x0.Turn).2.1,As (Fc (Z0f x1 x0) x0.At).2.1] ⟨[(4,tP 4 0)],[(4,.cells (AD.c (DF (Z0f x1 x0) x0.At)) 31)]⟩ (.cons (NS x1 x0.Mirror) (.cons (PY (CY x1 x0.Mirror) x0.Turn) (.cons (K5 (Z0f x1 x0) x0.At) .nil))) (.cons rfl (.cons rfl (.cons rfl .nil)))<|AF<|AR<|xl (.av (.agg (AD.c (DF (Z0f x1 x0) x0.At)))) (BX (by rfl))
theorem Ib (x0:BO) (x1:AD):OKc (Fb x0 x1):=cPu<|Sx x0 x1
def Z0g (x0:AG):Bool:=bif !(Cj x0.A) then true else !(Cj x0.B)
def Z0h (x0:AG):Bool:=bif Z0g x0 then true else !(Cj x0.C)
def B4 (x0:AG):Int:=bif bif decide ((x0.Kind:Int)<1) then true else decide ((3:Int)<x0.Kind) then (11) else (bif Z0h x0 then (10) else (bif decide ((x0.Kind:Int)=1) then (bif !(decide (x0.C.X=0)&&(decide (x0.C.Y=0)&&true)) then (11) else (0)) else (bif bif ((decide ((((Ad x0.A x0.C).X):Int)=0))==(decide ((((Ad x0.A x0.C).Y):Int)=0))) then true else !(decide (((Ad x0.B x0.C).X)=(bif decide ((x0.Kind:Int)=3) then ((Ad x0.A x0.C).Y) else (W64 (0-((Ad x0.A x0.C).Y)))))&&(decide (((Ad x0.B x0.C).Y)=(bif decide ((x0.Kind:Int)=3) then (W64 (0-((Ad x0.A x0.C).X))) else ((Ad x0.A x0.C).X)))&&true)) then (11) else (0))))
def Dy (x0:AG):CT:=(21,[.agg (AG.c x0)],.val [] (.av (.one (.i (B4 x0)))))
theorem Su (x0:AG):PuP 21 (Dy x0).2.1 (tO (.i (B4 x0))):=by
 refine pwf Try.func21 fun W0 M0 => ?_
 refine AA<|rn ⟨[(1,tP 1 0)],[(1,.cells (AG.c x0) 33)]⟩<|AA<|AA<|rc [] (i3 (decide ((x0.Kind:Int)<1)) []) ⟨[(1,tP 1 0),(16,tB (bif decide ((x0.Kind:Int)<1) then true else decide ((3:Int)<x0.Kind)))],[(1,.cells (AG.c x0) 33)]⟩ .nil (c3 .nil)<|AF<|AL _ rfl (fun h1 => ?_) (fun h1 => ?_)
 ·exact AA<|rn ⟨[(2,tI 11)],[]⟩<|AR<|Au<|xl (tO (.i 11)) (BX (by simp only [B4,h1,cond_true,cond_false] <;> rfl))
 refine AQ<|AF<|AA<|rs 19 (GT x0.A) ⟨[(1,tP 1 0),(3,tB (Cj x0.A))],[(1,.cells (AG.c x0) 33)]⟩ (Ia x0.A)<|AF<|AA<|rs 22 (GT x0.B) ⟨[(1,tP 1 0),(3,tB (Cj x0.A)),(4,tB (Cj x0.B))],[(1,.cells (AG.c x0) 33)]⟩ (Ia x0.B)<|AF<|AA<|rs 25 (GT x0.C) ⟨[(1,tP 1 0),(3,tB (Cj x0.A)),(4,tB (Cj x0.B)),(5,tB (Cj x0.C))],[(1,.cells (AG.c x0) 33)]⟩ (Ia x0.C)<|AF<|AA<|AA<|rc [] (i2 (!(Cj x0.A)) [gp ((Z0g x0)=false),gp ((Z0g x0)=false)]) ⟨[(1,tP 1 0),(35,tB (Z0h x0))],[(1,.cells (AG.c x0) 33)]⟩ .nil (c2 (ci (ci .nil)))<|AF<|AL _ rfl (fun h2 => ?_) (fun h2 => ?_)
 ·exact AA<|rn ⟨[(2,tI 10)],[]⟩<|AR<|Au<|xl (tO (.i 10)) (BX (by simp only [B4,h1,h2,cond_true,cond_false] <;> rfl))
 refine AQ<|AF<|AA<|AA<|rn ⟨[(1,tP 1 0),(38,tB (decide ((x0.Kind:Int)=1)))],[(1,.cells (AG.c x0) 33)]⟩<|AL _ rfl (fun h3 => ?_) (fun h3 => ?_)
 ·refine AA<|AA<|rn ⟨[(42,tB (!(decide (x0.C.X=0)&&(decide (x0.C.Y=0)&&true))))],[]⟩<|AL _ rfl (fun h4 => ?_) (fun h4 => ?_)
  ·exact AA<|rn ⟨[(2,tI 11)],[]⟩<|AR<|Au<|Au<|xl (tO (.i 11)) (BX (by simp only [B4,h1,h2,h3,h4,cond_true,cond_false] <;> rfl))
  exact AQ<|AF<|AA<|rn ⟨[(2,tI 0)],[]⟩<|AR<|Au<|xl (tO (.i 0)) (BX (by simp only [B4,h1,h2,h3,h4,cond_true,cond_false] <;> rfl))
 refine AQ<|AF<|AA<|rs 47 (Gu x0.A x0.C) ⟨[(1,tP 1 0),(6,tP 6 0)],[(1,.cells (AG.c x0) 33),(6,.cells (AD.c (Ad x0.A x0.C)) 31)]⟩ (IZ x0.A x0.C)<|AF<|AA<|rs 52 (Gu x0.B x0.C) ⟨[(1,tP 1 0),(6,tP 6 0),(7,tP 7 0)],[(1,.cells (AG.c x0) 33),(6,.cells (AD.c (Ad x0.A x0.C)) 31),(7,.cells (AD.c (Ad x0.B x0.C)) 31)]⟩ (IZ x0.B x0.C)<|AF<|AA<|rn ⟨[(1,tP 1 0),(6,tP 6 0),(7,tP 7 0),(8,tP 8 0)],[(1,.cells (AG.c x0) 33),(6,.cells (AD.c (Ad x0.A x0.C)) 31),(7,.cells (AD.c (Ad x0.B x0.C)) 31),(8,.cells [.i (W64 (0-((Ad x0.A x0.C).Y))),.i ((Ad x0.A x0.C).X)] 31)]⟩<|AA<|AA<|rn ⟨[(6,tP 6 0),(7,tP 7 0),(8,tP 8 0),(61,tB (decide ((x0.Kind:Int)=3)))],[(6,.cells (AD.c (Ad x0.A x0.C)) 31),(7,.cells (AD.c (Ad x0.B x0.C)) 31),(8,.cells [.i (W64 (0-((Ad x0.A x0.C).Y))),.i ((Ad x0.A x0.C).X)] 31)]⟩ ?_
 refine CR (⟨[(6,tP 6 0),(7,tP 7 0),(8,tP 8 0)],[(6,.cells (AD.c (Ad x0.A x0.C)) 31),(7,.cells (AD.c (Ad x0.B x0.C)) 31),(8,.cells [.i (bif decide ((x0.Kind:Int)=3) then ((Ad x0.A x0.C).Y) else (W64 (0-((Ad x0.A x0.C).Y)))),.i (bif decide ((x0.Kind:Int)=3) then (W64 (0-((Ad x0.A x0.C).X))) else ((Ad x0.A x0.C).X))] 31)]⟩) ?_ ?_
 ·refine AL _ rfl (fun h4 => ?_) (fun h4 => ?_)
  ·refine rn ⟨[(6,tP 6 0),(7,tP 7 0),(8,tP 8 0)],[(6,.cells (AD.c (Ad x0.A x0.C)) 31),(7,.cells (AD.c (Ad x0.B x0.C)) 31),(8,.cells [.i ((Ad x0.A x0.C).Y),.i (W64 (0-((Ad x0.A x0.C).X)))] 31)]⟩<|BG ?_
   first | rfl | (simp only [h4,cond_true,cond_false] <;> rfl)
  refine AQ<|AF<|Cv.trans (ck (⟨[(6,tP 6 0),(7,tP 7 0),(8,tP 8 0)],[(6,.cells (AD.c (Ad x0.A x0.C)) 31),(7,.cells (AD.c (Ad x0.B x0.C)) 31),(8,.cells [.i (W64 (0-((Ad x0.A x0.C).Y))),.i ((Ad x0.A x0.C).X)] 31)]⟩)) (BG ?_)
  first | rfl | (simp only [h4,cond_true,cond_false] <;> rfl)
 refine AA<|AA<|rc [] (i3 ((decide ((((Ad x0.A x0.C).X):Int)=0))==(decide ((((Ad x0.A x0.C).Y):Int)=0))) []) ⟨[(79,tB (bif ((decide ((((Ad x0.A x0.C).X):Int)=0))==(decide ((((Ad x0.A x0.C).Y):Int)=0))) then true else !(decide (((Ad x0.B x0.C).X)=(bif decide ((x0.Kind:Int)=3) then ((Ad x0.A x0.C).Y) else (W64 (0-((Ad x0.A x0.C).Y)))))&&(decide (((Ad x0.B x0.C).Y)=(bif decide ((x0.Kind:Int)=3) then (W64 (0-((Ad x0.A x0.C).X))) else ((Ad x0.A x0.C).X)))&&true))))],[]⟩ .nil (c3 .nil)<|AF<|AL (bif ((decide ((((Ad x0.A x0.C).X):Int)=0))==(decide ((((Ad x0.A x0.C).Y):Int)=0))) then true else !(decide (((Ad x0.B x0.C).X)=(bif decide ((x0.Kind:Int)=3) then ((Ad x0.A x0.C).Y) else (W64 (0-((Ad x0.A x0.C).Y)))))&&(decide (((Ad x0.B x0.C).Y)=(bif decide ((x0.Kind:Int)=3) then (W64 (0-((Ad x0.A x0.C).X))) else ((Ad x0.A x0.C).X)))&&true))) kr (fun h4 => ?_) (fun h4 => ?_)
 ·exact AA<|rn ⟨[(2,tI 11)],[]⟩<|AR<|Au<|xl (tO (.i 11)) (BX (by simp only [B4,h1,h2,h3,h4,cond_true,cond_false] <;> rfl))
 exact AQ<|AF<|AA<|rn ⟨[(2,tI 0)],[]⟩<|AR<|xl (tO (.i 0)) (BX (by simp only [B4,h1,h2,h3,h4,cond_true,cond_false] <;> rfl))
theorem Gk (x0:AG):OKc (Dy x0):=cPu<|Su x0
def ES (x0:Int):Int:=max x0 (W64 (0-x0))
def GD (x0:Int):CT:=(72,[.one (.i x0)],.val [] (.av (.one (.i (ES x0)))))
theorem U7 (x0:Int):PuP 72 (GD x0).2.1 (tO (.i (ES x0))):=by
 refine pwf Try.func72 fun W0 M0 => ?_
 exact AA<|rn ⟨[(0,tI x0)],[]⟩<|AA<|rn ⟨[(2,tI (max x0 (W64 (0-x0))))],[]⟩<|AR<|xl (tO (.i (max x0 (W64 (0-x0))))) (BX (by rfl))
theorem M7 (x0:Int):OKc (GD x0):=cPu<|U7 x0
def ET (x0:AG):Int:=bif bif decide ((x0.Kind:Int)=1) then true else !decide (((B4 x0):Int)=0) then (0) else (W64 ((ES ((Ad x0.A x0.C).X))+(ES ((Ad x0.A x0.C).Y))))
def Gn (x0:AG):CT:=(46,[.agg (AG.c x0)],.val [] (.av (.one (.i (ET x0)))))
theorem Ra (x0:AG):PuP 46 (Gn x0).2.1 (tO (.i (ET x0))):=by
 refine pwf Try.func46 fun W0 M0 => ?_
 refine AA<|rn ⟨[(1,tP 1 0)],[(1,.cells (AG.c x0) 33)]⟩<|AA<|AA<|rc [(9,Dy x0)] ((gi (decide ((x0.Kind:Int)=1)))::(gj (decide ((x0.Kind:Int)=1)) (As (Dy x0).2.1))::(i2 (decide ((x0.Kind:Int)=1)) [])) ⟨[(1,tP 1 0),(11,tB (bif decide ((x0.Kind:Int)=1) then true else !decide (((B4 x0):Int)=0)))],[(1,.cells (AG.c x0) 33)]⟩ (.cons (Gk x0) .nil) (ci (.cons (fun _=>rfl) (c2 .nil)))<|AF<|AL _ rfl (fun h1 => ?_) (fun h1 => ?_)
 ·exact AA<|rn ⟨[(2,tI 0)],[]⟩<|AR<|Au<|xl (tO (.i 0)) (BX (by simp only [ET,h1,cond_true,cond_false] <;> rfl))
 exact AQ<|AF<|AA<|rs 16 (Gu x0.A x0.C) ⟨[(3,tP 3 0)],[(3,.cells (AD.c (Ad x0.A x0.C)) 31)]⟩ (IZ x0.A x0.C)<|AF<|AA<|dw [] [(19,GD ((Ad x0.A x0.C).X)),(22,GD ((Ad x0.A x0.C).Y))] [As (GD ((Ad x0.A x0.C).X)).2.1,As (GD ((Ad x0.A x0.C).Y)).2.1] ⟨[(2,tI (W64 ((ES ((Ad x0.A x0.C).X))+(ES ((Ad x0.A x0.C).Y)))))],[]⟩ (.cons (M7 ((Ad x0.A x0.C).X)) (.cons (M7 ((Ad x0.A x0.C).Y)) .nil)) (.cons rfl (.cons rfl .nil))<|AF<|AR<|xl (tO (.i (W64 ((ES ((Ad x0.A x0.C).X))+(ES ((Ad x0.A x0.C).Y)))))) (BX (by simp only [ET,h1,cond_true,cond_false] <;> rfl))
theorem PW (x0:AG):OKc (Gn x0):=cPu<|Ra x0
def Z0i (x2:Int) (x1:Int):AD:=Ff (BO.mk (AD.mk 0 0) x2 false) (AD.mk x1 0)
def Z0j (x3:Int) (x2:Int) (x1:Int):AD:=Ff (BO.mk (AD.mk 0 0) (bif decide ((x3:Int)=3) then (W64 (x2+3)) else (W64 (x2+1))) false) (AD.mk x1 0)
def Fe (x0:AD) (x1:Int) (x2:Int) (x3:Int):AG:=AG.mk x3 (DF x0 (Z0i x2 x1)) (DF x0 (Z0j x3 x2 x1)) x0
def Cc (x0:AD) (x1:Int) (x2:Int) (x3:Int):CT:=(76,[.agg (AD.c x0),.one (.i x1),.one (.i x2),.one (.i x3)],.val [] (.av (.agg (AG.c (Fe x0 x1 x2 x3)))))
theorem Xa (x0:AD) (x1:Int) (x2:Int) (x3:Int):PuP 76 (Cc x0 x1 x2 x3).2.1 (.av (.agg (AG.c (Fe x0 x1 x2 x3)))):=by
 refine pwf Try.func76 fun W0 M0 => ?_
 refine AA<|rn ⟨[(1,tI x1),(2,tI x2),(3,tI x3),(4,tP 4 0),(8,tP 8 0)],[(4,.cells (AD.c x0) 31),(8,.cells [.i 0,.i 0,.i 0,.i 0,.i 0,.i 0,.i 0] 33)]⟩<|AA<|rs 16 (Fb (BO.mk (AD.mk 0 0) x2 false) (AD.mk x1 0)) ⟨[(1,tI x1),(2,tI x2),(3,tI x3),(4,tP 4 0),(8,tP 8 0),(9,tP 9 0)],[(4,.cells (AD.c x0) 31),(8,.cells [.i 0,.i 0,.i 0,.i 0,.i 0,.i 0,.i 0] 33),(9,.cells (AD.c (Z0i x2 x1)) 31)]⟩ (Ib (BO.mk (AD.mk 0 0) x2 false) (AD.mk x1 0))<|AF<|AA<|rn ⟨[(1,tI x1),(2,tI x2),(3,tI x3),(4,tP 4 0),(8,tP 8 0),(9,tP 9 0),(10,tI (W64 (x2+1)))],[(4,.cells (AD.c x0) 31),(8,.cells [.i 0,.i 0,.i 0,.i 0,.i 0,.i 0,.i 0] 33),(9,.cells (AD.c (Z0i x2 x1)) 31)]⟩<|AA<|AA<|rn ⟨[(1,tI x1),(2,tI x2),(3,tI x3),(4,tP 4 0),(8,tP 8 0),(9,tP 9 0),(10,tI (W64 (x2+1))),(20,tB (decide ((x3:Int)=3)))],[(4,.cells (AD.c x0) 31),(8,.cells [.i 0,.i 0,.i 0,.i 0,.i 0,.i 0,.i 0] 33),(9,.cells (AD.c (Z0i x2 x1)) 31)]⟩<|CR (⟨[(1,tI x1),(3,tI x3),(4,tP 4 0),(8,tP 8 0),(9,tP 9 0),(10,tI (bif decide ((x3:Int)=3) then (W64 (x2+3)) else (W64 (x2+1))))],[(4,.cells (AD.c x0) 31),(8,.cells [.i 0,.i 0,.i 0,.i 0,.i 0,.i 0,.i 0] 33),(9,.cells (AD.c (Z0i x2 x1)) 31)]⟩) ?_ ?_
 ·refine AL _ rfl (fun h1 => ?_) (fun h1 => ?_)
  ·refine rn ⟨[(1,tI x1),(3,tI x3),(4,tP 4 0),(8,tP 8 0),(9,tP 9 0),(10,tI (W64 (x2+3)))],[(4,.cells (AD.c x0) 31),(8,.cells [.i 0,.i 0,.i 0,.i 0,.i 0,.i 0,.i 0] 33),(9,.cells (AD.c (Z0i x2 x1)) 31)]⟩<|BG ?_
   first | rfl | (simp only [h1,cond_true,cond_false] <;> rfl)
  refine AQ<|AF<|Cv.trans (ck (⟨[(1,tI x1),(3,tI x3),(4,tP 4 0),(8,tP 8 0),(9,tP 9 0),(10,tI (W64 (x2+1)))],[(4,.cells (AD.c x0) 31),(8,.cells [.i 0,.i 0,.i 0,.i 0,.i 0,.i 0,.i 0] 33),(9,.cells (AD.c (Z0i x2 x1)) 31)]⟩)) (BG ?_)
  first | rfl | (simp only [h1,cond_true,cond_false] <;> rfl)
 exact AA<|rs 27 (Fb (BO.mk (AD.mk 0 0) (bif decide ((x3:Int)=3) then (W64 (x2+3)) else (W64 (x2+1))) false) (AD.mk x1 0)) ⟨[(3,tI x3),(4,tP 4 0),(8,tP 8 0),(9,tP 9 0),(11,tP 11 0)],[(4,.cells (AD.c x0) 31),(8,.cells [.i 0,.i 0,.i 0,.i 0,.i 0,.i 0,.i 0] 33),(9,.cells (AD.c (Z0i x2 x1)) 31),(11,.cells (AD.c (Z0j x3 x2 x1)) 31)]⟩ (Ib (BO.mk (AD.mk 0 0) (bif decide ((x3:Int)=3) then (W64 (x2+3)) else (W64 (x2+1))) false) (AD.mk x1 0))<|AF<|AA<|dw [] [(31,Fc x0 (Z0i x2 x1)),(34,Fc x0 (Z0j x3 x2 x1))] [As (Fc x0 (Z0i x2 x1)).2.1,As (Fc x0 (Z0j x3 x2 x1)).2.1] ⟨[(8,tP 8 0)],[(8,.cells [.i x3,.i ((DF x0 (Z0i x2 x1)).X),.i ((DF x0 (Z0i x2 x1)).Y),.i ((DF x0 (Z0j x3 x2 x1)).X),.i ((DF x0 (Z0j x3 x2 x1)).Y),.i x0.X,.i x0.Y] 33)]⟩ (.cons (K5 x0 (Z0i x2 x1)) (.cons (K5 x0 (Z0j x3 x2 x1)) .nil)) (.cons rfl (.cons rfl .nil))<|AF<|AR<|xl (.av (.agg [.i x3,.i ((DF x0 (Z0i x2 x1)).X),.i ((DF x0 (Z0i x2 x1)).Y),.i ((DF x0 (Z0j x3 x2 x1)).X),.i ((DF x0 (Z0j x3 x2 x1)).Y),.i x0.X,.i x0.Y])) (BX (by rfl))
theorem EN (x0:AD) (x1:Int) (x2:Int) (x3:Int):OKc (Cc x0 x1 x2 x3):=cPu<|Xa x0 x1 x2 x3
def AH (n:Int) (m:Int):Int:=Int.tmod (W64 ((Int.tmod n m)+m)) m
def E5 (n:Int) (m:Int):CT:=(20,[.one (.i n),.one (.i m)],.val [] (.av (.one (.i (AH n m)))))
theorem pMod (n:Int) (m:Int) (hm:m≠0):PuP 20 (E5 n m).2.1 (tO (.i (AH n m))):=by
 refine pwf Try.func20 fun W0 M0 => ?_
 exact AA<|rn ⟨[(0,tI n),(1,tI m)],[]⟩<|AA<|rc [] [(m:Int)≠0,(m:Int)≠0] ⟨[(4,tI (Int.tmod (W64 ((Int.tmod n m)+m)) m))],[]⟩ .nil (.cons au13 (.cons au13 .nil))<|AF<|AR<|xl (tO (.i (Int.tmod (W64 ((Int.tmod n m)+m)) m))) (BX (by rfl))
theorem Gh (n:Int) (m:Int) (hm:m≠0):OKc (E5 n m):=cPu<|pMod n m hm
def Bz (d:AE):Prop:=0<=d.At/\d.At<=d.L.length/\(d.L.length:Int)<=9223372036854775807
def AB (d:AE) (n:Int):(Int×AE):=bif decide ((((d.L.length:Int)):Int)<=d.At) then ((0,d)) else ((AH (d.L.getD ((W64 ((W64 (d.At+1))-1)).toNat) default) n,AE.mk d.L (W64 (d.At+1))))
theorem au23 {p:Prop} (h:p:=by first | with_reducible assumption | omega | decide | (simp only [List.length_cons,List.length_nil,List.length_append];omega) | assumption):p:=h
theorem au1 {p:Prop} (h:p:=by first | decide | omega | exact Jc (by first | omega | (simp only [E6];omega)) (by omega) | (simp only [E6];omega) | (constructor <;> omega) | (simp only [List.length_append,List.length_cons,List.length_nil];omega) | (simp only [List.length_append,List.length_cons,List.length_nil,List.length_drop,List.length_take] at *;omega)):p:=h
theorem Bg  (d:AE) (n:Int) (hd:Bz d) (hn:n≠0):Wr Try.prog 34 1000 [.one (.ptr 1000 0),.one (.i n)] (.cells (AE.c d) 94) (tO (.i ((AB d n).1))) (.cells (AE.c ((AB d n).2)) 94):=by
 refine Hr Try.func34 rfl kr kr kr kr fun W0 M0 X hX => ?_
 obtain ⟨a1,a2,a3⟩:=hd
 refine AA<|rn ⟨[(0,tP 1000 0),(1,tI n)],[(1000,.cells (AE.c d) 94)]⟩<|AA<|AA<|dw [] [] [] ⟨[(0,tP 1000 0),(1,tI n),(14,tB (decide ((((d.L.length:Int)):Int)<=d.At)))],[(1000,.cells (AE.c d) 94)]⟩ .nil .nil<|AF<|AL _ rfl (fun h1 => ?_) (fun h1 => ?_)
 ·have g1:=oT h1
  exact AA<|rn ⟨[(4,tI 0)],[(1000,.cells (AE.c d) 94)]⟩<|AR<|Au<|xl (tO (.i 0)) ⟨BX (by simp only [AB,h1,cond_true,cond_false] <;> rfl),.cells (AE.c d) 94,by kernel_rfl,EI (by first | (simp only [AB,h1,cond_true,cond_false];done) | (simp only [AB,h1,cond_true,cond_false];kernel_rfl))⟩
 have g1:=oF h1
 exact AQ<|AF<|AA<|rn ⟨[(0,tP 1000 0),(1,tI n)],[(1000,.cells [lst 1 eIn d.L,.i (W64 (d.At+1))] 94)]⟩<|AA<|dw [] [(34,E5 (d.L.getD ((W64 ((W64 (d.At+1))-1)).toNat) default) n)] [0<=(W64 ((W64 (d.At+1))-1):Int)/\(W64 ((W64 (d.At+1))-1):Int)<((d.L.length:Nat):Int),As (E5 (d.L.getD ((W64 ((W64 (d.At+1))-1)).toNat) default) n).2.1] ⟨[(4,tI (AH (d.L.getD ((W64 ((W64 (d.At+1))-1)).toNat) default) n))],[(1000,.cells [lst 1 eIn d.L,.i (W64 (d.At+1))] 94)]⟩ (.cons (Gh (d.L.getD ((W64 ((W64 (d.At+1))-1)).toNat) default) n au23) .nil) (.cons au1 (.cons rfl .nil))<|AF<|AR<|xl (tO (.i (AH (d.L.getD ((W64 ((W64 (d.At+1))-1)).toNat) default) n))) ⟨BX (by simp only [AB,h1,cond_true,cond_false] <;> rfl),.cells [lst 1 eIn d.L,.i (W64 (d.At+1))] 94,by kernel_rfl,EI (by first | (simp only [AB,h1,cond_true,cond_false];done) | (simp only [AB,h1,cond_true,cond_false];kernel_rfl))⟩
theorem DA {l:List Int} (h:(l.length:Int)<=9223372036854775807):Bz (AE.mk l 0):=⟨Int.le_refl _,by show (0:Int)<=(l.length:Int);omega,h⟩
theorem Bd {d:AE} {n:Int} (h:Bz d):Bz (AB d n).2:=by
 obtain ⟨h1,h2,h3⟩:=h
 unfold AB
 by_cases hc:(d.L.length:Int)<=d.At
 ·simp only [hc,decide_true,cond_true];exact ⟨h1,h2,h3⟩
 simp only [hc,decide_false,cond_false]
 rw [Ap (by omega) (by omega)]
 exact ⟨by show 0<=d.At+1;omega,by show d.At+1<=(d.L.length:Int);omega,h3⟩
theorem I6 (n m:Int) (h0:0<m) (h1:m<=4611686018427387904):0<=AH n m/\AH n m<m:=by
 have e:AH n m=n % m:=by
  unfold AH W64
  rcases Int.lt_or_le n 0 with h | h
  ·have b1:=Int.emod_nonneg (-n) (show m≠0 by omega)
   have b2:=Int.emod_lt_of_pos (-n) h0
   rw [show n.tmod m = -((-n) % m) by rw [<- Int.tmod_eq_emod_of_nonneg (by omega),Int.neg_tmod,Int.neg_neg]]
   rw [IntKind.wrap_i64]
   rw [show (-((-n) % m)+m+9223372036854775808) % 18446744073709551616-9223372036854775808 = -((-n) % m)+m by omega]
   rw [Int.tmod_eq_emod_of_nonneg (by omega)]
   have e1:=Int.emod_add_mul_ediv (-n) m
   have e2 : -((-n) % m)+m=n+m*((-n)/m+1):=by grind
   rw [e2,Int.add_mul_emod_self_left]
  have b1:=Int.emod_nonneg n (show m≠0 by omega)
  have b2:=Int.emod_lt_of_pos n h0
  rw [Int.tmod_eq_emod_of_nonneg h,IntKind.wrap_i64]
  rw [show (n % m+m+9223372036854775808) % 18446744073709551616-9223372036854775808=n % m+m by omega]
  rw [Int.tmod_eq_emod_of_nonneg (by omega),Int.add_emod_right,Int.emod_emod_of_dvd _ (Int.dvd_refl m)]
 rw [e]
 exact ⟨Int.emod_nonneg n (by omega),Int.emod_lt_of_pos n h0⟩
theorem Dl (d:AE) (n:Int) (h0:0<n) (h1:n<=4611686018427387904):0<=(AB d n).1/\(AB d n).1<n:=by
 unfold AB
 by_cases hc:(d.L.length:Int)<=d.At
 ·simp only [hc,decide_true,cond_true];omega
 simp only [hc,decide_false,cond_false]
 exact I6 _ n h0 h1
theorem Ru {v a:Int} {d:AE} {n:Int} (h:v<W64 (a+(AB d n).1)) (h0:0<n) (h1:n<=1000000) (ha:0<=a) (hb:a<=1000000):v<a+n:=by
 have:=Dl d n h0 (by omega)
 rw [Ap (by omega) (by omega)] at h
 omega
theorem R2 {v a:Int} {d:AE} {n:Int} (h:¬ v<W64 (a+(AB d n).1)) (h0:0<n) (h1:n<=1000000) (ha:0<=a) (hb:a<=1000000):W64 (a+(AB d n).1)<a+n:=by
 have:=Dl d n h0 (by omega)
 rw [Ap (by omega) (by omega)]
 omega
theorem Hb {p q:Prop} [Decidable p] [Decidable q] (h:(bif decide p then decide q else false)=true):p/\q:=by
 by_cases hp:p
 ·rw [decide_eq_true hp] at h;exact ⟨hp,of_decide_eq_true h⟩
 rw [decide_eq_false hp] at h;cases h
theorem DO {c:Bool} {a b:AE} (ha:Bz a) (hb:Bz b):Bz (bif c then a else b):=by cases c <;> assumption
theorem Jy (d:AE) (n k:Int) (h0:0<n) (h1:n<=4611686018427387904) (h2:n<=k):0<=(AB d n).1/\(AB d n).1<k:=⟨(Dl d n h0 h1).1,by have:=(Dl d n h0 h1).2;omega⟩
theorem fW  (l:(List AG)) (closed:Bool):HT Try.prog 73 [.one (lst 7 AG.c l),.one (.b closed)] (.av (.one (.clo 91 2 (D9 [.eptr 1 1 (fun _ j_=>([lst 7 AG.c l]:List Cl).getD j_ default) 0 0,.eptr 1 1 (fun _ j_=>([.b closed]:List Cl).getD j_ default) 0 0])))):=by
 refine pwf Try.func73 fun W0 M0 => ?_
 refine AA<|CN DU [] [] [] [2,3] [2,3] [] ⟨[(2,tP 2 0),(3,tP 3 0)],[(2,.cells [lst 7 AG.c l] 34),(3,.cells [.b closed] 4)]⟩ .nil kr .nil<|AF<|AA<|CN DU [] [] [] [4] [2,3] [] ⟨[(4,.av (.one (.clo 91 2 (D9 [.ptr 2 0,.ptr 3 0]))))],[(2,.cells [lst 7 AG.c l] 34),(3,.cells [.b closed] 4)]⟩ .nil kr .nil<|AF<|AR ?_
 exact ⟨_,Cv.trans (dC (⟨[(4,.av (.one (.clo 91 2 (D9 [.eptr 1 1 (fun _ j_=>([lst 7 AG.c l]:List Cl).getD j_ default) 0 0,.ptr 3 0]))))],[(3,.cells [.b closed] 4)]⟩) 2 [lst 7 AG.c l] 34 hk0 kr kr kr kr) (dC (⟨[(4,.av (.one (.clo 91 2 (D9 [.eptr 1 1 (fun _ j_=>([lst 7 AG.c l]:List Cl).getD j_ default) 0 0,.eptr 1 1 (fun _ j_=>([.b closed]:List Cl).getD j_ default) 0 0]))))],[]⟩) 3 [.b closed] 4 hk0 kr kr kr kr),.inl rfl,.av (.one (.clo 91 2 (D9 [.eptr 1 1 (fun _ j_=>([lst 7 AG.c l]:List Cl).getD j_ default) 0 0,.eptr 1 1 (fun _ j_=>([.b closed]:List Cl).getD j_ default) 0 0]))),by kernel_rfl,BX rfl⟩
section
open Go.RowKit
def jnN (l:List AG) (closed:Bool):Nat:=(l.length-1)+(bif closed then 1 else 0)
def jnA (l:List AG) (x:Nat):AG:=if x+1<l.length then l.getD x default else l.getD (l.length-1) default
def jnB (l:List AG) (x:Nat):AG:=if x+1<l.length then l.getD (x+1) default else l.getD 0 default
abbrev NX (l:List AG):Cl:=.eptr 1 1 (fun _ j=>([lst 7 AG.c l]:List Cl).getD j default) 0 0
abbrev NY (c:Bool):Cl:=.eptr 1 1 (fun _ j=>([.b c]:List Cl).getD j default) 0 0
abbrev ylV (ly:Nat):Tv:=.av (.one (.val (.func (.yield ly) #[] #[])))
abbrev tOj (c:Cl):Tv:=.av (.one c)
theorem Ic:∀ x:AG,∀ y∈AG.c x,NM y:=by
 intro x y hy
 simp only [AG.c,List.mem_cons,List.not_mem_nil,or_false] at hy
 rcases hy with rfl | rfl | rfl | rfl | rfl | rfl | rfl <;> exact .val _
theorem Rq (l:List AG):NM (NX l):=MV fun y hy=>by rw [List.mem_singleton.1 hy];exact VU Ic
theorem Rr (c:Bool):NM (NY c):=MV fun y hy=>by rw [List.mem_singleton.1 hy];exact .val _
theorem cY (x:AG):(AG.c x).all Cl.isV=true:=rfl
section
variable (l:List AG) (closed:Bool)
theorem X4 (h:closed=true->1<=l.length) (hl:(l.length:Int)<=1000000):SM Try.prog 91 2 (D9 [NX l,NY closed]) (jnN l closed) (fun x=>[.agg (AG.c (jnA l x.val)),.agg (AG.c (jnB l x.val))]):=by
 refine iD Try.func91 rfl rfl (fun x=>rfl) (fun x e he c hc => ?_) kr (fun i hi => ?_) ?_
 ·have:c.isV=true:=by
   simp only [List.mem_cons,List.not_mem_nil,or_false] at he
   rcases he with rfl | rfl
   ·exact List.all_eq_true.1 (cY _) c hc
   exact List.all_eq_true.1 (cY _) c hc
  simp only [List.mem_cons,List.not_mem_nil,or_false] at he
  rcases he with rfl | rfl <;> (simp only [Av.cells,AG.c,List.mem_cons,List.not_mem_nil,or_false] at hc;rcases hc with rfl | rfl | rfl | rfl | rfl | rfl | rfl <;> rfl)
 ·match i,hi with
  | 0,_=>rfl
  | 1,_=>rfl
 intro Ow n0 ly JJ Jx hO hJg hY
 have hT:∀ (v:Int) i u,get [(0,ylV ly),(1,tOj (NX l)),(2,tOj (NY closed)),(4,tI v)] i=some u->u.dv=true/\TvM u:=fun v=>DT (p:=fun u=>Tv.dv u=true/\TvM u) (by
  simp only [List.forall_mem_cons]
  exact ⟨⟨rfl,Da (.val _)⟩,⟨rfl,Da (Rq l)⟩,⟨rfl,Da (Rr closed)⟩,⟨rfl,Da (.val _)⟩,fun x hx=>by cases hx⟩)
 have hd0:∀ (v:Int) i u,get [(0,ylV ly),(1,tOj (NX l)),(2,tOj (NY closed)),(4,tI v)] i=some u->u.dv=true:=fun v i u h=>(hT v i u h).1
 refine K8 ?_
 refine K8 ?_
 refine Nf hO (DT (p:=fun u=>Tv.dv u=true) (by simp [Gc,E4,Tv.dv,Av.dv,Cl.dv,List.range,List.range.loop,D9])) rfl fun W0 X1 M1 => ?_
 refine CN DU [] [] [] [0,1,2,4] [] [] ⟨[(0,ylV ly),(1,tOj (NX l)),(2,tOj (NY closed)),(4,tI 1)],[]⟩ .nil kr .nil ?_
 refine Lh ?_
 refine TY ?_
 have eA:∀ k:Nat,k+1<l.length->[Av.agg (AG.c (l.getD ((W64 (((k:Int)+1)-1)).toNat) default)),Av.agg (AG.c (l.getD ((k:Int)+1).toNat default))]=[.agg (AG.c (jnA l k)),.agg (AG.c (jnB l k))]:=fun k hk=>by
  have e1:W64 (((k:Int)+1)-1)=(k:Int):=by rw [Ap (by omega) (by omega)];omega
  have e2:((k:Int)+1).toNat=k+1:=by omega
  rw [e1,e2,Int.toNat_natCast]
  unfold jnA jnB
  rw [if_pos hk,if_pos hk]
 refine iB (ι:=Nat) (fun k=>⟨[(0,ylV ly),(1,tOj (NX l)),(2,tOj (NY closed)),(4,tI ((k:Int)+1))],[]⟩) (fun k=>JJ k) (fun k=>k<=l.length-1) (fun k=>l.length-k) (fun k hk => ?_) 0 (Nat.zero_le _)
 refine K8 ?_
 refine K8 ?_
 refine Nf hO (hd0 _) rfl fun W0 X1 M1 => ?_
 refine CN DU [] [] [] [0,1,2,4,8] [] [] ⟨[(0,ylV ly),(1,tOj (NX l)),(2,tOj (NY closed)),(4,tI ((k:Int)+1)),(8,tB (decide ((((k:Int)+1):Int)<((l.length:Int)))))],[]⟩ .nil kr .nil ?_
 refine Lh ?_
 refine Ng (decide ((((k:Int)+1):Int)<((l.length:Int)))) kr (fun hc => ?_) (fun hc => ?_)
 ·have hlt:k+1<l.length:=by have:=of_decide_eq_true hc;omega
  refine Rx ?_
  refine Lh ?_
  refine K8 ?_
  refine TY ?_
  refine K8 ?_
  refine P5 (ly:=ly) hO KU DU 10 rfl [] [] [0,1,2,4,11,16,20] [0,1,2,4,22] [0<=(W64 (((k:Int)+1)-1):Int)/\(W64 (((k:Int)+1)-1):Int)<((l.length:Nat):Int),0<=(((k:Int)+1):Int)/\(((k:Int)+1):Int)<((l.length:Nat):Int)]
   [(0,ylV ly),(1,tOj (NX l)),(2,tOj (NY closed)),(4,tI ((k:Int)+1)),(11,ylV ly),(16,.av (.agg (AG.c (l.getD ((W64 (((k:Int)+1)-1)).toNat) default)))),(20,.av (.agg (AG.c (l.getD ((k:Int)+1).toNat default))))] kr kr ?conds kr kr [Av.agg (AG.c (l.getD ((W64 (((k:Int)+1)-1)).toNat) default)),Av.agg (AG.c (l.getD ((k:Int)+1).toNat default))] rfl rfl kr kr kr rfl kr ?hT1 (hJg k) (JJ (k+1)) (Jx (k+1)) ?hY [] [] ⟨[(0,ylV ly),(1,tOj (NX l)),(2,tOj (NY closed)),(4,tI ((k:Int)+1)),(22,tB (!true))],[]⟩ ⟨[(22,tB (!false))],[]⟩ kr .nil kr .nil ?hQt ?hQf ?hdv rfl
  case conds =>
   have e1:W64 (((k:Int)+1)-1)=(k:Int):=by rw [Ap (by omega) (by omega)];omega
   exact .cons ⟨by rw [e1];omega,by rw [e1];omega⟩ (.cons ⟨by omega,by omega⟩ .nil)
  case hT1=>exact DT (p:=fun u=>Tv.dv u=true/\TvM u) (by
   simp only [List.forall_mem_cons]
   exact ⟨⟨rfl,Da (.val _)⟩,⟨rfl,Da (Rq l)⟩,⟨rfl,Da (Rr closed)⟩,⟨rfl,Da (.val _)⟩,⟨rfl,Da (.val _)⟩,⟨rfl,Ic _⟩,⟨rfl,Ic _⟩,fun x hx=>by cases hx⟩)
  case hY =>
   intro W hW
   have hk2:k<jnN l closed:=by unfold jnN;omega
   rw [eA k hlt]
   exact hY k hk2 W hW
  case hQt =>
   refine Lh ?_
   refine Ng false kr (fun h=>by cases h) (fun _ => ?_)
   refine Rx ?_
   refine ibl_n ?_
   refine Lh ?_
   refine Nf hO (fun i u h => ?_) rfl fun W0 X1 M1 => ?_
   ·exact DT (p:=fun u=>Tv.dv u=true) (by simp only [List.forall_mem_cons];exact ⟨rfl,rfl,rfl,rfl,rfl,fun x hx=>by cases hx⟩) i u h
   refine CN DU [] [] [] [0,1,2,4] [] [] ⟨[(0,ylV ly),(1,tOj (NX l)),(2,tOj (NY closed)),(4,tI (W64 (((k:Int)+1)+1)))],[]⟩ .nil kr .nil ?_
   refine Lh ?_
   refine ⟨k+1,by omega,by omega,?_,rfl,rfl⟩
   have e3:W64 (((k:Int)+1)+1)=((k+1:Nat):Int)+1:=by rw [Ap (by omega) (by omega)];omega
   rw [e3]
  case hQf =>
   refine Lh ?_
   refine Ng true kr (fun _ => ?_) (fun h=>by cases h)
   refine mR ?_
   exact ⟨.inl rfl,.inr ⟨k,by unfold jnN;omega,rfl⟩⟩
  case hdv=>exact DT (p:=fun u=>Tv.dv u=true) (by simp only [List.forall_mem_cons];exact ⟨rfl,rfl,rfl,rfl,rfl,fun x hx=>by cases hx⟩)
 have hge:¬ k+1<l.length:=by have:=of_decide_eq_false hc;omega
 refine iC ?_
 refine kK ?_
 refine kK ?_
 refine iE ?_
 refine Lh ?_
 refine K8 ?_
 refine Nf hO (fun i u h => ?_) rfl fun W0 X1 M1 => ?_
 ·exact DT (p:=fun u=>Tv.dv u=true) (by simp only [List.forall_mem_cons];exact ⟨rfl,rfl,rfl,rfl,rfl,fun x hx=>by cases hx⟩) i u h
 refine CN DU [] [] [] [0,1,2,23] [] [] ⟨[(0,ylV ly),(1,tOj (NX l)),(2,tOj (NY closed)),(23,tB closed)],[]⟩ .nil kr .nil ?_
 refine Lh ?_
 refine Ng closed kr (fun hcl => ?_) (fun hcl => ?_)
 ·have h1:=h hcl
  have hkl:k=l.length-1:=by omega
  have hk2:k<jnN l closed:=by unfold jnN;rw [hcl];show k<l.length-1+1;omega
  have hn:k+1=jnN l closed:=by unfold jnN;rw [hcl];show k+1=l.length-1+1;omega
  have e1:W64 (((l.length:Int))-1)=((l.length-1:Nat):Int):=by rw [Ap (by omega) (by omega)];omega
  refine P5 (ly:=ly) hO KU DU 10 rfl [] [] [0,1,2,24,30,33] [0] [0<=(W64 (((l.length:Int))-1):Int)/\(W64 (((l.length:Int))-1):Int)<((l.length:Nat):Int),0<=(0:Int)/\(0:Int)<((l.length:Nat):Int)]
   [(0,ylV ly),(1,tOj (NX l)),(2,tOj (NY closed)),(24,ylV ly),(30,.av (.agg (AG.c (l.getD ((W64 (((l.length:Int))-1)).toNat) default)))),(33,.av (.agg (AG.c (l.getD 0 default))))] kr kr ?conds kr kr [Av.agg (AG.c (l.getD ((W64 (((l.length:Int))-1)).toNat) default)),Av.agg (AG.c (l.getD 0 default))] rfl rfl kr kr kr rfl kr ?hT1 (hJg k) (JJ (k+1)) (Jx (k+1)) ?hY [] [] ⟨[(0,ylV ly)],[]⟩ ⟨[],[]⟩ kr .nil kr .nil ?hQt ?hQf ?hdv rfl
  case conds=>exact .cons ⟨by rw [e1];omega,by rw [e1];omega⟩ (.cons ⟨by omega,by omega⟩ .nil)
  case hT1=>exact DT (p:=fun u=>Tv.dv u=true/\TvM u) (by
   simp only [List.forall_mem_cons]
   exact ⟨⟨rfl,Da (.val _)⟩,⟨rfl,Da (Rq l)⟩,⟨rfl,Da (Rr closed)⟩,⟨rfl,Da (.val _)⟩,⟨rfl,Ic _⟩,⟨rfl,Ic _⟩,fun x hx=>by cases hx⟩)
  case hY =>
   intro W hW
   have:=hY k hk2 W hW
   have eL:[Av.agg (AG.c (l.getD ((W64 (((l.length:Int))-1)).toNat) default)),Av.agg (AG.c (l.getD 0 default))]=[.agg (AG.c (jnA l k)),.agg (AG.c (jnB l k))]:=by
    unfold jnA jnB
    rw [if_neg hge,if_neg hge,e1,Int.toNat_natCast]
   rw [eL]
   exact this
  case hQt =>
   refine ⟨.inr rfl,.inl ?_⟩
   rw [hn]
  case hQf=>exact ⟨.inr rfl,.inr ⟨k,hk2,rfl⟩⟩
  case hdv=>exact DT (p:=fun u=>Tv.dv u=true) (by simp only [List.forall_mem_cons];exact ⟨rfl,rfl,rfl,rfl,fun x hx=>by cases hx⟩)
 refine Rx ?_
 refine ⟨.inr rfl,.inl ?_⟩
 have:k=jnN l closed:=by unfold jnN;rw [hcl];show k=l.length-1+0;omega
 rw [<- this]
end
end
section
open Go.RowKit
theorem iS {l:Nat} {b c:Bool} (h:(bif b then b else (bif decide (((l:Nat):Int)=0) then decide (((l:Nat):Int)=0) else c))=false):1<=l:=by
 cases b with
 | true=>cases h
 | false =>
  by_cases e:((l:Nat):Int)=0
  ·rw [decide_eq_true e] at h;cases h
  omega
theorem Oo:∀ x:AG,∀ y∈AG.c x,NM y:=Ic
theorem Xo:∀ x:AX,∀ y∈AX.c x,NM y:=by
 intro x y hy
 simp only [AX.c,List.mem_cons,List.not_mem_nil,or_false] at hy
 rcases hy with rfl | rfl | rfl
 ·exact .val _
 ·exact VU Ic
 exact .val _
variable (s:AX)
abbrev D8:Bool:=(decide ((s.Kind:Int)=2))
abbrev Km:=lst 7 AG.c s.Edges
abbrev Kl:List Cl:=[lst 7 AG.c s.Edges]
def Z0k:CT:=(73,[.one (Km s),.one (.b (D8 s))],.val [] (.av (.one (.clo 91 2 (D9 [.eptr 1 1 (fun _ j=>((Kl s):List Cl).getD j default) 0 0,.eptr 1 1 (fun _ j=>([.b (D8 s)]:List Cl).getD j default) 0 0])))))
def DJ (s:AX) (v39:Int) (K0:Int->Int):Nat->Nat->Int
 | 0,_=>bif bif bif bif decide ((s.Kind:Int)=2) then !decide ((s.R:Int)=0) else false then true else decide ((s.R:Int)<0) then true else decide ((4194304:Int)<s.R) then 3 else 0
 | m+1,x=>bif !(decide ((jnA s.Edges x).B.X=(jnB s.Edges x).A.X)&&(decide ((jnA s.Edges x).B.Y=(jnB s.Edges x).A.Y)&&true)) then 12 else (DJ s v39 K0 m (x+1))
def C4 (s:AX):Nat->Int->Int
 | 0,_=>default
 | n0+1,v39=>bif decide ((v39:Int)<(s.Edges.length:Int)) then (bif !decide (((Em (s.Edges.getD v39.toNat default)):Int)=0) then (Em (s.Edges.getD v39.toNat default)) else ((C4 s n0) (v39+1))) else (DJ s v39 (C4 s n0) (jnN s.Edges (decide ((s.Kind:Int)=2))) 0)
def EC (s:AX):Int:=bif bif bif !decide ((s.Kind:Int)=1) then !(decide ((s.Kind:Int)=2)) else false then (bif !decide ((s.Kind:Int)=1) then !(decide ((s.Kind:Int)=2)) else false) else (bif decide (((s.Edges.length:Int):Int)=0) then (decide (((s.Edges.length:Int):Int)=0)) else (bif decide ((s.Kind:Int)=2) then decide (((s.Edges.length:Int):Int)<2) else false)) then 12 else (bif decide ((40:Int)<(s.Edges.length:Int)) then 2 else (C4 s (((s.Edges.length:Int)-0).toNat+1) 0))
def SB:CT:=(49,[.agg (AX.c s)],.val [] (.av (.one (.i (EC s)))))
abbrev FD:Nat×Blk:=(1,.cells (AX.c s) 36)
abbrev Pd:Nat×Tv:=(3,tB (decide ((s.Kind:Int)=2)))
abbrev Ur:=(bif bif decide ((s.Kind:Int)=2) then !decide ((s.R:Int)=0) else false then true else decide ((s.R:Int)<0))
abbrev G5:List (Nat×Blk):=[(FD s),(2,.cells [.i 0] 47)]
abbrev UX:=(bif decide ((s.Kind:Int)=2) then !decide ((s.R:Int)=0) else false)
abbrev MN:Nat×Blk:=(3002,.cells [.i 0] 47)
abbrev N5:Nat×Tv:=(38,tI (s.Edges.length:Int))
abbrev N0:Nat×Blk:=(3001,.cells (AX.c s) 36)
abbrev Fq (t_:List (Nat×Tv)):List (Nat×Tv):=(1,tP 3001 0)::(2,tP 3002 0)::t_
abbrev MA (t_:List (Nat×Tv)):List (Nat×Tv):=(1,tP 1 0)::(2,tP 2 0)::(3,tB (D8 s))::t_
theorem au8 {p:Prop} (h:p:=by first | omega | (simp only [List.length_drop,List.length_take] at *;omega)):p:=h
theorem gG (s:AX) (hl:(s.Edges.length:Int)<=9223372036854775807):PuP 49 (SB s).2.1 (tO (.i (EC s))):=by
 refine pwf Try.func49 fun W0 M0 => ?_
 refine AA<|on<|AA<|on<|AA<|AM<|AA<|AA<|rc [] (t2 (!decide ((s.Kind:Int)=1)) []) ⟨(MA s [(12,tB (bif !decide ((s.Kind:Int)=1) then !(D8 s) else false))]),(G5 s)⟩ .nil (c2 .nil)<|AF<|CR (⟨[(1,tP 1 0),(2,tP 2 0),(Pd s),(12,tB (bif bif !decide ((s.Kind:Int)=1) then !(decide ((s.Kind:Int)=2)) else false then (bif !decide ((s.Kind:Int)=1) then !(decide ((s.Kind:Int)=2)) else false) else (bif decide (((s.Edges.length:Int):Int)=0) then (decide (((s.Edges.length:Int):Int)=0)) else (bif decide ((s.Kind:Int)=2) then decide (((s.Edges.length:Int):Int)<2) else false))))],(G5 s)⟩) ?_ ?_
 ·refine AL _ rfl (fun h1 => ?_) (fun h1 => ?_)
  ·refine AQ<|AF<|BG ?_
   first | rfl | (simp only [h1,cond_true,cond_false] <;> rfl)
  refine AA<|rn ⟨[(1,tP 1 0),(2,tP 2 0),(Pd s),(12,tB (decide (((s.Edges.length:Int):Int)=0)))],(G5 s)⟩<|AL _ rfl (fun h2 => ?_) (fun h2 => ?_)
  ·refine AQ<|AF<|BG ?_
   first | rfl | (simp only [h1,h2,cond_true,cond_false] <;> rfl)
  refine rc [] (t4 (D8 s) []) ⟨(MA s [(12,tB (bif decide ((s.Kind:Int)=2) then decide (((s.Edges.length:Int):Int)<2) else false))]),(G5 s)⟩ .nil (c4 .nil)<|AF<|BG ?_
  first | rfl | (simp only [h1,h2,cond_true,cond_false] <;> rfl)
 refine AL _ rfl (fun h1 => ?_) (fun h1 => ?_)
 ·exact AA<|on<|AR<|BN<|Au<|zl (by simp only [EC,h1,cond_true,cond_false] <;> kernel_rfl)
 refine AA<|rn ⟨[(1,tP 1 0),(2,tP 2 0),(Pd s),(31,tB (decide ((40:Int)<(s.Edges.length:Int))))],(G5 s)⟩<|AL _ rfl (fun h2 => ?_) (fun h2 => ?_)
 ·exact AA<|on<|AR<|BN<|Au<|zl (by simp only [EC,h1,h2,cond_true,cond_false] <;> kernel_rfl)
 have g2:=oF h2
 refine AQ<|A0<|AF<|AA<|AA<|rn ⟨(MA s [(37,tO (Km s)),(N5 s),(39,tI 0)]),(G5 s)⟩<|AM<|BK (ι:=Nat×Int) (fun x=>⟨(MA s [(37,tO (Km s)),(N5 s),(39,tI x.2)]),(G5 s)⟩) (fun x=>((s.Edges.length:Int)-x.2).toNat<x.1/\(0<=x.2/\(x.2<=(s.Edges.length:Int)\/x.2=0))/\C4 s x.1 x.2=EC s) (fun x=>x.1) ?_ (((s.Edges.length:Int)-0).toNat+1,0) ⟨Nat.lt_succ_self _,⟨ax0,ax0⟩,(by simp only [EC,h1,h2,cond_true,cond_false])⟩
 rintro ⟨n0,v39⟩ ⟨hm0,hinv0,hF0⟩
 try dsimp only at hm0 hinv0 hF0
 cases n0 with | zero=>exact nz hm0 | succ n0 => ?_
 refine AA<|rn ⟨[(1,tP 1 0),(2,tP 2 0),(Pd s),(37,tO (Km s)),(N5 s),(39,tI v39),(40,tB (decide ((v39:Int)<(s.Edges.length:Int))))],(G5 s)⟩<|AA<|AL _ rfl (fun h3 => ?_) (fun h3 => ?_)
 ·have g3:=oT h3
  refine AQ<|AF<|AA<|AM<|AA<|oc [] [0<=(v39:Int)/\(v39:Int)<((s.Edges.length:Nat):Int)] .nil (.cons au1 .nil)<|AF<|AA<|oq 44 (SD (s.Edges.getD v39.toNat default)) (WW (s.Edges.getD v39.toNat default))<|AF<|AA<|rn ⟨[(1,tP 1 0),(2,tP 2 0),(Pd s),(6,tI (Em (s.Edges.getD v39.toNat default))),(37,tO (Km s)),(N5 s),(39,tI v39),(46,tB (!decide (((Em (s.Edges.getD v39.toNat default)):Int)=0)))],(G5 s)⟩<|AL _ rfl (fun h4 => ?_) (fun h4 => ?_)
  ·have g4:=Bk h4
   exact AA<|on<|AR<|BN<|Au<|Au<|BN<|Au<|zl (by rw [<- hF0];simp only [C4,h3,h4,cond_true,cond_false] <;> kernel_rfl)
  have g4:=Bc h4
  refine AQ<|A0<|AF<|rg ⟨(MA s [(37,tO (Km s)),(N5 s),(39,tI (W64 (v39+1)))]),(G5 s)⟩ ?_
  (try rw [(show W64 (v39+1)=v39+1 from Ap oM au8)])
  refine AF ?_
  refine ⟨(n0,v39+1),⟨?_,?_,(by rw [<- hF0];simp only [C4,h3,h4,cond_true,cond_false])⟩,Nat.lt_succ_self _,BG kr⟩
  ·show ((s.Edges.length:Int)-(v39+1)).toNat<n0;omega
  exact ⟨ax0,ax0⟩
 have g3:=oF h3
 refine BH<|A7<|A7<|BI<|AF<|AA<|AA<|rs 52 (Z0k s) ⟨(MA s [(52,.av (.one (.clo 91 2 (D9 [.eptr 1 1 (fun _ j=>((Kl s):List Cl).getD j default) 0 0,.eptr 1 1 (fun _ j=>([.b (D8 s)]:List Cl).getD j default) 0 0]))))]),(G5 s)⟩ (cPu<|fW s.Edges (D8 s))<|AF<|AM<|Al (Cv.trans (vr 1 3001 hk0) (wr (⟨(Fq [(3,tB (D8 s)),(52,.av (.one (.clo 91 2 (D9 [.eptr 1 1 (fun _ j=>((Kl s):List Cl).getD j default) 0 0,.eptr 1 1 (fun _ j=>([.b (D8 s)]:List Cl).getD j default) 0 0]))))]),[(N0 s),MN]⟩) 2 3002 hk0)) ?_
 refine YG [3001,3002] 299999 3001 (fun x1=>[(1,tP 3001 0),(2,tP 3002 0),(3,tB (decide ((s.Kind:Int)=2))),(7,.av (.one (.eptr 7 1 (gD (AG.c (jnA s.Edges x1.val))) 0 0))),(8,.av (.one (.eptr 7 1 (gD (AG.c (jnB s.Edges x1.val))) 0 0))),(52,.av (.one (.clo 91 2 (D9 [.eptr 1 1 (fun _ j=>([lst 7 AG.c s.Edges]:List Cl).getD j default) 0 0,.eptr 1 1 (fun _ j=>([.b (decide ((s.Kind:Int)=2))]:List Cl).getD j default) 0 0]))))]) (fun y=>DJ s v39 (C4 s n0) (jnN s.Edges (decide ((s.Kind:Int)=2))-y) y=EC s) (fun _=>rfl) kr kr (fun _ _=>kr) (X4 s.Edges (decide ((s.Kind:Int)=2)) (fun _=>iS h1) oM) kr (fun _=>rfl) (fun _=>rfl) (DT (p:=BkM) (by simp only [List.forall_mem_cons];exact ⟨bkM (Xo _),bkM (by simp only [List.forall_mem_cons];exact ⟨(.val _),fun x hx=>by cases hx⟩),fun x hx=>by cases hx⟩)) (fun x1=>(DT (p:=TvM) (by simp only [List.forall_mem_cons];exact ⟨Da (.ptr _ _),Da (.ptr _ _),Da (.val _),Da (MV (Oo _)),Da (MV (Oo _)),Da (mF (by simp only [List.forall_mem_cons];exact ⟨(MV (by simp only [List.forall_mem_cons];exact ⟨(VU Oo),fun x hx=>by cases hx⟩)),(MV (by simp only [List.forall_mem_cons];exact ⟨(.val _),fun x hx=>by cases hx⟩)),fun x hx=>by cases hx⟩)),fun x hx=>by cases hx⟩))) (by rw [<- hF0];simp only [C4,h3,Nat.sub_zero,cond_true,cond_false]) (fun l1 W1 M1 X1 x1 hPX => ?_) (fun l2 W2 M2 X2 x1 hPX => ?_) (fun hF1 => ?_)
 ·refine HL<|AA<|on<|rg ⟨(Fq [(3,tB (D8 s)),(7,tP 7 0),(8,tP 8 0),(52,.av (.one (.clo 91 2 (D9 [.eptr 1 1 (fun _ j=>((Kl s):List Cl).getD j default) 0 0,.eptr 1 1 (fun _ j=>([.b (D8 s)]:List Cl).getD j default) 0 0]))))]),[(7,.cells (AG.c (jnA s.Edges x1.val)) 33),(8,.cells (AG.c (jnB s.Edges x1.val)) 33),(N0 s),MN]⟩ ?_
  exact ⟨_,Cv.trans (W5 (⟨(Fq [(3,tB (D8 s)),(7,.av (.one (.eptr 7 1 (gD (AG.c (jnA s.Edges x1.val))) 0 0))),(8,tP 8 0),(52,.av (.one (.clo 91 2 (D9 [.eptr 1 1 (fun _ j=>((Kl s):List Cl).getD j default) 0 0,.eptr 1 1 (fun _ j=>([.b (D8 s)]:List Cl).getD j default) 0 0]))))]),[(8,.cells (AG.c (jnB s.Edges x1.val)) 33),(N0 s),MN]⟩) 7 (AG.c (jnA s.Edges x1.val)) 33 [3001,3002] hPX kr kr kr kr) (W5 (⟨(Fq [(3,tB (D8 s)),(7,.av (.one (.eptr 7 1 (gD (AG.c (jnA s.Edges x1.val))) 0 0))),(8,.av (.one (.eptr 7 1 (gD (AG.c (jnB s.Edges x1.val))) 0 0))),(52,.av (.one (.clo 91 2 (D9 [.eptr 1 1 (fun _ j=>((Kl s):List Cl).getD j default) 0 0,.eptr 1 1 (fun _ j=>([.b (D8 s)]:List Cl).getD j default) 0 0]))))]),[(N0 s),MN]⟩) 8 (AG.c (jnB s.Edges x1.val)) 33 [3001,3002] hPX kr kr kr kr),rfl,rfl⟩
 ·refine HL<|AM<|AA<|rn ⟨(Fq [(Pd s),(52,.av (.one (.clo 91 2 (D9 [.eptr 1 1 (fun _ j=>((Kl s):List Cl).getD j default) 0 0,.eptr 1 1 (fun _ j=>([.b (decide ((s.Kind:Int)=2))]:List Cl).getD j default) 0 0])))),(59,tB (!(decide ((jnA s.Edges x1.val).B.X=(jnB s.Edges x1.val).A.X)&&(decide ((jnA s.Edges x1.val).B.Y=(jnB s.Edges x1.val).A.Y)&&true))))]),[(N0 s),MN]⟩<|AL _ rfl (fun h4 => ?_) (fun h4 => ?_)
  ·refine AA<|rn ⟨[(2,tP 3002 0)],[(3002,.cells [.i 12] 47)]⟩<|AR<|BN ?_
   refine ⟨_,Cv.refl _,(DT (p:=BkM) (by simp only [List.forall_mem_cons];exact ⟨bkM (by simp only [List.forall_mem_cons];exact ⟨(.val _),fun x hx=>by cases hx⟩),fun x hx=>by cases hx⟩)),fun hF1 => ?_⟩
   change DJ s v39 (C4 s n0) (jnN s.Edges (decide ((s.Kind:Int)=2))-x1.val) x1.val=EC s at hF1
   rw [show jnN s.Edges (decide ((s.Kind:Int)=2))-x1.val=(jnN s.Edges (decide ((s.Kind:Int)=2))-(x1.val+1))+1 by have:=x1.isLt;omega] at hF1
   exact BN<|Au<|zl (by rw [<- hF1];simp only [DJ,h4,cond_true,cond_false] <;> kernel_rfl)
  refine AQ<|A0 ?_
  refine ⟨_,Cv.refl _,fun _ _ h=>h,fun hF => ?_⟩
  change DJ s v39 (C4 s n0) (jnN s.Edges (decide ((s.Kind:Int)=2))-x1.val) x1.val=EC s at hF
  rw [show jnN s.Edges (decide ((s.Kind:Int)=2))-x1.val=(jnN s.Edges (decide ((s.Kind:Int)=2))-(x1.val+1))+1 by have:=x1.isLt;omega] at hF
  show DJ s v39 (C4 s n0) (jnN s.Edges (D8 s)-(x1.val+1)) (x1.val+1)=EC s
  rw [<- hF]
  first | (simp only [DJ,h4,cond_true,cond_false] <;> rfl)
 change DJ s v39 (C4 s n0) (jnN s.Edges (D8 s)-(jnN s.Edges (D8 s))) (jnN s.Edges (D8 s))=EC s at hF1
 rw [Nat.sub_self] at hF1
 refine A0<|AF<|AA<|AA<|rc [] (t3 (D8 s) (i3 (UX s) (i3 (Ur s) []))) ⟨[(2,tP 3002 0),(75,tB (bif bif bif decide ((s.Kind:Int)=2) then !decide ((s.R:Int)=0) else false then true else decide ((s.R:Int)<0) then true else decide ((4194304:Int)<s.R)))],[MN]⟩ .nil (c3 (c3 (c3 .nil)))<|AF<|AL _ rfl (fun h4 => ?_) (fun h4 => ?_)
 ·exact AA<|on<|AR<|Au<|zl (by rw [<- hF1];simp only [DJ,h4,cond_true,cond_false] <;> kernel_rfl)
 exact AQ<|AF<|AA<|on<|AR<|zl (by rw [<- hF1];simp only [DJ,h4,cond_true,cond_false] <;> kernel_rfl)
theorem bA (s:AX) (hl:(s.Edges.length:Int)<=9223372036854775807):OKc (SB s):=cPu<|gG s hl
end
def GR (x:Nat):Nat:=(FloatKind.f64.format.sqrt x).getD 0
theorem mW (way:Ieee.Toward) (neg:Bool) (n drop:Nat):way.cut neg n drop<=n/2 ^ (min drop (n.log2+2))+1:=by
 unfold Ieee.Toward.cut
 simp only [Nat.one_shiftLeft]
 have:∀ b:Bool,b.toNat<=1:=fun b=>by cases b <;> decide
 exact Nat.add_le_add_left (this _) _
theorem dE (neg:Bool) (n drop:Nat):Ieee.Toward.zero.cut neg n drop<=n:=by
 unfold Ieee.Toward.cut
 simp only [Bool.toNat_false,Nat.add_zero]
 exact Nat.div_le_self _ _
theorem bP (n:Nat):n<2 ^ (n.log2+1):=Nat.lt_log2_self
theorem iA (mag:Nat) (place last:Int) (hm:mag≠0) (h:place+mag.log2-52<=last):Ieee.Toward.even.cut false (mag <<< (place-last).toNat) (last-place).toNat<=2 ^ 53:=by
 refine Nat.le_trans (mW _ _ _ _) ?_
 have hlt:=bP mag
 by_cases hp:place<=last
 ·have e0:(place-last).toNat=0:=by omega
  rw [e0,Nat.shiftLeft_zero]
  have:mag/2 ^ (min (last-place).toNat (mag.log2+2))<2 ^ 53:=by
   refine Nat.div_lt_of_lt_mul ?_
   rw [<- Nat.pow_add]
   refine Nat.lt_of_lt_of_le hlt (Nat.pow_le_pow_right (by decide) ?_)
   omega
  omega
 have e0:(last-place).toNat=0:=by omega
 rw [e0,Nat.zero_min,Nat.pow_zero,Nat.div_one,Nat.shiftLeft_eq]
 have h1:mag*2 ^ (place-last).toNat<2 ^ (mag.log2+1)*2 ^ (place-last).toNat:=Nat.mul_lt_mul_of_pos_right hlt (Nat.two_pow_pos _)
 rw [<- Nat.pow_add] at h1
 have h2:2 ^ (mag.log2+1+(place-last).toNat)<=2 ^ 53:=Nat.pow_le_pow_right (by decide) (by omega)
 omega
theorem Ou (mag:Nat) (place:Int) (hm:mag≠0) (hlow : -1074<=place+mag.log2-52):Ieee.double.nearest false mag place<=(place+mag.log2-52+1074).toNat*2 ^ 52+2 ^ 53:=by
 have hleast:Ieee.double.leastPlace = -1074:=by decide
 have hbin:Ieee.double.binade=2 ^ 52:=rfl
 have hfr:(Ieee.double.fractionBits:Int)=52:=rfl
 unfold Ieee.Format.nearest
 rw [if_neg hm]
 simp only [hleast,hbin,hfr]
 have hmax:max (place+(mag.log2:Int)-52) (-1074)=place+mag.log2-52:=Int.max_eq_left hlow
 rw [hmax]
 have hk:=iA mag place (place+mag.log2-52) hm (Int.le_refl _)
 unfold Ieee.Format.word
 simp only [Bool.false_eq_true,if_false]
 refine Nat.le_trans (Nat.min_le_left _ _) ?_
 have:(place+(mag.log2:Int)-52 - -1074).toNat=(place+mag.log2-52+1074).toNat:=by omega
 rw [this]
 omega
theorem Sq (r:Nat) (h:r<=1086*2 ^ 52):∃ m i,Ieee.double.read r=.number false m i/\m<2 ^ 53 /\ -1074<=i/\i<=max (-1074) (((r/2 ^ 52:Nat):Int)-1075):=by
 have hleast:Ieee.double.leastPlace = -1074:=by decide
 have hbin:Ieee.double.binade=2 ^ 52:=rfl
 have hsign:Ieee.double.signWeight=2 ^ 63:=rfl
 have hinf:Ieee.double.infRung=2047*2 ^ 52:=rfl
 have h1:r/2 ^ 63=0:=Nat.div_eq_of_lt (by omega)
 have h2:r % 2 ^ 63=r:=Nat.mod_eq_of_lt (by omega)
 unfold Ieee.Format.read
 simp only [hsign,hbin,hinf,hleast,h1,h2]
 by_cases hb:r<2 ^ 52
 ·rw [if_pos hb]
  exact ⟨r,-1074,rfl,by omega,by omega,by omega⟩
 rw [if_neg hb,if_pos (by omega)]
 refine ⟨_,_,rfl,?_,by omega,?_⟩
 ·have:=Nat.mod_lt r (show 0<2 ^ 52 by decide)
  omega
 have:1<=r/2 ^ 52:=by
  rw [Nat.le_div_iff_mul_le (by decide)];omega
 omega
theorem JX (n:Nat):∀ todo root,Ieee.Datum.rootFrom n todo root<root+2 ^ todo
 | 0,root=>by simp [Ieee.Datum.rootFrom]
 | t+1,root=>by
  unfold Ieee.Datum.rootFrom
  simp only [Nat.one_shiftLeft]
  have e:2 ^ (t+1)=2 ^ t+2 ^ t:=by rw [Nat.pow_succ];omega
  have hp:=Nat.two_pow_pos t
  split
  ·have:=JX n t (root+2 ^ t);omega
  have:=JX n t root;omega
theorem log2_lt {m k:Nat} (hm:m≠0) (h:m<2 ^ k):m.log2<k:=(Nat.log2_lt hm).2 h
theorem Z4 (m:Nat) (i:Int) (hm:m<2 ^ 53) (h1 : -1074<=i) (h2:i<=11):∃ m' i',Ieee.Datum.root 54 (.number false m i)=some (.number false m' i')/\(m'=0\/(m'<2 ^ 56 /\ -700<=i'/\i' <= -24)):=by
 by_cases h0:m=0
 ·refine ⟨m,i,?_,.inl h0⟩
  simp only [Ieee.Datum.root,h0,if_true]
 simp only [Ieee.Datum.root,h0,Bool.false_eq_true,if_false]
 have hl:m.log2<53:=log2_lt h0 hm
 obtain ⟨p,hp⟩:∃ p,p=((i-((2*54-m.log2:Nat):Int)) % 2).toNat:=⟨_,rfl⟩
 rw [<- hp]
 have hp1:p<=1:=by omega
 have hn:m <<< (2*54-m.log2+p)<2 ^ 110:=by
  rw [Nat.shiftLeft_eq]
  have a1:m*2 ^ (2*54-m.log2+p)<2 ^ (m.log2+1)*2 ^ (2*54-m.log2+p):=Nat.mul_lt_mul_of_pos_right (bP m) (Nat.two_pow_pos _)
  rw [<- Nat.pow_add] at a1
  exact Nat.lt_of_lt_of_le a1 (Nat.pow_le_pow_right (by decide) (by omega))
 have hn0:m <<< (2*54-m.log2+p)≠0:=by
  rw [Nat.shiftLeft_eq]
  exact Nat.mul_ne_zero h0 (Nat.ne_of_gt (Nat.two_pow_pos _))
 generalize m <<< (2*54-m.log2+p)=n at *
 have hl2:=log2_lt hn0 hn
 have hr:=JX n (n.log2/2+1) 0
 have hr2:2 ^ (n.log2/2+1)<=2 ^ 55:=Nat.pow_le_pow_right (by decide) (by omega)
 generalize Ieee.Datum.rootFrom n (n.log2/2+1) 0=q at *
 refine ⟨_,_,rfl,.inr ⟨?_,?_,?_⟩⟩
 ·have:∀ b:Bool,b.toNat<=1:=fun b=>by cases b <;> decide
  have:=this (q*q != n)
  omega
 ·omega
 omega
theorem Zv {n:Int} (h1:1<=n) (h2:n<=9223372036854775807):FloatKind.f64.format.sqrt (FloatKind.f64.nearest n)=some (GR (FloatKind.f64.nearest n))/\∃ m,(FloatKind.f64.decode (GR (FloatKind.f64.nearest n))).toInt .zero=some m/\0<=m/\m<=9007199254740992:=by
 have hfmt:FloatKind.f64.format=Ieee.double:=rfl
 have hneg:decide (n<0)=false:=decide_eq_false (by omega)
 have hnear:FloatKind.f64.nearest n=Ieee.double.nearest false n.natAbs 0:=by
  unfold FloatKind.nearest FloatKind.encode Ieee.Format.write
  rw [hfmt,hneg]
 rw [hnear,hfmt]
 have hn0:n.natAbs≠0:=by omega
 have hl:=log2_lt hn0 (show n.natAbs<2 ^ 63 by omega)
 have b1:=Ou n.natAbs 0 hn0 (by omega)
 generalize hr1:Ieee.double.nearest false n.natAbs 0=r1 at *
 have b1':r1<=1086*2 ^ 52:=by
  have:(0+(n.natAbs.log2:Int)-52+1074).toNat<=1084:=by omega
  have:=Nat.mul_le_mul_right (2 ^ 52) this
  omega
 obtain ⟨m,i,e1,e2,e3,e4⟩:=Sq r1 b1'
 have hdiv:r1/2 ^ 52<=1086:=Nat.div_le_of_le_mul (by omega)
 obtain ⟨m',i',e5,e6⟩:=Z4 m i e2 e3 (by omega)
 have hs:Ieee.double.sqrt r1=some (Ieee.double.nearest false m' i'):=by
  unfold Ieee.Format.sqrt
  rw [e1]
  show ((Ieee.Datum.root 54 (.number false m i)).map Ieee.double.write)=_
  rw [e5]
  rfl
 have hf:GR r1=Ieee.double.nearest false m' i':=by unfold GR;rw [hfmt,hs];rfl
 refine ⟨by rw [hf];exact hs,?_⟩
 rw [hf]
 have b2:Ieee.double.nearest false m' i'<=1055*2 ^ 52:=by
  rcases e6 with rfl | ⟨e7,e8,e9⟩
  ·unfold Ieee.Format.nearest;rw [if_pos rfl];decide
  by_cases hz:m'=0
  ·subst hz;unfold Ieee.Format.nearest;rw [if_pos rfl];decide
  have hl3:=log2_lt hz e7
  have b3:=Ou m' i' hz (by omega)
  have:(i'+(m'.log2:Int)-52+1074).toNat<=1053:=by omega
  have:=Nat.mul_le_mul_right (2 ^ 52) this
  omega
 generalize Ieee.double.nearest false m' i'=r2 at *
 obtain ⟨m3,i3,e7,e8,e9,e10⟩:=Sq r2 (by omega)
 have hdiv2:r2/2 ^ 52<=1055:=Nat.div_le_of_le_mul (by omega)
 have hi3:i3 <= -20:=by omega
 unfold FloatKind.decode
 rw [hfmt,e7]
 have hi0:i3.toNat=0:=by omega
 simp only [Ieee.Datum.toInt,Ieee.Datum.integral,hi0,Nat.shiftLeft_zero]
 have hc:=dE false m3 (-i3).toNat
 refine ⟨_,rfl,?_,?_⟩
 ·unfold Ieee.signed;simp
 unfold Ieee.signed
 simp only [Bool.false_eq_true,if_false,Nat.shiftLeft_zero]
 omega
theorem Ux {n:Int} (h1:1<=n) (h2:n<=9223372036854775807):eP .f64 (GR (FloatKind.f64.nearest n)) .i64/\0<=f2i .f64 (GR (FloatKind.f64.nearest n))/\f2i .f64 (GR (FloatKind.f64.nearest n))<=9007199254740992:=by
 obtain ⟨_,m,e1,e2,e3⟩:=Zv h1 h2
 have e4:f2i .f64 (GR (FloatKind.f64.nearest n))=m:=by unfold f2i;rw [e1];rfl
 rw [e4]
 exact ⟨⟨m,e1,by rw [show IntKind.i64.min = -9223372036854775808 from by decide];omega,by rw [show IntKind.i64.max=9223372036854775807 from by decide];omega⟩,e2,e3⟩
section
open Go.RowKit
theorem Zu (x:Nat):FK Try.prog 67 [.one (.val (.float .f64 x))] (.val [FloatKind.f64.format.sqrt x=some (GR x)] (.av (.one (.val (.float .f64 (GR x)))))):=by
 refine .inr ⟨_,_,rfl,fun M σ w args himm hc hargs => ?_⟩
 cases hargs with
 | cons ha ht =>
  cases ht
  obtain ⟨rfl,_⟩:=ha
  have h:=hc.head
  refine ⟨.float .f64 (GR x),?_,rfl,rfl⟩
  have hf:Try.prog.funcs[67]? = some Try.f67:=Try.func67
  have h1 : (Try.f67.name == "runtime.NumGoroutine") = false := by decide
  have h2:Try.f67.body.isNone=true:=rfl
  have h3:Extern.findNext Try.f67=none:=by kernel_rfl
  have h4:Extern.find Try.f67=some Extern.MathSqrt.sqrt:=by kernel_rfl
  have e:Extern.MathSqrt.sqrt #[Value.float .f64 x]=(match FloatKind.f64.format.sqrt x with | some r=>pure (Value.float .f64 r) | none=>do pure (.float .f64 (<- choose (.nanBits .f64 x x)))):=rfl
  rw [h] at e
  simp only [callFunc,Sem.run_bind,run_program,Result.andThen_ok,hf,h1,h2,h3,h4,run_mark,Bool.false_eq_true,if_false,if_true,e,Sem.run_pure]
def Dj (x:Nat):Nat:=GR x
variable (v4 bit:Int) (l:List AG) (n:Int) (s:AX) (x:Nat) (x0:AG)
def KA:CT:=(33,[.one (.val (.float .f64 x))],.val [] (.av (.one (.val (.float .f64 (Dj x))))))
theorem Xe (x:Nat) (hx:FloatKind.f64.format.sqrt x=some (GR x)):PuP 33 (KA x).2.1 (.av (.one (.val (.float .f64 (Dj x))))):=by
 refine pwf Try.func33 fun W0 M0 => ?_
 exact AA<|on<|AA<|oc [(4,(67,[.one (.val (.float .f64 x))],.val [FloatKind.f64.format.sqrt x=some (GR x)] (.av (.one (.val (.float .f64 (GR x)))))))] [As [.one (.val (.float .f64 x))],FloatKind.f64.format.sqrt x=some (GR x)] (.cons (Zu x) .nil) (.cons rfl (.cons (by assumption) .nil))<|AF<|AR<|zl
theorem VQ (x:Nat) (hx:FloatKind.f64.format.sqrt x=some (GR x)):OKc (KA x):=cPu<|Xe x hx
def Ey (n:Int) (s:Int) (K0:Int->Int):Nat->Int->Int
 | 0,_=>default
 | n1+1,s'=>bif bif decide ((s':Int)<3037000499) then decide (((W64 ((s'+1)*(s'+1))):Int)<=n) else false then ((Ey n s K0 n1) (s'+1)) else s'
def Dz (n:Int):Nat->Int->Int
 | 0,_=>default
 | n0+1,s=>bif decide ((n:Int)<(W64 (s*s))) then ((Dz n n0) (s-1)) else (Ey n s (Dz n n0) ((3037000499-s).toNat+1) s)
def DC (n:Int):Int:=bif decide ((n:Int)<=0) then 0 else (Dz n ((min (f2i .f64 (Dj (FloatKind.f64.nearest n))) 3037000499).toNat+1) (min (f2i .f64 (Dj (FloatKind.f64.nearest n))) 3037000499))
def Ea:CT:=(10,[.one (.i n)],.val [] (.av (.one (.i (DC n)))))
theorem aI (n : Int) (hn : -9223372036854775808 ≤ n ∧ n ≤ 9223372036854775807) : PuP 10 (Ea n).2.1 (tO (.i (DC n))) := by
  refine pwf Try.func10 fun W0 M0 => ?_
  refine AA <| on <| AA <| AA <| rn ⟨[(0, tI n), (5, tB (decide ((n : Int) ≤ 0)))], []⟩ <| AL _ rfl (fun h1 => ?_) (fun h1 => ?_)
  · have g1 := oT h1
    exact AA <| on <| AR <| Au <| zl (by simp only [DC, h1, cond_true, cond_false] <;> kernel_rfl)
  · have g1 := oF h1
    refine AQ <| AF <| AA <| rc [(8, KA (FloatKind.f64.nearest n))] [As (KA (FloatKind.f64.nearest n)).2.1, eP .f64 (Dj (FloatKind.f64.nearest n)) .i64] ⟨[(0, tI n), (3, tI (min (f2i .f64 (Dj (FloatKind.f64.nearest n))) 3037000499))], []⟩ (.cons (VQ (FloatKind.f64.nearest n) (Zv oM oM).1) .nil) (.cons rfl (.cons (by unfold Dj; exact (Ux oM oM).1) .nil)) <| AF <| AA <| AM <| BK (ι := Nat × Int) (fun x => ⟨[(0, tI n), (3, tI x.2)], []⟩) (fun x => x.2.toNat < x.1 ∧ (0 ≤ x.2 ∧ x.2 ≤ 3037000499) ∧ Dz n x.1 x.2 = DC n) (fun x => x.1) ?_ ((min (f2i .f64 (Dj (FloatKind.f64.nearest n))) 3037000499).toNat + 1, min (f2i .f64 (Dj (FloatKind.f64.nearest n))) 3037000499) ⟨Nat.lt_succ_self _, (by show 0 ≤ (min (f2i .f64 (Dj (FloatKind.f64.nearest n))) 3037000499) ∧ (min (f2i .f64 (Dj (FloatKind.f64.nearest n))) 3037000499) ≤ 3037000499; (have h := Ux (n := n) oM oM; unfold Dj; omega)), (by simp only [DC, h1, cond_true, cond_false])⟩
    rintro ⟨n0, s⟩ ⟨hn, hinv, hF⟩
    have hm0 := hn; have hinv0 := hinv; have hF0 := hF; try dsimp only at hm0 hinv0 hF0
    clear hn hinv hF
    cases n0 with
    | zero => exact absurd hm0 (Nat.not_lt_zero _)
    | succ n0 =>
      have hs0 : n < W64 (s * s) → 0 < s := fun hq => by have hz : s ≠ 0 := fun e => by rw [e] at hq; simp only [E6] at hq; omega
                                                         omega
      refine AA <| AA <| rn ⟨[(0, tI n), (3, tI s), (15, tB (decide ((n : Int) < (W64 (s * s)))))], []⟩ <| AL _ rfl (fun h2 => ?_) (fun h2 => ?_)
      · have g2 := oT h2
        refine AQ <| AF <| AM <| rg ⟨[(0, tI n), (3, tI (W64 (s - 1)))], []⟩ ?_
        (try rw [(show W64 (s - 1) = s - 1 from Ap oM oM)])
        refine A0 <| AF ?_
        refine ⟨(n0, s - 1), ⟨?_, ?_, (by rw [← hF0]; simp only [Dz, h2, cond_true, cond_false])⟩, Nat.lt_succ_self _, BG kr⟩
        · show (s - 1).toNat < n0; omega
        · exact ⟨ax0, ax0⟩
      · have g2 := oF h2
        refine BH <| A7 <| A7 <| BI <| AF <| AA <| AM <| Al (ck (⟨[(0, tI n), (3, tI s)], []⟩)) <| BK (ι := Nat × Int) (fun x => ⟨[(0, tI n), (3, tI x.2)], []⟩) (fun x => (3037000499 - x.2).toNat < x.1 ∧ (0 ≤ x.2 ∧ x.2 ≤ 3037000499) ∧ Ey n s (Dz n n0) x.1 x.2 = DC n) (fun x => x.1) ?_ ((3037000499 - s).toNat + 1, s) ⟨Nat.lt_succ_self _, ⟨ax0, ax0⟩, (by rw [← hF0]; simp only [Dz, h2, cond_true, cond_false])⟩
        rintro ⟨n1, s'⟩ ⟨hn, hinv, hF⟩
        have hm1 := hn; have hinv1 := hinv; have hF1 := hF; try dsimp only at hm1 hinv1 hF1
        clear hn hinv hF
        cases n1 with
        | zero => exact absurd hm1 (Nat.not_lt_zero _)
        | succ n1 =>
          refine AA <| AA <| rc [] (t2 (decide ((s' : Int) < 3037000499)) (t5 (decide ((s' : Int) < 3037000499)) [])) ⟨[(0, tI n), (3, tI s'), (28, tB (bif decide ((s' : Int) < 3037000499) then decide (((W64 ((W64 (s' + 1)) * (W64 (s' + 1)))) : Int) ≤ n) else false))], []⟩ .nil (c2 (c5 .nil)) ?_
          (try rw [(show W64 (s' + 1) = s' + 1 from Ap oM oM)])
          refine AF <| AL _ rfl (fun h3 => ?_) (fun h3 => ?_)
          · have g3 := Hb h3
            refine AQ <| AF <| AM <| rg ⟨[(0, tI n), (3, tI (W64 (s' + 1)))], []⟩ ?_
            (try rw [(show W64 (s' + 1) = s' + 1 from Ap oM oM)])
            refine A0 <| AF ?_
            refine ⟨(n1, s' + 1), ⟨?_, ?_, (by rw [← hF1]; simp only [Ey, h3, cond_true, cond_false])⟩, Nat.lt_succ_self _, BG kr⟩
            · show (3037000499 - (s' + 1)).toNat < n1; omega
            · exact ⟨ax0, ax0⟩
          · refine BH <| A7 ?_
            exact A7 <| BI <| AF <| AA <| on <| AR <| zl (by rw [← hF1]; simp only [Ey, h3, cond_true, cond_false] <;> kernel_rfl)
theorem Hw (n:Int) (hn : -9223372036854775808<=n/\n<=9223372036854775807):OKc (Ea n):=cPu<|aI n hn
theorem LP (x:Int) : -9223372036854775808<=W64 x/\W64 x<=9223372036854775807:=by rw [E6];omega
theorem iL (a c:AD) : -9223372036854775808<=Gr a c/\Gr a c<=9223372036854775807:=LP _
def DP (n:Int):Nat->Int->Int->Int
 | 0,_,_=>default
 | n0+1,out,bit=>bif decide ((0:Int)<=bit) then ((DP n n0) (bif bif decide (((W64 (out+(W64 (1*2 ^ (min bit.toNat 64))))):Int)<=3037000499) then decide (((W64 ((W64 (out+(W64 (1*2 ^ (min bit.toNat 64)))))*(W64 (out+(W64 (1*2 ^ (min bit.toNat 64))))))):Int)<=n) else false then (W64 (out+(W64 (1*2 ^ (min bit.toNat 64))))) else out) (bit-1)) else out
def GU (n:Int):Int:=DP n (((31:Int)+1).toNat+1) 0 31
def Lp:CT:=(11,[.one (.i n)],.val [] (.av (.one (.i (GU n)))))
abbrev G3:=min bit.toNat 64
theorem aE (n:Int):PuP 11 (Lp n).2.1 (tO (.i (GU n))):=by
 refine pwf Try.func11 fun W0 M0 => ?_
 refine AA<|on<|AA<|on<|AA<|AA<|rn ⟨[(0,tI n),(3,tI 0),(4,tI 31)],[]⟩<|AM<|BK (ι:=Nat×Int×Int) (fun x=>⟨[(0,tI n),(3,tI x.2.1),(4,tI x.2.2)],[]⟩) (fun x=>((x.2.2:Int)+1).toNat<x.1/\(-1<=x.2.2/\x.2.2<=31)/\DP n x.1 x.2.1 x.2.2=GU n) (fun x=>x.1) ?_ (((31:Int)+1).toNat+1,0,31) ⟨Nat.lt_succ_self _,⟨ax0,ax0⟩,(by simp only [GU,cond_true,cond_false])⟩
 rintro ⟨n0,out,bit⟩ ⟨hm0,hinv0,hF0⟩
 try dsimp only at hm0 hinv0 hF0
 cases n0 with | zero=>exact nz hm0 | succ n0 => ?_
 refine AA<|AA<|rn ⟨[(0,tI n),(3,tI out),(4,tI bit),(7,tB (decide ((0:Int)<=bit)))],[]⟩<|AL _ rfl (fun h1 => ?_) (fun h1 => ?_)
 ·have g1:=oT h1
  refine AQ<|AF<|AA<|CR (⟨[(0,tI n),(3,tI (bif bif decide (((W64 (out+(W64 (1*2 ^ (G3 bit))))):Int)<=3037000499) then decide (((W64 ((W64 (out+(W64 (1*2 ^ (G3 bit)))))*(W64 (out+(W64 (1*2 ^ (G3 bit))))))):Int)<=n) else false then (W64 (out+(W64 (1*2 ^ (G3 bit))))) else out)),(4,tI bit)],[]⟩) ?_ ?_
  ·refine AM<|AA<|oc [] [0<=(bit:Int)] .nil (.cons au1 .nil)<|AF<|AA<|rc [] (t5 (decide (((W64 (out+(W64 (1*2 ^ (G3 bit))))):Int)<=3037000499)) []) ⟨[(0,tI n),(3,tI out),(4,tI bit),(5,tI (W64 (out+(W64 (1*2 ^ (G3 bit)))))),(22,tB (bif decide (((W64 (out+(W64 (1*2 ^ (min bit.toNat 64))))):Int)<=3037000499) then decide (((W64 ((W64 (out+(W64 (1*2 ^ (min bit.toNat 64)))))*(W64 (out+(W64 (1*2 ^ (min bit.toNat 64))))))):Int)<=n) else false))],[]⟩ .nil (c5 .nil)<|AF<|AL (bif decide (((W64 (out+(W64 (1*2 ^ (min bit.toNat 64))))):Int)<=3037000499) then decide (((W64 ((W64 (out+(W64 (1*2 ^ (min bit.toNat 64)))))*(W64 (out+(W64 (1*2 ^ (min bit.toNat 64))))))):Int)<=n) else false) kr (fun h2 => ?_) (fun h2 => ?_)
   ·have g2:=Hb h2
    refine rg ⟨[(0,tI n),(3,tI (W64 (out+(W64 (1*2 ^ (G3 bit)))))),(4,tI bit)],[]⟩<|A0<|AF<|BG ?_
    first | rfl | (simp only [h2,cond_true,cond_false] <;> rfl)
   refine AQ<|A0<|AF<|Cv.trans (ck (⟨[(0,tI n),(3,tI out),(4,tI bit)],[]⟩)) (BG ?_)
   first | rfl | (simp only [h2,cond_true,cond_false] <;> rfl)
  refine rg ⟨[(0,tI n),(3,tI (bif bif decide (((W64 (out+(W64 (1*2 ^ (G3 bit))))):Int)<=3037000499) then decide (((W64 ((W64 (out+(W64 (1*2 ^ (G3 bit)))))*(W64 (out+(W64 (1*2 ^ (G3 bit))))))):Int)<=n) else false then (W64 (out+(W64 (1*2 ^ (G3 bit))))) else out)),(4,tI (W64 (bit-1)))],[]⟩ ?_
  (try rw [(show W64 (bit-1)=bit-1 from Ap oM oM)])
  refine AF ?_
  refine ⟨(n0,bif bif decide (((W64 (out+(W64 (1*2 ^ (min bit.toNat 64))))):Int)<=3037000499) then decide (((W64 ((W64 (out+(W64 (1*2 ^ (min bit.toNat 64)))))*(W64 (out+(W64 (1*2 ^ (min bit.toNat 64))))))):Int)<=n) else false then (W64 (out+(W64 (1*2 ^ (min bit.toNat 64))))) else out,bit-1),⟨?_,?_,(by rw [<- hF0];simp only [DP,h1,cond_true,cond_false])⟩,Nat.lt_succ_self _,BG kr⟩
  ·show (((bit-1):Int)+1).toNat<n0;omega
  exact ⟨ax0,ax0⟩
 exact BH<|A7<|A7<|BI<|AF<|AA<|on<|AR<|zl (by rw [<- hF0];simp only [DP,h1,cond_true,cond_false] <;> kernel_rfl)
theorem Xm (n:Int):OKc (Lp n):=cPu<|aE n
def D0 (x0:AG):Int:=bif !decide (((Em x0):Int)=0) then 0 else (bif !decide ((x0.Kind:Int)=1) then (W64 (Int.tdiv (W64 (355*(E8 x0))) 226)) else (DC (Gr (A3 x0.B x0.A) (A3 x0.B x0.A))))
def Ev:CT:=(14,[.agg (AG.c x0)],.val [] (.av (.one (.i (D0 x0)))))
theorem au25 {p:Prop} (h:p:=by first | with_reducible assumption | exact LP _ | exact iL _ _ | omega | decide):p:=h
theorem aJ (x0:AG):PuP 14 (Ev x0).2.1 (tO (.i (D0 x0))):=by
 refine pwf Try.func14 fun W0 M0 => ?_
 refine AA<|on<|AA<|AM<|AA<|rs 6 (SD x0) ⟨[(1,tP 1 0),(4,tB (!decide (((Em x0):Int)=0)))],[(1,.cells (AG.c x0) 33)]⟩ (WW x0)<|AF<|AL _ rfl (fun h1 => ?_) (fun h1 => ?_)
 ·have g1:=Bk h1
  exact AA<|on<|AR<|BN<|Au<|zl (by simp only [D0,h1,cond_true,cond_false] <;> kernel_rfl)
 have g1:=Bc h1
 refine AA<|rn ⟨[(1,tP 1 0),(8,tB (!decide ((x0.Kind:Int)=1)))],[(1,.cells (AG.c x0) 33)]⟩<|AL _ rfl (fun h2 => ?_) (fun h2 => ?_)
 ·have g2:=Bk h2
  exact AA<|oc [(13,Nl x0)] [As (Nl x0).2.1,(226:Int)≠0] (.cons (aY x0) .nil) (.cons rfl (.cons au13 .nil))<|AF<|AR<|BN<|Au<|zl (by simp only [D0,h1,h2,cond_true,cond_false] <;> kernel_rfl)
 have g2:=Bc h2
 exact AQ<|A0<|AF<|AA<|oq 20 (Iq x0.B x0.A) (LW x0.B x0.A)<|AF<|AA<|oc [(23,Nj (A3 x0.B x0.A) (A3 x0.B x0.A)),(24,Ea (Gr (A3 x0.B x0.A) (A3 x0.B x0.A)))] [As (Nj (A3 x0.B x0.A) (A3 x0.B x0.A)).2.1,As (Ea (Gr (A3 x0.B x0.A) (A3 x0.B x0.A))).2.1] (.cons (aW (A3 x0.B x0.A) (A3 x0.B x0.A)) (.cons (Hw (Gr (A3 x0.B x0.A) (A3 x0.B x0.A)) au25) .nil)) (.cons rfl (.cons rfl .nil))<|AF<|AR<|zl (by simp only [D0,h1,h2,cond_true,cond_false] <;> kernel_rfl)
theorem Hx (x0:AG):OKc (Ev x0):=cPu<|aJ x0
def FO (x0:AG):Int:=bif !decide (((B4 x0):Int)=0) then 0 else (bif !decide ((x0.Kind:Int)=1) then (W64 (Int.tdiv (W64 (355*(ET x0))) 226)) else (GU (Gw (Ad x0.B x0.A) (Ad x0.B x0.A))))
def Lq:CT:=(15,[.agg (AG.c x0)],.val [] (.av (.one (.i (FO x0)))))
theorem aF (x0:AG):PuP 15 (Lq x0).2.1 (tO (.i (FO x0))):=by
 refine pwf Try.func15 fun W0 M0 => ?_
 refine AA<|on<|AA<|AA<|rs 5 (Dy x0) ⟨[(1,tP 1 0),(6,tB (!decide (((B4 x0):Int)=0)))],[(1,.cells (AG.c x0) 33)]⟩ (Gk x0)<|AF<|AL _ rfl (fun h1 => ?_) (fun h1 => ?_)
 ·have g1:=Bk h1
  exact AA<|on<|AR<|Au<|zl (by simp only [FO,h1,cond_true,cond_false] <;> kernel_rfl)
 have g1:=Bc h1
 refine AQ<|AF<|AA<|AA<|rn ⟨[(1,tP 1 0),(9,tB (!decide ((x0.Kind:Int)=1)))],[(1,.cells (AG.c x0) 33)]⟩<|AL _ rfl (fun h2 => ?_) (fun h2 => ?_)
 ·have g2:=Bk h2
  exact AA<|oc [(11,Gn x0)] [As (Gn x0).2.1,(226:Int)≠0] (.cons (PW x0) .nil) (.cons rfl (.cons au13 .nil))<|AF<|AR<|Au<|zl (by simp only [FO,h1,h2,cond_true,cond_false] <;> kernel_rfl)
 have g2:=Bc h2
 exact AQ<|AF<|AA<|oq 18 (Gu x0.B x0.A) (IZ x0.B x0.A)<|AF<|AA<|oc [(21,J8 (Ad x0.B x0.A) (Ad x0.B x0.A)),(22,Lp (Gw (Ad x0.B x0.A) (Ad x0.B x0.A)))] [As (J8 (Ad x0.B x0.A) (Ad x0.B x0.A)).2.1,As (Lp (Gw (Ad x0.B x0.A) (Ad x0.B x0.A))).2.1] (.cons (VP (Ad x0.B x0.A) (Ad x0.B x0.A)) (.cons (Xm (Gw (Ad x0.B x0.A) (Ad x0.B x0.A))) .nil)) (.cons rfl (.cons rfl .nil))<|AF<|AR<|zl (by simp only [FO,h1,h2,cond_true,cond_false] <;> kernel_rfl)
theorem Xn (x0:AG):OKc (Lq x0):=cPu<|aF x0
def E0 (l:(List AG)):Nat->Int->Bool
 | 0,_=>default
 | n0+1,k=>bif decide ((k:Int)<(l.length:Int)) then (bif !(decide ((l.getD k.toNat default).A.X=(l.getD (W64 (k-1)).toNat default).B.X)&&(decide ((l.getD k.toNat default).A.Y=(l.getD (W64 (k-1)).toNat default).B.Y)&&true)) then false else ((E0 l n0) (k+1))) else true
def E7 (l:(List AG)):Bool:=E0 l (((l.length:Int)-1).toNat+1) 1
def Nk:CT:=(74,[.one (lst 7 AG.c l)],.val [] (.av (.one (.b (E7 l)))))
theorem gB (l:(List AG)) (h0:(l.length:Int)<=1000000):PuP 74 (Nk l).2.1 (tO (.b (E7 l))):=by
 refine pwf Try.func74 fun W0 M0 => ?_
 refine AA<|on<|AA<|AA<|rn ⟨[(0,tO (lst 7 AG.c l)),(3,tI 1)],[]⟩<|AM<|BK (ι:=Nat×Int) (fun x=>⟨[(0,tO (lst 7 AG.c l)),(3,tI x.2)],[]⟩) (fun x=>((l.length:Int)-x.2).toNat<x.1/\(1<=x.2/\(x.2<=(l.length:Int)\/x.2=1))/\E0 l x.1 x.2=E7 l) (fun x=>x.1) ?_ (((l.length:Int)-1).toNat+1,1) ⟨Nat.lt_succ_self _,⟨ax0,ax0⟩,(by simp only [E7,cond_true,cond_false])⟩
 rintro ⟨n0,k⟩ ⟨hm0,hinv0,hF0⟩
 try dsimp only at hm0 hinv0 hF0
 cases n0 with | zero=>exact nz hm0 | succ n0 => ?_
 refine AA<|AA<|rn ⟨[(0,tO (lst 7 AG.c l)),(3,tI k),(7,tB (decide ((k:Int)<(l.length:Int))))],[]⟩<|AL _ rfl (fun h1 => ?_) (fun h1 => ?_)
 ·have g1:=oT h1
  refine AQ<|AF<|AA<|AM<|AA<|dw [] [] [0<=(k:Int)/\(k:Int)<((l.length:Nat):Int),0<=(W64 (k-1):Int)/\(W64 (k-1):Int)<((l.length:Nat):Int)] ⟨[(0,tO (lst 7 AG.c l)),(3,tI k),(21,tB (!(decide ((l.getD k.toNat default).A.X=(l.getD (W64 (k-1)).toNat default).B.X)&&(decide ((l.getD k.toNat default).A.Y=(l.getD (W64 (k-1)).toNat default).B.Y)&&true))))],[]⟩ .nil (.cons au1 (.cons au1 .nil))<|AF<|AL (!(decide ((l.getD k.toNat default).A.X=(l.getD (W64 (k-1)).toNat default).B.X)&&(decide ((l.getD k.toNat default).A.Y=(l.getD (W64 (k-1)).toNat default).B.Y)&&true))) kr (fun h2 => ?_) (fun h2 => ?_)
  ·exact AA<|on<|AR<|BN<|Au<|Au<|BN<|Au<|zl (by rw [<- hF0];simp only [E0,h1,h2,cond_true,cond_false] <;> kernel_rfl)
  refine AQ<|A0<|AF<|rg ⟨[(0,tO (lst 7 AG.c l)),(3,tI (W64 (k+1)))],[]⟩ ?_
  (try rw [(show W64 (k+1)=k+1 from Ap oM au8)])
  refine AF ?_
  refine ⟨(n0,k+1),⟨?_,?_,(by rw [<- hF0];simp only [E0,h1,h2,cond_true,cond_false])⟩,Nat.lt_succ_self _,BG kr⟩
  ·show ((l.length:Int)-(k+1)).toNat<n0;omega
  exact ⟨ax0,ax0⟩
 exact BH<|A7<|A7<|BI<|AF<|AA<|on<|AR<|zl (by rw [<- hF0];simp only [E0,h1,cond_true,cond_false] <;> kernel_rfl)
theorem TC (l:(List AG)) (h0:(l.length:Int)<=1000000):OKc (Nk l):=cPu<|gB l h0
def Z0l:AD:=(s.Edges.getD (W64 ((s.Edges.length:Int)-1)).toNat default).B
def Ca (s:AX):Nat->Int->Int
 | 0,_=>default
 | n0+1,v4=>bif decide ((v4:Int)<(s.Edges.length:Int)) then (bif !decide (((B4 (s.Edges.getD v4.toNat default)):Int)=0) then (B4 (s.Edges.getD v4.toNat default)) else ((Ca s n0) (v4+1))) else (bif bif !(E7 s.Edges) then true else bif decide ((s.Kind:Int)=2) then !((decide ((s.Edges.getD 0 default).A.X=(Z0l s).X)&&(decide ((s.Edges.getD 0 default).A.Y=(Z0l s).Y)&&true))) else false then 12 else (bif bif bif bif decide ((s.Kind:Int)=2) then !decide ((s.R:Int)=0) else false then true else decide ((s.R:Int)<0) then true else decide ((4194304:Int)<s.R) then 3 else 0))
def EW (s:AX):Int:=bif decide ((s.Kind:Int)=1) then (bif decide (((s.Edges.length:Int):Int)<1) then 12 else (bif decide ((40:Int)<(s.Edges.length:Int)) then 2 else (Ca s (((s.Edges.length:Int)-0).toNat+1) 0))) else (bif decide ((s.Kind:Int)=2) then (bif decide (((s.Edges.length:Int):Int)<2) then 12 else (bif decide ((40:Int)<(s.Edges.length:Int)) then 2 else (Ca s (((s.Edges.length:Int)-0).toNat+1) 0))) else 12)
def SC:CT:=(51,[.agg (AX.c s)],.val [] (.av (.one (.i (EW s)))))
abbrev Zd:AS:=⟨[(1,tP 1 0),(67,tB (bif !(E7 s.Edges) then true else bif decide ((s.Kind:Int)=2) then !((decide ((s.Edges.getD 0 default).A.X=(Z0l s).X)&&(decide ((s.Edges.getD 0 default).A.Y=(Z0l s).Y)&&true))) else false))],[(FD s)]⟩
abbrev ZZ:AS:=⟨[(85,tB (bif bif bif decide ((s.Kind:Int)=2) then !decide ((s.R:Int)=0) else false then true else decide ((s.R:Int)<0) then true else decide ((4194304:Int)<s.R)))],[]⟩
abbrev ZF:AS:=⟨[(1,tP 1 0),(4,tI v4),(5,tI (B4 (s.Edges.getD v4.toNat default))),(37,tB (!decide (((B4 (s.Edges.getD v4.toNat default)):Int)=0)))],[(FD s)]⟩
abbrev GY:Bool := !(E7 s.Edges)
abbrev Yt:AS:=⟨[(1,tP 1 0),(22,tB (decide ((40:Int)<(s.Edges.length:Int))))],[(FD s)]⟩
abbrev Yn:AS:=⟨[(1,tP 1 0),(4,tI v4),(27,tB (decide ((v4:Int)<(s.Edges.length:Int))))],[(FD s)]⟩
theorem gH (s:AX) (hl:(s.Edges.length:Int)<=1000000):PuP 51 (SC s).2.1 (tO (.i (EW s))):=by
 refine pwf Try.func51 fun W0 M0 => ?_
 refine AA<|on<|AA<|on<|AA<|AA<|on<|AM<|AA<|rn ⟨[(1,tP 1 0),(3,tI 1),(9,tI s.Kind),(10,tB (decide ((s.Kind:Int)=1)))],[(FD s)]⟩<|AL _ rfl (fun h1 => ?_) (fun h1 => ?_)
 ·have g1:=oT h1
  refine AQ<|A0<|AF<|AA<|AA<|rn ⟨[(1,tP 1 0),(18,tB (decide (((s.Edges.length:Int):Int)<1)))],[(FD s)]⟩<|AL _ rfl (fun h2 => ?_) (fun h2 => ?_)
  ·exact AA<|on<|AR<|Au<|zl (by simp only [EW,h1,h2,cond_true,cond_false] <;> kernel_rfl)
  have g2:=oF h2
  refine AQ<|AF<|AA<|AA<|rn (Yt s)<|AL _ rfl (fun h3 => ?_) (fun h3 => ?_)
  ·exact AA<|on<|AR<|Au<|zl (by simp only [EW,h1,h2,h3,cond_true,cond_false] <;> kernel_rfl)
  have g3:=oF h3
  refine AQ<|AF<|AA<|AA<|rn ⟨[(1,tP 1 0),(4,tI 0)],[(FD s)]⟩<|AM<|BK (ι:=Nat×Int) (fun x=>⟨[(1,tP 1 0),(4,tI x.2)],[(FD s)]⟩) (fun x=>((s.Edges.length:Int)-x.2).toNat<x.1/\(0<=x.2/\(x.2<=(s.Edges.length:Int)\/x.2=0))/\Ca s x.1 x.2=EW s) (fun x=>x.1) ?_ (((s.Edges.length:Int)-0).toNat+1,0) ⟨Nat.lt_succ_self _,⟨ax0,ax0⟩,(by simp only [EW,h1,h2,h3,cond_true,cond_false])⟩
  rintro ⟨n0,v4⟩ ⟨hm0,hinv0,hF0⟩
  try dsimp only at hm0 hinv0 hF0
  cases n0 with | zero=>exact nz hm0 | succ n0 => ?_
  refine AA<|AA<|rn (Yn v4 s)<|AL _ rfl (fun h4 => ?_) (fun h4 => ?_)
  ·have g4:=oT h4
   refine AQ<|AF<|AA<|AM<|AA<|oc [(35,Dy (s.Edges.getD v4.toNat default))] [0<=(v4:Int)/\(v4:Int)<((s.Edges.length:Nat):Int),As (Dy (s.Edges.getD v4.toNat default)).2.1] (.cons (Gk (s.Edges.getD v4.toNat default)) .nil) (.cons au1 (.cons rfl .nil))<|AF<|AA<|rn (ZF v4 s)<|AL _ rfl (fun h5 => ?_) (fun h5 => ?_)
   ·have g5:=Bk h5
    exact AA<|on<|AR<|BN<|Au<|Au<|BN<|Au<|zl (by rw [<- hF0];simp only [Ca,h4,h5,cond_true,cond_false] <;> kernel_rfl)
   have g5:=Bc h5
   refine AQ<|A0<|AF<|rg ⟨[(1,tP 1 0),(4,tI (W64 (v4+1)))],[(FD s)]⟩ ?_
   (try rw [(show W64 (v4+1)=v4+1 from Ap oM au8)])
   refine AF ?_
   refine ⟨(n0,v4+1),⟨?_,?_,(by rw [<- hF0];simp only [Ca,h4,h5,cond_true,cond_false])⟩,Nat.lt_succ_self _,BG kr⟩
   ·show ((s.Edges.length:Int)-(v4+1)).toNat<n0;omega
   exact ⟨ax0,ax0⟩
  have g4:=oF h4
  refine BH<|A7<|A7<|BI<|AF<|AA<|oq 41 (Nk s.Edges) (TC s.Edges au23)<|AF<|AA<|od [] [] [0<=(0:Int)/\(0:Int)<((s.Edges.length:Nat):Int),0<=(W64 ((s.Edges.length:Int)-1):Int)/\(W64 ((s.Edges.length:Int)-1):Int)<((s.Edges.length:Nat):Int)] .nil (.cons au1 (.cons au1 .nil))<|AF<|AA<|AA<|rc [] (i3 (GY s) [gp (((GY s)=false)/\(D8 s)=true),gi (GY s),((GY s)=false)->((D8 s)=true->(((GY s)=false)/\(D8 s)=true)),gi (GY s)]) (Zd s) .nil (c3 (ci (ci (.cons (by intros;first | assumption | exact ⟨by assumption,by assumption⟩ | simp_all) (ci .nil)))))<|AF<|AL _ rfl (fun h5 => ?_) (fun h5 => ?_)
  ·exact AA<|on<|AR<|Au<|zl (by rw [<- hF0];simp only [Ca,h4,h5,cond_true,cond_false] <;> kernel_rfl)
  refine AQ<|AF<|AA<|AA<|rc [] (t3 (D8 s) (i3 (UX s) (i3 (Ur s) []))) (ZZ s) .nil (c3 (c3 (c3 .nil)))<|AF<|AL _ rfl (fun h6 => ?_) (fun h6 => ?_)
  ·exact AA<|on<|AR<|Au<|zl (by rw [<- hF0];simp only [Ca,h4,h5,h6,cond_true,cond_false] <;> kernel_rfl)
  exact AQ<|AF<|AA<|on<|AR<|zl (by rw [<- hF0];simp only [Ca,h4,h5,h6,cond_true,cond_false] <;> kernel_rfl)
 have g1:=oF h1
 refine AA<|rn ⟨[(1,tP 1 0),(12,tB (decide ((s.Kind:Int)=2)))],[(FD s)]⟩<|AL _ rfl (fun h2 => ?_) (fun h2 => ?_)
 ·have g2:=oT h2
  refine og<|A0<|AF<|AA<|AA<|rn ⟨[(1,tP 1 0),(18,tB (decide (((s.Edges.length:Int):Int)<2)))],[(FD s)]⟩<|AL _ rfl (fun h3 => ?_) (fun h3 => ?_)
  ·exact AA<|on<|AR<|Au<|zl (by simp only [EW,h1,h2,h3,cond_true,cond_false] <;> kernel_rfl)
  have g3:=oF h3
  refine AQ<|AF<|AA<|AA<|rn (Yt s)<|AL _ rfl (fun h4 => ?_) (fun h4 => ?_)
  ·exact AA<|on<|AR<|Au<|zl (by simp only [EW,h1,h2,h3,h4,cond_true,cond_false] <;> kernel_rfl)
  have g4:=oF h4
  refine AQ<|AF<|AA<|AA<|rn ⟨[(1,tP 1 0),(4,tI 0)],[(FD s)]⟩<|AM<|BK (ι:=Nat×Int) (fun x=>⟨[(1,tP 1 0),(4,tI x.2)],[(FD s)]⟩) (fun x=>((s.Edges.length:Int)-x.2).toNat<x.1/\(0<=x.2/\(x.2<=(s.Edges.length:Int)\/x.2=0))/\Ca s x.1 x.2=EW s) (fun x=>x.1) ?_ (((s.Edges.length:Int)-0).toNat+1,0) ⟨Nat.lt_succ_self _,⟨ax0,ax0⟩,(by simp only [EW,h1,h2,h3,h4,cond_true,cond_false])⟩
  rintro ⟨n1,v4⟩ ⟨hm1,hinv1,hF1⟩
  try dsimp only at hm1 hinv1 hF1
  cases n1 with | zero=>exact nz hm1 | succ n1 => ?_
  refine AA<|AA<|rn (Yn v4 s)<|AL _ rfl (fun h5 => ?_) (fun h5 => ?_)
  ·have g5:=oT h5
   refine AQ<|AF<|AA<|AM<|AA<|oc [(35,Dy (s.Edges.getD v4.toNat default))] [0<=(v4:Int)/\(v4:Int)<((s.Edges.length:Nat):Int),As (Dy (s.Edges.getD v4.toNat default)).2.1] (.cons (Gk (s.Edges.getD v4.toNat default)) .nil) (.cons au1 (.cons rfl .nil))<|AF<|AA<|rn (ZF v4 s)<|AL _ rfl (fun h6 => ?_) (fun h6 => ?_)
   ·have g6:=Bk h6
    exact AA<|on<|AR<|BN<|Au<|Au<|BN<|Au<|zl (by rw [<- hF1];simp only [Ca,h5,h6,cond_true,cond_false] <;> kernel_rfl)
   have g6:=Bc h6
   refine AQ<|A0<|AF<|rg ⟨[(1,tP 1 0),(4,tI (W64 (v4+1)))],[(FD s)]⟩ ?_
   (try rw [(show W64 (v4+1)=v4+1 from Ap oM au8)])
   refine AF ?_
   refine ⟨(n1,v4+1),⟨?_,?_,(by rw [<- hF1];simp only [Ca,h5,h6,cond_true,cond_false])⟩,Nat.lt_succ_self _,BG kr⟩
   ·show ((s.Edges.length:Int)-(v4+1)).toNat<n1;omega
   exact ⟨ax0,ax0⟩
  have g5:=oF h5
  refine BH<|A7<|A7<|BI<|AF<|AA<|oq 41 (Nk s.Edges) (TC s.Edges au23)<|AF<|AA<|od [] [] [0<=(0:Int)/\(0:Int)<((s.Edges.length:Nat):Int),0<=(W64 ((s.Edges.length:Int)-1):Int)/\(W64 ((s.Edges.length:Int)-1):Int)<((s.Edges.length:Nat):Int)] .nil (.cons au1 (.cons au1 .nil))<|AF<|AA<|AA<|rc [] (i3 (GY s) [gp (((GY s)=false)/\(D8 s)=true),gi (GY s),((GY s)=false)->((D8 s)=true->(((GY s)=false)/\(D8 s)=true)),gi (GY s)]) (Zd s) .nil (c3 (ci (ci (.cons (by intros;first | assumption | exact ⟨by assumption,by assumption⟩ | simp_all) (ci .nil)))))<|AF<|AL _ rfl (fun h6 => ?_) (fun h6 => ?_)
  ·exact AA<|on<|AR<|Au<|zl (by rw [<- hF1];simp only [Ca,h5,h6,cond_true,cond_false] <;> kernel_rfl)
  refine AQ<|AF<|AA<|AA<|rc [] (t3 (D8 s) (i3 (UX s) (i3 (Ur s) []))) (ZZ s) .nil (c3 (c3 (c3 .nil)))<|AF<|AL _ rfl (fun h7 => ?_) (fun h7 => ?_)
  ·exact AA<|on<|AR<|Au<|zl (by rw [<- hF1];simp only [Ca,h5,h6,h7,cond_true,cond_false] <;> kernel_rfl)
  exact AQ<|AF<|AA<|on<|AR<|zl (by rw [<- hF1];simp only [Ca,h5,h6,h7,cond_true,cond_false] <;> kernel_rfl)
 exact AA<|on<|AR<|BN<|Au<|zl (by simp only [EW,h1,h2,cond_true,cond_false] <;> kernel_rfl)
theorem bB (s:AX) (hl:(s.Edges.length:Int)<=1000000):OKc (SC s):=cPu<|gH s hl
def HO (xs:(List AG)):Nat->Int->Int->Int
 | 0,_,_=>default
 | n0+1,n_,v10=>bif decide ((v10:Int)<(xs.length:Int)) then ((HO xs n0) (W64 (n_+(D0 (xs.getD v10.toNat default)))) (v10+1)) else n_
def QX (xs:(List AG)):Int:=HO xs (((xs.length:Int)-0).toNat+1) 0 0
theorem psumE  (xs:(List AG)) (hx:(xs.length:Int)<=9223372036854775807):HT Try.prog 50 [.one (lst 7 AG.c xs),.one (.clo 14 0 dfc)] (tO (.i (QX xs))):=by
 refine pwf Try.func50 fun W0 M0 => ?_
 refine AA<|on<|AA<|on<|AA<|AA<|rn ⟨[(1,.av (.one (.clo 14 0 dfc))),(5,tI 0),(8,tO (lst 7 AG.c xs)),(9,tI (xs.length:Int)),(10,tI 0)],[]⟩<|AM<|BK (ι:=Nat×Int×Int) (fun x=>⟨[(1,.av (.one (.clo 14 0 dfc))),(5,tI x.2.1),(8,tO (lst 7 AG.c xs)),(9,tI (xs.length:Int)),(10,tI x.2.2)],[]⟩) (fun x=>((xs.length:Int)-x.2.2).toNat<x.1/\(0<=x.2.2/\(x.2.2<=(xs.length:Int)\/x.2.2=0))/\HO xs x.1 x.2.1 x.2.2=QX xs) (fun x=>x.1) ?_ (((xs.length:Int)-0).toNat+1,0,0) ⟨Nat.lt_succ_self _,⟨ax0,ax0⟩,(by simp only [QX,cond_true,cond_false])⟩
 rintro ⟨n0,n_,v10⟩ ⟨hm0,hinv0,hF0⟩
 try dsimp only at hm0 hinv0 hF0
 cases n0 with | zero=>exact nz hm0 | succ n0 => ?_
 refine AA<|rn ⟨[(1,.av (.one (.clo 14 0 dfc))),(5,tI n_),(8,tO (lst 7 AG.c xs)),(9,tI (xs.length:Int)),(10,tI v10),(11,tB (decide ((v10:Int)<(xs.length:Int))))],[]⟩<|AA<|AL _ rfl (fun h1 => ?_) (fun h1 => ?_)
 ·have g1:=oT h1
  refine AQ<|AF<|AA<|AM<|AA<|oc [] [0<=(v10:Int)/\(v10:Int)<((xs.length:Nat):Int)] .nil (.cons au1 .nil)<|AF<|oq 17 (Ev (xs.getD v10.toNat default)) (Hx (xs.getD v10.toNat default))<|A0<|AF<|rg ⟨[(1,.av (.one (.clo 14 0 dfc))),(5,tI (W64 (n_+(D0 (xs.getD v10.toNat default))))),(8,tO (lst 7 AG.c xs)),(9,tI (xs.length:Int)),(10,tI (W64 (v10+1)))],[]⟩ ?_
  (try rw [(show W64 (v10+1)=v10+1 from Ap oM au8)])
  refine AF ?_
  refine ⟨(n0,W64 (n_+(D0 (xs.getD v10.toNat default))),v10+1),⟨?_,?_,(by rw [<- hF0];simp only [HO,h1,cond_true,cond_false])⟩,Nat.lt_succ_self _,BG kr⟩
  ·show ((xs.length:Int)-(v10+1)).toNat<n0;omega
  exact ⟨ax0,ax0⟩
 exact BH<|A7<|A7<|BI<|AF<|AA<|on<|AR<|zl (by rw [<- hF0];simp only [HO,h1,cond_true,cond_false] <;> kernel_rfl)
def Fg (s:AX):Int:=bif !decide (((EC s):Int)=0) then 0 else (QX s.Edges)
def H3:CT:=(16,[.agg (AX.c s)],.val [] (.av (.one (.i (Fg s)))))
theorem Xf (s:AX) (hl:(s.Edges.length:Int)<=1000000):PuP 16 (H3 s).2.1 (tO (.i (Fg s))):=by
 refine pwf Try.func16 fun W0 M0 => ?_
 refine AA<|on<|AA<|AA<|rs 4 (SB s) ⟨[(1,tP 1 0),(5,tB (!decide (((EC s):Int)=0)))],[(FD s)]⟩ (bA s au23)<|AF<|AL _ rfl (fun h1 => ?_) (fun h1 => ?_)
 ·have g1:=Bk h1
  exact AA<|on<|AR<|Au<|zl (by simp only [Fg,h1,cond_true,cond_false] <;> kernel_rfl)
 have g1:=Bc h1
 exact AQ<|AF<|AA<|oc [(8,(50,[.one (Km s),.one (.clo 14 0 dfc)],.val [] (tI (QX s.Edges))))] [As [.one (lst 7 AG.c s.Edges),.one (.clo 14 0 dfc)]] (.cons (cPu<|psumE s.Edges au23) .nil) (.cons rfl .nil)<|AF<|AR<|zl (by simp only [Fg,h1,cond_true,cond_false] <;> kernel_rfl)
theorem Om (s:AX) (hl:(s.Edges.length:Int)<=1000000):OKc (H3 s):=cPu<|Xf s hl
def EQ (s:AX):Nat->Int->Int->Int
 | 0,_,_=>default
 | n0+1,out,k=>bif decide ((k:Int)<(s.Edges.length:Int)) then ((EQ s n0) (W64 (out+(FO (s.Edges.getD k.toNat default)))) (k+1)) else out
def Di (s:AX):Int:=bif !decide (((EW s):Int)=0) then 0 else (EQ s (((s.Edges.length:Int)-0).toNat+1) 0 0)
def J7:CT:=(17,[.agg (AX.c s)],.val [] (.av (.one (.i (Di s)))))
theorem XY (s:AX) (hl:(s.Edges.length:Int)<=1000000):PuP 17 (J7 s).2.1 (tO (.i (Di s))):=by
 refine pwf Try.func17 fun W0 M0 => ?_
 refine AA<|on<|AA<|AA<|rs 6 (SC s) ⟨[(1,tP 1 0),(7,tB (!decide (((EW s):Int)=0)))],[(FD s)]⟩ (bB s au23)<|AF<|AL _ rfl (fun h1 => ?_) (fun h1 => ?_)
 ·have g1:=Bk h1
  exact AA<|on<|AR<|Au<|zl (by simp only [Di,h1,cond_true,cond_false] <;> kernel_rfl)
 have g1:=Bc h1
 refine AQ<|AF<|AA<|on<|AA<|AA<|rn ⟨[(1,tP 1 0),(3,tI 0),(4,tI 0)],[(FD s)]⟩<|AM<|BK (ι:=Nat×Int×Int) (fun x=>⟨[(1,tP 1 0),(3,tI x.2.1),(4,tI x.2.2)],[(FD s)]⟩) (fun x=>((s.Edges.length:Int)-x.2.2).toNat<x.1/\(0<=x.2.2/\(x.2.2<=(s.Edges.length:Int)\/x.2.2=0))/\EQ s x.1 x.2.1 x.2.2=Di s) (fun x=>x.1) ?_ (((s.Edges.length:Int)-0).toNat+1,0,0) ⟨Nat.lt_succ_self _,⟨ax0,ax0⟩,(by simp only [Di,h1,cond_true,cond_false])⟩
 rintro ⟨n0,out,k⟩ ⟨hm0,hinv0,hF0⟩
 try dsimp only at hm0 hinv0 hF0
 cases n0 with | zero=>exact nz hm0 | succ n0 => ?_
 refine AA<|AA<|rn ⟨[(1,tP 1 0),(3,tI out),(4,tI k),(12,tB (decide ((k:Int)<(s.Edges.length:Int))))],[(FD s)]⟩<|AL _ rfl (fun h2 => ?_) (fun h2 => ?_)
 ·have g2:=oT h2
  refine AQ<|AF<|AA<|AM<|oc [(21,Lq (s.Edges.getD k.toNat default))] [0<=(k:Int)/\(k:Int)<((s.Edges.length:Nat):Int),As (Lq (s.Edges.getD k.toNat default)).2.1] (.cons (Xn (s.Edges.getD k.toNat default)) .nil) (.cons au1 (.cons rfl .nil))<|A0<|AF<|rg ⟨[(1,tP 1 0),(3,tI (W64 (out+(FO (s.Edges.getD k.toNat default))))),(4,tI (W64 (k+1)))],[(FD s)]⟩ ?_
  (try rw [(show W64 (k+1)=k+1 from Ap oM au8)])
  refine AF ?_
  refine ⟨(n0,W64 (out+(FO (s.Edges.getD k.toNat default))),k+1),⟨?_,?_,(by rw [<- hF0];simp only [EQ,h2,cond_true,cond_false])⟩,Nat.lt_succ_self _,BG kr⟩
  ·show ((s.Edges.length:Int)-(k+1)).toNat<n0;omega
  exact ⟨ax0,ax0⟩
 exact BH<|A7<|A7<|BI<|AF<|AA<|on<|AR<|zl (by rw [<- hF0];simp only [EQ,h2,cond_true,cond_false] <;> kernel_rfl)
theorem VO (s:AX) (hl:(s.Edges.length:Int)<=1000000):OKc (J7 s):=cPu<|XY s hl
theorem eE {p:Prop} [Decidable p] {q:Bool} (h:(bif decide p then q else false)=true):p:=by
 by_cases hp:p
 ·exact hp
 rw [decide_eq_false hp] at h;cases h
end
section
open Go.RowKit
def L5 (t:AO) (net:ByteArray):Int:=bif !(t.Net.toList==net.toList) then 0 else (Fg t.Shape)
theorem pnet1  (t:AO) (net:ByteArray) (h0:(t.Shape.Edges.length:Int)<=1000000):HT Try.prog 63 [.agg (AO.c t),.one (.eptr 1 1 (gD [.s net]) 0 0)] (tO (.i (L5 t net))):=by
 refine pwf Try.func63 fun W0 M0 => ?_
 refine AA<|on<|AA<|AA<|rn ⟨[(2,tP 2 0),(7,tB (!(t.Net.toList==net.toList)))],[(2,.cells (AO.c t) 81)]⟩<|AL _ rfl (fun h1 => ?_) (fun h1 => ?_)
 ·exact AA<|on<|AR<|Au<|zl (by simp only [L5,h1,cond_true,cond_false] <;> kernel_rfl)
 exact AQ<|AF<|AA<|oq 10 (H3 t.Shape) (Om t.Shape au23)<|AF<|AR<|zl (by simp only [L5,h1,cond_true,cond_false] <;> kernel_rfl)
variable (lengths:List (ByteArray×Int)) (b:AC) (m:AN) (xs:List AO) (k low v10 high:Int) (net:ByteArray) (v21:Int)
def Z0m:CT:=(63,[.agg (AO.c (xs.getD v10.toNat default)),.one (.eptr 1 1 (fun _ j_=>([.s net]:List Cl).getD j_ default) 0 0)],.val [] (tI (L5 (xs.getD v10.toNat default) net)))
def F5 (xs:(List AO)) (net:ByteArray):Nat->Int->Int->Int
 | 0,_,_=>default
 | n0+1,n_,v10=>bif decide ((v10:Int)<(xs.length:Int)) then ((F5 xs net n0) (W64 (n_+(L5 (xs.getD v10.toNat default) net))) (v10+1)) else n_
def T5 (xs:(List AO)) (net:ByteArray):Int:=F5 xs net (((xs.length:Int)-0).toNat+1) 0 0
abbrev Q0:Nat×Tv:=(1,.av (.one (.clo 63 1 (D9 [.eptr 1 1 (gD [.s net]) 0 0]))))
theorem au21 {p:Prop} (h:p:=by first | (exact ht _) | (exact hb1 _) | with_reducible assumption | omega | decide | (simp only [List.length_cons,List.length_nil,List.length_append];omega) | assumption):p:=h
theorem psumT  (xs:(List AO)) (net:ByteArray) (hx:(xs.length:Int)<=1000000) (ht:(∀ i,(((xs.getD i default).Shape.Edges.length:Int)<=1000000))):HT Try.prog 62 [.one (lst 6 AO.c xs),.one (.clo 63 1 (D9 [.eptr 1 1 (gD [.s net]) 0 0]))] (tO (.i (T5 xs net))):=by
 refine pwf Try.func62 fun W0 M0 => ?_
 refine AA<|on<|AA<|on<|AA<|AA<|rn ⟨[(Q0 net),(5,tI 0),(8,tO (lst 6 AO.c xs)),(9,tI (xs.length:Int)),(10,tI 0)],[]⟩<|AM<|BK (ι:=Nat×Int×Int) (fun x=>⟨[(Q0 net),(5,tI x.2.1),(8,tO (lst 6 AO.c xs)),(9,tI (xs.length:Int)),(10,tI x.2.2)],[]⟩) (fun x=>((xs.length:Int)-x.2.2).toNat<x.1/\(0<=x.2.2/\(x.2.2<=(xs.length:Int)\/x.2.2=0))/\F5 xs net x.1 x.2.1 x.2.2=T5 xs net) (fun x=>x.1) ?_ (((xs.length:Int)-0).toNat+1,0,0) ⟨Nat.lt_succ_self _,⟨ax0,ax0⟩,(by simp only [T5,cond_true,cond_false])⟩
 rintro ⟨n0,n_,v10⟩ ⟨hm0,hinv0,hF0⟩
 try dsimp only at hm0 hinv0 hF0
 cases n0 with | zero=>exact nz hm0 | succ n0 => ?_
 refine AA<|rn ⟨[(Q0 net),(5,tI n_),(8,tO (lst 6 AO.c xs)),(9,tI (xs.length:Int)),(10,tI v10),(11,tB (decide ((v10:Int)<(xs.length:Int))))],[]⟩<|AA<|AL _ rfl (fun h1 => ?_) (fun h1 => ?_)
 ·have g1:=oT h1
  refine AQ<|AF<|AA<|AM<|AA<|oc [] [0<=(v10:Int)/\(v10:Int)<((xs.length:Nat):Int)] .nil (.cons au1 .nil)<|AF<|oq 17 (Z0m xs v10 net) (cPu<|pnet1 (xs.getD v10.toNat default) net au21)<|A0<|AF<|rg ⟨[(Q0 net),(5,tI (W64 (n_+(L5 (xs.getD v10.toNat default) net)))),(8,tO (lst 6 AO.c xs)),(9,tI (xs.length:Int)),(10,tI (W64 (v10+1)))],[]⟩ ?_
  (try rw [(show W64 (v10+1)=v10+1 from Ap oM au8)])
  refine AF ?_
  refine ⟨(n0,W64 (n_+(L5 (xs.getD v10.toNat default) net)),v10+1),⟨?_,?_,(by rw [<- hF0];simp only [F5,h1,cond_true,cond_false])⟩,Nat.lt_succ_self _,BG kr⟩
  ·show ((xs.length:Int)-(v10+1)).toNat<n0;omega
  exact ⟨ax0,ax0⟩
 exact BH<|A7<|A7<|BI<|AF<|AA<|on<|AR<|zl (by rw [<- hF0];simp only [F5,h1,cond_true,cond_false] <;> kernel_rfl)
def Z0n:Bool:=(net.toList==({ data := #[] }:ByteArray).toList)
def Bj (b:AC) (net:ByteArray):Int:=bif Z0n net then 0 else (T5 b.Tracks net)
def F1:CT:=(25,[.agg (AC.c b),.one (.s net)],.val [] (.av (.one (.i (Bj b net)))))
abbrev DQ:Nat×Blk:=(2,.cells (AC.c b) 62)
theorem fV (b:AC) (net:ByteArray) (hb0:(b.Tracks.length:Int)<=1000000) (hb1:(∀ i,(((b.Tracks.getD i default).Shape.Edges.length:Int)<=1000000))):PuP 25 (F1 b net).2.1 (tO (.i (Bj b net))):=by
 refine pwf Try.func25 fun W0 M0 => ?_
 refine AA<|on<|AA<|AA<|rn ⟨[(2,tP 2 0),(3,tP 3 0),(6,tB (Z0n net))],[(DQ b),(3,.cells [.s net] 9)]⟩<|AL _ rfl (fun h1 => ?_) (fun h1 => ?_)
 ·exact AA<|on<|AR<|Au<|zl (by simp only [Bj,h1,cond_true,cond_false] <;> kernel_rfl)
 exact AQ<|AF<|AA<|oc [(10,(62,[.one (lst 6 AO.c b.Tracks),.one (.clo 63 1 (D9 [.ptr 3 0]))],rdI [3] [.cells [.s net] 9] (tI (T5 b.Tracks net))))] [As [.one (lst 6 AO.c b.Tracks),.one (.clo 63 1 (D9 [.ptr 3 0]))],eJ [.cells [.s net] 9]] (.cons (YE (fun _ _=>kr) kr kr (fP (psumT b.Tracks net au21 au21) (.cons (AvE.refl _) (.cons (.one (.clo 63 1 _ _ (Fu kr))) .nil)))) .nil) (.cons rfl (.cons rfl .nil))<|AF<|AR<|zl (by simp only [Bj,h1,cond_true,cond_false] <;> kernel_rfl)
theorem JZ (b:AC) (net:ByteArray) (hb0:(b.Tracks.length:Int)<=1000000) (hb1:(∀ i,(((b.Tracks.getD i default).Shape.Edges.length:Int)<=1000000))):OKc (F1 b net):=cPu<|fV b net hb0 hb1
def Z0o:Bool:=((b.Tracks.getD k.toNat default).Net.toList==net.toList)
def Ex (b:AC) (net:ByteArray):Nat->Int->Int->Int
 | 0,_,_=>default
 | n0+1,out,k=>bif bif decide ((k:Int)<(b.Tracks.length:Int)) then !(net.toList==({ data := #[] }:ByteArray).toList) else false then ((Ex b net n0) (bif Z0o b k net then (W64 (out+(Di (b.Tracks.getD k.toNat default).Shape))) else out) (k+1)) else out
def Ch (b:AC) (net:ByteArray):Int:=Ex b net (((b.Tracks.length:Int)-0).toNat+1) 0 0
def FR:CT:=(26,[.agg (AC.c b),.one (.s net)],.val [] (.av (.one (.i (Ch b net)))))
theorem fR (b:AC) (net:ByteArray) (hb0:(b.Tracks.length:Int)<=1000000) (hb1:(∀ i,(((b.Tracks.getD i default).Shape.Edges.length:Int)<=1000000))):PuP 26 (FR b net).2.1 (tO (.i (Ch b net))):=by
 refine pwf Try.func26 fun W0 M0 => ?_
 refine AA<|on<|AA<|on<|AA<|AA<|rn ⟨[(1,tO (.s net)),(2,tP 2 0),(5,tI 0),(6,tI 0)],[(DQ b)]⟩<|AM<|BK (ι:=Nat×Int×Int) (fun x=>⟨[(1,tO (.s net)),(2,tP 2 0),(5,tI x.2.1),(6,tI x.2.2)],[(DQ b)]⟩) (fun x=>((b.Tracks.length:Int)-x.2.2).toNat<x.1/\(0<=x.2.2/\0<=x.2.2)/\Ex b net x.1 x.2.1 x.2.2=Ch b net) (fun x=>x.1) ?_ (((b.Tracks.length:Int)-0).toNat+1,0,0) ⟨Nat.lt_succ_self _,⟨ax0,ax0⟩,(by simp only [Ch,cond_true,cond_false])⟩
 rintro ⟨n0,out,k⟩ ⟨hm0,hinv0,hF0⟩
 try dsimp only at hm0 hinv0 hF0
 cases n0 with | zero=>exact nz hm0 | succ n0 => ?_
 refine AA<|AA<|rc [] (t2 (decide ((k:Int)<(b.Tracks.length:Int))) []) ⟨[(1,tO (.s net)),(2,tP 2 0),(5,tI out),(6,tI k),(15,tB (bif decide ((k:Int)<(b.Tracks.length:Int)) then !(net.toList==({ data := #[] }:ByteArray).toList) else false))],[(DQ b)]⟩ .nil (c2 .nil)<|AF<|AL _ rfl (fun h1 => ?_) (fun h1 => ?_)
 ·have g1:=eE h1
  refine AQ<|AF<|AA<|CR (⟨[(1,tO (.s net)),(2,tP 2 0),(5,tI (bif Z0o b k net then (W64 (out+(Di (b.Tracks.getD k.toNat default).Shape))) else out)),(6,tI k)],[(DQ b)]⟩) ?_ ?_
  ·refine AM<|AA<|rc [] [0<=(k:Int)/\(k:Int)<((b.Tracks.length:Nat):Int)] ⟨[(1,tO (.s net)),(2,tP 2 0),(5,tI out),(6,tI k),(25,tB (Z0o b k net))],[(DQ b)]⟩ .nil (.cons au1 .nil)<|AF<|AL _ rfl (fun h2 => ?_) (fun h2 => ?_)
   ·refine rc [(33,J7 (b.Tracks.getD k.toNat default).Shape)] [0<=(k:Int)/\(k:Int)<((b.Tracks.length:Nat):Int),As (J7 (b.Tracks.getD k.toNat default).Shape).2.1] ⟨[(1,tO (.s net)),(2,tP 2 0),(5,tI (W64 (out+(Di (b.Tracks.getD k.toNat default).Shape)))),(6,tI k)],[(DQ b)]⟩ (.cons (VO (b.Tracks.getD k.toNat default).Shape au21) .nil) (.cons au1 (.cons rfl .nil))<|A0<|AF<|BG ?_
    first | rfl | (simp only [h2,cond_true,cond_false] <;> rfl)
   refine AQ<|A0<|AF<|Cv.trans (ck (⟨[(1,tO (.s net)),(2,tP 2 0),(5,tI out),(6,tI k)],[(DQ b)]⟩)) (BG ?_)
   first | rfl | (simp only [h2,cond_true,cond_false] <;> rfl)
  refine rg ⟨[(1,tO (.s net)),(2,tP 2 0),(5,tI (bif Z0o b k net then (W64 (out+(Di (b.Tracks.getD k.toNat default).Shape))) else out)),(6,tI (W64 (k+1)))],[(DQ b)]⟩ ?_
  (try rw [(show W64 (k+1)=k+1 from Ap oM oM)])
  refine AF ?_
  refine ⟨(n0,bif Z0o b k net then (W64 (out+(Di (b.Tracks.getD k.toNat default).Shape))) else out,k+1),⟨?_,?_,(by rw [<- hF0];simp only [Ex,h1,cond_true,cond_false])⟩,Nat.lt_succ_self _,BG kr⟩
  ·show ((b.Tracks.length:Int)-(k+1)).toNat<n0;omega
  exact ⟨ax0,ax0⟩
 exact BH<|A7<|A7<|BI<|AF<|AA<|on<|AR<|zl (by rw [<- hF0];simp only [Ex,h1,cond_true,cond_false] <;> kernel_rfl)
theorem JY (b:AC) (net:ByteArray) (hb0:(b.Tracks.length:Int)<=1000000) (hb1:(∀ i,(((b.Tracks.getD i default).Shape.Edges.length:Int)<=1000000))):OKc (FR b net):=cPu<|fR b net hb0 hb1
def Z0p:Bool:=El eqS lengths (m.Nets.getD v21.toNat default)
def Dg (b:AC) (m:AN):Nat->List (ByteArray×Int)->Int->Int->Int->(Int×Bool)
 | 0,_,_,_,_=>default
 | n0+1,lengths,low,high,v21=>bif decide ((v21:Int)<(m.Nets.length:Int)) then ((Dg b m n0) (bif !(Z0p lengths m v21) then (K6 eqS lengths (m.Nets.getD v21.toNat default) (Bj b (m.Nets.getD v21.toNat default))) else lengths) (min low (bif !(Z0p lengths m v21) then (Bj b (m.Nets.getD v21.toNat default)) else (bif El eqS lengths (m.Nets.getD v21.toNat default) then (lengths.getD (Dm eqS lengths (m.Nets.getD v21.toNat default)) default).2 else 0))) (max high (bif !(Z0p lengths m v21) then (Bj b (m.Nets.getD v21.toNat default)) else (bif El eqS lengths (m.Nets.getD v21.toNat default) then (lengths.getD (Dm eqS lengths (m.Nets.getD v21.toNat default)) default).2 else 0))) (v21+1)) else (W64 (high-low),true)
def Ac (b:AC) (m:AN):(Int×Bool):=bif decide (((m.Nets.length:Int):Int)=0) then (0,false) else (Dg b m (((m.Nets.length:Int)-0).toNat+1) ([]:List (ByteArray×Int)) 9223372036854775807 (-9223372036854775808) 0)
def DV:CT:=(27,[.agg (AC.c b),.agg (AN.c m)],.val [] (.tup [.one (.i (Ac b m).1),.one (.b (Ac b m).2)]))
abbrev Du:=m.Nets.getD v21.toNat default
abbrev Pc:Nat×Tv:=(6,.av (.one (.om 17)))
abbrev I2:Nat×Tv:=(20,tI (m.Nets.length:Int))
abbrev RF:=bif El eqS lengths (Du m v21) then (lengths.getD (Dm eqS lengths (Du m v21)) default).2 else 0
abbrev IR (lengths:List (ByteArray×Int)) (m:AN) (v21:Int) (b:AC):=K6 eqS lengths (Du m v21) (Bj b (Du m v21))
abbrev JK:Nat×Blk:=(3,.cells (AN.c m) 78)
abbrev ID (t_:List (Nat×Tv)):List (Nat×Tv):=(2,tP 2 0)::Pc::(7,tI low)::(8,tI high)::t_
theorem lr {p:Prop} (h:p:=by repeat (first | exact .nil | refine .cons ⟨rfl,.refl _⟩ ?_)):p:=h
theorem VD (b:AC) (m:AN) (hb0:(b.Tracks.length:Int)<=1000000) (hb1:(∀ i,(((b.Tracks.getD i default).Shape.Edges.length:Int)<=1000000))) (hm:(m.Nets.length:Int)<=1000000):PuP 27 (DV b m).2.1 (.tup [.one (.i (Ac b m).1),.one (.b (Ac b m).2)]):=by
 refine pwf Try.func27 fun W0 M0 => ?_
 refine AA<|on<|AA<|AA<|rn ⟨[(2,tP 2 0),(3,tP 3 0),(16,tB (decide (((m.Nets.length:Int):Int)=0)))],[(DQ b),(JK m)]⟩<|AL _ rfl (fun h1 => ?_) (fun h1 => ?_)
 ·exact AA<|on<|AR<|Au<|zl (by simp only [Ac,h1,cond_true,cond_false] <;> kernel_rfl)
 have g1:=oF h1
 refine AQ<|AF<|AA<|rn ⟨[(2,tP 2 0),(3,tP 3 0),Pc],[(DQ b),(JK m),(17,.omap false 1 0 (fun _=>undef) (fun _ _=>default))]⟩<|Al (C1 (⟨[(2,tP 2 0),(3,tP 3 0),Pc],[(DQ b),(JK m),(17,.omap false 1 ([]:List (ByteArray×Int)).length (kfG Value.string ([]:List (ByteArray×Int))) (vfG eIn ([]:List (ByteArray×Int))))]⟩) lr (.cons ⟨rfl,.refl _⟩ (.cons ⟨rfl,.refl _⟩ (.cons ⟨rfl,dW (ck:=Value.string) (cv:=eIn)⟩ .nil))))<|AA<|on<|AA<|AA<|rn ⟨[(2,tP 2 0),Pc,(7,tI 9223372036854775807),(8,tI (-9223372036854775808)),(19,tO (lst 1 (fun x=>[.s x]) m.Nets)),(I2 m),(21,tI 0)],[(DQ b),(17,.omap false 1 ([]:List (ByteArray×Int)).length (kfG Value.string ([]:List (ByteArray×Int))) (vfG eIn ([]:List (ByteArray×Int))))]⟩<|AM ?_
 refine BK (ι:=Nat×List (ByteArray×Int)×Int×Int×Int) (fun x=>⟨[(2,tP 2 0),Pc,(7,tI x.2.2.1),(8,tI x.2.2.2.1),(19,tO (lst 1 (fun x=>[.s x]) m.Nets)),(I2 m),(21,tI x.2.2.2.2)],[(DQ b),(17,.omap false 1 x.2.1.length (kfG Value.string x.2.1) (vfG eIn x.2.1))]⟩) (fun x=>((m.Nets.length:Int)-x.2.2.2.2).toNat<x.1/\(0<=x.2.2.2.2/\(x.2.2.2.2<=(m.Nets.length:Int)\/x.2.2.2.2=0))/\Dg b m x.1 x.2.1 x.2.2.1 x.2.2.2.1 x.2.2.2.2=Ac b m) (fun x=>x.1) ?_ (((m.Nets.length:Int)-0).toNat+1,([]:List (ByteArray×Int)),9223372036854775807,(-9223372036854775808),0) ⟨Nat.lt_succ_self _,⟨ax0,ax0⟩,(by simp only [Ac,h1,cond_true,cond_false])⟩
 rintro ⟨n0,lengths,low,high,v21⟩ ⟨hm0,hinv0,hF0⟩
 try dsimp only at hm0 hinv0 hF0
 cases n0 with | zero=>exact nz hm0 | succ n0 => ?_
 refine AA<|rn ⟨(ID low high [(19,tO (lst 1 (fun x=>[.s x]) m.Nets)),(I2 m),(21,tI v21),(22,tB (decide ((v21:Int)<(m.Nets.length:Int))))]),[(DQ b),(17,.omap false 1 lengths.length (kfG Value.string lengths) (vfG eIn lengths))]⟩<|AA<|AL _ rfl (fun h2 => ?_) (fun h2 => ?_)
 ·have g2:=oT h2
  refine AQ<|AF<|AA<|AM<|AA<|rc [] [0<=(v21:Int)/\(v21:Int)<((m.Nets.length:Nat):Int)] ⟨(ID low high [(10,tO (.s (Du m v21))),(19,tO (lst 1 (fun x=>[.s x]) m.Nets)),(I2 m),(21,tI v21)]),[(DQ b),(17,.omap false 1 lengths.length (kfG Value.string lengths) (vfG eIn lengths))]⟩ .nil (.cons au1 .nil)<|AF<|AA<|CN DU [] [(28,((El eqS lengths (Du m v21)),(Dm eqS lengths (Du m v21))))] [] [2,6,7,8,10,11,12,19,20,21] [2,17] [T4 Try.prog eqE 9 lengths.length (kfG Value.string lengths) (Value.string (m.Nets.getD v21.toNat default)) (El eqS lengths (m.Nets.getD v21.toNat default)) (Dm eqS lengths (m.Nets.getD v21.toNat default))] ⟨(ID low high [(10,tO (.s (Du m v21))),(11,tI (RF lengths m v21)),(12,tB (Z0p lengths m v21)),(19,tO (lst 1 (fun x=>[.s x]) m.Nets)),(I2 m),(21,tI v21)]),[(DQ b),(17,.omap false 1 lengths.length (kfG Value.string lengths) (vfG eIn lengths))]⟩ .nil kr (.cons (TQ Vg (Wy Try.underlying9) _ _) .nil)<|AF<|AA<|AA ?_
  refine rn ⟨(ID low high [(10,tO (.s (Du m v21))),(11,tI (RF lengths m v21)),(19,tO (lst 1 (fun x=>[.s x]) m.Nets)),(I2 m),(21,tI v21),(32,tB (!(Z0p lengths m v21)))]),[(DQ b),(17,.omap false 1 lengths.length (kfG Value.string lengths) (vfG eIn lengths))]⟩<|CR (⟨(ID low high [(11,tI (bif !(Z0p lengths m v21) then (Bj b (Du m v21)) else (bif El eqS lengths (Du m v21) then (lengths.getD (Dm eqS lengths (Du m v21)) default).2 else 0))),(19,tO (lst 1 (fun x=>[.s x]) m.Nets)),(I2 m),(21,tI v21)]),[(DQ b),(17,.omap false 1 (bif !(Z0p lengths m v21) then (IR lengths m v21 b) else lengths).length (kfG Value.string (bif !(Z0p lengths m v21) then (IR lengths m v21 b) else lengths)) (vfG eIn (bif !(Z0p lengths m v21) then (IR lengths m v21 b) else lengths)))]⟩) ?_ ?_
  ·refine AL _ rfl (fun h3 => ?_) (fun h3 => ?_)
   ·refine AA<|rs 35 (F1 b (m.Nets.getD v21.toNat default)) ⟨(ID low high [(10,tO (.s (Du m v21))),(11,tI (Bj b (Du m v21))),(19,tO (lst 1 (fun x=>[.s x]) m.Nets)),(I2 m),(21,tI v21)]),[(DQ b),(17,.omap false 1 lengths.length (kfG Value.string lengths) (vfG eIn lengths))]⟩ (JZ b (m.Nets.getD v21.toNat default) au21 au21)<|AF ?_
    refine CN DU [] [(999999,((El eqS lengths (Du m v21)),(Dm eqS lengths (Du m v21))))] [] [2,6,7,8,11,19,20,21] [2,17] [T4 Try.prog eqE 9 lengths.length (kfG Value.string lengths) (Value.string (m.Nets.getD v21.toNat default)) (El eqS lengths (m.Nets.getD v21.toNat default)) (Dm eqS lengths (m.Nets.getD v21.toNat default))] ⟨(ID low high [(11,tI (Bj b (Du m v21))),(19,tO (lst 1 (fun x=>[.s x]) m.Nets)),(I2 m),(21,tI v21)]),[(DQ b),(17,.omap false 1 (bif El eqS lengths (Du m v21) then lengths.length else lengths.length+1) (fun j=>bif Nat.beq j (bif El eqS lengths (Du m v21) then Dm eqS lengths (Du m v21) else lengths.length) then Value.string (Du m v21) else kfG Value.string lengths j) (fun j c=>bif Nat.beq j (bif El eqS lengths (Du m v21) then Dm eqS lengths (Du m v21) else lengths.length) then ([.i (Bj b (Du m v21))]:List Cl).getD c default else vfG eIn lengths j c))]⟩ .nil kr (.cons (TQ Vg (Wy Try.underlying9) _ _) .nil)<|AF ?_
    refine Cv.trans (C1 (⟨(ID low high [(11,tI (Bj b (Du m v21))),(19,tO (lst 1 (fun x=>[.s x]) m.Nets)),(I2 m),(21,tI v21)]),[(DQ b),(17,.omap false 1 (IR lengths m v21 b).length (kfG Value.string (IR lengths m v21 b)) (vfG eIn (IR lengths m v21 b)))]⟩) lr (.cons ⟨rfl,.refl _⟩ (.cons ⟨rfl,dV (ck:=Value.string) (cv:=eIn) (eq:=eqS) lengths (m.Nets.getD v21.toNat default) (Bj b (m.Nets.getD v21.toNat default)) [.i (Bj b (m.Nets.getD v21.toNat default))] rfl⟩ .nil))) (BG ?_)
    first | rfl | (simp only [h3,cond_true,cond_false] <;> rfl)
   refine AQ<|AF<|Cv.trans (ck (⟨(ID low high [(11,tI (bif El eqS lengths (Du m v21) then (lengths.getD (Dm eqS lengths (Du m v21)) default).2 else 0)),(19,tO (lst 1 (fun x=>[.s x]) m.Nets)),(I2 m),(21,tI v21)]),[(DQ b),(17,.omap false 1 lengths.length (kfG Value.string lengths) (vfG eIn lengths))]⟩)) (BG ?_)
   first | rfl | (simp only [h3,cond_true,cond_false] <;> rfl)
  refine og<|A0<|AF<|rg ⟨[(2,tP 2 0),Pc,(7,tI (min low (bif !(Z0p lengths m v21) then (Bj b (Du m v21)) else (RF lengths m v21)))),(8,tI (max high (bif !(Z0p lengths m v21) then (Bj b (Du m v21)) else (RF lengths m v21)))),(19,tO (lst 1 (fun x=>[.s x]) m.Nets)),(I2 m),(21,tI (W64 (v21+1)))],[(DQ b),(17,.omap false 1 (bif !(Z0p lengths m v21) then (IR lengths m v21 b) else lengths).length (kfG Value.string (bif !(Z0p lengths m v21) then (IR lengths m v21 b) else lengths)) (vfG eIn (bif !(Z0p lengths m v21) then (IR lengths m v21 b) else lengths)))]⟩ ?_
  (try rw [(show W64 (v21+1)=v21+1 from Ap oM au8)])
  refine AF ?_
  refine ⟨(n0,bif !(Z0p lengths m v21) then (K6 eqS lengths (m.Nets.getD v21.toNat default) (Bj b (m.Nets.getD v21.toNat default))) else lengths,min low (bif !(Z0p lengths m v21) then (Bj b (m.Nets.getD v21.toNat default)) else (bif El eqS lengths (m.Nets.getD v21.toNat default) then (lengths.getD (Dm eqS lengths (m.Nets.getD v21.toNat default)) default).2 else 0)),max high (bif !(Z0p lengths m v21) then (Bj b (m.Nets.getD v21.toNat default)) else (bif El eqS lengths (m.Nets.getD v21.toNat default) then (lengths.getD (Dm eqS lengths (m.Nets.getD v21.toNat default)) default).2 else 0)),v21+1),⟨?_,?_,(by rw [<- hF0];simp only [Dg,h2,cond_true,cond_false])⟩,Nat.lt_succ_self _,BG kr⟩
  ·show ((m.Nets.length:Int)-(v21+1)).toNat<n0;omega
  exact ⟨ax0,ax0⟩
 exact BH<|A7<|A7<|BI<|AF<|AA<|on<|AR<|zl (by rw [<- hF0];simp only [Dg,h2,cond_true,cond_false] <;> kernel_rfl)
theorem De (b:AC) (m:AN) (hb0:(b.Tracks.length:Int)<=1000000) (hb1:(∀ i,(((b.Tracks.getD i default).Shape.Edges.length:Int)<=1000000))) (hm:(m.Nets.length:Int)<=1000000):OKc (DV b m):=cPu<|VD b m hb0 hb1 hm
def D5 (b:AC) (m:AN):Nat->Int->Int->Int->(Int×Bool)
 | 0,_,_,_=>default
 | n0+1,low,high,k=>bif decide ((k:Int)<(m.Nets.length:Int)) then ((D5 b m n0) (min low (Ch b (m.Nets.getD k.toNat default))) (max high (Ch b (m.Nets.getD k.toNat default))) (k+1)) else (W64 (high-low),true)
def Aj (b:AC) (m:AN):(Int×Bool):=bif decide (((m.Nets.length:Int):Int)=0) then (0,false) else (D5 b m (((m.Nets.length:Int)-1).toNat+1) (Ch b (m.Nets.getD 0 default)) (Ch b (m.Nets.getD 0 default)) 1)
def Dn:CT:=(28,[.agg (AC.c b),.agg (AN.c m)],.val [] (.tup [.one (.i (Aj b m).1),.one (.b (Aj b m).2)]))
theorem U5 (b:AC) (m:AN) (hb0:(b.Tracks.length:Int)<=1000000) (hb1:(∀ i,(((b.Tracks.getD i default).Shape.Edges.length:Int)<=1000000))) (hm:(m.Nets.length:Int)<=1000000):PuP 28 (Dn b m).2.1 (.tup [.one (.i (Aj b m).1),.one (.b (Aj b m).2)]):=by
 refine pwf Try.func28 fun W0 M0 => ?_
 refine AA<|on<|AA<|AA<|rn ⟨[(2,tP 2 0),(3,tP 3 0),(13,tB (decide (((m.Nets.length:Int):Int)=0)))],[(DQ b),(JK m)]⟩<|AL _ rfl (fun h1 => ?_) (fun h1 => ?_)
 ·exact AA<|on<|AR<|Au<|zl (by simp only [Aj,h1,cond_true,cond_false] <;> kernel_rfl)
 have g1:=oF h1
 refine AQ<|AF<|AA<|od [] [(19,FR b (m.Nets.getD 0 default))] [0<=(0:Int)/\(0:Int)<((m.Nets.length:Nat):Int),As (FR b (m.Nets.getD 0 default)).2.1] (.cons (JY b (m.Nets.getD 0 default) au21 au21) .nil) (.cons au1 (.cons rfl .nil))<|AF<|AA<|on<|AA<|AA<|rn ⟨[(2,tP 2 0),(3,tP 3 0),(6,tI (Ch b (m.Nets.getD 0 default))),(7,tI (Ch b (m.Nets.getD 0 default))),(8,tI 1)],[(DQ b),(JK m)]⟩<|AM<|BK (ι:=Nat×Int×Int×Int) (fun x=>⟨[(2,tP 2 0),(3,tP 3 0),(6,tI x.2.1),(7,tI x.2.2.1),(8,tI x.2.2.2)],[(DQ b),(JK m)]⟩) (fun x=>((m.Nets.length:Int)-x.2.2.2).toNat<x.1/\(1<=x.2.2.2/\(x.2.2.2<=(m.Nets.length:Int)\/x.2.2.2=1))/\D5 b m x.1 x.2.1 x.2.2.1 x.2.2.2=Aj b m) (fun x=>x.1) ?_ (((m.Nets.length:Int)-1).toNat+1,Ch b (m.Nets.getD 0 default),Ch b (m.Nets.getD 0 default),1) ⟨Nat.lt_succ_self _,⟨ax0,ax0⟩,(by simp only [Aj,h1,cond_true,cond_false])⟩
 rintro ⟨n0,low,high,k⟩ ⟨hm0,hinv0,hF0⟩
 try dsimp only at hm0 hinv0 hF0
 cases n0 with | zero=>exact nz hm0 | succ n0 => ?_
 refine AA<|AA<|rn ⟨[(2,tP 2 0),(3,tP 3 0),(6,tI low),(7,tI high),(8,tI k),(25,tB (decide ((k:Int)<(m.Nets.length:Int))))],[(DQ b),(JK m)]⟩<|AL _ rfl (fun h2 => ?_) (fun h2 => ?_)
 ·have g2:=oT h2
  refine AQ<|AF<|AA<|AM<|AA<|od [] [(34,FR b (m.Nets.getD k.toNat default))] [0<=(k:Int)/\(k:Int)<((m.Nets.length:Nat):Int),As (FR b (m.Nets.getD k.toNat default)).2.1] (.cons (JY b (m.Nets.getD k.toNat default) au21 au21) .nil) (.cons au1 (.cons rfl .nil))<|AF<|AA<|on<|og<|A0<|AF<|rg ⟨[(2,tP 2 0),(3,tP 3 0),(6,tI (min low (Ch b (m.Nets.getD k.toNat default)))),(7,tI (max high (Ch b (m.Nets.getD k.toNat default)))),(8,tI (W64 (k+1)))],[(DQ b),(JK m)]⟩ ?_
  (try rw [(show W64 (k+1)=k+1 from Ap oM au8)])
  refine AF ?_
  refine ⟨(n0,min low (Ch b (m.Nets.getD k.toNat default)),max high (Ch b (m.Nets.getD k.toNat default)),k+1),⟨?_,?_,(by rw [<- hF0];simp only [D5,h2,cond_true,cond_false])⟩,Nat.lt_succ_self _,BG kr⟩
  ·show ((m.Nets.length:Int)-(k+1)).toNat<n0;omega
  exact ⟨ax0,ax0⟩
 exact BH<|A7<|A7<|BI<|AF<|AA<|on<|AR<|zl (by rw [<- hF0];simp only [D5,h2,cond_true,cond_false] <;> kernel_rfl)
theorem Dw (b:AC) (m:AN) (hb0:(b.Tracks.length:Int)<=1000000) (hb1:(∀ i,(((b.Tracks.getD i default).Shape.Edges.length:Int)<=1000000))) (hm:(m.Nets.length:Int)<=1000000):OKc (Dn b m):=cPu<|U5 b m hb0 hb1 hm
end
end Go.Proofs.Ytgmhnkoifdpemaa
