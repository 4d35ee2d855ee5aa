/-
  No statement is proved in this text. It holds a part of what the proof of ItemsOwn needs.
-/
import Derived.Test.YtheobjkgllmnmaaGreatItemsOwnQb
namespace Go.Proofs.YtheobjkgllmnmaaGreat
set_option maxRecDepth 100000
set_option linter.unusedVariables false
set_option linter.unusedSimpArgs false
open Go.RowKit
section
open Go.RowKit
abbrev IQ:=Exit->AS->(World->Prop)->Bool->Prop
def IOk (Ow:World->Nat->Prop) (n0:Nat) (al:Bool) (M:Nat->Option Obj) (W0:World):Prop:=al=true->n0<=W0.heap.size/\(∀ b,Ow W0 b->b<W0.heap.size)/\∀ b o,M b=some o->¬ Ow W0 b
def IWp (P:Program) (N:Nat) (Ow:World->Nat->Prop) (n0:Nat) (c:Code) (Q:IQ) (s:AS) (J:World->Prop) (al:Bool):Prop :=
 ∀ W0 M σ a w,(J W0/\a.defers=[]/\IOk Ow n0 al M W0)->Sim N W0 noX M M σ (get s.t) (get s.h) a w->c.wpIn (FW none) 0 P (fun e a' w'=>∃ s' J' al' W0' M' σ',Q e s' J' al'/\(J' W0'/\a'.defers=[]/\IOk Ow n0 al' M' W0')/\Sim N W0' noX M' M' σ' (get s'.t) (get s'.h) a' w') a w
def ITh (K:AS->(World->Prop)->Bool->Prop) (Q:IQ):IQ
 | .normal,s,J,M=>K s J M
 | e,s,J,M=>Q e s J M
def IBl (id:Nat) (Q:IQ):IQ
 | .exit id',s,J,M=>if id'=id then Q .normal s J M else Q (.exit id') s J M
 | e,s,J,M=>Q e s J M
theorem bV {d:Nat} {v:Tv} (h:v.dv=true):v.no d=true:=by
 cases v with
 | av x=>exact Jn h
 | tup l =>
  simp only [Tv.dv,Tv.no,List.all_eq_true] at *
  exact fun x hx=>Jn (h x hx)
 | grd g x=>cases h
section
variable {P:Program} {N:Nat} {Ow:World→Nat→Prop} {n0:Nat} {Q:IQ} {s:AS} {J:World→Prop} {al:Bool} {Mc:Nat→Option Obj}
def NF (N b:Nat) (m:Nat):Option Loc:=bif Nat.beq m N then some ⟨b,424242,true⟩ else none
theorem PF {b m:Nat} {x:Loc} (hx:NF N b m=some x):m=N/\x=⟨b,424242,true⟩:=by
 unfold NF at hx
 cases hb:Nat.beq m N with
 | true=>rw [hb] at hx;injection hx with hx;exact ⟨Nat.eq_of_beq_eq_true hb,hx.symm⟩
 | false=>rw [hb] at hx;cases hx
theorem Ua {b b':Nat} (h:inX (NF N b) b'):b'=b:=by
 obtain ⟨m,x,h1,h2⟩:=h
 rw [(PF h1).2] at h2
 exact h2.symm
theorem WY {b:Nat}:nF (NF N b):=⟨N,⟨b,424242,true⟩,by unfold NF;rw [Nat.beq_refl];rfl,rfl,rfl⟩
theorem LN {W0 w:World} {M:Nat->Option Obj} {σ:Nat->Loc} {a:Act} (hdv:∀ i v,get s.t i=some v->v.dv=true) (hh:s.h=[]) (hd:a.defers=[]) (hs:Sim N W0 noX Mc M σ (get s.t) (get s.h) a w) :
  Sim N W0 (NF N W0.heap.size) Mc M (upd σ N ⟨W0.heap.size,424242,true⟩) (get s.t) (get s.h) a w:=by
 refine ⟨hs.os,hs.tape,hs.output,hs.size,fun b hb _=>hs.old b hb (Ez b),hs.sub,hs.new,fun m x hx => ?_,⟨by rw [hd];trivial,fun _=>hd⟩,hs.room,fun i v hv=>D6 (fun _ _ h=>h) (fun d hd => ?_) (hs.tmps i v hv),hs.imm,fun n b hb => ?_,fun n b hb => ?_,fun n m b c hb => ?_⟩
 ·obtain ⟨rfl,rfl⟩:=PF hx
  exact ⟨Nat.le_refl _,by unfold upd;rw [Nat.beq_refl];rfl⟩
 ·rw [bV (hdv i v hv)] at hd;cases hd
 all_goals rw [hh] at hb;cases hb
theorem IZ {W0 w:World} {M:Nat->Option Obj} {σ:Nat->Loc} {a:Act} {T:Nat->Option Tv} {H:Nat->Option Blk} (h2:Sim N W0 (NF N W0.heap.size) Mc M σ T H a w):a.defers=[]/\Sim N W0 noX M M σ T H a w:=by
 have hd:=h2.defers.2 WY
 refine ⟨hd,h2.os,h2.tape,h2.output,h2.size,fun b hb _=>h2.old b hb fun h => ?_,fun _ _ h=>h,fun b o h h'=>(by rw [h] at h';cases h'),fun m x hx=>(by cases hx),⟨by rw [hd];trivial,fun _=>hd⟩,h2.room,h2.tmps,h2.imm,h2.blk,fun n b hb=>(h2.loc n b hb).imp id fun h=>⟨h.1,?_⟩,h2.inj⟩
 ·have:=Ua h;omega
 rcases h.2 with h | h
 ·exact .inl h
 exact .inl (Nat.le_of_eq (Ua h).symm)
theorem J6 {W0 w:World} {M M':Nat->Option Obj} {X:Nat->Option Loc} {σ:Nat->Loc} {T:Nat->Option Tv} {H:Nat->Option Blk} {a:Act} (h:IOk Ow n0 al M W0) (hO:OwS Ow n0) (hs:Sim N W0 X M M' σ T H a w):IOk Ow n0 al M' W0:=fun ha=>by
 obtain ⟨h1,h3,h2⟩:=h ha
 refine ⟨h1,h3,fun b o hb ho => ?_⟩
 cases hM:M b with
 | some o'=>exact h2 b o' hM ho
 | none=>have:=hs.new b o hb hM;have:=h3 b ho;omega
theorem DL (hO:OwS Ow n0) {c:Code} (hdv:∀ i v,get s.t i=some v->v.dv=true) (hh:s.h=[]) (h:∀ W0 X1 M1,AWp P none N W0 X1 M1 c (fun e s'=>Q e s' J al) s):IWp P N Ow n0 c Q s J al:=by
 intro W0 M σ a w hJ hs
 refine wpIn_mono (h W0 _ M M _ a w (LN hdv hh hJ.2.1 hs)) ?_
 rintro e a' w' ⟨s',M',σ',h1,h2⟩
 obtain ⟨hd,h3⟩:=IZ h2
 exact ⟨s',J,al,W0,M',σ',h1,⟨hJ.1,hd,J6 hJ.2.2 hO h2⟩,h3⟩
theorem DF {x y:Code} (h:IWp P N Ow n0 x (ITh (fun s' J' M'=>IWp P N Ow n0 y Q s' J' M') Q) s J al):IWp P N Ow n0 (.seq x y) Q s J al:=by
 intro W0 M σ a w hJ hs
 refine wpIn_seq (wpIn_mono (h W0 M σ a w hJ hs) ?_)
 rintro e a' w' ⟨s',J',al',W0',M',σ',h1,h2,h3⟩
 cases e with
 | normal=>exact h1 W0' M' σ' a' w' h2 h3
 | _=>exact ⟨s',J',al',W0',M',σ',h1,h2,h3⟩
theorem GN {id:Nat} {c:Code} (h:IWp P N Ow n0 c (IBl id Q) s J al):IWp P N Ow n0 (.block id c) Q s J al:=by
 intro W0 M σ a w hJ hs
 refine wpIn_block (wpIn_mono (h W0 M σ a w hJ hs) ?_)
 rintro e a' w' ⟨s',J',al',W0',M',σ',h1,h2,h3⟩
 cases e with
 | exit id' =>
  simp only [IBl] at h1
  simp only [Exit.inBlock]
  split
  ·rename_i he;rw [if_pos he] at h1;exact ⟨s',J',al',W0',M',σ',h1,h2,h3⟩
  rename_i he;rw [if_neg he] at h1;exact ⟨s',J',al',W0',M',σ',h1,h2,h3⟩
 | _=>exact ⟨s',J',al',W0',M',σ',h1,h2,h3⟩
theorem GD {c:Operand} {x y:Code} (b:Bool) (hc:evT (get s.t) c=some (.av (.one (.val (.bool b))))) (h1:b=true->IWp P N Ow n0 x Q s J al) (h2:b=false->IWp P N Ow n0 y Q s J al):IWp P N Ow n0 (.cond c x y) Q s J al:=by
 intro W0 M σ a w hJ hs
 have hv:a.eval c=.bool b:=(Ge hs.tmps hc).1
 exact wpIn_cond_split hv (fun hb=>h1 hb W0 M σ a w hJ hs) (fun hb=>h2 hb W0 M σ a w hJ hs)
theorem Hb (h:Q .normal s J al):IWp P N Ow n0 .skip Q s J al:=fun W0 M σ a w hJ hs=>wpIn_skip ⟨s,J,al,W0,M,σ,h,hJ,hs⟩
theorem fK (h:Q .ret s J al):IWp P N Ow n0 .ret Q s J al:=fun W0 M σ a w hJ hs=>wpIn_ret ⟨s,J,al,W0,M,σ,h,hJ,hs⟩
theorem Nl {id:Nat} (h:Q (.exit id) s J al):IWp P N Ow n0 (.exit id) Q s J al:=fun W0 M σ a w hJ hs=>wpIn_exit ⟨s,J,al,W0,M,σ,h,hJ,hs⟩
theorem Nk {ι:Type} {c:Code} (S:ι->AS) (Jf:ι->World->Prop) (Inv:ι->Prop) (μ:ι->Nat) (round:∀ x,Inv x->IWp P N Ow n0 c (ITh (fun s' J' al'=>∃ y,Inv y/\μ y<μ x/\s'=S y/\J'=Jf y/\al'=al) Q) (S x) (Jf x) al) (x:ι) (hx:Inv x):IWp P N Ow n0 (.loop c) Q (S x) (Jf x) al:=by
 have key:∀ n x,μ x<n->Inv x->∀ W0 M σ a w,(Jf x W0/\a.defers=[]/\IOk Ow n0 al M W0)->Sim N W0 noX M M σ (get (S x).t) (get (S x).h) a w->Code.roundsIn (FW none) 0 P c (fun e a' w'=>∃ s' J' al' W0' M' σ',Q e s' J' al'/\(J' W0'/\a'.defers=[]/\IOk Ow n0 al' M' W0')/\Sim N W0' noX M' M' σ' (get s'.t) (get s'.h) a' w') n a w:=by
  intro n
  induction n with
  | zero=>intro x h;omega
  | succ n ih =>
   intro x hlt hx W0 M σ a w hJ hs
   rw [roundsIn_succ]
   refine wpIn_mono (round x hx W0 M σ a w hJ hs) ?_
   rintro e a' w' ⟨s',J',al',W0',M',σ',h1,h2,h3⟩
   cases e with
   | normal =>
    obtain ⟨y,hy,hm,rfl,rfl,rfl⟩:=h1
    exact ih y (by omega) hy W0' M' σ' a' w' h2 h3
   | _=>exact ⟨s',J',al',W0',M',σ',h1,h2,h3⟩
 intro W0 M σ a w hJ hs
 exact wpIn_loop_rounds (μ x+1) (key (μ x+1) x (Nat.lt_succ_self _) hx W0 M σ a w hJ hs)
end
def Cl.isV:Cl->Bool
 | .val _=>true
 | _=>false
def Cl.toV:Cl->Value
 | .val v=>v
 | _=>undef
def Av.isV:Av->Bool
 | .one c=>c.isV
 | .agg l=>l.all Cl.isV
def Av.toV:Av->Value
 | .one c=>c.toV
 | .agg l=>.agg (l.map Cl.toV).toArray
theorem jE {M:Nat->Option Obj} {σ:Nat->Loc}:∀ {l:List Cl} {vs:List Value},L2 (R M σ) l vs->l.all Cl.isV=true->vs=l.map Cl.toV
 | [],_,h,_=>by cases h;rfl
 | c::l,_,h,hv=>by
  cases h with
  | cons h1 h2 =>
   simp only [List.all_cons,Bool.and_eq_true] at hv
   rw [jE h2 hv.2]
   cases c with
   | val v=>rw [h1.1];rfl
   | _=>cases hv.1
theorem sJ {M:Nat->Option Obj} {σ:Nat->Loc} {x:Av} {V:Value} (h:RA M σ x V) (hv:x.isV=true):V=x.toV:=by
 cases x with
 | one c =>
  cases c with
  | val v=>exact h.1
  | _=>cases hv
 | agg l =>
  obtain ⟨vs,rfl,h2⟩:=h
  rw [jE h2 hv];rfl
theorem pJ {M:Nat->Option Obj} {σ:Nat->Loc} {x:Av} (hv:x.isV=true) (ho:∀ c∈x.cells,c.toV.oneCell'=true):RA M σ x x.toV:=by
 cases x with
 | one c =>
  cases c with
  | val v=>exact ⟨rfl,ho (.val v) (by simp [Av.cells])⟩
  | _=>cases hv
 | agg l =>
  refine ⟨_,rfl,?_⟩
  simp only [Av.isV] at hv
  simp only [Av.cells] at ho
  induction l with
  | nil=>exact .nil
  | cons c l ih =>
   simp only [List.all_cons,Bool.and_eq_true] at hv
   refine .cons ?_ (ih hv.2 fun c hc=>ho c (List.mem_cons_of_mem _ hc))
   cases c with
   | val v=>exact ⟨rfl,ho (.val v) (List.mem_cons_self ..)⟩
   | _=>cases hv.1
section
variable {P:Program} {V:Env P} {N:Nat} {W0:World} {X:Nat→Option Loc} {M0 M:Nat→Option Obj} {σ:Nat→Loc} {w:World} {a:Act}
theorem bQ {o:Oper} {c:Call} {f:Operand} {ly:Nat} {xs:List Av} {T:Nat->Option Tv} (hT:∀ i v,T i=some v->RT M σ v (a.tmps.getD i undef)) (ho:o.op=.call c) (hcf:c.callee=.value f) (hf:evT T f=some (.av (.one (.val (.func (.yield ly) #[] #[]))))) (hxs:EU (evT T) c.args.toList=some xs) (hv:xs.all Av.isV=true)
  {R:Ending->World->Prop} (hY:YieldAt (FW none) 0 P ly (xs.map Av.toV).toArray w R) {K:Act->World->Prop} {Q:Exit->Act->World->Prop} (hK:∀ e w',R e w'->∃ V,e=.returned V/\K (a.put o.dst V) w'):o.wpIn (FW none) 0 P a w K Q:=by
 obtain ⟨fn,tmps,assign,body,hy,hR⟩:=hY
 refine ⟨fun _ _=>trivial,?_⟩
 rw [Oper.semAt_eq _ _ _ (fun d h=>by rw [ho] at h;cases h)]
 have hfv:=(Ge hT hf).1
 have hargs:=I0 (fun x v=>Ge hT) _ _ hxs
 have hmap:c.args.map a.eval=(xs.map Av.toV).toArray:=by
  have e:c.args.toList.map a.eval=xs.map Av.toV:=by
   clear hxs hy hR
   revert hargs hv
   generalize c.args.toList.map a.eval=vs
   intro hv hargs
   induction hargs with
   | nil=>rfl
   | cons h1 _ ih =>
    simp only [List.all_cons,Bool.and_eq_true] at hv
    rw [ih hv.2,List.map_cons,sJ h1 hv.1]
  rw [<- e]
  apply Array.ext';simp
 have hres:(execOp a.eval o).run P w=.ok (.round ly fn tmps assign body) w:=by
  simp only [execOp,ho,Sem.run_bind,resolve,hcf,hfv,Deferred.ofValue,hmap]
  simpa [invoke] using hy
 rw [hres,Oper.uponIn_round]
 refine ⟨fun h=>(by cases h),?_⟩
 have h1:RoundIn (FW none) (0-1) P ly fn tmps assign body w R:=hR
 refine h1.mono ?_
 rintro e w' he
 obtain ⟨V,rfl,hk⟩:=hK e w' he
 exact hk
end
end
section
open Go.RowKit
section
variable {P:Program} {V:Env P} {rd:Option Nat} {N:Nat} {W0:World} {X:Nat→Option Loc} {M0:Nat→Option Obj} {l1 l2:List Oper} {o:Oper} {s0:AS}
theorem X6 {L:Array Bool} {j:Nat} (h:j<L.size):L.getD j true=L.getD j false:=by simp [h]
theorem Ug {l r:List Oper} {L:Array Bool} (h:LG (l++r) L):LG l L:=fun j o ho=>h j o (by rw [List.getElem?_append_left (List.getElem?_eq_some_iff.1 ho).1];exact ho)
theorem fZ (hV:Jv P V) (hrun:I3 P V N l1 s0) (hback1:Ll l1=true) (hord:Ny P V N l1 s0 (fun j i=>((C3 l1 []).getD j 0).testBit i=true)) (hback:Ll (l1++o::l2)=true)
  (hk:∀ j,j<l1.length->((C3 (l1++o::l2) []).getD l1.length 0).testBit j=true) (hlater:∀ i,l1.length<i->i<(l1++o::l2).length->((C3 (l1++o::l2) []).getD i 0).testBit l1.length=true) (hg:∀ x∈l1,x.guard=none)
  {Q:Exit->Act->World->Prop} (hlast:∀ (f:Nat) (L:Array Bool) (a:Act) (w:World),L.size=(l1++o::l2).length->(∀ j,L.getD j false=decide (j<l1.length))->(List.range (l1++o::l2).length).countP (fun j => !L.getD j false)<=f+1 ->
   (∃ M σ,Sim N W0 X M0 M σ (get (stN P V N l1 s0 l1.length).t) (get (stN P V N l1 s0 l1.length).h) a w)->wpOpIn (FW rd) 0 P (l1++o::l2).toArray Q l1.length (wpAnyIn (FW rd) 0 P .any (l1++o::l2).toArray Q f (L.setIfInBounds l1.length true)) a w) :
  ∀ (f:Nat) (L:Array Bool) (a:Act) (w:World),L.size=(l1++o::l2).length->LG (l1++o::l2) L->(∀ j,l1.length<=j->L.getD j false=false)->(List.range (l1++o::l2).length).countP (fun j => !L.getD j false)<=f->Wy P V N W0 X M0 l1 s0 L a w->wpAnyIn (FW rd) 0 P .any (l1++o::l2).toArray Q f L a w:=by
 have hlen:(l1++o::l2).length=l1.length+(l2.length+1):=by simp
 intro f
 induction f with
 | zero =>
  intro L a w hsz hcl hno hcnt hinv
  exfalso
  have h0:(List.range (l1++o::l2).length).countP (fun j => !L.getD j false)=0:=by omega
  rw [List.countP_eq_zero] at h0
  have:=h0 l1.length (List.mem_range.2 (by omega))
  rw [hno _ (Nat.le_refl _)] at this
  simp at this
 | succ f ih =>
  intro L a w hsz hcl hno hcnt hinv
  have anc:=fun i o' ho' hpre=>Iw hback hcl (i+1) i (Nat.lt_succ_self _) o' ho' hpre
  have allready:∀ n j,j<n->j<(l1++o::l2).length->Region.ready .any (l1++o::l2).toArray L=[]->L.getD j false=true:=by
   intro n
   induction n with
   | zero=>intro j h;omega
   | succ n ihn =>
    intro j hj hjl hr
    cases hd:L.getD j false with
    | true=>rfl
    | false =>
     have ho:=List.getElem?_eq_getElem hjl
     have:j∈Region.ready .any (l1++o::l2).toArray L:=by
      rw [mem_ready]
      refine ⟨?_,(l1++o::l2)[j],by simp,fun e he hb => ?_⟩
      ·have hj':j<L.size:=by omega
       simp [hj'] at hd ⊢;exact hd
      have h1:=(List.all_eq_true.1 hback) ((l1++o::l2)[j],j) (List.mem_zipIdx_iff_getElem?.2 ho)
      have h2:=(List.all_eq_true.1 h1) e (by simpa using he)
      simp only [hb,Bool.not_true,Bool.false_or] at h2
      have hlt:=Nat.le_of_ble_eq_true h2
      exact ihn e.on (by omega) (by omega) hr
     rw [hr] at this;cases this
  refine ⟨fun hr => ?_,fun i hi => ?_⟩
  ·exfalso
   have:=allready (l1.length+1) l1.length (by omega) (by omega) hr
   rw [hno _ (Nat.le_refl _)] at this;cases this
  rw [mem_ready] at hi
  obtain ⟨h1,oi,hoi,hpre⟩:=hi
  have ho':(l1++o::l2)[i]? = some oi:=by simpa using hoi
  have hil:i<(l1++o::l2).length:=(List.getElem?_eq_some_iff.1 ho').1
  have hun:L.getD i false=false:=by
   have hi':i<L.size:=by omega
   simp [hi'] at h1 ⊢;exact h1
  rcases Nat.lt_trichotomy i l1.length with hlt | heq | hgt
  ·have ho1:l1[i]? = some oi:=by rw [List.getElem?_append_left hlt] at ho';exact ho'
   unfold wpOpIn
   rw [hoi]
   have hfin:=Qy (rd:=rd) (a:=a) (w:=w) (Q:=Q) (K:=wpAnyIn (FW rd) 0 P .any (l1++o::l2).toArray Q f (L.setIfInBounds i true)) hV hrun hback1 hord (by omega) (Ug hcl) hinv ho1 hun hpre fun a' w' hinv'=>by
    refine ih _ a' w' (by simp [hsz]) ?_ (fun j hj => ?_) ?_ hinv'
    ·intro j oj hj hd e he hb
     by_cases hji:j=i
     ·subst hji
      rw [ho'] at hj;injection hj with hj;subst hj
      exact getD_set_true (hpre e he hb)
     rw [getD_set_ne false (Ne.symm hji)] at hd
     exact getD_set_true (hcl j oj hj hd e he hb)
    ·rw [getD_set_ne false (by omega)];exact hno j hj
    have hlt2:(List.range (l1++o::l2).length).countP (fun j => !(L.setIfInBounds i true).getD j false)<(List.range (l1++o::l2).length).countP (fun j => !L.getD j false):=by
     refine KE ?_ (List.mem_range.2 hil) ?_ ?_
     ·intro j _ hj
      by_cases hji:i=j
      ·subst hji;simp [show i<L.size by omega] at hj
      rwa [getD_set_ne false hji] at hj
     ·rw [hun];rfl
     simp [show i<L.size by omega]
    omega
   have hgi:oi.guard=none:=hg oi (List.mem_of_getElem? ho1)
   have hw:∀ ys,Region.wanted oi ys=true:=fun ys=>by simp [Region.wanted,hgi]
   simp only [hw,if_true] at hfin ⊢
   exact hfin
  ·subst heq
   have hall:∀ j,L.getD j false=decide (j<l1.length):=fun j=>by
    by_cases hj:j<l1.length
    ·rw [decide_eq_true hj]
     exact (anc l1.length oi ho' hpre j (hk j hj)).1
    rw [decide_eq_false hj]
    exact hno j (by omega)
   refine hlast f L a w hsz hall hcnt ?_
   obtain ⟨M,σ,T,H,hs,hT,hH⟩:=hinv
   have eT:T=get (stN P V N l1 s0 l1.length).t:=by
    funext x
    obtain ⟨k,hk2,hag,he⟩:=hT x
    rw [he]
    refine Vk hrun hk2 (Nat.le_refl _) hag fun j oj hj hd => ?_
    have hjl:j<l1.length:=(List.getElem?_eq_some_iff.1 hj).1
    exact ⟨fun _=>hjl,fun _=>by rw [hall,decide_eq_true hjl]⟩
   have eH:H=get (stN P V N l1 s0 l1.length).h:=by
    funext x
    obtain ⟨k,hk2,hag,he⟩:=hH x
    rw [he]
    refine Vl hrun hk2 (Nat.le_refl _) hag fun j oj hj hd => ?_
    have hjl:j<l1.length:=(List.getElem?_eq_some_iff.1 hj).1
    exact ⟨fun _=>hjl,fun _=>by rw [hall,decide_eq_true hjl]⟩
   rw [eT,eH] at hs
   exact ⟨M,σ,hs⟩
  exfalso
  have:=(anc i oi ho' hpre l1.length (hlater i hgt hil)).1
  rw [hno _ (Nat.le_refl _)] at this;cases this
theorem cC (hback:Ll (l1++o::l2)=true) (h2:l2.length<=1) {Q:Exit->Act->World->Prop} {f:Nat} {L:Array Bool} {a:Act} {w:World} (hsz:L.size=(l1++o::l2).length) (hall:∀ j,L.getD j false=decide (j<l1.length)) (hcnt:(List.range (l1++o::l2).length).countP (fun j => !L.getD j false)<=f+1)
  (hg:∀ x∈l2,x.guard=none) (hQ1:l2=[]->Q .normal a w) (hQ2:∀ u,l2=[u]->u.wpIn (FW rd) 0 P a w (fun a' w'=>Q .normal a' w') Q):wpAnyIn (FW rd) 0 P .any (l1++o::l2).toArray Q f (L.setIfInBounds l1.length true) a w:=by
 have hL1:∀ j,(L.setIfInBounds l1.length true).getD j false=decide (j<l1.length+1):=fun j=>by
  by_cases hj:l1.length=j
  ·subst hj
   have hlt:l1.length<L.size:=by rw [hsz];simp
   simp [hlt]
  rw [getD_set_ne false hj,hall]
  exact decide_eq_decide.2 (by omega)
 have hdone:∀ (L':Array Bool) (f':Nat) (a':Act) (w':World),L'.size=(l1++o::l2).length->(∀ j,j<(l1++o::l2).length->L'.getD j false=true)->Q .normal a' w'->wpAnyIn (FW rd) 0 P .any (l1++o::l2).toArray Q f' L' a' w':=by
  intro L' f' a' w' hs' hd' hq
  have hr:Region.ready .any (l1++o::l2).toArray L'=[]:=by
   rw [List.eq_nil_iff_forall_not_mem]
   intro j hj
   rw [mem_ready] at hj
   obtain ⟨h1,oj,hoj,_⟩:=hj
   have hjl:j<(l1++o::l2).length:=(List.getElem?_eq_some_iff.1 (by simpa using hoj:(l1++o::l2)[j]? = some oj)).1
   have:=hd' j hjl
   have hj':j<L'.size:=by omega
   simp [hj'] at h1 this
   rw [h1] at this;cases this
  cases f' with
  | zero=>exact ⟨hr,hq⟩
  | succ f'=>exact ⟨fun _=>hq,fun i hi=>by rw [hr] at hi;cases hi⟩
 cases l2 with
 | nil=>exact hdone _ _ _ _ (by simpa using hsz) (fun j hj=>by rw [hL1];simp at hj;exact decide_eq_true hj) (hQ1 rfl)
 | cons u r =>
  have hr0:r=[]:=by
   cases r with
   | nil=>rfl
   | cons=>simp at h2
  subst hr0
  have hlen:(l1++o::[u]).length=l1.length+2:=by simp
  cases f with
  | zero =>
   exfalso
   have hlt:(List.range (l1++o::[u]).length).countP (fun j => !(L.setIfInBounds l1.length true).getD j false)<(List.range (l1++o::[u]).length).countP (fun j => !L.getD j false):=by
    refine KE ?_ (List.mem_range.2 (show l1.length<_ by omega)) ?_ ?_
    ·intro j _ hj
     rw [hL1] at hj
     rw [hall]
     simp at hj ⊢;omega
    ·rw [hall];simp
    rw [hL1];simp
   have h0:(List.range (l1++o::[u]).length).countP (fun j => !(L.setIfInBounds l1.length true).getD j false)=0:=by omega
   rw [List.countP_eq_zero] at h0
   have:=h0 (l1.length+1) (List.mem_range.2 (by omega))
   rw [hL1] at this
   simp at this
  | succ f =>
   have hu:(l1++o::[u])[l1.length+1]? = some u:=by rw [List.getElem?_append_right (by omega)];simp
   refine ⟨fun hr => ?_,fun i hi => ?_⟩
   ·exfalso
    have:l1.length+1∈Region.ready .any (l1++o::[u]).toArray (L.setIfInBounds l1.length true):=by
     rw [mem_ready]
     refine ⟨?_,u,by simp,fun e he hb => ?_⟩
     ·rw [X6 (by simp [hsz]),hL1]
      exact decide_eq_false (by omega)
     have h1:=(List.all_eq_true.1 hback) (u,l1.length+1) (List.mem_zipIdx_iff_getElem?.2 hu)
     have h3:=(List.all_eq_true.1 h1) e (by simpa using he)
     simp only [hb,Bool.not_true,Bool.false_or] at h3
     have hlt:=Nat.le_of_ble_eq_true h3
     rw [hL1]
     exact decide_eq_true (by omega)
    rw [hr] at this;cases this
   rw [mem_ready] at hi
   obtain ⟨h1,oi,hoi,hpre⟩:=hi
   have ho':(l1++o::[u])[i]? = some oi:=by simpa using hoi
   have hil:i<(l1++o::[u]).length:=(List.getElem?_eq_some_iff.1 ho').1
   have hi1:i=l1.length+1:=by
    have h3:=hL1 i
    have h4:i<(L.setIfInBounds l1.length true).size:=by simp [hsz];omega
    rw [X6 h4,h3] at h1
    have h5:=of_decide_eq_false h1
    omega
   subst hi1
   rw [hu] at ho';injection ho' with ho';subst ho'
   unfold wpOpIn
   rw [hoi]
   have hw:∀ ys,Region.wanted u ys=true:=fun ys=>by simp [Region.wanted,hg u (by simp)]
   simp only [hw,if_true]
   refine Oper.wpIn_mono (fun a' w' hq=>hdone _ _ _ _ (by simp [hsz]) (fun j hj => ?_) hq) (hQ2 u rfl)
   by_cases hji:l1.length+1=j
   ·subst hji
    have h4:l1.length+1<(L.setIfInBounds l1.length true).size:=by simp [hsz]
    simp at h4
    simp [h4]
   rw [getD_set_ne false hji,hL1]
   exact decide_eq_true (by omega)
end
def noM:Nat->Option Obj:=fun _=>none
def Sc (M:Nat->Option Obj) (b:Nat):Option Obj:=match M b with
 | some (.cells c t f)=>some (.cells c t f)
 | _=>none
theorem Ec {M:Nat->Option Obj} {b:Nat} {o:Obj} (h:Sc M b=some o):M b=some o/\o.isCells=true:=by
 unfold Sc at h
 cases hM:M b with
 | none=>rw [hM] at h;cases h
 | some o' =>
  rw [hM] at h
  cases o' with
  | cells c t f=>injection h with h;subst h;exact ⟨rfl,rfl⟩
  | _=>cases h
theorem LA {M:Nat->Option Obj} (b:Nat) (c:Array Value) (t:TypeId) (f:Nat×Nat) (_:¬ DM (.cells c t f)) (h:M b=some (.cells c t f)):Sc M b=some (.cells c t f):=by unfold Sc;rw [h]
def oQ (l1:List Oper) (o:Oper) (l2:List Oper):Bool :=
 Ll (l1++o::l2)&&((List.range l1.length).all fun j=>((C3 (l1++o::l2) []).getD l1.length 0).testBit j)&&((List.range l2.length).all fun j=>((C3 (l1++o::l2) []).getD (l1.length+1+j) 0).testBit l1.length) &&
 (l1++o::l2).all fun x=>match x.guard with | none=>true | some _=>false
section
variable {P:Program} {N:Nat} {Ow:World→Nat→Prop} {n0:Nat} {Q:IQ} {s:AS} {J:World→Prop}
theorem DA {K:AS->(World->Prop)->Bool->Prop} {Q:IQ} {s:AS} {J:World->Prop} {al:Bool} (h:K s J al):ITh K Q .normal s J al:=h
theorem M8 {K:AS->(World->Prop)->Bool->Prop} {Q:IQ} {s:AS} {J:World->Prop} {al:Bool} {id:Nat} (h:Q (.exit id) s J al):ITh K Q (.exit id) s J al:=h
theorem UO {Q:IQ} {s:AS} {J:World->Prop} {al:Bool} {id:Nat} (h:Q .normal s J al):IBl id Q .normal s J al:=h
theorem Nm {Q:IQ} {s:AS} {J:World->Prop} {al:Bool} {id:Nat} (h:Q .normal s J al):IBl id Q (.exit id) s J al:=by simp only [IBl,if_true];exact h
theorem Bg {α:Type} {p:α->Prop}:∀ {l:List (Nat×α)},(∀ x∈l,p x.2)->∀ i v,get l i=some v->p v
 | [],_,_,_,h=>by cases h
 | (k,x)::l,h,i,v,hv=>by
  simp only [get,CH] at hv
  by_cases hi:k=i
  ·subst hi;simp at hv;subst hv;exact h (k,x) (List.mem_cons_self ..)
  simp [hi] at hv;exact Bg (fun y hy=>h y (List.mem_cons_of_mem _ hy)) i v hv
theorem Bc {α:Type} [Inhabited α] {sz:Nat} {c:α->List Cl} {xs:List α} (h:∀ x,∀ y∈c x,NM y):NM (lst sz c xs):=by
 refine .list _ _ _ _ fun i j => ?_
 rw [List.getD_eq_getElem?_getD]
 cases hj:(c (xs.getD i default))[j]? with
 | none=>exact .val _
 | some y=>exact h _ y (List.mem_of_getElem? hj)
theorem CL {L:List Cl} {sz len i off:Nat} (h:∀ y∈L,NM y):NM (.eptr sz len (fun _ j=>(L:List Cl).getD j default) i off):=by
 refine .eptr _ _ _ _ _ fun _ j => ?_
 show NM (L.getD j default)
 rw [List.getD_eq_getElem?_getD]
 cases hj:L[j]? with
 | none=>exact .val _
 | some y=>exact h y (List.mem_of_getElem? hj)
theorem LU {L:List Cl} (h:∀ y∈L,NM y) (i:Nat):NM (Am L i):=by
 show NM (L.getD i default)
 rw [List.getD_eq_getElem?_getD]
 cases hj:L[i]? with
 | none=>exact .val _
 | some y=>exact h y (List.mem_of_getElem? hj)
theorem Ov {g:FuncId} {k:Nat} {L:List Cl} (h:∀ y∈L,NM y):NM (.clo g k (Am L)):=by
 refine .clo _ _ _ fun i => ?_
 show NM (L.getD i default)
 rw [List.getD_eq_getElem?_getD]
 cases hj:L[i]? with
 | none=>exact .val _
 | some y=>exact h y (List.mem_of_getElem? hj)
theorem A9 {c:Cl} (h:NM c):TvM (.av (.one c)):=fun y hy=>by simp only [Av.cells,List.mem_singleton] at hy;subst hy;exact h
end
end
def IEnd (n:Nat) (JJ Jx:Nat->World->Prop):IQ:=fun e s' J' al'=>(e=.ret\/e=.normal)/\(J'=JJ n\/∃ j,j<n/\J'=Jx (j+1))
section
open Go.RowKit
theorem IB:∀ {l:List Nat} {n:Nat},n∈l->A8 l n=true
 | k::r,n,h=>by
  simp only [A8]
  cases hk:Nat.beq k n with
  | true=>rfl
  | false =>
   rcases List.mem_cons.1 h with e | h
   ·rw [e,Nat.beq_refl] at hk;cases hk
   exact IB h
theorem TK {fid:Nat}:∀ (ps:List Tmp) (es:List Av) (t:List (Nat×Tv)),(∀ i v,get t i=some v->v.no fid=true)->es.all Av.dv=true->∀ i v,get (QC t ps es) i=some v->v.no fid=true
 | [],_,t,h,_,i,v,hv=>h i v (by cases ‹List Av› <;> exact hv)
 | p::ps,[],t,h,_,i,v,hv=>h i v hv
 | p::ps,e::es,t,h,he,i,v,hv=>by
  simp only [List.all_cons,Bool.and_eq_true] at he
  refine TK ps es ((p,.av e)::t) (fun j u hu => ?_) he.2 i v hv
  simp only [get,CH] at hu
  by_cases hj:p=j
  ·subst hj;simp at hu;subst hu;exact Jn he.1
  simp [hj] at hu;exact h j u hu
section
variable {P:Program} {N:Nat} {W0:World} {X:Nat→Option Loc} {M0:Nat→Option Obj}
end
end
section
open Go.RowKit
section
variable {P:Program}
def Fr (P:Program) (f:FuncId) (xs:List Av) (b:Blk) (v:Nat->Tv):Prop:=∀ (M:Nat->Option Obj) (σ:Nat->Loc) (w:World) (args:List Value),(∀ b o,M b=some o->Dy w.heap[b]? o)->L2 (RA M σ) xs args ->
 Calls P f args.toArray w fun en w'=>∃ U,en=.returned U/\∃ M' x,F3 w w' M M' Ox/\(x.nil=true\/(w.heap.size<=x.b/\M' x.b=none))/\(∀ σ',BT M' σ' w' x b)/\∀ (σ':Nat->Loc) d,σ' d=x->RT M' σ' (v d) U
theorem Bx {f:FuncId} {xs:List Av} {b:Blk} {v:Nat->Tv} (h1:∀ args w,(callFunc f args).run P w=.ok (.enter f args) w) (h:Fr P f xs b v):DK P f xs (.new [] b v):=by
 refine .inl ⟨h1,fun M σ w h' args cs' g hs hargs hr hc => ?_⟩
 simp only [res,Option.some.injEq,Prod.mk.injEq] at hr
 obtain ⟨rfl,rfl⟩:=hr
 refine (h M σ w args hs.imm hargs).mono ?_
 rintro en w' ⟨U,hU,M',x,hk,hx,hb,hR⟩
 refine ⟨U,hU,fun dst ⟨d,hd,hno⟩=>⟨M',upd σ d x,x,d,hd,hk,hx,rfl,hb _,hR _ _ (A2 _ _ _)⟩⟩
def OwnV (v:Nat->Tv):Prop:=∀ (M:Nat->Option Obj) (σ σ':Nat->Loc) (n d:Nat) (U:Value),σ' d=σ n->RT M σ (v n) U->RT M σ' (v d) U
theorem C2 (sz len:Nat):OwnV fun d=>.av (.one (.own d sz len)):=fun M σ σ' n d U h hR=>by
 have hR:R M σ (.own n sz len) U:=hR
 show R M σ' (.own d sz len) U
 simp only [R] at *
 rw [h];exact hR
theorem CN {f:FuncId} {fn:Func} {c:Code} (hf:P.funcs[f]? = some fn) (hb:fn.body=some c) {xs:List Av} {sz len:Nat} {g:Nat->Nat->Cl} {ty:TypeId} {v:Nat->Tv} (hN:Nat.ble xs.length fn.ntmps=true) (hv:OwnV v)
  (h:∀ (W0:World) (M0:Nat->Option Obj),AWp P none fn.ntmps W0 noX M0 c (KN P fn.ntmps W0 noX M0 fn fun r' s'=>∃ n,TvE r' (v n)/\∃ b,get s'.h n=some b/\HW b (.row sz len g ty)) ⟨EL 0 xs,[]⟩):Fr P f xs (.row sz len g ty) v:=by
 intro M σ w args himm hargs
 refine Dz (X:=noX) (σ:=σ) (h0:=[]) hf hb (Nat.le_of_ble_eq_true hN) himm hargs (fun n b h=>by cases h) (fun n b h=>by cases h) (fun n x h=>by cases h) (fun n m b c h=>by cases h) (CW (h w M)) ?_
 rintro r' s' M' σ' a' w' U ⟨n,he,b,hb1,hbe⟩ hs hR
 have hbk:=I7 hbe (hs.blk n _ hb1)
 refine ⟨U,rfl,M',σ' n,⟨hs.os,hs.tape,hs.output,hs.size,fun b hb _=>hs.old b hb (Ez b),hs.sub,hs.new,hs.imm⟩,?_,fun σ'' => ?_,fun σ'' d hd=>hv M' σ' σ'' n d U hd (Jq he hR)⟩
 ·rcases hs.loc n _ hb1 with h1 | ⟨h1,h2 | h2⟩
  ·exact .inl h1
  ·exact .inr ⟨h2,h1⟩
  exact absurd h2 (Ez _)
 exact hbk
theorem frE {α:Type} [Inhabited α] {c:α->List Cl} {sz n:Nat} {ty:TypeId} {xs ys:List α} {s':AS} (h:xs=ys) (hg:get s'.h n=some (.row sz xs.length (AP c xs) ty)) :
  ∃ m,TvE (.av (.one (.own n sz xs.length))) (.av (.one (.own m sz ys.length)))/\∃ b,get s'.h m=some b/\HW b (.row sz ys.length (AP c ys) ty):=by subst h;exact ⟨n,.refl _,_,hg,.refl _⟩
theorem WX {f:FuncId} {sz len:Nat} {F:Nat->Nat->Cl} {b:Blk} {v:Nat->Tv} (h0:len=0->Fr P f [.one (.val (.slice none 0 0))] b v) (h1:Fr P f [.one (.list true sz len F)] b v) (hsz:sz≠0:=by decide):Fr P f [.one (.list false sz len F)] b v:=by
 intro M σ w args himm hargs
 cases hargs with
 | cons ha ht =>
  cases ht with
  | nil =>
   have ha:RC M (.list false sz len F) _:=ha
   cases ha with
   | nil=>exact h0 rfl M σ w _ himm (.cons ⟨rfl,rfl⟩ .nil)
   | mt _ _ _ a cap=>exact h1 M σ w _ himm (.cons (RC.mt true sz F a cap (fun _ h=>absurd h hsz)) .nil)
   | list _ _ _ _ b off cap g e1 e2 e3=>exact h1 M σ w _ himm (.cons (RC.list true sz len F b off cap g e1 e2 e3 (fun _ h=>absurd h hsz)) .nil)
end
end
section
open Go.RowKit Go.MapKept
section
variable {K V:Type} [Inhabited K] [Inhabited V]
def kfG (ck:K->Value) (l:List (K×V)):Nat->Value:=fun i=>ck (l.getD i default).1
def vfG (c:V->List Cl) (l:List (K×V)):Nat->Nat->Cl:=fun i j=>(c (l.getD i default).2).getD j default
def DE (eq:K->K->Bool) (l:List (K×V)) (k:K):Bool:=l.any fun e=>eq e.1 k
def CF (eq:K->K->Bool) (l:List (K×V)) (k:K):Nat:=l.findIdx fun e=>eq e.1 k
def Fw (eq:K->K->Bool) (l:List (K×V)) (k:K) (v:V):List (K×V):=bif DE eq l k then l.set (CF eq l k) (k,v) else l++[(k,v)]
theorem UB {eq:K->K->Bool} {l:List (K×V)} {k:K} (h:DE eq l k=true):CF eq l k<l.length/\eq (l.getD (CF eq l k) default).1 k=true/\∀ j,j<CF eq l k->eq (l.getD j default).1 k=false:=by
 unfold DE at h
 obtain ⟨x,hx,hxk⟩:=List.any_eq_true.1 h
 have hlt:l.findIdx (fun e=>eq e.1 k)<l.length:=List.findIdx_lt_length.2 ⟨x,hx,hxk⟩
 refine ⟨hlt,?_,fun j hj => ?_⟩
 ·have:=List.findIdx_getElem (w:=hlt)
  unfold CF
  rw [List.getD_eq_getElem?_getD,List.getElem?_eq_getElem hlt]
  exact this
 have:=List.not_of_lt_findIdx hj
 have hj':j<l.length:=Nat.lt_trans hj hlt
 rw [List.getD_eq_getElem?_getD,List.getElem?_eq_getElem hj']
 exact this
theorem lZ {eq:K->K->Bool} {l:List (K×V)} {k:K} (h:DE eq l k=false):∀ j,j<l.length->eq (l.getD j default).1 k=false:=by
 intro j hj
 unfold DE at h
 have:=(List.any_eq_false.1 h) l[j] (List.getElem_mem hj)
 rw [List.getD_eq_getElem?_getD,List.getElem?_eq_getElem hj]
 simpa using this
theorem LX {P:Program} {E:TypeId->Option (List Kd)} {kt:TypeId} {ck:K->Value} {eq:K->K->Bool} (heq:∀ a b,eq a b=true↔ck a=ck b) (hfit:∀ k,FX P E kt (ck k)) (l:List (K×V)) (k:K) :
  Pe P E kt l.length (kfG ck l) (ck k) (DE eq l k) (CF eq l k):=by
 refine ⟨hfit k,fun j _=>hfit _,fun h => ?_,fun h j hj => ?_⟩
 ·obtain ⟨h1,h2,h3⟩:=UB h
  refine ⟨h1,(heq _ _).1 h2,fun j hj e => ?_⟩
  have:=(heq _ _).2 e
  rw [h3 j hj] at this
  cases this
 intro e
 have:=(heq _ _).2 e
 rw [lZ h j hj] at this
 cases this
omit [Inhabited K] [Inhabited V] in
theorem T6 (eq:K->K->Bool) (l:List (K×V)) (k:K) (v:V):(bif DE eq l k then l.length else l.length+1)=(Fw eq l k v).length:=by
 unfold Fw
 cases DE eq l k <;> simp
theorem T7 {eq:K->K->Bool} {l:List (K×V)} {k:K} {v:V} (j:Nat) (hj:j<(Fw eq l k v).length):(Fw eq l k v).getD j default=bif Nat.beq j (bif DE eq l k then CF eq l k else l.length) then (k,v) else l.getD j default:=by
 rw [<- T6] at hj
 unfold Fw
 cases h:DE eq l k with
 | true =>
  rw [h] at hj
  simp only [cond_true] at *
  have hlt:=(UB h).1
  rw [List.getD_eq_getElem?_getD,List.getElem?_set,CH]
  by_cases e:CF eq l k=j
  ·subst e;simp [hlt]
  rw [if_neg e,decide_eq_false (Ne.symm e),cond_false,List.getD_eq_getElem?_getD]
 | false =>
  rw [h] at hj
  simp only [cond_false] at *
  rw [List.getD_eq_getElem?_getD,CH]
  by_cases e:j=l.length
  ·subst e
   rw [decide_eq_true rfl,cond_true,List.getElem?_append_right (Nat.le_refl _),Nat.sub_self]
   rfl
  rw [decide_eq_false e,cond_false,List.getElem?_append_left (by omega),List.getD_eq_getElem?_getD]
theorem Ul {ck:K->Value} {cv:V->List Cl} {eq:K->K->Bool} {agg:Bool} {nv:Nat} (l:List (K×V)) (k:K) (v:V) (cells:List Cl) (hc:cells=cv v) :
  HW (.omap agg nv (bif DE eq l k then l.length else l.length+1) (fun j=>bif Nat.beq j (bif DE eq l k then CF eq l k else l.length) then ck k else kfG ck l j) (fun j c=>bif Nat.beq j (bif DE eq l k then CF eq l k else l.length) then cells.getD c default else vfG cv l j c))
   (.omap agg nv (Fw eq l k v).length (kfG ck (Fw eq l k v)) (vfG cv (Fw eq l k v))):=by
 subst hc
 refine .omap agg nv (T6 eq l k v) (fun j hj => ?_) (fun j c hj _ => ?_)
 ·unfold kfG
  rw [T7 j hj]
  cases Nat.beq j (bif DE eq l k then CF eq l k else l.length) <;> rfl
 have:(bif Nat.beq j (bif DE eq l k then CF eq l k else l.length) then (cv v).getD c default else vfG cv l j c)=vfG cv (Fw eq l k v) j c:=by
  unfold vfG
  rw [T7 j hj]
  cases Nat.beq j (bif DE eq l k then CF eq l k else l.length) <;> rfl
 rw [this]
 exact .refl _
theorem Um {ck:K->Value} {cv:V->List Cl} {agg:Bool} {nv:Nat}:HW (.omap agg nv 0 (fun _=>undef) (fun _ _=>default)) (.omap agg nv ([]:List (K×V)).length (kfG ck ([]:List (K×V))) (vfG cv ([]:List (K×V)))) :=
 .omap agg nv rfl (fun j hj=>absurd hj (Nat.not_lt_zero _)) (fun j c hj _=>absurd hj (Nat.not_lt_zero _))
end
def eqS (a b:ByteArray):Bool:=a.toList==b.toList
theorem We (a b:ByteArray):eqS a b=true↔Value.string a=Value.string b:=by
 unfold eqS
 rw [beq_iff_eq,Value.string.injEq]
 exact ⟨iQ,fun h=>by rw [h]⟩
end
section
open Go.RowKit Go.MapKept
section
variable {P:Program}
def Wr2 (P:Program) (f:FuncId) (K L:Nat) (xs:List Av) (b0 d0:Blk) (r:Tv) (b1 d1:Blk):Prop:=∀ (M:Nat->Option Obj) (σ:Nat->Loc) (w:World) (args:List Value),(∀ b o,M b=some o->Dy w.heap[b]? o) ->
 (BT M σ w (σ K) b0/\(σ K).nil=false/\M (σ K).b=none)->(BT M σ w (σ L) d0/\(σ L).nil=false/\M (σ L).b=none)->(σ K).b≠(σ L).b->L2 (RA M σ) xs args ->
 Calls P f args.toArray w fun en w'=>∃ U,en=.returned U/\∃ M',F3 w w' M M' (fun b=>only (σ K) b\/only (σ L) b)/\(∀ σ',RT M' σ' r U)/\(∀ σ',BT M' σ' w' (σ K) b1)/\∀ σ',BT M' σ' w' (σ L) d1
theorem OV {f:FuncId} {fn:Func} {c:Code} (hf:P.funcs[f]? = some fn) (hb:fn.body=some c) {K L:Nat} {xs:List Av} {b0 d0 b1 d1:Blk} {r:Tv} (hN:Nat.ble xs.length fn.ntmps=true) (hK:Nat.ble fn.ntmps K=true) (hL:Nat.ble fn.ntmps L=true) (hKL:Nat.beq K L=false) (hd:r.dv=true) (hd1:Jl b1=true) (hd2:Jl d1=true)
  (h:∀ (W0:World) (M0:Nat->Option Obj) (X:Nat->Option Loc),DI X W0 [K,L]->AWp P none fn.ntmps W0 X M0 c (KN P fn.ntmps W0 X M0 fn fun r' s'=>TvE r' r/\(∃ b,get s'.h K=some b/\HW b b1)/\∃ b,get s'.h L=some b/\HW b d1) ⟨EL 0 xs,[(K,b0),(L,d0)]⟩):Wr2 P f K L xs b0 d0 r b1 d1:=by
 intro M σ w args himm ⟨hblk,hnil,hM⟩ ⟨hblk2,hnil2,hM2⟩ hbne hargs
 have hne:K≠L:=fun e=>by rw [e,Nat.beq_refl] at hKL;cases hKL
 let X:Nat->Option Loc:=upd (upd noX K (some (σ K))) L (some (σ L))
 have hXL:X L=some (σ L):=A2 _ _ _
 have hXK:X K=some (σ K):=by
  show upd _ L _ K=_
  rw [Bw _ _ hne];exact A2 _ _ _
 have one:∀ n b,get [(K,b0),(L,d0)] n=some b->(n=K/\b=b0)\/(n=L/\b=d0):=fun n b hn=>by
  simp only [get,CH] at hn
  by_cases hk:K=n
  ·simp [hk] at hn;exact .inl ⟨hk.symm,hn.symm⟩
  by_cases hl:L=n
  ·simp [hk,hl] at hn;exact .inr ⟨hl.symm,hn.symm⟩
  simp [hk,hl] at hn
 have pins:∀ n x,X n=some x->(n=K/\x=σ K)\/(n=L/\x=σ L):=fun n x hx=>by
  by_cases hl:n=L
  ·subst hl;rw [hXL] at hx;injection hx with hx;exact .inr ⟨rfl,hx.symm⟩
  by_cases hk:n=K
  ·subst hk;rw [hXK] at hx;injection hx with hx;exact .inl ⟨rfl,hx.symm⟩
  simp only [X] at hx;rw [Bw _ _ hl,Bw _ _ hk] at hx;cases hx
 have hXm:∀ k x,X k=some x->A8 [K,L] k=true:=fun k x hk=>by
  rcases pins k x hk with ⟨rfl,_⟩ | ⟨rfl,_⟩
  ·unfold A8;rw [Nat.beq_refl];rfl
  unfold A8;rw [hKL];exact LV _
 refine Dz (X:=X) (σ:=σ) (h0:=[(K,b0),(L,d0)]) hf hb (Nat.le_of_ble_eq_true hN) himm hargs (fun n b hn => ?_) (fun n b hn => ?_) (fun n x hx => ?_) (fun n m b c hn hm hnm => ?_) (CW (h w M X fun k x hk=>.inl (hXm k x hk))) ?_
 ·rcases one n b hn with ⟨rfl,rfl⟩ | ⟨rfl,rfl⟩
  ·exact hblk
  exact hblk2
 ·rcases one n b hn with ⟨rfl,rfl⟩ | ⟨rfl,rfl⟩
  ·exact .inr ⟨hM,n,σ n,hXK,rfl⟩
  exact .inr ⟨hM2,n,σ n,hXL,rfl⟩
 ·rcases pins n x hx with ⟨rfl,rfl⟩ | ⟨rfl,rfl⟩
  ·exact ⟨Nat.le_of_ble_eq_true hK,rfl⟩
  exact ⟨Nat.le_of_ble_eq_true hL,rfl⟩
 ·rcases one n b hn with ⟨rfl,rfl⟩ | ⟨rfl,rfl⟩ <;> rcases one m c hm with ⟨rfl,rfl⟩ | ⟨rfl,rfl⟩
  ·exact absurd rfl hnm
  ·exact .inr (.inr hbne)
  ·exact .inr (.inr fun e=>hbne e.symm)
  exact absurd rfl hnm
 rintro r' s' M' σ' a' w' U ⟨he,⟨b,hb1,hbe⟩,e,he1,hee⟩ hs hR
 have hpin:=(hs.pin K _ hXK).2
 have hbk:=hs.blk K _ hb1
 rw [hpin] at hbk
 have hpin2:=(hs.pin L _ hXL).2
 have hbk2:=hs.blk L _ he1
 rw [hpin2] at hbk2
 refine ⟨U,rfl,M',⟨hs.os,hs.tape,hs.output,hs.size,fun b hb hne=>hs.old b hb ?_,hs.sub,hs.new,hs.imm⟩,fun σ''=>HO hd (Jq he hR),fun σ''=>GC hd1 (I7 hbe hbk),fun σ''=>GC hd2 (I7 hee hbk2)⟩
 rintro ⟨n,x,hx,rfl⟩
 rcases pins n x hx with ⟨rfl,rfl⟩ | ⟨rfl,rfl⟩
 ·exact hne (.inl ⟨hnil,rfl⟩)
 exact hne (.inr ⟨hnil2,rfl⟩)
def Fo (K n L m:Nat):Av->Av
 | .one (.ptr q off)=>.one (.ptr (bif Nat.beq q K then n else bif Nat.beq q L then m else q) off)
 | x=>x
def Oh (K L:Nat):Av->Bool
 | .one (.ptr q _)=>bif Nat.beq q K then true else Nat.beq q L
 | x=>x.dv
def pE (n m:Nat) (b0 d0:Blk) (r:Tv) (b1 d1:Blk):Ef:=.wrs [n,m] [] fun bs _=>some ([bs=[b0,d0]],r,[b1,d1])
theorem Qa {w w':World} {M M':Nat->Option Obj} {p q:Nat->Prop} (h:F3 w w' M M' p) (hp:∀ b,p b->q b):F3 w w' M M' q :=
 ⟨h.os,h.tape,h.output,h.size,fun b hb hn=>h.old b hb fun h1=>hn (hp b h1),h.sub,h.new,h.imm⟩
theorem Wl {f:FuncId} {K L n m:Nat} {xs:List Av} {b0 d0 b1 d1:Blk} {r:Tv} (h1:∀ args w,(callFunc f args).run P w=.ok (.enter f args) w) (hx:xs.all (Oh K L)=true) (hKL:Nat.beq K L=false) (hnm:Nat.beq n m=false) (hd0:Jl b0=true) (hd2:Jl d0=true) (h:Wr2 P f K L xs b0 d0 r b1 d1):DK P f (xs.map (Fo K n L m)) (pE n m b0 d0 r b1 d1):=by
 have hne:K≠L:=fun e=>by rw [e,Nat.beq_refl] at hKL;cases hKL
 have hnm':n≠m:=fun e=>by rw [e,Nat.beq_refl] at hnm;cases hnm
 refine .inl ⟨h1,fun M σ w hh args cs' g hs hargs hres hc => ?_⟩
 simp only [pE,res,Fg] at hres
 cases hn:hh n with
 | none=>rw [hn] at hres;cases hres
 | some b =>
  cases hm:hh m with
  | none=>rw [hn,hm] at hres;cases hres
  | some d =>
   rw [hn,hm] at hres
   simp only [List.length_cons,List.length_nil,Nat.beq_refl,Option.some.injEq,Prod.mk.injEq] at hres
   obtain ⟨rfl,rfl⟩:=hres
   have hbd:=hc.head
   injection hbd with e1 e2
   injection e2 with e2 _
   subst e1;subst e2
   have hblk:=hs.blk n _ hn
   have hblk2:=hs.blk m _ hm
   have nilOf:∀ {q:Nat} {bq:Blk},Jl bq=true->BT M σ w (σ q) bq->(σ q).nil=false:=fun {q bq} hd hb=>by
    cases bq with
    | row=>cases hd
    | omap=>cases hd
    | rowx=>cases hd
    | cells l ty=>exact hb.1
   have hnil:=nilOf hd0 hblk
   have hnil2:=nilOf hd2 hblk2
   have hM:M (σ n).b=none:=by
    rcases hs.loc n _ hn with h | h
    ·rw [hnil] at h;cases h
    exact h
   have hM2:M (σ m).b=none:=by
    rcases hs.loc m _ hm with h | h
    ·rw [hnil2] at h;cases h
    exact h
   have hbne:(σ n).b≠(σ m).b:=by
    rcases hs.inj n m _ _ hn hm hnm' with h | h | h
    ·rw [hnil] at h;cases h
    ·rw [hnil2] at h;cases h
    exact h
   let σ2:Nat->Loc:=upd (upd σ K (σ n)) L (σ m)
   have hL:σ2 L=σ m:=A2 _ _ _
   have hK:σ2 K=σ n:=by
    show upd _ L _ K=_
    rw [Bw _ _ hne];exact A2 _ _ _
   have hargs2:L2 (RA M σ2) xs args:=by
    refine L2.of (by have:=hargs.length;simpa using this) fun i x V hxi hV => ?_
    obtain ⟨V',hV',hR⟩:=hargs.get i (Fo K n L m x) (by rw [List.getElem?_map,hxi];rfl)
    rw [hV] at hV';injection hV' with hV';subst hV'
    have hok:=(List.all_eq_true.1 hx) x (List.mem_of_getElem? hxi)
    unfold Oh at hok
    split at hok
    ·rename_i q off
     by_cases hq:q=K
     ·subst hq
      simp only [Fo,Nat.beq_refl,cond_true] at hR
      have hR':V=.pointer (some ⟨(σ n).b,off,none⟩):=hR
      show V=.pointer (some ⟨(σ2 q).b,off,none⟩)
      rw [hK];exact hR'
     have hqb:Nat.beq q K=false:=by
      cases hb:Nat.beq q K with
      | false=>rfl
      | true=>exact absurd (Nat.eq_of_beq_eq_true hb) hq
     rw [hqb] at hok
     have:=Nat.eq_of_beq_eq_true hok
     subst this
     simp only [Fo,hqb,Nat.beq_refl,cond_true,cond_false] at hR
     have hR':V=.pointer (some ⟨(σ m).b,off,none⟩):=hR
     show V=.pointer (some ⟨(σ2 q).b,off,none⟩)
     rw [hL];exact hR'
    rename_i hnp
    have:Fo K n L m x=x:=by
     unfold Fo
     split
     ·rename_i q off;exact (hnp q off rfl).elim
     rfl
    rw [this] at hR
    exact HO (σ':=σ2) (r:=.av x) hok hR
   refine (h M σ2 w args hs.imm (by rw [hK];exact ⟨GC hd0 hblk,hnil,hM⟩) (by rw [hL];exact ⟨GC hd2 hblk2,hnil2,hM2⟩) (by rw [hK,hL];exact hbne) hargs2).mono ?_
   rintro en w' ⟨U,hU,M',hk,hR,hb,hb2⟩
   rw [hK,hL] at hk
   have g1:get ([n,m].zip [b1,d1]) n=some b1:=by simp [get,CH]
   have g2:get ([n,m].zip [b1,d1]) m=some d1:=by simp [get,CH,hnm']
   refine ⟨U,hU,fun dst _=>⟨M',σ,Qa hk fun b hb => ?_,rfl,hR σ,fun q bq hq => ?_⟩⟩
   ·rcases hb with h | h
    ·exact ⟨n,by rw [g1];rfl,h⟩
    exact ⟨m,by rw [g2];rfl,h⟩
   have h1:=hb σ
   have h2:=hb2 σ
   rw [hK] at h1
   rw [hL] at h2
   by_cases e:q=n
   ·subst e;rw [g1] at hq;injection hq with hq;subst hq;exact h1
   by_cases e2:q=m
   ·subst e2;rw [g2] at hq;injection hq with hq;subst hq;exact h2
   simp [get,CH,Ne.symm e,Ne.symm e2] at hq
end
end
section
open Go.RowKit Go.MapKept
section
variable {P:Program} {rd:Option Nat} {N:Nat} {W0:World} {X:Nat→Option Loc} {M0:Nat→Option Obj} {Q:Exit→AS→Prop} {s:AS}
theorem Uo {c:Code} (b:Bool) (h1:b=true->AWp P rd N W0 X M0 c Q s) (h2:b=false->AWp P rd N W0 X M0 c Q s):AWp P rd N W0 X M0 c Q s:=by
 cases hb:b with
 | true=>exact h1 hb
 | false=>exact h2 hb
def AWL (P:Program) (rd:Option Nat) (N:Nat) (W0:World) (X:Nat->Option Loc) (M0:Nat->Option Obj) (ops:Array Oper) (l:List Oper) (K:AS->Prop) (s:AS):Prop :=
 ∀ M σ a w,Sim N W0 X M0 M σ (get s.t) (get s.h) a w->∀ Q':Exit->Act->World->Prop,(∀ s' M' σ' a' w',K s'->Sim N W0 X M0 M' σ' (get s'.t) (get s'.h) a' w'->Q' .normal a' w')->wpListIn (FW rd) 0 P ops Q' l a w
theorem De {id:Nat} {l:List Oper} (h:AWL P rd N W0 X M0 l.toArray l (Q .normal) s):AWp P rd N W0 X M0 (.region id l.toArray false) Q s:=by
 intro M σ a w hs
 exact wpIn_region_lit (h M σ a w hs _ fun s' M' σ' a' w' hk hs'=>⟨s',M',σ',hk,hs'⟩)
theorem Oe {V:Env P} (hV:Jv P V) {ops:Array Oper} {Q':Exit->Act->World->Prop} (l2:List Oper):∀ (l:List Oper) (s s1:AS) (cs:List Prop),Kr P V N ops l s=some (cs,s1)->Bp cs->∀ M σ a w,Sim N W0 X M0 M σ (get s.t) (get s.h) a w->(∀ M' σ' a' w',Sim N W0 X M0 M' σ' (get s1.t) (get s1.h) a' w'->wpListIn (FW rd) 0 P ops Q' l2 a' w')->wpListIn (FW rd) 0 P ops Q' (l++l2) a w
 | [],s,s1,cs,hr,hc,M,σ,a,w,hs,hK=>by
  simp only [Kr,Option.some.injEq,Prod.mk.injEq] at hr
  obtain ⟨_,rfl⟩:=hr
  exact hK M σ a w hs
 | o::l,s,s1,cs,hr,hc,M,σ,a,w,hs,hK=>by
  simp only [Kr] at hr
  split at hr
  ·rename_i cs1 s2 h1
   split at hr
   ·rename_i ds s3 h2
    simp only [Option.some.injEq,Prod.mk.injEq] at hr
    obtain ⟨rfl,rfl⟩:=hr
    obtain ⟨hc1,hc2⟩:=hc.append
    refine wpListIn_step fun K hK' => ?_
    refine OZ hV h1 hc1 hs (fun _ _=>rfl) (fun _ _=>rfl) (fun hn d hd=>OX h1 hn hd) fun M' σ' a' w' hs'=>hK' _ _ (Oe hV l2 l s2 s3 ds h2 hc2 M' σ' a' w' ?_ hK)
    rw [(EP h1).1,(EP h1).2]
    exact hs'
   cases hr
  cases hr
def QD (P:Program) (V:Env P) (N:Nat) (ops:Array Oper) (l:List Oper) (ts hs:List Nat) (s:AS):Option (List Prop×AS):=match Kr P V N ops l s with
 | some (cs,s1)=>some (cs,Jc ts hs s1)
 | none=>none
theorem GF {E:TypeId->Option (List Kd)} (hE:JE P ⟨fun _=>none,E,fun _=>false,fun _=>none⟩) {ops:Array Oper} {l:List Oper} {K:AS->Prop} (k:Nat) (ow:List Nat) (qs:List (Nat×(Bool×Nat))) (tbl:List (Nat×FuncId×List Av×Ef)) (ts ns:List Nat) (cs:List Prop) (S:AS) (htbl:EN P tbl)
  (hr:QD P ⟨DG tbl,E,A8 ow,get qs⟩ N ops (l.take k) ts ns s=some (cs,S)) (hc:Bp cs) (h:AWL P rd N W0 X M0 ops (l.drop k) K S):AWL P rd N W0 X M0 ops l K s:=by
 have hV:=htbl.env (O:=A8 ow) (q:=get qs) hE
 intro M σ a w hs Q' hQ'
 unfold QD at hr
 split at hr
 ·rename_i cs1 s1 h1
  simp only [Option.some.injEq,Prod.mk.injEq] at hr
  obtain ⟨rfl,rfl⟩:=hr
  have key:=Oe (Q':=Q') (rd:=rd) hV (l.drop k) (l.take k) s s1 cs1 h1 hc M σ a w hs fun M' σ' a' w' hs'=>h M' σ' a' w' (FO hs' ts ns) Q' hQ'
  rw [List.take_append_drop] at key
  exact key
 cases hr
theorem Ev {E:TypeId->Option (List Kd)} (hE:JE P ⟨fun _=>none,E,fun _=>false,fun _=>none⟩) {ops:Array Oper} {l:List Oper} {K:AS->Prop} (ow:List Nat) (qs:List (Nat×(Bool×Nat))) (tbl:List (Nat×FuncId×List Av×Ef)) (ts ns:List Nat) (cs:List Prop) (S:AS) (htbl:EN P tbl)
  (hr:QD P ⟨DG tbl,E,A8 ow,get qs⟩ N ops l ts ns s=some (cs,S)) (hc:Bp cs) (h:K S):AWL P rd N W0 X M0 ops l K s:=by
 have hV:=htbl.env (O:=A8 ow) (q:=get qs) hE
 intro M σ a w hs Q' hQ'
 unfold QD at hr
 split at hr
 ·rename_i cs1 s1 h1
  simp only [Option.some.injEq,Prod.mk.injEq] at hr
  obtain ⟨rfl,rfl⟩:=hr
  exact Nd (Q':=Q') (rd:=rd) hV l s s1 cs1 h1 hc M σ a w hs fun M' σ' a' w' hs'=>hQ' _ M' σ' a' w' h (FO hs' ts ns)
 cases hr
theorem gX (n:Nat) (b b':Blk) (hn:get s.h n=some b) (hb:∀ M σ w x,BT M σ w x b->BT M σ w x b'):Cv N W0 X M0 s ⟨s.t,put s.h n b'⟩:=by
 intro M σ a w hs
 have hk:∀ m c,get (put s.h n b') m=some c->∃ b0,get s.h m=some b0/\(BT M σ w (σ m) b0->BT M σ w (σ m) c):=fun m c hm=>by
  rw [Ii] at hm
  split at hm
  ·rename_i e
   subst e
   injection hm with hm
   subst hm
   exact ⟨b,hn,hb M σ w _⟩
  exact ⟨c,hm,id⟩
 refine ⟨M,σ,hs.os,hs.tape,hs.output,hs.size,hs.old,hs.sub,hs.new,hs.pin,hs.defers,hs.room,hs.tmps,hs.imm,fun m c hm => ?_,fun m c hm => ?_,fun m k c c' hm hk' hne => ?_⟩
 ·obtain ⟨b0,e1,e2⟩:=hk m c hm;exact e2 (hs.blk m b0 e1)
 ·obtain ⟨b0,e1,_⟩:=hk m c hm;exact hs.loc m b0 e1
 obtain ⟨b0,e1,_⟩:=hk m c hm;obtain ⟨b0',e1',_⟩:=hk k c' hk';exact hs.inj m k b0 b0' e1 e1' hne
def Qw:Nat->List (List Cl)->List (Nat×List Cl)
 | _,[]=>[]
 | k,l::r=>(k,l)::Qw (k+1) r
theorem KA:∀ (ls:List (List Cl)) (k i:Nat),get (Qw k ls) i=if k<=i then ls[i-k]? else none
 | [],k,i=>by simp [Qw,get]
 | l::r,k,i=>by
  simp only [Qw,get,CH]
  by_cases h:k=i
  ·subst h;simp
  simp only [h,decide_false,cond_false]
  rw [KA r (k+1) i]
  by_cases h2:k<=i
  ·rw [if_pos (by omega),if_pos h2,show i-k=(i-(k+1))+1 by omega,List.getElem?_cons_succ]
  rw [if_neg (by omega),if_neg h2]
theorem gT {s:AS} (S:AS) (n sz len:Nat) (f:Nat->Nat->Cl) (ty:TypeId) (hn:get s.h n=some (.row sz len f ty)) (hl:Nat.blt 0 len=true) (hS:(⟨s.t,put s.h n (.rowx sz len (fun _ _=>default) ty (Qw 0 ((List.range len).map fun i=>Gf f i 0 sz)))⟩:AS)=S):Cv N W0 X M0 s S:=by
 subst hS
 have h0:0<len:=by
  have h1:Nat.ble (0+1) len=true:=hl
  exact Nat.le_of_ble_eq_true h1
 refine gX n _ _ hn fun M σ w x hb => ?_
 rcases hb with ⟨_,h⟩ | ⟨e0,c,e1,e2,e3,e4,g,e5⟩
 ·omega
 refine ⟨e0,c,e1,e2,e3,e4,g,fun i j hi hj=>⟨(e5 i j hi hj).1,fun hno => ?_⟩,fun i l hl => ?_⟩
 ·rw [KA] at hno
  simp [hi] at hno
 rw [KA,if_pos (Nat.zero_le _),Nat.sub_zero,List.getElem?_map] at hl
 by_cases hi:i<len
 ·rw [List.getElem?_range hi] at hl
  simp only [Option.map_some,Option.some.injEq] at hl
  subst hl
  refine ⟨hi,L2.of (by simp [Dc]) fun j a b ha hb => ?_⟩
  have hj:j<sz:=by have:=(List.getElem?_eq_some_iff.1 ha).1;rwa [Dc] at this
  rw [Il _ _ _ _ _ hj,Nat.zero_add] at ha
  injection ha with ha
  subst ha
  rw [List.getElem?_map,List.getElem?_range hj] at hb
  simp only [Option.map_some,Option.some.injEq] at hb
  subst hb
  exact Mm (e5 i j hi hj).2
 rw [List.getElem?_eq_none (by simp;omega)] at hl
 cases hl
theorem gW {s:AS} (S:AS) (n sz len:Nat) (f:Nat->Nat->Cl) (ty:TypeId) (ls:List (List Cl)) (hn:get s.h n=some (.rowx sz len f ty (Qw 0 ls))) (hlen:Nat.beq ls.length len=true) (hsz:ls.all (fun l=>Nat.beq l.length sz&&l.all Cl.dv)=true) (hS:(⟨s.t,put s.h n (.row sz len (BG sz len ls.flatten) ty)⟩:AS)=S):Cv N W0 X M0 s S:=by
 subst hS
 have hlen:=Nat.eq_of_beq_eq_true hlen
 refine gX n _ _ hn fun M σ w x hb => ?_
 obtain ⟨e0,c,e1,e2,e3,e4,g,e5,e6⟩:=hb
 refine .inr ⟨e0,c,e1,e2,e3,e4,g,fun i j hi hj=>⟨(e5 i j hi hj).1,?_⟩⟩
 have hil:i<ls.length:=by omega
 have hmem:=List.getElem_mem hil
 have hall:=(List.all_eq_true.1 hsz) _ hmem
 simp only [Bool.and_eq_true] at hall
 have hli:=Nat.eq_of_beq_eq_true hall.1
 obtain ⟨_,hL⟩:=e6 i ls[i] (by rw [KA,if_pos (Nat.zero_le _),Nat.sub_zero,List.getElem?_eq_getElem hil])
 have hflat:∀ (q:List (List Cl)) (i j:Nat) (hi:i<q.length),(∀ l∈q,l.length=sz)->j<sz->q.flatten[i*sz+j]? = q[i][j]? := by
  intro q
  induction q with
  | nil=>intro i j hi;simp at hi
  | cons l r ih =>
   intro i j hi hall hj
   have h1:=hall l (by simp)
   cases i with
   | zero=>simp [List.getElem?_append,h1,hj]
   | succ i =>
    rw [List.flatten_cons,List.getElem?_append_right (by rw [h1,Nat.add_mul];omega),h1,show (i+1)*sz+j-sz=i*sz+j by rw [Nat.add_mul];omega]
    simpa using ih i j (by simpa using hi) (fun l hl=>hall l (by simp [hl])) hj
 have hjl:j<ls[i].length:=by omega
 rw [Uf _ _ _ _ _ hi,List.getD_eq_getElem?_getD,hflat ls i j hil (fun l hl=>by
  have h:=(List.all_eq_true.1 hsz) l hl
  simp only [Bool.and_eq_true] at h
  exact Nat.eq_of_beq_eq_true h.1) hj,List.getElem?_eq_getElem hjl,Option.getD_some]
 obtain ⟨v,hv,hR⟩:=hL.get j _ (List.getElem?_eq_getElem hjl)
 rw [List.getElem?_map,List.getElem?_range hj] at hv
 simp only [Option.map_some,Option.some.injEq] at hv
 subst hv
 exact Ln ((List.all_eq_true.1 hall.2) _ (List.getElem_mem hjl)) hR
end
end
section
open Go.RowKit Go.MapKept
def Pv (is:List Nat):Nat->List Cl->List Cl->List Cl
 | k,x::a,y::b=>(bif A8 is k then x else y)::Pv is (k+1) a b
 | _,_,_=>[]
def Vi (is:List Nat) (vs:Nat->Value):Nat->List Cl->List Cl
 | k,y::b=>(bif A8 is k then .val (vs k) else y)::Vi is vs (k+1) b
 | _,[]=>[]
section
variable {P:Program} {M M':Nat→Option Obj} {σ σ':Nat→Loc} {w w':World}
theorem XN (is:List Nat) (vs:Nat->Value):∀ (k:Nat) (l l0:List Cl) (c:List Value),l=Pv is k l l0->l.length=l0.length->(∀ j,j<c.length->vs (k+j)=c.getD j undef)->(∀ x∈l0,x.dv=true\/True)->L2 (R M σ) l c->L2 (R M σ) (Vi is vs k l0) c
 | k,[],[],c,_,_,_,_,h=>by cases h;exact .nil
 | k,[],_::_,c,_,hl,_,_,h=>by simp at hl
 | k,_::_,[],c,_,hl,_,_,h=>by simp at hl
 | k,x::l,y::l0,c,he,hl,hv,hd,h=>by
  cases h with
  | cons h1 h2 =>
   rename_i v c
   simp only [Pv,List.cons.injEq] at he
   refine .cons ?_ (XN is vs (k+1) l l0 c he.2 (by simpa using hl) (fun j hj=>by
    have:=hv (j+1) (by simp;omega)
    rw [show k+1+j=k+(j+1) by omega,this];rfl) (fun x hx=>.inr trivial) h2)
   cases hm:A8 is k with
   | true =>
    have:=hv 0 (by simp)
    simp only [cond_true]
    exact ⟨by rw [show k=k+0 from rfl,this];rfl,by rw [show k=k+0 from rfl,this];exact KZ h1⟩
   | false =>
    rw [hm] at he
    simp only [cond_false] at he ⊢
    rw [<- he.1];exact h1
theorem TM (is:List Nat) (vs:Nat->Value) (hM:∀ b o,M b=some o->M' b=some o):∀ (k:Nat) (l l1:List Cl) (c c':List Value),l.length=l1.length->(∀ j,j<c.length->vs (k+j)=c.getD j undef)->L2 (R M σ) l c->L2 (R M' σ) (Vi is vs k l1) c'->L2 (R M' σ) (Pv is k l l1) c'
 | k,[],[],c,c',_,_,_,h=>by cases h;exact .nil
 | k,[],_::_,c,c',hl,_,_,h=>by simp at hl
 | k,_::_,[],c,c',hl,_,_,h=>by simp at hl
 | k,x::l,y::l1,c,c',hl,hv,h0,h=>by
  cases h0 with
  | cons h1 h2 =>
   rename_i v c
   simp only [Vi] at h
   cases h with
   | cons h3 h4 =>
    simp only [Pv]
    refine .cons ?_ (TM is vs hM (k+1) l l1 c _ (by simpa using hl) (fun j hj=>by
     have:=hv (j+1) (by simp;omega)
     rw [show k+1+j=k+(j+1) by omega,this];rfl) h2 h4)
    cases hm:A8 is k with
    | true =>
     rw [hm] at h3
     have h5:=h3.1
     have h6:=hv 0 (by simp)
     rw [h5,show k=k+0 from rfl,h6]
     exact CM hM (fun _ _=>rfl) h1
    | false=>rw [hm] at h3;exact h3
theorem jL {hh:Nat->Option Blk} {f:FuncId} {K L n m:Nat} {xs:List Av} {args:List Value} {b d b0 d0 b1 d1:Blk} {r:Tv} (hx:xs.all (Oh K L)=true) (hKL:Nat.beq K L=false) (hnm':n≠m) (hs:Std M σ w hh) (hn:hh n=some b) (hm:hh m=some d) (hnil:(σ n).nil=false) (hnil2:(σ m).nil=false) (hblk:∀ σ',(∀ q,q≠K->q≠L->σ' q=σ q)->BT M σ' w (σ n) b0) (hblk2:∀ σ',BT M σ' w (σ m) d0)
  (hargs:L2 (RA M σ) (xs.map (Fo K n L m)) args) (h:Wr2 P f K L xs b0 d0 r b1 d1):Calls P f args.toArray w (fun en w'=>∃ U,en=.returned U/\∃ M',F3 w w' M M' (fun b=>only (σ n) b\/only (σ m) b)/\(∀ σ',RT M' σ' r U)/\(∀ σ',BT M' σ' w' (σ n) b1)/\∀ σ',BT M' σ' w' (σ m) d1):=by
 have hne:K≠L:=fun e=>by rw [e,Nat.beq_refl] at hKL;cases hKL
 have hM:M (σ n).b=none:=by
  rcases hs.loc n _ hn with h | h
  ·rw [hnil] at h;cases h
  exact h
 have hM2:M (σ m).b=none:=by
  rcases hs.loc m _ hm with h | h
  ·rw [hnil2] at h;cases h
  exact h
 have hbne:(σ n).b≠(σ m).b:=by
  rcases hs.inj n m _ _ hn hm hnm' with h | h | h
  ·rw [hnil] at h;cases h
  ·rw [hnil2] at h;cases h
  exact h
 let σ2:Nat->Loc:=upd (upd σ K (σ n)) L (σ m)
 have hL:σ2 L=σ m:=A2 _ _ _
 have hK:σ2 K=σ n:=by
  show upd _ L _ K=_
  rw [Bw _ _ hne];exact A2 _ _ _
 have hrest:∀ q,q≠K->q≠L->σ2 q=σ q:=fun q h1 h2=>by
  show upd _ L _ q=_
  rw [Bw _ _ h2,Bw _ _ h1]
 have hargs2:L2 (RA M σ2) xs args:=by
  refine L2.of (by have:=hargs.length;simpa using this) fun i x V hxi hV => ?_
  obtain ⟨V',hV',hR⟩:=hargs.get i (Fo K n L m x) (by rw [List.getElem?_map,hxi];rfl)
  rw [hV] at hV';injection hV' with hV';subst hV'
  have hok:=(List.all_eq_true.1 hx) x (List.mem_of_getElem? hxi)
  unfold Oh at hok
  split at hok
  ·rename_i q off
   by_cases hq:q=K
   ·subst hq
    simp only [Fo,Nat.beq_refl,cond_true] at hR
    have hR':V=.pointer (some ⟨(σ n).b,off,none⟩):=hR
    show V=.pointer (some ⟨(σ2 q).b,off,none⟩)
    rw [hK];exact hR'
   have hqb:Nat.beq q K=false:=by
    cases hb:Nat.beq q K with
    | false=>rfl
    | true=>exact absurd (Nat.eq_of_beq_eq_true hb) hq
   rw [hqb] at hok
   have:=Nat.eq_of_beq_eq_true hok
   subst this
   simp only [Fo,hqb,Nat.beq_refl,cond_true,cond_false] at hR
   have hR':V=.pointer (some ⟨(σ m).b,off,none⟩):=hR
   show V=.pointer (some ⟨(σ2 q).b,off,none⟩)
   rw [hL];exact hR'
  rename_i hnp
  have:Fo K n L m x=x:=by
   unfold Fo
   split
   ·rename_i q off;exact (hnp q off rfl).elim
   rfl
  rw [this] at hR
  exact HO (σ':=σ2) (r:=.av x) hok hR
 refine (h M σ2 w args hs.imm (by rw [hK];exact ⟨hblk σ2 hrest,hnil,hM⟩) (by rw [hL];exact ⟨hblk2 σ2,hnil2,hM2⟩) (by rw [hK,hL];exact hbne) hargs2).mono ?_
 rintro en w' ⟨U,hU,M',hk,hR,hb,hb2⟩
 rw [hK,hL] at hk
 refine ⟨U,hU,M',hk,hR,fun σ' => ?_,fun σ' => ?_⟩
 ·have:=hb σ';rw [hK] at this;exact this
 have:=hb2 σ';rw [hL] at this;exact this
def wqV (n m:Nat) (is:List Nat) (l0:List Cl) (ty:TypeId) (d0:Blk) (r:Tv) (d1:Blk):Ef:=.wq m n fun y x=>match x with
 | .cells l ty'=>bif Nat.beq l.length l0.length then some ([Blk.cells l ty'=.cells (Pv is 0 l l0) ty,y=d0],r,d1) else none
 | _=>none
theorem Iy {f:FuncId} {K L n m:Nat} {xs:List Av} {is:List Nat} {l0:List Cl} {ty:TypeId} {d0 d1:Blk} {r:Tv} {B0:(Nat->Value)->List Cl} (h1:∀ args w,(callFunc f args).run P w=.ok (.enter f args) w) (hx:xs.all (Oh K L)=true) (hKL:Nat.beq K L=false) (hnm:Nat.beq n m=false) (hd2:Jl d0=true) (hdl:∀ vs,(Vi is vs 0 l0).all Cl.dv=true)
  (e0:∀ vs,Vi is vs 0 l0=B0 vs) (h:∀ vs,Wr2 P f K L xs (.cells (B0 vs) ty) d0 r (.cells (B0 vs) ty) d1):DK P f (xs.map (Fo K n L m)) (wqV n m is l0 ty d0 r d1):=by
 have hnm':n≠m:=fun e=>by rw [e,Nat.beq_refl] at hnm;cases hnm
 refine .inl ⟨h1,fun M σ w hh args cs' g hs hargs hres hc => ?_⟩
 simp only [wqV,res] at hres
 cases hm:hh m with
 | none=>rw [hm] at hres;cases hres
 | some d =>
  cases hn:hh n with
  | none=>rw [hn,hm] at hres;cases hres
  | some b =>
   rw [hn,hm] at hres
   cases b with
   | row=>simp at hres
   | omap=>simp at hres
   | rowx=>simp at hres
   | cells l ty' =>
    simp only at hres
    cases hlen:Nat.beq l.length l0.length with
    | false=>rw [hlen] at hres;simp at hres
    | true =>
     have hmn:Nat.beq m n=false:=by
      cases hb:Nat.beq m n with
      | false=>rfl
      | true=>exact absurd (Nat.eq_of_beq_eq_true hb).symm hnm'
     rw [hlen,hmn] at hres
     simp only [cond_true,Option.some.injEq,Prod.mk.injEq] at hres
     obtain ⟨rfl,rfl⟩:=hres
     have hlen0:=Nat.eq_of_beq_eq_true hlen
     have hbd:=hc.head
     have hdd:=hc.tail.head
     subst hdd
     injection hbd with hl hty
     subst hty
     obtain ⟨hnil,c,hheap,hL⟩:=hs.blk n _ hn
     have hblk2:=hs.blk m _ hm
     have hnil2:(σ m).nil=false:=by
      cases d with
      | row=>cases hd2
      | omap=>cases hd2
      | rowx=>cases hd2
      | cells l ty=>exact hblk2.1
     let vs:Nat->Value:=fun k=>c.getD k undef
     have hvs:∀ j,j<c.length->vs (0+j)=c.getD j undef:=fun j _=>by simp only [vs,Nat.zero_add]
     have hin:L2 (R M σ) (Vi is vs 0 l0) c:=XN is vs 0 l l0 c hl hlen0 hvs (fun _ _=>.inr trivial) hL
     have hcall:=jL (b0:=Blk.cells (B0 vs) ty') (b1:=Blk.cells (B0 vs) ty') hx hKL hnm' hs hn hm hnil hnil2 (fun σ' _=>⟨hnil,c,hheap,by rw [<- e0 vs];exact hin.mono fun a ha v hv=>(KM ((List.all_eq_true.1 (hdl vs)) a ha)).2 ((KM ((List.all_eq_true.1 (hdl vs)) a ha)).1 hv)⟩) (fun σ'=>GC hd2 hblk2) hargs (h vs)
     refine hcall.mono ?_
     rintro en w' ⟨U,hU,M',hk,hR,hb,hb2⟩
     refine ⟨U,hU,fun dst _=>⟨M',σ,Qa hk fun b hb=>hb.symm,rfl,hR σ,hb2 σ,?_⟩⟩
     obtain ⟨k1,c',k2,k3⟩:=hb σ
     refine ⟨k1,c',k2,?_⟩
     rw [<- e0 vs] at k3
     have k4:=TM is vs hk.sub 0 l l0 c c' hlen0 hvs hL k3
     rw [<- hl] at k4
     exact k4
end
end
section
open Go.RowKit Go.MapKept
def XL (P:Program) (V:Env P) (N:Nat) (o:Oper) (G:Prop) (s:AS):Option (List Prop×AS):=match eff P V o.dst o.op (evG (get s.t) (G8 o.op)) with
 | some e=>match res (get s.h) e with
  | some (cs,g)=>bif IE N s o.dst g then some (KV (get s.t) G (G8 o.op)++cs,UQ s o.dst g) else none
  | none=>none
 | none=>none
section
variable {P:Program} {rd:Option Nat} {N:Nat} {W0:World} {X:Nat→Option Loc} {M0:Nat→Option Obj} {s:AS}
theorem PZ {E:TypeId->Option (List Kd)} (hE:JE P ⟨fun _=>none,E,fun _=>false,fun _=>none⟩) {ops:Array Oper} {o:Oper} {l:List Oper} {K:AS->Prop} (j:Nat) (want:Bool) (G:Prop) (qs:List (Nat×(Bool×Nat))) (tbl:List (Nat×FuncId×List Av×Ef)) (cs:List Prop) (S:AS) (hg:o.guard=some (j,want)) (hG:Gd (get s.t) ops j want=some G) (hGp:G) (htbl:EN P tbl)
  (hst:XL P ⟨DG tbl,E,A8 [],get qs⟩ N o G s=some (cs,S)) (hc:Bp cs) (h:AWL P rd N W0 X M0 ops l K S):AWL P rd N W0 X M0 ops (o::l) K s:=by
 have hV:=htbl.env (O:=A8 []) (q:=get qs) hE
 intro M σ a w hs Q' hQ'
 refine wpListIn_step fun K0 hK' => ?_
 rw [if_pos ((EY hs.tmps hs.room hg hG).2 hGp)]
 unfold XL at hst
 split at hst
 ·rename_i e he
  split at hst
  ·rename_i cs' g hr
   cases hok:IE N s o.dst g with
   | false=>rw [hok] at hst;cases hst
   | true =>
    rw [hok] at hst
    simp only [cond_true,Option.some.injEq,Prod.mk.injEq] at hst
    obtain ⟨rfl,rfl⟩:=hst
    obtain ⟨hc1,hc2⟩:=hc.append
    have hgo0:=J9 hok (fun n v b hg=>by subst hg;exact Rx hr) (fun l v hg=>by subst hg;exact Nf hr) (fun n q v b bq hg=>by subst hg;exact Ry hr) (fun n b v hg=>by subst hg;exact Ng hr)
    refine (SZ hV (fun x v hv=>Wa hGp hc1 hs.tmps hv) he hs.std hr hc2 (ST hgo0)).wp ?_ (fun c hc=>by rw [hc] at he;cases he)
    rintro U w' ⟨M',σ',ho⟩
    have hsim:=MN hs ho hgo0
    rw [<- (FT s o.dst g).1,<- (FT s o.dst g).2] at hsim
    exact hK' _ _ (h M' σ' _ w' hsim Q' hQ')
  cases hst
 cases hst
theorem HM {ops:Array Oper} {o:Oper} {l:List Oper} {K:AS->Prop} (j:Nat) (want:Bool) (G:Prop) (S:AS) (hg:o.guard=some (j,want)) (hG:Gd (get s.t) ops j want=some G) (hGn:¬ G) (hok:IE N s o.dst (.val (.av (.one (.val (.bool false)))))=true) (hS:NW s o.dst (.grd G (.one (.val (.bool false))))=S)
  (h:AWL P rd N W0 X M0 ops l K S):AWL P rd N W0 X M0 ops (o::l) K s:=by
 subst hS
 intro M σ a w hs Q' hQ'
 refine wpListIn_step fun K0 hK' => ?_
 rw [if_neg (fun h=>hGn ((EY hs.tmps hs.room hg hG).1 h))]
 refine ⟨fun _ _=>trivial,?_⟩
 have hgo0:=J9 hok (fun n v b hg=>by cases hg) (fun l v hg=>by cases hg) (fun n q v b bq hg=>by cases hg) (fun n b v hg=>by cases hg)
 have hsim:=MN hs (g:=.val (.grd G (.one (.val (.bool false))))) (V:=undef) (w':=w) (M':=M) (σ':=σ) ⟨F3.refl hs.imm _,rfl,fun h=>absurd h hGn,fun _=>rfl⟩ ⟨hgo0.1,trivial⟩
 rw [<- (FT s o.dst _).1,<- (FT s o.dst _).2] at hsim
 exact hK' _ _ (h M σ _ w hsim Q' hQ')
end
end
section
open Go.RowKit
def NE (c:Cl):Prop:=NM c\/∃ n,c=.ed n
theorem Yb {M M':Nat->Option Obj} (h:∀ b c t f,¬ DM (.cells c t f)->M b=some (.cells c t f)->M' b=some (.cells c t f)) {c:Cl} {V:Value} (hr:RC M c V) (hn:NE c):RC M' c V:=by
 rcases hn with hn | ⟨n,rfl⟩
 ·exact Pc (Zo h) hr hn
 cases hr with
 | edn=>exact .edn
 | ed len b off cap c h1 h2 h3=>exact .ed _ b off cap c (h b c _ _ (fun ⟨n,e⟩=>by unfold HJ at e;injection e with e1 e2;cases e2) h1) h2 h3
theorem sI {M M':Nat->Option Obj} (h:∀ b c t f,¬ DM (.cells c t f)->M b=some (.cells c t f)->M' b=some (.cells c t f)) {σ:Nat->Loc} {c:Cl} {V:Value} (hr:R M σ c V) (hn:NE c):R M' σ c V:=by
 rcases hn with hn | ⟨n,rfl⟩
 ·exact YZ (Zo h) hr hn
 exact Yb h hr (.inr ⟨n,rfl⟩)
def BkN:Blk->Prop
 | .cells l _=>∀ c∈l,NE c
 | .row _ _ f _=>∀ i j,NE (f i j)
 | .omap _ _ _ _ vf=>∀ i j,NM (vf i j)
 | .rowx .. => False
theorem W3 {M M':Nat->Option Obj} (h:∀ b c t f,¬ DM (.cells c t f)->M b=some (.cells c t f)->M' b=some (.cells c t f)) {σ:Nat->Loc} {w:World} {x:Loc} {b:Blk} (hr:BT M σ w x b) (hn:BkN b):BT M' σ w x b:=by
 cases b with
 | cells l ty =>
  obtain ⟨h0,c,hc,hl⟩:=hr
  exact ⟨h0,c,hc,hl.mono fun a ha b hb=>sI h hb (hn a ha)⟩
 | row sz len f ty =>
  rcases hr with hr | ⟨h0,c,hc,h1,h2,h3,g,hg⟩
  ·exact .inl hr
  exact .inr ⟨h0,c,hc,h1,h2,h3,g,fun i j hi hj=>⟨(hg i j hi hj).1,Yb h (hg i j hi hj).2 (hn i j)⟩⟩
 | omap agg nv len kf vf =>
  obtain ⟨h0,es,ck,g,hc,h1,h2,h3⟩:=hr
  exact ⟨h0,es,ck,g,hc,h1,h2,fun i j hi hj=>Pc (Zo h) (h3 i j hi hj) (hn i j)⟩
 | rowx=>exact hn.elim
def Blk.isP:Blk->Bool
 | .cells .. => true
 | .omap .. => true
 | _=>false
def Blk.isR:Blk->Bool
 | .row .. => true
 | _=>false
def slV:Value->Bool
 | .slice (some _) _ _=>true
 | _=>false
def SE (o:Obj) (k:Nat):Option Value:=match o with
 | .cells c _ _=>c[k]?
 | _=>none
def JD (bq off:Nat) (W:World) (b:Nat):Prop:=∃ o len cap,W.heap[bq]? = some o/\SE o off=some (.slice (some ⟨b,0,none⟩) len cap)
def O8 (q off r:Nat) (h:List (Nat×Blk)):Bool:=match get h q with
 | some (.cells l _)=>(match get h r with
  | some (.row ..)=>(match l[off]? with
   | some (.own r' _ _)=>Nat.beq r' r
   | _=>false)
  | none=>(match l[off]? with
   | none=>true
   | some (.val v) => !slV v
   | some (.ptr ..)=>true
   | _=>false)
  | _=>false)
 | _=>false
def PXr (pids:List Nat) (r:Nat) (G:Prop) (X:Nat->Option Loc):Prop:=∀ m x,X m=some x->(∃ q,A8 pids q=true/\∃ y,X q=some y/\y.b=x.b)\/(m=r/\G/\x.nil=false)
section
variable {N:Nat} {W0 W W':World} {X XA:Nat→Option Loc} {M0 M M' M3:Nat→Option Obj} {σ σ' σ3:Nat→Loc} {T T':Nat→Option Tv} {H H':Nat→Option Blk} {a a':Act} {h:List (Nat×Blk)} {q off r:Nat}
theorem SR (hs:Sim N W0 X M0 M σ T (get h) a W) (hb:O8 q off r h=true) {b:Nat} (hh:JD (σ q).b off W b):(∃ x,get h r=some x)/\(σ r).nil=false/\(σ r).b=b:=by
 unfold O8 at hb
 cases hq:get h q with
 | none=>rw [hq] at hb;cases hb
 | some bq =>
  rw [hq] at hb
  cases bq with
  | cells l ty =>
   obtain ⟨hn,c,hc,hl⟩:=hs.blk q _ hq
   obtain ⟨o,len,cap,ho,hcell⟩:=hh
   rw [hc] at ho;injection ho with ho;subst ho
   have hcl:c[off]? = some (.slice (some ⟨b,0,none⟩) len cap):=by simpa [SE] using hcell
   have hoff:off<l.length:=by rw [hl.length];exact (List.getElem?_eq_some_iff.1 hcl).1
   have hcl2:l[off]? = some l[off]:=List.getElem?_eq_getElem hoff
   obtain ⟨v,hv,hR⟩:=hl.get off _ hcl2
   rw [hcl] at hv;injection hv with hv;subst hv
   generalize l[off]=cl at hcl2 hR
   cases hr:get h r with
   | none =>
    simp only [hr,hcl2] at hb
    exfalso
    cases cl with
    | val u =>
     obtain ⟨h1,_⟩:=hR
     subst h1
     simp [slV] at hb
    | ptr n o=>cases hR
    | _=>cases hb
   | some br =>
    simp only [hr,hcl2] at hb
    cases br with
    | row sz len' f ty' =>
     cases cl with
     | own r' sz' len'' =>
      have:=Nat.eq_of_beq_eq_true hb
      subst this
      unfold R at hR
      split at hR
      ·cases hR.2
      rename_i hnil
      injection hR with h1
      injection h1 with h1
      injection h1 with h1
      exact ⟨⟨_,rfl⟩,by simpa using hnil,h1.symm⟩
     | _=>cases hb
    | _=>cases hb
  | _=>cases hb
theorem UP (hs:Sim N W0 X M0 M σ T (get h) a W) (hb:O8 q off r h=true) {x:Blk} (hr:get h r=some x) (hn:(σ r).nil=false):JD (σ q).b off W (σ r).b:=by
 unfold O8 at hb
 cases hq:get h q with
 | none=>rw [hq] at hb;cases hb
 | some bq =>
  rw [hq] at hb
  cases bq with
  | cells l ty =>
   obtain ⟨_,c,hc,hl⟩:=hs.blk q _ hq
   simp only [hr] at hb
   cases x with
   | row sz len' f ty' =>
    cases hcl:l[off]? with
    | none=>simp only [hcl] at hb;cases hb
    | some cl =>
     simp only [hcl] at hb
     cases cl with
     | own r' sz' len'' =>
      have:=Nat.eq_of_beq_eq_true hb
      subst this
      obtain ⟨v,hv,hR⟩:=hl.get off _ hcl
      unfold R at hR
      rw [hn] at hR
      exact ⟨_,len'',(σ r').cap,hc,by simp only [SE,List.getElem?_toArray];rw [hv];exact congrArg some hR⟩
     | _=>cases hb
   | _=>cases hb
  | _=>cases hb
theorem cI {Xr X2:Nat->Option Loc} (hs:Sim N W0 XA M0 M' σ' T H a W) (hr:Sim N W Xr M' M3 σ3 T' H' a' W') (hin:∀ b,inX Xr b->inX XA b\/W0.heap.size<=b)
  {H2:Nat->Option Blk} (hH2:∀ n b,H2 n=some b->H' n=some b) (hH:∀ n b,H2 n=some b->BkN b) {a2:Act} {T2:Nat->Option Tv} (hsz:a2.tmps.size=N) (hT2:∀ i v,T2 i=some v->RT (KL M' M3) σ3 v (a2.tmps.getD i undef)) (hX2:∀ n x,X2 n=some x->N<=n/\σ3 n=x) (hX3:∀ b,inX XA b↔inX X2 b) (hd:Jw X2 M0 (KL M' M3) a2.defers) :
  Sim N W0 X2 M0 (KL M' M3) σ3 T2 H2 a2 W':=by
 have hsub:∀ b o,M' b=some o->M3 b=some o:=hr.sub
 refine ⟨hr.os.trans hs.os,hr.tape.trans hs.tape,hr.output.trans hs.output,Nat.le_trans hs.size hr.size,fun b hb hx => ?_,fun b o h=>Gz (hs.sub b o h),fun b o h h' => ?_,hX2,hd,hsz,hT2,fun b o h=>hr.imm b o (IK hsub h),fun n b h=>W3 (PM hsub) (hr.blk n b (hH2 n b h)) (hH n b h),fun n b h => ?_,fun n m b c hb hc hne=>hr.inj n m b c (hH2 n b hb) (hH2 m c hc) hne⟩
 ·have h1:¬ inX XA b:=fun h=>hx ((hX3 b).1 h)
  refine (hr.old b (Nat.lt_of_lt_of_le hb hs.size) fun h => ?_).trans (hs.old b hb h1)
  rcases hin b h with h | h
  ·exact h1 h
  omega
 ·cases h1:M' b with
  | some o'=>exact hs.new b o' h1 h'
  | none=>exact Nat.le_trans hs.size (hr.new b o (IK hsub h) h1)
 refine (hr.loc n b (hH2 n b h)).imp id fun h=>⟨?_,?_⟩
 ·cases hc:KL M' M3 (σ3 n).b with
  | none=>rfl
  | some o=>have:=IK hsub hc;rw [h.1] at this;cases this
 rcases h.2 with h | h
 ·exact .inl (Nat.le_trans hs.size h)
 rcases hin _ h with h | h
 ·exact .inr ((hX3 _).1 h)
 exact .inl h
theorem Vf (hs:Sim N W0 X M0 M σ T H a W) {row:Option Nat} (hH:∀ n b,H n=some b->b.isM=true->∀ r,row=some r->(σ n).b<r) (hg:W.grownBy W' row) (hr:∀ r,row=some r->W0.heap.size<=r/\(∃ o:Obj,W.heap[r]? = some o/\o.isCells=false)/\M r=none):Sim N W0 X M0 M σ T H a W':=by
 have hsame:∀ b (o:Obj),W.heap[b]? = some o->(o.isCells=true\/M b=some o\/b<W0.heap.size)->W'.heap[b]? = some o:=fun b o hb hc=>by
  refine (hg.block b (Array.getElem?_eq_some_iff.1 hb).1 fun e => ?_).trans hb
  obtain ⟨h1,⟨o',h2,h3⟩,h4⟩:=hr b e.symm
  rw [hb] at h2;injection h2 with h2;subst h2
  rcases hc with h | h | h
  ·rw [h3] at h;cases h
  ·rw [h4] at h;cases h
  omega
 refine ⟨hg.os.trans hs.os,hg.tape.trans hs.tape,hg.output.trans hs.output,Nat.le_trans hs.size hg.size,fun b hb hx => ?_,hs.sub,hs.new,hs.pin,hs.defers,hs.room,hs.tmps,fun b o h=>(hs.imm b o h).elim (fun e=>.inl ⟨hsame b o e.1 (.inr (.inl h)),e.2⟩) fun k=>k.elim (fun ⟨n,c,ty,e1,e2,e3⟩=>.inr (.inl ⟨n,c,ty,e1,hsame b _ e2 (.inl rfl),e3⟩)) fun ⟨c,ty,t,f,e1,e2,e3⟩=>.inr (.inr ⟨c,ty,t,f,e1,hsame b _ e2 (.inl rfl),e3⟩),fun n b h => ?_,hs.loc,hs.inj⟩
 ·have h1:=hs.old b hb hx
  have h2:W0.heap[b]? = some W0.heap[b]:=Array.getElem?_eq_getElem hb
  rw [h2] at h1 ⊢
  exact hsame b _ h1 (.inr (.inr hb))
 refine (hs.blk n b h).mono (fun _ _ h=>h) (fun _ _=>rfl) fun hn => ?_
 have hb:=hs.blk n b h
 cases b with
 | cells l ty=>obtain ⟨_,c,hc,_⟩:=hb;rw [hc];exact hsame _ _ hc (.inl rfl)
 | row sz len f ty =>
  rcases hb with ⟨h0,_⟩ | ⟨_,c,hc,_⟩
  ·rw [hn] at h0;cases h0
  rw [hc];exact hsame _ _ hc (.inl rfl)
 | omap =>
  obtain ⟨_,es,ck,g,hc,_⟩:=hb
  exact hg.block _ (Array.getElem?_eq_some_iff.1 hc).1 fun e=>by have:=hH n _ h rfl _ e.symm;omega
 | rowx sz len f ty hh=>obtain ⟨_,c,hc,_⟩:=hb;rw [hc];exact hsame _ _ hc (.inl rfl)
theorem QB {fid:Nat} {XB:Nat->Option Loc} {σ2:Nat->Loc} (hs:Sim N W0 XA M0 M' σ' T H a W) {a2:Act} (hd:a2.defers=[]) (hr:a2.tmps.size=N) (hpin:∀ n x,XB n=some x->N<=n/\σ2 n=x) (hσ:∀ n,n≠fid->σ2 n=σ' n)
  (hT:∀ i v,T' i=some v->RT M' σ' v (a2.tmps.getD i undef)/\v.no fid=true) (hHf:∀ n b,H n=some b->n≠fid/\b.no fid=true/\((σ' n).nil=true\/inX XB (σ' n).b)):Sim N W XB M' M' σ2 T' H a2 W:=by
 refine ⟨rfl,rfl,rfl,Nat.le_refl _,fun _ _ _=>rfl,fun _ _ h=>h,fun b o h h'=>by (rw [h] at h';cases h'),hpin,⟨by rw [hd];trivial,fun _=>hd⟩,hr,fun i v hv=>D6 (fun _ _ h=>h) (fun d hd=>hσ d fun e => ?_) (hT i v hv).1,hs.imm,fun n b hb => ?_,fun n b hb => ?_,fun n m b c hb hc hne => ?_⟩
 ·subst e;rw [(hT i v hv).2] at hd;cases hd
 ·obtain ⟨h1,h2,h3⟩:=hHf n b hb
  rw [hσ n h1]
  exact (hs.blk n b hb).mono (fun _ _ h=>h) (fun d hd=>hσ d fun e=>by subst e;rw [h2] at hd;cases hd) (fun _=>rfl)
 ·obtain ⟨h1,h2,h3⟩:=hHf n b hb
  rw [hσ n h1]
  rcases hs.loc n b hb with h4 | h4
  ·exact .inl h4
  exact h3.imp id fun h=>⟨h4.1,.inr h⟩
 rw [hσ n (hHf n b hb).1,hσ m (hHf m c hc).1]
 exact hs.inj n m b c hb hc hne
end
end
section
open Go.RowKit
def XT (N:Nat) (pids:List Nat) (fid q r:Nat) (t0:List (Nat×Tv)) (ps:Array Tmp):Bool :=
 t0.all (fun p=>pvT pids p.2)&&(pids.all (fun m=>Nat.ble N m)&&(!A8 pids fid&&(!A8 pids r&&(!Nat.beq r fid&&(Nat.ble N fid&&(Nat.ble N r&&(A8 pids q&&ps.toList.all (fun p=>Nat.blt p N))))))))
def famB (pids:List Nat) (fid q off r:Nat) (h:List (Nat×Blk)):Bool :=
 h.all (fun p=>(A8 pids p.1&&p.2.isP||Nat.beq p.1 r&&p.2.isR)&&p.2.no fid)&&(pids.all (fun m=>(get h m).isSome)&&O8 q off r h)
def HsN (h:List (Nat×Blk)):Prop:=∀ n b,get h n=some b->BkN b
theorem Jm {l:List Cl} {ty:TypeId} (h:∀ c∈l,NM c):BkN (.cells l ty):=fun c hc=>.inl (h c hc)
theorem iO {α:Type} [Inhabited α] {sz len:Nat} {c:α->List Cl} {xs:List α} {ty:TypeId} (h:∀ x,∀ y∈c x,NE y):BkN (.row sz len (AP c xs) ty):=fun i j=>by
 unfold AP
 rw [List.getD_eq_getElem?_getD]
 cases hj:(c (xs.getD i default))[j]? with
 | none=>exact .inl (.val _)
 | some y=>exact h _ y (List.mem_of_getElem? hj)
theorem oY {α:Type} [Inhabited α] {sz len:Nat} {c:α->List Cl} {xs:List α} {ty:TypeId} (h:∀ x,∀ y∈c x,NM y):BkN (.row sz len (AP c xs) ty):=iO fun x y hy=>.inl (h x y hy)
theorem YQ {κ α:Type} [Inhabited κ] [Inhabited α] {agg:Bool} {nv len:Nat} {kf:Nat->Value} {c:α->List Cl} {xs:List (κ×α)} (h:∀ x,∀ y∈c x,NM y):BkN (.omap agg nv len kf (vfG c xs)):=fun i j=>by
 unfold vfG
 rw [List.getD_eq_getElem?_getD]
 cases hj:(c (xs.getD i default).2)[j]? with
 | none=>exact .val _
 | some y=>exact h _ y (List.mem_of_getElem? hj)
def iV (pids:List Nat) (n r:Nat) (s:AS):Bool := !Nat.beq r n&&pids.all fun q => !Nat.beq q n&&match get s.h q with | some (.cells ..)=>true | some (.omap ..)=>true | _=>false
section
variable {P:Program} {N:Nat} {W0:World} {X:Nat→Option Loc} {M0:Nat→Option Obj} {s:AS}
theorem IJ (S:AS) (n:Nat) (l:List Cl) (ty:TypeId) (pids:List Nat) (r:Nat) {G:Prop} (hX:PXr pids r G X) (hK:iV pids n r s=true) (hG:G->∃ b,get s.h r=some b) (hn:get s.h n=some (.cells l ty)) (hdv:l.all Cl.dv=true) (hS:fxS n l s=S):Cv N W0 X M0 s S:=by
 subst hS
 intro M σ a w hs
 simp only [iV,Bool.and_eq_true,Bool.not_eq_true'] at hK
 obtain ⟨hrn,hK⟩:=hK
 obtain ⟨M',h1⟩:=XM n l ty (fun hnil=>by
  rintro ⟨m,x,h1,h2⟩
  exfalso
  have key:∀ q y bk,q≠n->X q=some y->y.b=x.b->(σ q).nil=false->get s.h q=some bk->False:=fun q y bk hqn hy hyx h4 hb=>by
   have h5:=(hs.pin q y hy).2
   rcases hs.inj q n _ _ hb hn hqn with h6 | h6 | h6
   ·rw [h4] at h6;cases h6
   ·rw [hnil] at h6;cases h6
   exact h6 (by rw [h5,hyx,h2])
  rcases hX m x h1 with ⟨q,hq,y,hy,hyx⟩ | ⟨rfl,hg,hxn⟩
  ·have h3:=List.all_eq_true.1 hK q (Xs hq)
   simp only [Bool.and_eq_true,Bool.not_eq_true'] at h3
   have hqn:q≠n:=fun e=>by have:=h3.1;rw [e,Nat.beq_refl] at this;cases this
   cases hb:get s.h q with
   | none=>rw [hb] at h3;cases h3.2
   | some bk =>
    rw [hb] at h3
    refine key q y bk hqn hy hyx ?_ hb
    have h4:=hs.blk q _ hb
    cases bk with
    | row=>cases h3.2
    | rowx=>cases h3.2
    | omap=>exact h4.1
    | cells lq tq=>exact h4.1
  obtain ⟨bk,hb⟩:=hG hg
  refine key m x bk (fun e=>by rw [e,Nat.beq_refl] at hrn;cases hrn) h1 rfl ?_ hb
  rw [(hs.pin m x h1).2];exact hxn) hn hdv hs
 exact ⟨M',σ,h1⟩
end
end
section
open Go.RowKit
theorem UA:Tryz.prog.follows .mixedOrders=true:=by kernel_rfl
structure AC where
 X:Int
 Y:Int
 deriving Inhabited
def AC.c (x:AC):List Cl:=[.i x.X,.i x.Y]
structure AZ where
 At:AC
 Turn:Int
 Mirror:Bool
 deriving Inhabited
def AZ.c (x:AZ):List Cl:=[.i x.At.X,.i x.At.Y,.i x.Turn,.b x.Mirror]
structure AK where
 Kind:Int
 A:AC
 B:AC
 C:AC
 deriving Inhabited
def AK.c (x:AK):List Cl:=[.i x.Kind,.i x.A.X,.i x.A.Y,.i x.B.X,.i x.B.Y,.i x.C.X,.i x.C.Y]
structure Ad where
 X0:Int
 Y0:Int
 X1:Int
 Y1:Int
 deriving Inhabited
def Ad.c (x:Ad):List Cl:=[.i x.X0,.i x.Y0,.i x.X1,.i x.Y1]
structure AD where
 L:(List Int)
 At:Int
 deriving Inhabited
def AD.c (x:AD):List Cl:=[lst 1 (fun x=>[.i x]) x.L,.i x.At]
structure OpL where
 len:Nat
 f:Nat->Nat->Cl
 deriving Inhabited
abbrev opL (x:OpL):Cl:=.list false 8 x.len x.f
structure Ab where
 Ref:ByteArray
 Pad:ByteArray
 deriving Inhabited
def Ab.c (x:Ab):List Cl:=[.s x.Ref,.s x.Pad]
structure Bz where
 Name:ByteArray
 Pins:(List Ab)
 deriving Inhabited
def Bz.c (x:Bz):List Cl:=[.s x.Name,lst 2 Ab.c x.Pins]
structure AF where
 Id:Int
 Ref:ByteArray
 Type':ByteArray
 At:AC
 Turn:Int
 Under:Bool
 deriving Inhabited
def AF.c (x:AF):List Cl:=[.i x.Id,.s x.Ref,.s x.Type',.i x.At.X,.i x.At.Y,.i x.Turn,.b x.Under]
structure AO where
 Kind:Int
 Edges:(List AK)
 R:Int
 deriving Inhabited
def AO.c (x:AO):List Cl:=[.i x.Kind,lst 7 AK.c x.Edges,.i x.R]
structure BH where
 Name:ByteArray
 Shape:AO
 At:AC
 Drill:Int
 deriving Inhabited
def BH.c (x:BH):List Cl:=[.s x.Name,.i x.Shape.Kind,lst 7 AK.c x.Shape.Edges,.i x.Shape.R,.i x.At.X,.i x.At.Y,.i x.Drill]
structure Bk where
 Pad:ByteArray
 Group:Int
 deriving Inhabited
def Bk.c (x:Bk):List Cl:=[.s x.Pad,.i x.Group]
structure A7 where
 Kind:Int
 Legs:(List Bk)
 deriving Inhabited
def A7.c (x:A7):List Cl:=[.i x.Kind,lst 2 Bk.c x.Legs]
structure AN where
 Name:ByteArray
 Pads:(List BH)
 Gates:(List A7)
 deriving Inhabited
def AN.c (x:AN):List Cl:=[.s x.Name,lst 7 BH.c x.Pads,lst 2 A7.c x.Gates]
structure AV where
 Id:Int
 Net:ByteArray
 Layer:Int
 Shape:AO
 deriving Inhabited
def AV.c (x:AV):List Cl:=[.i x.Id,.s x.Net,.i x.Layer,.i x.Shape.Kind,lst 7 AK.c x.Shape.Edges,.i x.Shape.R]
structure Aw where
 Id:Int
 Net:ByteArray
 At:AC
 R:Int
 Drill:Int
 From:Int
 To:Int
 deriving Inhabited
def Aw.c (x:Aw):List Cl:=[.i x.Id,.s x.Net,.i x.At.X,.i x.At.Y,.i x.R,.i x.Drill,.i x.From,.i x.To]
structure BZ where
 Id:Int
 Net:ByteArray
 Layer:Int
 Pitch:Int
 Priority:Int
 Relief:Int
 Spoke:Int
 Rects:(List Ad)
 deriving Inhabited
def BZ.c (x:BZ):List Cl:=[.i x.Id,.s x.Net,.i x.Layer,.i x.Pitch,.i x.Priority,.i x.Relief,.i x.Spoke,lst 4 Ad.c x.Rects]
structure C4 where
 Id:Int
 Layer:Int
 Shape:AO
 deriving Inhabited
def C4.c (x:C4):List Cl:=[.i x.Id,.i x.Layer,.i x.Shape.Kind,lst 7 AK.c x.Shape.Edges,.i x.Shape.R]
structure Aj where
 Id:Int
 Shape:AO
 deriving Inhabited
def Aj.c (x:Aj):List Cl:=[.i x.Id,.i x.Shape.Kind,lst 7 AK.c x.Shape.Edges,.i x.Shape.R]
structure Ch where
 Name:ByteArray
 Nets:(List ByteArray)
 deriving Inhabited
def Ch.c (x:Ch):List Cl:=[.s x.Name,lst 1 (fun x=>[.s x]) x.Nets]
structure DW where
 Op:Int
 Text:ByteArray
 N:Int
 Box:Ad
 L:OpL
 deriving Inhabited
def DW.c (x:DW):List Cl:=[.i x.Op,.s x.Text,.i x.N,.i x.Box.X0,.i x.Box.Y0,.i x.Box.X1,.i x.Box.Y1,opL x.L]
structure A0 where
 Name:ByteArray
 Priority:Int
 What:Int
 A:DW
 B:DW
 Value:Int
 deriving Inhabited
def A0.c (x:A0):List Cl:=[.s x.Name,.i x.Priority,.i x.What,.i x.A.Op,.s x.A.Text,.i x.A.N,.i x.A.Box.X0,.i x.A.Box.Y0,.i x.A.Box.X1,.i x.A.Box.Y1,opL x.A.L,.i x.B.Op,.s x.B.Text,.i x.B.N,.i x.B.Box.X0,.i x.B.Box.Y0,.i x.B.Box.X1,.i x.B.Box.Y1,opL x.B.L,.i x.Value]
structure CG where
 A:Int
 B:Int
 Rule:ByteArray
 deriving Inhabited
def CG.c (x:CG):List Cl:=[.i x.A,.i x.B,.s x.Rule]
structure Ds where
 Name:ByteArray
 Nets:(List ByteArray)
 Within:Int
 deriving Inhabited
def Ds.c (x:Ds):List Cl:=[.s x.Name,lst 1 (fun x=>[.s x]) x.Nets,.i x.Within]
structure AG where
 Layers:Int
 Outline:AO
 Parts:(List AF)
 Nets:(List Bz)
 Tracks:(List AV)
 Vias:(List Aw)
 Pours:(List BZ)
 Keeps:(List C4)
 Slots:(List Aj)
 Classes:(List Ch)
 Rules:(List A0)
 Waivers:(List CG)
 Matches:(List Ds)
 deriving Inhabited
def AG.c (x:AG):List Cl:=[.i x.Layers,.i x.Outline.Kind,lst 7 AK.c x.Outline.Edges,.i x.Outline.R,lst 7 AF.c x.Parts,lst 2 Bz.c x.Nets,lst 6 AV.c x.Tracks,lst 8 Aw.c x.Vias,lst 8 BZ.c x.Pours,lst 5 C4.c x.Keeps,lst 4 Aj.c x.Slots,lst 2 Ch.c x.Classes,lst 20 A0.c x.Rules,lst 3 CG.c x.Waivers,lst 3 Ds.c x.Matches]
structure AL where
 Id:Int
 Pad:ByteArray
 Kind:Int
 Net:ByteArray
 From:Int
 To:Int
 Shape:AO
 deriving Inhabited
def AL.c (x:AL):List Cl:=[.i x.Id,.s x.Pad,.i x.Kind,.s x.Net,.i x.From,.i x.To,.i x.Shape.Kind,lst 7 AK.c x.Shape.Edges,.i x.Shape.R]
structure Uq where
 e0:Int
 e1:Int
 e2:Int
 deriving Inhabited
def Uq.c (x:Uq):List Cl:=[.i x.e0,.i x.e1,.i x.e2]
structure oZ where
 deriving Inhabited
def oZ.c (x:oZ):List Cl:=[]
structure Aa where
 Shape:AO
 From:Int
 To:Int
 Plated:Bool
 deriving Inhabited
def Aa.c (x:Aa):List Cl:=[.i x.Shape.Kind,lst 7 AK.c x.Shape.Edges,.i x.Shape.R,.i x.From,.i x.To,.b x.Plated]
structure TA91 where
 e0:AL
 e1:AL
 deriving Inhabited
def TA91.c (x:TA91):List Cl:=[.i x.e0.Id,.s x.e0.Pad,.i x.e0.Kind,.s x.e0.Net,.i x.e0.From,.i x.e0.To,.i x.e0.Shape.Kind,lst 7 AK.c x.e0.Shape.Edges,.i x.e0.Shape.R,.i x.e1.Id,.s x.e1.Pad,.i x.e1.Kind,.s x.e1.Net,.i x.e1.From,.i x.e1.To,.i x.e1.Shape.Kind,lst 7 AK.c x.e1.Shape.Edges,.i x.e1.Shape.R]
structure EA where
 Board:(List (List Int))
 Odd:Uq
 deriving Inhabited
def EA.c (x:EA):List Cl:=[lst 1 (fun x=>[lst 1 (fun x=>[.i x]) x]) x.Board,.i x.Odd.e0,.i x.Odd.e1,.i x.Odd.e2]
def eqE:TypeId->Option (List Kd):=fun T=>get [(66,[.int .i64,.int .i64]),(68,[.int .i64,.int .i64,.int .i64,.int .i64,.int .i64,.int .i64,.int .i64]),(78,[.int .i64,.str,.str,.int .i64,.int .i64,.int .i64,.bool]),(90,[.int .i64,.int .i64,.int .i64,.int .i64]),(106,[.str,.str]),(133,[.int .i64,.str,.int .i64,.int .i64,.int .i64,.int .i64,.int .i64,.int .i64]),(142,[.int .i64,.int .i64,.str])] T
theorem Cq:JE Tryz.prog ⟨fun _=>none,eqE,fun _=>false,fun _=>none⟩:=by
 intro T ks h
 have hm:(T,ks)∈_:=Ct h
 simp only [List.mem_cons,Prod.mk.injEq,List.not_mem_nil,or_false] at hm
 rcases hm with ⟨rfl,rfl⟩ | ⟨rfl,rfl⟩ | ⟨rfl,rfl⟩ | ⟨rfl,rfl⟩ | ⟨rfl,rfl⟩ | ⟨rfl,rfl⟩ | ⟨rfl,rfl⟩
 all_goals exact ⟨by kernel_rfl,by kernel_rfl,_,rfl,rfl⟩
theorem rg {rd:Option Nat} {N:Nat} {W0:World} {X:Nat→Option Loc} {M0:Nat→Option Obj} {Q:Exit→AS→Prop} {s:AS} {id:Nat} {l:List Oper} (S:AS) (h:Q .normal S) (hr:Ks Tryz.prog ⟨DG [],eqE,A8 [],get []⟩ N l (S.t.map Prod.fst) (S.h.map Prod.fst) s=some ([],S):=by kernel_rfl):AWp Tryz.prog rd N W0 X M0 (.region id l.toArray false) Q s:=DR Cq [] [] [] _ _ [] S .nil hr .nil h
theorem rn {rd:Option Nat} {N:Nat} {W0:World} {X:Nat→Option Loc} {M0:Nat→Option Obj} {K:AS→Prop} {Q:Exit→AS→Prop} {s:AS} {id:Nat} {l:List Oper} (S:AS) (h:K S) (hr:Ks Tryz.prog ⟨DG [],eqE,A8 [],get []⟩ N l (S.t.map Prod.fst) (S.h.map Prod.fst) s=some ([],S):=by kernel_rfl):AWp Tryz.prog rd N W0 X M0 (.region id l.toArray false) (ATh K Q) s:=rg S (AE h) hr
theorem rc {rd:Option Nat} {N:Nat} {W0:World} {X:Nat→Option Loc} {M0:Nat→Option Obj} {Q:Exit→AS→Prop} {s:AS} {id:Nat} {l:List Oper} (tbl:List (Nat×FuncId×List Av×Ef)) (cs:List Prop) (S:AS) (htbl:EN Tryz.prog tbl) (hc:Bp cs) (h:Q .normal S) (hr:Ks Tryz.prog ⟨DG tbl,eqE,A8 [],get []⟩ N l (S.t.map Prod.fst) (S.h.map Prod.fst) s=some (cs,S):=by kernel_rfl):AWp Tryz.prog rd N W0 X M0 (.region id l.toArray false) Q s:=DR Cq [] [] tbl _ _ cs S htbl hr hc h
abbrev gi (c:Bool):Prop:=c=false→c=false
abbrev gt (c:Bool):Prop:=c=true→c=true
abbrev gj (c:Bool) (p:Prop):Prop:=c=false→p
abbrev gk (c:Bool) (p:Prop):Prop:=c=true→p
theorem ci {p:Prop} {l:List Prop} (h:Bp l):Bp ((p→p)::l):=.cons id h
abbrev tO (c:Cl):Tv:=.av (.one c)
abbrev gD (l:List Cl):Nat→Nat→Cl:=fun _ j_=>l.getD j_ default
theorem rr {a:Cl} {x y:List Cl} (h:L2 ClE x y):L2 ClE (a::x) (a::y):=.cons (.refl _) h
theorem oT {p:Prop} [Decidable p] (h:decide p=true):p:=of_decide_eq_true h
theorem oF {p:Prop} [Decidable p] (h:decide p=false):¬ p:=of_decide_eq_false h
theorem vk {N:Nat} {W0:World} {X:Nat→Option Loc} {M0:Nat→Option Obj} {s:AS} (ts ns:List Nat):Cv N W0 X M0 s (Jc ts ns s):=YE ts ns _ rfl
theorem ck {N:Nat} {W0:World} {X:Nat→Option Loc} {M0:Nat→Option Obj} {s:AS} (S:AS) (h:Jc (S.t.map Prod.fst) (S.h.map Prod.fst) s=S:=by kernel_rfl):Cv N W0 X M0 s S:=YE _ _ S h
theorem wr {N:Nat} {W0:World} {X:Nat→Option Loc} {M0:Nat→Option Obj} {s:AS} {K:List Nat} (S:AS) (q d:Nat) (hX:DI X W0 K) (h1:KK K q=true:=by kernel_rfl) (h2:KK K d=true:=by kernel_rfl) (hd:noD d s=true:=by kernel_rfl) (hS:jY q d s=S:=by kernel_rfl):Cv N W0 X M0 s S:=rW S q d hX h1 h2 hd hS
theorem vr {N:Nat} {W0:World} {X:Nat→Option Loc} {M0:Nat→Option Obj} {s:AS} {K:List Nat} (q d:Nat) (hX:DI X W0 K) (h1:KK K q=true:=by kernel_rfl) (h2:KK K d=true:=by kernel_rfl) (hd:noD d s=true:=by kernel_rfl):Cv N W0 X M0 s (jY q d s):=wr _ q d hX h1 h2 hd rfl
theorem vf {N:Nat} {W0:World} {X:Nat→Option Loc} {M0:Nat→Option Obj} {s:AS} {K:List Nat} (n:Nat) (hX:DI X W0 K) (hk:fzK K n s=true:=by kernel_rfl) (he:prS n s=fzE n s:=by kernel_rfl):Cv N W0 X M0 s (fzN n s):=gV n hX hk he
theorem wg {N:Nat} {W0:World} {X:Nat→Option Loc} {M0:Nat→Option Obj} {s:AS} {K:List Nat} (S:AS) (d sz:Nat) (f:Nat→Nat→Cl) (ty:TypeId) (it ih:List (Nat×List Nat)) (hX:DI X W0 K) (h2:KK K d=true:=by kernel_rfl) (hd:noD d s=true:=by kernel_rfl) (hS:ghS d sz f ty it ih s=S:=by kernel_rfl):Cv N W0 X M0 s S:=gU S d sz f ty it ih hX h2 hd hS
theorem vg {N:Nat} {W0:World} {X:Nat→Option Loc} {M0:Nat→Option Obj} {s:AS} {K:List Nat} (d sz:Nat) (f:Nat→Nat→Cl) (ty:TypeId) (it ih:List (Nat×List Nat)) (hX:DI X W0 K) (h2:KK K d=true:=by kernel_rfl) (hd:noD d s=true:=by kernel_rfl):Cv N W0 X M0 s (ghS d sz f ty it ih s):=wg _ d sz f ty it ih hX h2 hd rfl
theorem rs {rd:Option Nat} {N:Nat} {W0:World} {X:Nat→Option Loc} {M0:Nat→Option Obj} {Q:Exit→AS→Prop} {s:AS} {id:Nat} {l:List Oper} (d:Nat) (c:FuncId×List Av×Ef) (S:AS) (hx:DK Tryz.prog c.1 c.2.1 c.2.2) (h:Q .normal S) (hr:Ks Tryz.prog ⟨DG [(d,c)],eqE,A8 [],get []⟩ N l (S.t.map Prod.fst) (S.h.map Prod.fst) s=some ([CD c.2.1],S):=by kernel_rfl):AWp Tryz.prog rd N W0 X M0 (.region id l.toArray false) Q s:=rc _ _ S (.cons hx .nil) (.cons rfl .nil) h hr
theorem rb {rd:Option Nat} {N:Nat} {W0:World} {X:Nat→Option Loc} {M0:Nat→Option Obj} {Q:Exit→AS→Prop} {s:AS} {id:Nat} {l:List Oper} (d:Nat) (c:FuncId×List Av×Ef) (b:Blk) (S:AS) (hx:DK Tryz.prog c.1 c.2.1 c.2.2) (h:Q .normal S) (hr:Ks Tryz.prog ⟨DG [(d,c)],eqE,A8 [],get []⟩ N l (S.t.map Prod.fst) (S.h.map Prod.fst) s=some ([CD c.2.1,Br b],S):=by kernel_rfl):AWp Tryz.prog rd N W0 X M0 (.region id l.toArray false) Q s:=rc _ _ S (.cons hx .nil) (.cons rfl (.cons rfl .nil)) h hr
theorem nz {a:Nat} {p:Prop} (h:a<0):p:=absurd h (Nat.not_lt_zero _)
abbrev gp (p:Prop):Prop:=p→p
abbrev t2 (c:Bool) (l:List Prop):List Prop:=gt c::gt c::l
abbrev i2 (c:Bool) (l:List Prop):List Prop:=gi c::gi c::l
theorem c2 {p:Prop} {l:List Prop} (h:Bp l):Bp ((p→p)::(p→p)::l):=ci (ci h)
abbrev t3 (c:Bool) (l:List Prop):List Prop:=gt c::gt c::gt c::l
abbrev i3 (c:Bool) (l:List Prop):List Prop:=gi c::gi c::gi c::l
theorem c3 {p:Prop} {l:List Prop} (h:Bp l):Bp ((p→p)::(p→p)::(p→p)::l):=ci (ci (ci h))
abbrev t4 (c:Bool) (l:List Prop):List Prop:=gt c::gt c::gt c::gt c::l
abbrev i4 (c:Bool) (l:List Prop):List Prop:=gi c::gi c::gi c::gi c::l
theorem c4 {p:Prop} {l:List Prop} (h:Bp l):Bp ((p→p)::(p→p)::(p→p)::(p→p)::l):=ci (ci (ci (ci h)))
abbrev t5 (c:Bool) (l:List Prop):List Prop:=gt c::gt c::gt c::gt c::gt c::l
abbrev i5 (c:Bool) (l:List Prop):List Prop:=gi c::gi c::gi c::gi c::gi c::l
theorem c5 {p:Prop} {l:List Prop} (h:Bp l):Bp ((p→p)::(p→p)::(p→p)::(p→p)::(p→p)::l):=ci (ci (ci (ci (ci h))))
theorem xl {P:Program} {N:Nat} {W0:World} {X:Nat→Option Loc} {M0:Nat→Option Obj} {fn:Func} {φ:Tv→AS→Prop} {s:AS} (V:Tv) (h:φ V s) (hr:Og P s fn.results.toList=some V:=by kernel_rfl):KN P N W0 X M0 fn φ .ret s:=⟨_,Cv.refl _,.inl rfl,V,hr,h⟩
theorem xn {P:Program} {N:Nat} {W0:World} {X:Nat→Option Loc} {M0:Nat→Option Obj} {fn:Func} {φ:Tv→AS→Prop} {s:AS} (V:Tv) (h:φ V s) (hr:Og P s fn.results.toList=some V:=by kernel_rfl):KN P N W0 X M0 fn φ .normal s:=⟨_,Cv.refl _,.inr rfl,V,hr,h⟩
theorem yl {P:Program} {N:Nat} {W0:World} {X:Nat→Option Loc} {M0:Nat→Option Obj} {fn:Func} {φ:Tv→AS→Prop} {s t:AS} (cv:Cv N W0 X M0 s t) (V:Tv) (h:φ V t) (hr:Og P t fn.results.toList=some V:=by kernel_rfl):KN P N W0 X M0 fn φ .ret s:=⟨_,cv,.inl rfl,V,hr,h⟩
theorem yn {P:Program} {N:Nat} {W0:World} {X:Nat→Option Loc} {M0:Nat→Option Obj} {fn:Func} {φ:Tv→AS→Prop} {s t:AS} (cv:Cv N W0 X M0 s t) (V:Tv) (h:φ V t) (hr:Og P t fn.results.toList=some V:=by kernel_rfl):KN P N W0 X M0 fn φ .normal s:=⟨_,cv,.inr rfl,V,hr,h⟩
theorem dw {rd:Option Nat} {N:Nat} {W0:World} {X:Nat→Option Loc} {M0:Nat→Option Obj} {Q:Exit→AS→Prop} {s:AS} {id:Nat} {l:List Oper} (ow:List Nat) (tbl:List (Nat×FuncId×List Av×Ef)) (cs:List Prop) (S:AS) (htbl:EN Tryz.prog tbl) (hc:Bp cs) (h:Q .normal S) (hr:Ks Tryz.prog ⟨DG tbl,eqE,A8 ow,get []⟩ N l (S.t.map Prod.fst) (S.h.map Prod.fst) s=some (cs,S):=by kernel_rfl) (hd:NH Tryz.prog ⟨DG tbl,eqE,A8 ow,get []⟩ N l s=true:=by kernel_rfl):AWp Tryz.prog rd N W0 X M0 (.region id l.toArray true) Q s:=Nv UA Cq ow [] tbl _ _ cs S htbl hr hd hc h
def runW (P:Program) (V:Env P) (N:Nat) (l:List Oper) (s:AS):AS:=match Kr P V N l.toArray l s with
  | some (_,t)=>t
  | none=>s
def runC (P:Program) (V:Env P) (N:Nat) (l:List Oper) (s:AS):Option (List Prop):=match Kr P V N l.toArray l s with
  | some (c,_)=>some c
  | none=>none
theorem runWC {P:Program} {V:Env P} {N:Nat} {l:List Oper} {s:AS} {c:List Prop} (h:runC P V N l s=some c):Kr P V N l.toArray l s=some (c,runW P V N l s):=by
  unfold runC at h
  unfold runW
  split at h
  · rename_i h1
    rw [h1]
    injection h with h
    subst h
    rfl
  · cases h
theorem oc {rd:Option Nat} {N:Nat} {W0:World} {X:Nat→Option Loc} {M0:Nat→Option Obj} {Q:Exit→AS→Prop} {s:AS} {id:Nat} {l:List Oper} (tbl:List (Nat×FuncId×List Av×Ef)) (cs:List Prop) (htbl:EN Tryz.prog tbl) (hc:Bp cs) (h:Q .normal (runW Tryz.prog ⟨DG tbl,eqE,A8 [],get []⟩ N l s)) (hr:runC Tryz.prog ⟨DG tbl,eqE,A8 [],get []⟩ N l s=some cs:=by kernel_rfl):AWp Tryz.prog rd N W0 X M0 (.region id l.toArray false) Q s:=by
  have hV:=htbl.env (O:=A8 []) (q:=get []) Cq
  intro M σ a w hs
  exact wpIn_region_lit (Nd hV l s _ cs (runWC hr) hc M σ a w hs fun M' σ' a' w' hs'=>⟨_,M',σ',h,hs'⟩)
theorem og {rd:Option Nat} {N:Nat} {W0:World} {X:Nat→Option Loc} {M0:Nat→Option Obj} {Q:Exit→AS→Prop} {s:AS} {id:Nat} {l:List Oper} (h:Q .normal (runW Tryz.prog ⟨DG [],eqE,A8 [],get []⟩ N l s)) (hr:runC Tryz.prog ⟨DG [],eqE,A8 [],get []⟩ N l s=some []:=by kernel_rfl):AWp Tryz.prog rd N W0 X M0 (.region id l.toArray false) Q s:=oc [] [] .nil .nil h hr
theorem on {rd:Option Nat} {N:Nat} {W0:World} {X:Nat→Option Loc} {M0:Nat→Option Obj} {K:AS→Prop} {Q:Exit→AS→Prop} {s:AS} {id:Nat} {l:List Oper} (h:K (runW Tryz.prog ⟨DG [],eqE,A8 [],get []⟩ N l s)) (hr:runC Tryz.prog ⟨DG [],eqE,A8 [],get []⟩ N l s=some []:=by kernel_rfl):AWp Tryz.prog rd N W0 X M0 (.region id l.toArray false) (ATh K Q) s:=og (AE h) hr
theorem oq {rd:Option Nat} {N:Nat} {W0:World} {X:Nat→Option Loc} {M0:Nat→Option Obj} {Q:Exit→AS→Prop} {s:AS} {id:Nat} {l:List Oper} (d:Nat) (c:FuncId×List Av×Ef) (hx:DK Tryz.prog c.1 c.2.1 c.2.2) (h:Q .normal (runW Tryz.prog ⟨DG [(d,c)],eqE,A8 [],get []⟩ N l s)) (hr:runC Tryz.prog ⟨DG [(d,c)],eqE,A8 [],get []⟩ N l s=some [CD c.2.1]:=by kernel_rfl):AWp Tryz.prog rd N W0 X M0 (.region id l.toArray false) Q s:=oc [(d,c)] [CD c.2.1] (.cons hx .nil) (.cons rfl .nil) h hr
theorem od {rd:Option Nat} {N:Nat} {W0:World} {X:Nat→Option Loc} {M0:Nat→Option Obj} {Q:Exit→AS→Prop} {s:AS} {id:Nat} {l:List Oper} (ow:List Nat) (tbl:List (Nat×FuncId×List Av×Ef)) (cs:List Prop) (htbl:EN Tryz.prog tbl) (hc:Bp cs) (h:Q .normal (Jc (runW Tryz.prog ⟨DG tbl,eqE,A8 ow,get []⟩ N l s |>.t.map Prod.fst) (runW Tryz.prog ⟨DG tbl,eqE,A8 ow,get []⟩ N l s |>.h.map Prod.fst) (runW Tryz.prog ⟨DG tbl,eqE,A8 ow,get []⟩ N l s))) (hr:runC Tryz.prog ⟨DG tbl,eqE,A8 ow,get []⟩ N l s=some cs:=by kernel_rfl) (hd:NH Tryz.prog ⟨DG tbl,eqE,A8 ow,get []⟩ N l s=true:=by kernel_rfl):AWp Tryz.prog rd N W0 X M0 (.region id l.toArray true) Q s:=Nv UA Cq ow [] tbl _ _ cs _ htbl (by unfold Ks;rw [runWC hr]) hd hc h
theorem zl {P:Program} {N:Nat} {W0:World} {X:Nat→Option Loc} {M0:Nat→Option Obj} {fn:Func} {s:AS} {r:Tv} (hr:Og P s fn.results.toList=some r:=by kernel_rfl):KN P N W0 X M0 fn (fun r' _=>TvE r' r) .ret s:=xl r (.refl r) hr
theorem zn {P:Program} {N:Nat} {W0:World} {X:Nat→Option Loc} {M0:Nat→Option Obj} {fn:Func} {s:AS} {r:Tv} (hr:Og P s fn.results.toList=some r:=by kernel_rfl):KN P N W0 X M0 fn (fun r' _=>TvE r' r) .normal s:=xn r (.refl r) hr
theorem zy {P:Program} {N:Nat} {W0:World} {X:Nat→Option Loc} {M0:Nat→Option Obj} {fn:Func} {s t:AS} {r:Tv} (cv:Cv N W0 X M0 s t) (hr:Og P t fn.results.toList=some r:=by kernel_rfl):KN P N W0 X M0 fn (fun r' _=>TvE r' r) .ret s:=yl cv r (.refl r) hr
theorem zx {P:Program} {N:Nat} {W0:World} {X:Nat→Option Loc} {M0:Nat→Option Obj} {fn:Func} {s t:AS} {r:Tv} (cv:Cv N W0 X M0 s t) (hr:Og P t fn.results.toList=some r:=by kernel_rfl):KN P N W0 X M0 fn (fun r' _=>TvE r' r) .normal s:=yn cv r (.refl r) hr
theorem kb {P:Program} {rd:Option Nat} {N:Nat} {W0:World} {X:Nat→Option Loc} {M0:Nat→Option Obj} {Q:Exit→AS→Prop} {s:AS} {c:Operand} {x y:Code} (b:Bool) (h1:b=true→AWp P rd N W0 X M0 x Q s) (h2:b=false→AWp P rd N W0 X M0 y Q s) (hc:evT (get s.t) c=some (.av (.one (.val (.bool b)))):=by kernel_rfl):AWp P rd N W0 X M0 (.cond c x y) Q s:=Ap b hc h1 h2
theorem H1 {p:Prop} (a:p):Bp [p]:=.cons a .nil
theorem H2 {p q:Prop} (a:p) (b:q):Bp [p,q]:=.cons a (H1 b)
theorem H3 {p q r:Prop} (a:p) (b:q) (c:r):Bp [p,q,r]:=.cons a (H2 b c)
theorem H4 {p q r s:Prop} (a:p) (b:q) (c:r) (d:s):Bp [p,q,r,s]:=.cons a (H3 b c d)
theorem H5 {p q r s t:Prop} (a:p) (b:q) (c:r) (d:s) (e:t):Bp [p,q,r,s,t]:=.cons a (H4 b c d e)
theorem H6 {p q r s t u:Prop} (a:p) (b:q) (c:r) (d:s) (e:t) (f:u):Bp [p,q,r,s,t,u]:=.cons a (H5 b c d e f)
theorem H7 {p q r s t u v:Prop} (a:p) (b:q) (c:r) (d:s) (e:t) (f:u) (g:v):Bp [p,q,r,s,t,u,v]:=.cons a (H6 b c d e f g)
theorem H8 {p q r s t u v w:Prop} (a:p) (b:q) (c:r) (d:s) (e:t) (f:u) (g:v) (h:w):Bp [p,q,r,s,t,u,v,w]:=.cons a (H7 b c d e f g h)
theorem J1 (d:Nat) {c:FuncId×List Av×Ef} (h:DK Tryz.prog c.1 c.2.1 c.2.2):EN Tryz.prog [(d,c)]:=.cons h .nil
theorem J2 (d e:Nat) {c x:FuncId×List Av×Ef} (h:DK Tryz.prog c.1 c.2.1 c.2.2) (k:DK Tryz.prog x.1 x.2.1 x.2.2):EN Tryz.prog [(d,c),(e,x)]:=.cons h (J1 e k)
theorem J3 (d e f:Nat) {c x y:FuncId×List Av×Ef} (h:DK Tryz.prog c.1 c.2.1 c.2.2) (k:DK Tryz.prog x.1 x.2.1 x.2.2) (l:DK Tryz.prog y.1 y.2.1 y.2.2):EN Tryz.prog [(d,c),(e,x),(f,y)]:=.cons h (J2 e f k l)
def fO:List (Nat×FuncId×List Av×Ef)→List (Option Prop)→List Prop
  | t,some p::l=>p::fO t l
  | (_,c)::t,none::l=>CD c.2.1::fO t l
  | _,_=>[]
def fS:List (Option Prop)→List Prop
  | some p::l=>p::fS l
  | none::l=>fS l
  | []=>[]
theorem fO_ok:∀ (l:List (Option Prop)) (t:List (Nat×FuncId×List Av×Ef)),Bp (fS l)→Bp (fO t l)
  | [],[],_=>.nil
  | [],_::_,_=>.nil
  | some _::l,[],h=>.cons h.head (fO_ok l [] h.tail)
  | some _::l,x::t,h=>.cons h.head (fO_ok l (x::t) h.tail)
  | none::l,[],h=>.nil
  | none::l,(_,c)::t,h=>.cons rfl (fO_ok l t h)
theorem oo {rd:Option Nat} {N:Nat} {W0:World} {X:Nat→Option Loc} {M0:Nat→Option Obj} {Q:Exit→AS→Prop} {s:AS} {id:Nat} {l:List Oper} (tbl:List (Nat×FuncId×List Av×Ef)) (cs:List (Option Prop)) (htbl:EN Tryz.prog tbl) (hc:Bp (fS cs)) (h:Q .normal (runW Tryz.prog ⟨DG tbl,eqE,A8 [],get []⟩ N l s)) (hr:runC Tryz.prog ⟨DG tbl,eqE,A8 [],get []⟩ N l s=some (fO tbl cs):=by kernel_rfl):AWp Tryz.prog rd N W0 X M0 (.region id l.toArray false) Q s:=oc tbl (fO tbl cs) htbl (fO_ok cs tbl hc) h hr
theorem oe {rd:Option Nat} {N:Nat} {W0:World} {X:Nat→Option Loc} {M0:Nat→Option Obj} {Q:Exit→AS→Prop} {s:AS} {id:Nat} {l:List Oper} (ow:List Nat) (tbl:List (Nat×FuncId×List Av×Ef)) (cs:List (Option Prop)) (htbl:EN Tryz.prog tbl) (hc:Bp (fS cs)) (h:Q .normal (Jc (runW Tryz.prog ⟨DG tbl,eqE,A8 ow,get []⟩ N l s |>.t.map Prod.fst) (runW Tryz.prog ⟨DG tbl,eqE,A8 ow,get []⟩ N l s |>.h.map Prod.fst) (runW Tryz.prog ⟨DG tbl,eqE,A8 ow,get []⟩ N l s))) (hr:runC Tryz.prog ⟨DG tbl,eqE,A8 ow,get []⟩ N l s=some (fO tbl cs):=by kernel_rfl) (hd:NH Tryz.prog ⟨DG tbl,eqE,A8 ow,get []⟩ N l s=true:=by kernel_rfl):AWp Tryz.prog rd N W0 X M0 (.region id l.toArray true) Q s:=od ow tbl (fO tbl cs) htbl (fO_ok cs tbl hc) h hr hd
theorem ro {rd:Option Nat} {N:Nat} {W0:World} {X:Nat→Option Loc} {M0:Nat→Option Obj} {Q:Exit→AS→Prop} {s:AS} {id:Nat} {l:List Oper} (tbl:List (Nat×FuncId×List Av×Ef)) (cs:List (Option Prop)) (S:AS) (htbl:EN Tryz.prog tbl) (hc:Bp (fS cs)) (h:Q .normal S) (hr:Ks Tryz.prog ⟨DG tbl,eqE,A8 [],get []⟩ N l (S.t.map Prod.fst) (S.h.map Prod.fst) s=some (fO tbl cs,S):=by kernel_rfl):AWp Tryz.prog rd N W0 X M0 (.region id l.toArray false) Q s:=rc tbl (fO tbl cs) S htbl (fO_ok cs tbl hc) h hr
theorem dO {rd:Option Nat} {N:Nat} {W0:World} {X:Nat→Option Loc} {M0:Nat→Option Obj} {Q:Exit→AS→Prop} {s:AS} {id:Nat} {l:List Oper} (ow:List Nat) (tbl:List (Nat×FuncId×List Av×Ef)) (cs:List (Option Prop)) (S:AS) (htbl:EN Tryz.prog tbl) (hc:Bp (fS cs)) (h:Q .normal S) (hr:Ks Tryz.prog ⟨DG tbl,eqE,A8 ow,get []⟩ N l (S.t.map Prod.fst) (S.h.map Prod.fst) s=some (fO tbl cs,S):=by kernel_rfl) (hd:NH Tryz.prog ⟨DG tbl,eqE,A8 ow,get []⟩ N l s=true:=by kernel_rfl):AWp Tryz.prog rd N W0 X M0 (.region id l.toArray true) Q s:=dw ow tbl (fO tbl cs) S htbl (fO_ok cs tbl hc) h hr hd
theorem lpC {P:Program} {rd:Option Nat} {N:Nat} {W0:World} {X:Nat→Option Loc} {M0:Nat→Option Obj} {Q:Exit→AS→Prop} {κ:Type} {c:Code} (S:Nat×κ→AS) (m:Nat×κ→Nat) (J:Nat×κ→Prop) (h:∀ n y,m (n+1,y)<n+1→J (n+1,y)→AWp P rd N W0 X M0 c (ATh (fun s'=>∃ y,(m y<y.1∧J y)∧y.1<n+1∧Cv N W0 X M0 s' (S y)) Q) (S (n+1,y))) (x:Nat×κ) (hx:m x<x.1∧J x):AWp P rd N W0 X M0 (.loop c) Q (S x):=iS S (fun x=>m x<x.1∧J x) (fun x=>x.1) (fun ⟨n,y⟩ ⟨a,b⟩=>by
  cases n with
  | zero=>exact nz a
  | succ n=>exact h n y a b) x hx
theorem rz {α β:Type} {r:α→β→Prop} {a:α} {b:β} {x:List α} {y:List β} (h:L2 r x y) (k:r a b:=by exact ⟨rfl,.refl _⟩):L2 r (a::x) (b::y):=.cons k h
theorem rA {a:Cl} {x y:List Cl} (h:L2 ClE x y):L2 ClE (a::x) (.any::y):=.cons (.any _) h
abbrev CT:=FuncId×List Av×Ef
theorem hk1:∀ k x,noX k=some x→A8 [] k=true:=fun k x h=>by cases h
theorem hk0 {W0:World}:DI noX W0 []:=fun k x h=>by cases h
abbrev OKc (c:CT):Prop:=DK Tryz.prog c.1 c.2.1 c.2.2
abbrev dfc:Nat→Cl:=fun _=>default
abbrev eIn:Int→List Cl:=fun x=>[.i x]
theorem oM {p:Prop} (h:p:=by omega):p:=h
abbrev PuP (f:FuncId) (xs:List Av) (r:Tv):Prop:=FV Tryz.prog f xs r
theorem pwf {f:FuncId} {fn:Func} {c:Code} (hf:Tryz.prog.funcs[f]? = some fn) {xs:List Av} {r:Tv}
    (h:∀ (W0:World) (M0:Nat→Option Obj),AWp Tryz.prog none fn.ntmps W0 noX M0 c (KN Tryz.prog fn.ntmps W0 noX M0 fn fun r' _=>TvE r' r) ⟨EL 0 xs,[]⟩) (hb:fn.body=some c:=by rfl) (hN:Nat.ble xs.length fn.ntmps=true:=by kernel_rfl) (hd:r.dv=true:=by kernel_rfl):PuP f xs r:=Ta hf hb hN hd h
theorem cWr {f:FuncId} {K n:Nat} {xs:List Av} {b0 b1:Blk} {r:Tv} (h:Wr Tryz.prog f K xs b0 r b1) (h1:∀ args w,(callFunc f args).run Tryz.prog w=.ok (.enter f args) w:=by intros;kernel_rfl) (hx:xs.all (cQ K)=true:=by kernel_rfl) (hd0:Jl b0=true:=by kernel_rfl):DK Tryz.prog f (xs.map (Bo K n)) (wrI n b0 r b1):=Zr h1 hx hd0 h
theorem cPu {f:FuncId} {xs:List Av} {cs:List Prop} {r:Tv} (h:FV Tryz.prog f xs r) (h1:∀ args w,(callFunc f args).run Tryz.prog w=.ok (.enter f args) w:=by intros;kernel_rfl):DK Tryz.prog f xs (.val cs r):=Ui h1 fun _=>h
theorem rr2 {a b:Cl} {x y:List Cl} (q:L2 ClE x y):L2 ClE (a::b::x) (a::b::y):=rr (rr q)
theorem rr3 {a b c:Cl} {x y:List Cl} (q:L2 ClE x y):L2 ClE (a::b::c::x) (a::b::c::y):=rr (rr (rr q))
theorem rr4 {a b c d:Cl} {x y:List Cl} (q:L2 ClE x y):L2 ClE (a::b::c::d::x) (a::b::c::d::y):=rr (rr (rr (rr q)))
theorem rr5 {a b c d e:Cl} {x y:List Cl} (q:L2 ClE x y):L2 ClE (a::b::c::d::e::x) (a::b::c::d::e::y):=rr (rr (rr (rr (rr q))))
theorem rr9 {a b c d e f g h i:Cl} {x y:List Cl} (q:L2 ClE x y):L2 ClE (a::b::c::d::e::f::g::h::i::x) (a::b::c::d::e::f::g::h::i::y):=rr (rr (rr (rr (rr (rr (rr (rr (rr q))))))))

def Cx (x0:AC):Bool:=bif decide (((max x0.X x0.Y):Int)<=67108864) then decide ((((-67108864)):Int)<=(min x0.X x0.Y)) else false
def Dr (x0:AC):CT:=(131,[.agg (AC.c x0)],.val [] (.av (.one (.b (Cx x0)))))
theorem Y5 (x0:AC):PuP 131 (Dr x0).2.1 (tO (.b (Cx x0))):=by
 refine pwf Tryz.func131 fun W0 M0 => ?_
 exact AB<|on<|AB<|oc [] ((gt (decide (((max x0.X x0.Y):Int)<=67108864)))::(t5 (decide (((max x0.X x0.Y):Int)<=67108864)) [])) .nil (ci (c5 .nil))<|AE<|AW<|zl
theorem Fv (x0:AC):OKc (Dr x0):=cPu<|Y5 x0
def Ed (x0:AC) (x1:AC):AC:=AC.mk (W64 (x0.X-x1.X)) (W64 (x0.Y-x1.Y))
def Nq (x0:AC) (x1:AC):CT:=(137,[.agg (AC.c x0),.agg (AC.c x1)],.val [] (.av (.agg (AC.c (Ed x0 x1)))))
theorem kF (x0:AC) (x1:AC):PuP 137 (Nq x0 x1).2.1 (.av (.agg (AC.c (Ed x0 x1)))):=by
 refine pwf Tryz.func137 fun W0 M0 => ?_
 exact AB<|on<|AB<|on<|AW<|zl
theorem Tj (x0:AC) (x1:AC):OKc (Nq x0 x1):=cPu<|kF x0 x1
def So (x0:AC) (x1:AC):AC:=AC.mk (W64 (x0.X+x1.X)) (W64 (x0.Y+x1.Y))
def YD (x0:AC) (x1:AC):CT:=(119,[.agg (AC.c x0),.agg (AC.c x1)],.val [] (.av (.agg (AC.c (So x0 x1)))))
theorem kG (x0:AC) (x1:AC):PuP 119 (YD x0 x1).2.1 (.av (.agg (AC.c (So x0 x1)))):=by
 refine pwf Tryz.func119 fun W0 M0 => ?_
 exact AB<|on<|AB<|on<|AW<|zl
theorem dT (x0:AC) (x1:AC):OKc (YD x0 x1):=cPu<|kG x0 x1
def Cw (m:AZ):Int:=A64 m.Turn 3
variable (a0 a1 a2:AC) (e:AK) (m:AZ) (k:Int) (p:AC) (x0:AK)
def Qz:CT:=(118,[.agg (AZ.c m)],.val [] (.av (.one (.i (Cw m)))))
theorem Y4 (m:AZ):PuP 118 (Qz m).2.1 (tO (.i (Cw m))):=by
 refine pwf Tryz.func118 fun W0 M0 => ?_
 exact AB<|on<|AB<|on<|AW<|zl
theorem V8 (m:AZ):OKc (Qz m):=cPu<|Y4 m
theorem A64_3 (t:Int):0<=A64 t 3/\A64 t 3<=3:=by
 unfold A64
 rw [IntKind.wrap_i64]
 have h:((BitVec.ofInt 64 t &&& BitVec.ofInt 64 3).toNat)<=3:=by
  rw [BitVec.toNat_and]
  exact Nat.le_trans Nat.and_le_right (by decide)
 generalize (BitVec.ofInt 64 t &&& BitVec.ofInt 64 3).toNat=n at *
 omega
theorem XF (m:AZ):0<=Cw m/\Cw m<=3:=A64_3 m.Turn
def FY (m:AZ) (p:AC):Nat->AC->Int->AC
 | 0,_,_=>default
 | n0+1,p',v13=>bif decide ((v13:Int)<(Cw m)) then ((FY m p n0) (AC.mk (W64 (0-p'.Y)) p'.X) (v13+1)) else (So p' m.At)
def Aq (m:AZ) (p:AC):AC:=FY m p ((((Cw m))-0).toNat+1) (AC.mk (bif m.Mirror then (W64 (0-p.X)) else p.X) p.Y) 0
def Gy:CT:=(62,[.agg (AZ.c m),.agg (AC.c p)],.val [] (.av (.agg (AC.c (Aq m p)))))
abbrev CR (t_:List (Nat×Tv)):List (Nat×Tv):=(2,tP 2 0)::(3,tP 3 0)::(4,tP 4 0)::t_
abbrev I8:List (Nat×Tv):=(CR [])
abbrev G7:Nat×Blk:=(4,.cells [.i 0,.i 0] 66)
abbrev Kg:Nat×Blk:=(2,.cells (AZ.c m) 74)
theorem kr {p:Prop} (h:p:=by kernel_rfl):p:=h
theorem at0 {p:Prop} (h:p:=by simp only [List.length_append,List.length_cons,List.length_nil];omega):p:=h
theorem at1 {p:Prop} (h:p:=by simp only [List.length_set,List.length_append,List.length_cons,List.length_nil];omega):p:=h
theorem at2 {p:Prop} (h:p:=by simp only [Bf];omega):p:=h
theorem ax0 {p:Prop} (h:p:=by first | omega | (dsimp only <;> first | trivial | omega | exact at0 | exact at1 | exact at2 | (simp;omega) | simp) | (first | trivial | omega | exact at0 | exact at1 | exact at2 | (simp;omega) | simp)):p:=h
theorem Y6 (m:AZ) (p:AC):PuP 62 (Gy m p).2.1 (.av (.agg (AC.c (Aq m p)))):=by
 refine pwf Tryz.func62 fun W0 M0 => ?_
 refine AB<|on<|AB<|AB<|rn ⟨(CR [(6,tB m.Mirror)]),[(Kg m),(3,.cells (AC.c p) 66),G7]⟩<|Bd (⟨I8,[(Kg m),(3,.cells [.i (bif m.Mirror then (W64 (0-p.X)) else p.X),.i p.Y] 66),G7]⟩) ?_ ?_
 ·refine Ap _ rfl (fun h1 => ?_) (fun h1 => ?_)
  ·refine rn ⟨I8,[(Kg m),(3,.cells [.i (W64 (0-p.X)),.i p.Y] 66),G7]⟩<|Al ?_
   first | rfl | (simp only [h1,cond_true,cond_false] <;> rfl)
  refine AQ<|AE<|Cv.trans (ck (⟨I8,[(Kg m),(3,.cells (AC.c p) 66),G7]⟩)) (Al ?_)
  first | rfl | (simp only [h1,cond_true,cond_false] <;> rfl)
 refine AB<|AB<|rs 12 _ ⟨(CR [(12,tI (Cw m)),(13,tI 0)]),[(Kg m),(3,.cells [.i (bif m.Mirror then (W64 (0-p.X)) else p.X),.i p.Y] 66),G7]⟩ (V8 m)<|AE<|AM<|lpC (κ:=AC×Int) (fun x=>⟨(CR [(12,tI (Cw m)),(13,tI x.2.2)]),[(Kg m),(3,.cells (AC.c x.2.1) 66),G7]⟩) (fun x=>(((Cw m))-x.2.2).toNat) (fun x=>(0<=x.2.2/\x.2.2<=Cw m)/\FY m p x.1 x.2.1 x.2.2=Aq m p) ?_ ((((Cw m))-0).toNat+1,AC.mk (bif m.Mirror then (W64 (0-p.X)) else p.X) p.Y,0) ⟨Nat.lt_succ_self _,(by show 0<=0/\0<=Cw m;(have:=XF m;omega)),(by simp only [Aq,cond_true,cond_false])⟩
 rintro n0 ⟨p',v13⟩ hm0 ⟨hinv0,hF0⟩
 try dsimp only at hm0 hinv0 hF0
 have ht:=XF m
 have e1:W64 (v13+1)=v13+1:=Ae oM oM
 refine AB<|on<|AB<|kb (decide ((v13:Int)<(Cw m))) (fun h1 => ?_) (fun h1 => ?_)
 ·have g1:=oT h1
  refine AQ<|AE<|AB<|AM<|og<|A3<|AE<|rg ⟨(CR [(12,tI (Cw m)),(13,tI (W64 (v13+1)))]),[(Kg m),(3,.cells [.i (W64 (0-p'.Y)),.i p'.X] 66),G7]⟩ ?_
  (try rw [e1])
  refine AE ?_
  refine ⟨(n0,AC.mk (W64 (0-p'.Y)) p'.X,v13+1),⟨?_,?_,(by rw [<- hF0];simp only [FY,h1,cond_true,cond_false])⟩,Nat.lt_succ_self _,Al kr⟩
  ·dsimp only;omega
  exact ax0
 exact An<|Ai<|Ai<|Ao<|AE<|AB<|oq 25 _ (dT p' m.At)<|AE<|AW<|zl (by rw [<- hF0];simp only [FY,h1,cond_true,cond_false] <;> kernel_rfl)
theorem Db (m:AZ) (p:AC):OKc (Gy m p):=cPu<|Y6 m p
def Gr (x0:AK) (x1:Int):Bool:=bif !((decide ((((Ed x0.A x0.C).X):Int)=0))==(decide ((((Ed x0.A x0.C).Y):Int)=0))) then (decide (((Ed x0.B x0.C).X)=((Aq (AZ.mk (AC.mk 0 0) x1 false) (Ed x0.A x0.C)).X))&&(decide (((Ed x0.B x0.C).Y)=((Aq (AZ.mk (AC.mk 0 0) x1 false) (Ed x0.A x0.C)).Y))&&true)) else false
def Lk (x1:Int):CT:=(190,[.agg (AK.c x0),.one (.i x1)],.val [] (.av (.one (.b (Gr x0 x1)))))
abbrev Sy:Bool:=(!((decide ((((Ed x0.A x0.C).X):Int)=0))==(decide ((((Ed x0.A x0.C).Y):Int)=0))))
theorem R8 (x0:AK) (x1:Int):PuP 190 (Lk x0 x1).2.1 (tO (.b (Gr x0 x1))):=by
 refine pwf Tryz.func190 fun W0 M0 => ?_
 exact AB<|on<|AB<|oq 10 _ (Tj x0.A x0.C)<|AE<|AB<|od [] [(23,Nq x0.B x0.C),(27,Gy (AZ.mk (AC.mk 0 0) x1 false) (Ed x0.A x0.C))] (t4 (Sy x0) ((gk (Sy x0) (CD (Nq x0.B x0.C).2.1))::(t3 (Sy x0) ((gk (Sy x0) (CD (Gy (AZ.mk (AC.mk 0 0) x1 false) (Ed x0.A x0.C)).2.1))::(t3 (Sy x0) []))))) (.cons (Tj x0.B x0.C) (.cons (Db (AZ.mk (AC.mk 0 0) x1 false) (Ed x0.A x0.C)) .nil)) (c4 (.cons (fun _=>rfl) (c3 (.cons (fun _=>rfl) (c3 .nil)))))<|AE<|AW<|zl
theorem KU (x0:AK) (x1:Int):OKc (Lk x0 x1):=cPu<|R8 x0 x1
def KI (x0:AK):Bool:=(decide (x0.C.X=0)&&(decide (x0.C.Y=0)&&true))
def Me:CT:=(172,[.agg (AK.c x0)],.val [] (.av (.one (.b (KI x0)))))
theorem ZF (x0:AK):PuP 172 (Me x0).2.1 (tO (.b (KI x0))):=by
 refine pwf Tryz.func172 fun W0 M0 => ?_
 exact AB<|on<|AB<|on<|AW<|zl
theorem WD (x0:AK):OKc (Me x0):=cPu<|ZF x0
def Fc (x0:AK):Bool:=Gr x0 1
def HK:CT:=(175,[.agg (AK.c x0)],.val [] (.av (.one (.b (Fc x0)))))
theorem On (x0:AK):PuP 175 (HK x0).2.1 (tO (.b (Fc x0))):=by
 refine pwf Tryz.func175 fun W0 M0 => ?_
 exact AB<|on<|AB<|oq 4 _ (KU x0 1)<|AE<|AW<|zl
theorem NZ (x0:AK):OKc (HK x0):=cPu<|On x0
def E0 (x0:AK):Bool:=Gr x0 3
def Gg:CT:=(178,[.agg (AK.c x0)],.val [] (.av (.one (.b (E0 x0)))))
theorem NX (x0:AK):PuP 178 (Gg x0).2.1 (tO (.b (E0 x0))):=by
 refine pwf Tryz.func178 fun W0 M0 => ?_
 exact AB<|on<|AB<|oq 4 _ (KU x0 3)<|AE<|AW<|zl
theorem MO (x0:AK):OKc (Gg x0):=cPu<|NX x0
def PT:CT:=(164,[.one (.i 1)],.val [] (.tup [.agg [.clo 172 0 dfc,.clo 173 0 dfc,.clo 174 0 dfc,.i 1],.one (.b true)]))
theorem V3  : FV Tryz.prog 164 (PT ).2.1 (.tup [.agg [.clo 172 0 dfc,.clo 173 0 dfc,.clo 174 0 dfc,.i 1],.one (.b true)]):=by
 refine pwf Tryz.func164 fun W0 M0 => ?_
 exact AB<|on<|AB<|AB<|on<|AM<|AB<|on<|Cg kr<|AB<|on<|AW<|DB<|Be<|zl
theorem Ts  : OKc (PT ):=cPu<|V3
def PS:CT:=(164,[.one (.i 2)],.val [] (.tup [.agg [.clo 175 0 dfc,.clo 176 0 dfc,.clo 177 0 dfc,.i 3],.one (.b true)]))
theorem V2  : FV Tryz.prog 164 (PS ).2.1 (.tup [.agg [.clo 175 0 dfc,.clo 176 0 dfc,.clo 177 0 dfc,.i 3],.one (.b true)]):=by
 refine pwf Tryz.func164 fun W0 M0 => ?_
 exact AB<|on<|AB<|AB<|on<|AM<|AB<|on<|DS kr<|AB<|on<|Cg kr<|AB<|on<|AW<|DB<|Be<|zl
theorem Tr  : OKc (PS ):=cPu<|V2
def PR:CT:=(164,[.one (.i 3)],.val [] (.tup [.agg [.clo 178 0 dfc,.clo 176 0 dfc,.clo 177 0 dfc,.i 2],.one (.b true)]))
theorem V1  : FV Tryz.prog 164 (PR ).2.1 (.tup [.agg [.clo 178 0 dfc,.clo 176 0 dfc,.clo 177 0 dfc,.i 2],.one (.b true)]):=by
 refine pwf Tryz.func164 fun W0 M0 => ?_
 exact AB<|on<|AB<|AB<|on<|AM<|AB<|on<|DS kr<|AB<|on<|DS kr<|AB<|on<|Cg kr<|AB<|on<|AW<|DB<|Be<|zl
theorem Tq  : OKc (PR ):=cPu<|V1
def PQ:CT:=(164,[.one (.i k)],.val [] (.tup [.agg [.val .nilFunc,.val .nilFunc,.val .nilFunc,.i k],.one (.b false)]))
theorem Vz (k:Int) (k1:¬ k=1) (k2:¬ k=2) (k3:¬ k=3):PuP 164 (PQ k).2.1 (.tup [.agg [.val .nilFunc,.val .nilFunc,.val .nilFunc,.i k],.one (.b false)]):=by
 refine pwf Tryz.func164 fun W0 M0 => ?_
 refine AB<|on<|AB<|AB<|on<|AM<|AB<|on<|kb (decide ((k:Int)=1)) (fun h=>absurd ((decide_eq_false k1).symm.trans h) (by decide)) (fun _ => ?_)
 refine AB<|on<|kb (decide ((k:Int)=2)) (fun h=>absurd ((decide_eq_false k2).symm.trans h) (by decide)) (fun _ => ?_)
 refine AB<|on<|kb (decide ((k:Int)=3)) (fun h=>absurd ((decide_eq_false k3).symm.trans h) (by decide)) (fun _ => ?_)
 exact AQ<|A3<|AE<|AB<|on<|AW<|zl
theorem Tp (k:Int) (k1:¬ k=1) (k2:¬ k=2) (k3:¬ k=3):OKc (PQ k):=cPu<|Vz k k1 k2 k3
def Z00:Bool:=bif Cx a0 then Cx a1 else false
def Z01:Bool:=bif Z00 a0 a1 then Cx a2 else false
def cof1:CT:=(130,[.agg [.i 1,.i a0.X,.i a0.Y,.i a1.X,.i a1.Y,.i a2.X,.i a2.Y]],.val [] (.tup [.agg [.clo 172 0 dfc,.clo 173 0 dfc,.clo 174 0 dfc,.i 1],.one (.b (bif Z01 a0 a1 a2 then KI (AK.mk 1 a0 a1 a2) else false))]))
theorem rL {p:Prop} (h:p:=by
 refine pwf Tryz.func130 fun W0 M0 => ?_
 exact AB<|on<|AB<|oq 9 _ (mp0)<|AE<|AB<|od [] [(17,Dr a0),(22,Dr a1),(27,Dr a2),(33,mp1 (AK.mk mp2 a0 a1 a2))] ((((true)=true)->((true)=true))::(((true)=true)->((true)=true))::(((true)=true)->(CD (Dr a0).2.1))::((true)=true->((true)=true))::(t2 (Cx a0) ((gk (Cx a0) (CD (Dr a1).2.1))::(gt (Cx a0))::(gp ((mp3 a0 a1)=true))::(gp ((mp3 a0 a1)=true))::(((mp3 a0 a1)=true)->(CD (Dr a2).2.1))::(gp ((mp3 a0 a1)=true))::(t3 (mp4 a0 a1 a2) [gk (mp4 a0 a1 a2) (CD (mp1 (AK.mk mp2 a0 a1 a2)).2.1),gt (mp4 a0 a1 a2)])))) (.cons (Fv a0) (.cons (Fv a1) (.cons (Fv a2) (.cons (mp5 (AK.mk mp2 a0 a1 a2)) .nil)))) (ci (ci (.cons (fun _=>rfl) (ci (c2 (.cons (fun _=>rfl) (ci (ci (ci (.cons (fun _=>rfl) (ci (c3 (.cons (fun _=>rfl) (ci .nil))))))))))))))<|AE<|AW<|zl):p:=h
section
 open Go.Proofs.YtheobjkgllmnmaaGreat renaming Ts→mp0,Me→mp1,ni1→mp2,Z00→mp3,Z01→mp4,WD→mp5
theorem pof1 (a0:AC) (a1:AC) (a2:AC):PuP 130 (cof1 a0 a1 a2).2.1 (.tup [.agg [.clo 172 0 dfc,.clo 173 0 dfc,.clo 174 0 dfc,.i 1],.one (.b (bif Z01 a0 a1 a2 then KI (AK.mk 1 a0 a1 a2) else false))]):=rL
end
theorem okof1 (a0:AC) (a1:AC) (a2:AC):OKc (cof1 a0 a1 a2):=cPu<|pof1 a0 a1 a2
def Z03:Bool:=bif Cx a0 then Cx a1 else false
def Z04:Bool:=bif Z03 a0 a1 then Cx a2 else false
def cof2:CT:=(130,[.agg [.i 2,.i a0.X,.i a0.Y,.i a1.X,.i a1.Y,.i a2.X,.i a2.Y]],.val [] (.tup [.agg [.clo 175 0 dfc,.clo 176 0 dfc,.clo 177 0 dfc,.i 3],.one (.b (bif Z04 a0 a1 a2 then Fc (AK.mk 2 a0 a1 a2) else false))]))
section
 open Go.Proofs.YtheobjkgllmnmaaGreat renaming Tr→mp0,HK→mp1,ni2→mp2,Z03→mp3,Z04→mp4,NZ→mp5
theorem pof2 (a0:AC) (a1:AC) (a2:AC):PuP 130 (cof2 a0 a1 a2).2.1 (.tup [.agg [.clo 175 0 dfc,.clo 176 0 dfc,.clo 177 0 dfc,.i 3],.one (.b (bif Z04 a0 a1 a2 then Fc (AK.mk 2 a0 a1 a2) else false))]):=rL
end
theorem okof2 (a0:AC) (a1:AC) (a2:AC):OKc (cof2 a0 a1 a2):=cPu<|pof2 a0 a1 a2
def Z06:Bool:=bif Cx a0 then Cx a1 else false
def Z07:Bool:=bif Z06 a0 a1 then Cx a2 else false
def cof3:CT:=(130,[.agg [.i 3,.i a0.X,.i a0.Y,.i a1.X,.i a1.Y,.i a2.X,.i a2.Y]],.val [] (.tup [.agg [.clo 178 0 dfc,.clo 176 0 dfc,.clo 177 0 dfc,.i 2],.one (.b (bif Z07 a0 a1 a2 then E0 (AK.mk 3 a0 a1 a2) else false))]))
section
 open Go.Proofs.YtheobjkgllmnmaaGreat renaming Tq→mp0,Gg→mp1,ni3→mp2,Z06→mp3,Z07→mp4,MO→mp5
theorem pof3 (a0:AC) (a1:AC) (a2:AC):PuP 130 (cof3 a0 a1 a2).2.1 (.tup [.agg [.clo 178 0 dfc,.clo 176 0 dfc,.clo 177 0 dfc,.i 2],.one (.b (bif Z07 a0 a1 a2 then E0 (AK.mk 3 a0 a1 a2) else false))]):=rL
end
theorem okof3 (a0:AC) (a1:AC) (a2:AC):OKc (cof3 a0 a1 a2):=cPu<|pof3 a0 a1 a2
def cofN:CT:=(130,[.agg (AK.c e)],.val [] (.tup [.agg [.val .nilFunc,.val .nilFunc,.val .nilFunc,.i e.Kind],.one (.b false)]))
theorem pofN (e:AK) (k1:¬ e.Kind=1) (k2:¬ e.Kind=2) (k3:¬ e.Kind=3):PuP 130 (cofN e).2.1 (.tup [.agg [.val .nilFunc,.val .nilFunc,.val .nilFunc,.i e.Kind],.one (.b false)]):=by
 refine pwf Tryz.func130 fun W0 M0 => ?_
 exact AB<|on<|AB<|oq 9 _ (Tp e.Kind k1 k2 k3)<|AE<|AB<|od [] _ [((false)=true)->((false)=true),((false)=true)->((false)=true),((false)=true)->(CD (Dr e.A).2.1),(false)=true->((false)=true),((false)=true)->((false)=true),((false)=true)->((false)=true),((false)=true)->(CD (Dr e.B).2.1),(false)=true->((false)=true),((false)=true)->((false)=true),((false)=true)->((false)=true),((false)=true)->(CD (Dr e.C).2.1),(false)=true->((false)=true),((false)=true)->((false)=true),¬ ((false)=true),(false)=true->((false)=true)] (J3 17 22 27 (Fv e.A) (Fv e.B) (Fv e.C)) (ci (ci (.cons (fun _=>rfl) (ci (ci (ci (.cons (fun _=>rfl) (ci (ci (ci (.cons (fun _=>rfl) (ci (ci (.cons (by simp) (ci .nil)))))))))))))))<|AE<|AW<|zl
theorem okofN (e:AK) (k1:¬ e.Kind=1) (k2:¬ e.Kind=2) (k3:¬ e.Kind=3):OKc (cofN e):=cPu<|pofN e k1 k2 k3
def Su (a0:AC) (a1:AC) (a2:AC) (m:AZ):AK:=AK.mk 1 (Aq m a0) (Aq m a1) a2
def sF:CT:=(152,[.agg [.i 1,.i a0.X,.i a0.Y,.i a1.X,.i a1.Y,.i a2.X,.i a2.Y],.agg (AZ.c m)],.val [] (.av (.agg (AK.c (Su a0 a1 a2 m)))))
abbrev sX:List Cl:=[.i 0,.i 0,.i 0,.i 0,.i 0,.i 0,.i 0]
abbrev G4:Nat×Blk:=(4,.cells sX 68)
abbrev Gi:Nat×Blk:=(3,.cells (AZ.c m) 74)
abbrev Rh:Nat×Blk:=(2,.cells [.i 1,.i a0.X,.i a0.Y,.i a1.X,.i a1.Y,.i a2.X,.i a2.Y] 68)
theorem qG (a0:AC) (a1:AC) (a2:AC) (m:AZ):PuP 152 (sF a0 a1 a2 m).2.1 (.av (.agg (AK.c (Su a0 a1 a2 m)))):=by
 refine pwf Tryz.func152 fun W0 M0 => ?_
 refine AB<|on<|AB<|AB<|oq 9 _ (okof1 a0 a1 a2)<|AE<|AB<|rn ⟨(CR [(5,tP 5 0),(13,tB m.Mirror)]),[(Rh a0 a1 a2),(Gi m),G4,(5,.cells [.clo 172 0 dfc,.clo 173 0 dfc,.clo 174 0 dfc,.i 1] 241)]⟩<|Bd (⟨I8,[(Rh a0 a1 a2),(Gi m),G4]⟩) ?_ ?_
 ·refine Ap _ rfl (fun h1 => ?_) (fun h1 => ?_)
  ·refine rn ⟨I8,[(Rh a0 a1 a2),(Gi m),G4]⟩<|Al ?_
   first | rfl | (simp only [h1,cond_true,cond_false] <;> rfl)
  refine AQ<|AE<|Cv.trans (ck (⟨I8,[(Rh a0 a1 a2),(Gi m),G4]⟩)) (Al ?_)
  first | rfl | (simp only [h1,cond_true,cond_false] <;> rfl)
 exact AB<|AB<|on<|DS kr<|AQ<|AE<|AB<|oe [] _ [none,none] (J2 28 32 (Db m a0) (Db m a1)) .nil<|AE<|AB<|on<|AW<|zl
def Ss (a0:AC) (a1:AC) (a2:AC) (m:AZ):AK:=AK.mk (bif m.Mirror then 3 else 2) (Aq m a0) (Aq m a1) (AC.mk (bif !decide (((bif m.Mirror then 3 else 2):Int)=1) then ((Aq m a2).X) else a2.X) (bif !decide (((bif m.Mirror then 3 else 2):Int)=1) then ((Aq m a2).Y) else a2.Y))
def sE:CT:=(152,[.agg [.i 2,.i a0.X,.i a0.Y,.i a1.X,.i a1.Y,.i a2.X,.i a2.Y],.agg (AZ.c m)],.val [] (.av (.agg (AK.c (Ss a0 a1 a2 m)))))
theorem mac1 {p:Prop} (h:p:=by
 refine pwf Tryz.func152 fun W0 M0 => ?_
 refine AB<|on<|AB<|AB<|oq 9 _ (mp0 a0 a1 a2)<|AE<|AB<|rn ⟨[(2,tP 2 0),(3,tP 3 0),(4,tP 4 0),(5,tP 5 0),(13,tB m.Mirror)],[(2,.cells [.i mp1,.i a0.X,.i a0.Y,.i a1.X,.i a1.Y,.i a2.X,.i a2.Y] 68),(3,.cells (AZ.c m) 74),(4,.cells [.i 0,.i 0,.i 0,.i 0,.i 0,.i 0,.i 0] 68),(5,.cells [.clo mp2 0 (fun _=>default),.clo 176 0 dfc,.clo 177 0 dfc,.i mp3] 241)]⟩<|Bd (⟨[(2,tP 2 0),(3,tP 3 0),(4,tP 4 0)],[(2,.cells [.i (bif m.Mirror then mp4 else mp5),.i a0.X,.i a0.Y,.i a1.X,.i a1.Y,.i a2.X,.i a2.Y] 68),(3,.cells (AZ.c m) 74),(4,.cells [.i 0,.i 0,.i 0,.i 0,.i 0,.i 0,.i 0] 68)]⟩) ?_ ?_
 ·refine Ap _ rfl (fun h1 => ?_) (fun h1 => ?_)
  ·refine rn ⟨[(2,tP 2 0),(3,tP 3 0),(4,tP 4 0)],[(2,.cells [.i mp3,.i a0.X,.i a0.Y,.i a1.X,.i a1.Y,.i a2.X,.i a2.Y] 68),(3,.cells (AZ.c m) 74),(4,.cells [.i 0,.i 0,.i 0,.i 0,.i 0,.i 0,.i 0] 68)]⟩<|Al ?_
   first | rfl | (simp only [h1,cond_true,cond_false] <;> rfl)
  refine AQ<|AE<|Cv.trans (ck (⟨[(2,tP 2 0),(3,tP 3 0),(4,tP 4 0)],[(2,.cells [.i mp1,.i a0.X,.i a0.Y,.i a1.X,.i a1.Y,.i a2.X,.i a2.Y] 68),(3,.cells (AZ.c m) 74),(4,.cells [.i 0,.i 0,.i 0,.i 0,.i 0,.i 0,.i 0] 68)]⟩)) (Al ?_)
  first | rfl | (simp only [h1,cond_true,cond_false] <;> rfl)
 refine AB<|AB<|rn ⟨[(2,tP 2 0),(3,tP 3 0),(4,tP 4 0),(19,tB (!decide (((bif m.Mirror then mp4 else mp5):Int)=1)))],[(2,.cells [.i (bif m.Mirror then mp4 else mp5),.i a0.X,.i a0.Y,.i a1.X,.i a1.Y,.i a2.X,.i a2.Y] 68),(3,.cells (AZ.c m) 74),(4,.cells [.i 0,.i 0,.i 0,.i 0,.i 0,.i 0,.i 0] 68)]⟩<|Bd (⟨[(2,tP 2 0),(3,tP 3 0),(4,tP 4 0)],[(2,.cells [.i (bif m.Mirror then mp4 else mp5),.i a0.X,.i a0.Y,.i a1.X,.i a1.Y,.i (bif !decide (((bif m.Mirror then mp4 else mp5):Int)=1) then ((Aq m a2).X) else a2.X),.i (bif !decide (((bif m.Mirror then mp4 else mp5):Int)=1) then ((Aq m a2).Y) else a2.Y)] 68),(3,.cells (AZ.c m) 74),(4,.cells [.i 0,.i 0,.i 0,.i 0,.i 0,.i 0,.i 0] 68)]⟩) ?_ ?_
 ·refine Ap _ rfl (fun h1 => ?_) (fun h1 => ?_)
  ·have g1:=Bq h1
   refine rs 23 _ ⟨[(2,tP 2 0),(3,tP 3 0),(4,tP 4 0)],[(2,.cells [.i (bif m.Mirror then mp4 else mp5),.i a0.X,.i a0.Y,.i a1.X,.i a1.Y,.i ((Aq m a2).X),.i ((Aq m a2).Y)] 68),(3,.cells (AZ.c m) 74),(4,.cells [.i 0,.i 0,.i 0,.i 0,.i 0,.i 0,.i 0] 68)]⟩ (Db m a2)<|AE<|Al ?_
   first | rfl | (simp only [h1,cond_true,cond_false] <;> rfl)
  have g1:=BN h1
  refine AQ<|AE<|Cv.trans (ck (⟨[(2,tP 2 0),(3,tP 3 0),(4,tP 4 0)],[(2,.cells [.i (bif m.Mirror then mp4 else mp5),.i a0.X,.i a0.Y,.i a1.X,.i a1.Y,.i a2.X,.i a2.Y] 68),(3,.cells (AZ.c m) 74),(4,.cells [.i 0,.i 0,.i 0,.i 0,.i 0,.i 0,.i 0] 68)]⟩)) (Al ?_)
  first | rfl | (simp only [h1,cond_true,cond_false] <;> rfl)
 exact AB<|oe [] _ [none,none] (J2 28 32 (Db m a0) (Db m a1)) .nil<|AE<|AB<|on<|AW<|zl):p:=h
section
 open Go.Proofs.YtheobjkgllmnmaaGreat renaming okof2→mp0,ni2→mp1,nn175→mp2,ni3→mp3,nn3→mp4,nn2→mp5
theorem qF (a0:AC) (a1:AC) (a2:AC) (m:AZ):PuP 152 (sE a0 a1 a2 m).2.1 (.av (.agg (AK.c (Ss a0 a1 a2 m)))):=mac1
end
def Sr (a0:AC) (a1:AC) (a2:AC) (m:AZ):AK:=AK.mk (bif m.Mirror then 2 else 3) (Aq m a0) (Aq m a1) (AC.mk (bif !decide (((bif m.Mirror then 2 else 3):Int)=1) then ((Aq m a2).X) else a2.X) (bif !decide (((bif m.Mirror then 2 else 3):Int)=1) then ((Aq m a2).Y) else a2.Y))
def sD:CT:=(152,[.agg [.i 3,.i a0.X,.i a0.Y,.i a1.X,.i a1.Y,.i a2.X,.i a2.Y],.agg (AZ.c m)],.val [] (.av (.agg (AK.c (Sr a0 a1 a2 m)))))
section
 open Go.Proofs.YtheobjkgllmnmaaGreat renaming okof3→mp0,ni3→mp1,nn178→mp2,ni2→mp3,nn2→mp4,nn3→mp5
theorem qE (a0:AC) (a1:AC) (a2:AC) (m:AZ):PuP 152 (sD a0 a1 a2 m).2.1 (.av (.agg (AK.c (Sr a0 a1 a2 m)))):=mac1
end
def Sq (e:AK) (m:AZ):AK:=AK.mk e.Kind (Aq m e.A) (Aq m e.B) (AC.mk (bif !decide ((e.Kind:Int)=1) then ((Aq m e.C).X) else e.C.X) (bif !decide ((e.Kind:Int)=1) then ((Aq m e.C).Y) else e.C.Y))
def sC:CT:=(152,[.agg (AK.c e),.agg (AZ.c m)],.val [] (.av (.agg (AK.c (Sq e m)))))
abbrev OB:List (Nat×Blk):=[(2,.cells (AK.c e) 68),(Gi m),G4]
theorem qC (e:AK) (m:AZ) (k1:¬ e.Kind=1) (k2:¬ e.Kind=2) (k3:¬ e.Kind=3):PuP 152 (sC e m).2.1 (.av (.agg (AK.c (Sq e m)))):=by
 refine pwf Tryz.func152 fun W0 M0 => ?_
 refine AB<|on<|AB<|AB<|oq 9 _ (okofN e k1 k2 k3)<|AE<|AB<|rn ⟨(CR [(5,tP 5 0),(13,tB m.Mirror)]),[(2,.cells (AK.c e) 68),(Gi m),G4,(5,.cells [.val .nilFunc,.val .nilFunc,.val .nilFunc,.i e.Kind] 241)]⟩<|Bd (⟨I8,(OB e m)⟩) ?_ ?_
 ·refine Ap _ rfl (fun h4 => ?_) (fun h4 => ?_)
  ·refine rn ⟨I8,(OB e m)⟩<|Al ?_
   first | rfl | (simp only [h4,cond_true,cond_false] <;> rfl)
  refine AQ<|AE<|Cv.trans (ck (⟨I8,(OB e m)⟩)) (Al ?_)
  first | rfl | (simp only [h4,cond_true,cond_false] <;> rfl)
 refine AB<|AB<|rn ⟨(CR [(19,tB (!decide ((e.Kind:Int)=1)))]),(OB e m)⟩<|Bd (⟨I8,[(2,.cells [.i e.Kind,.i e.A.X,.i e.A.Y,.i e.B.X,.i e.B.Y,.i (bif !decide ((e.Kind:Int)=1) then ((Aq m e.C).X) else e.C.X),.i (bif !decide ((e.Kind:Int)=1) then ((Aq m e.C).Y) else e.C.Y)] 68),(Gi m),G4]⟩) ?_ ?_
 ·refine Ap _ rfl (fun h4 => ?_) (fun h4 => ?_)
  ·have g4:=Bq h4
   refine rs 23 _ ⟨I8,[(2,.cells [.i e.Kind,.i e.A.X,.i e.A.Y,.i e.B.X,.i e.B.Y,.i ((Aq m e.C).X),.i ((Aq m e.C).Y)] 68),(Gi m),G4]⟩ (Db m e.C)<|AE<|Al ?_
   first | rfl | (simp only [h4,cond_true,cond_false] <;> rfl)
  have g4:=BN h4
  refine AQ<|AE<|Cv.trans (ck (⟨I8,(OB e m)⟩)) (Al ?_)
  first | rfl | (simp only [h4,cond_true,cond_false] <;> rfl)
 exact AB<|oe [] _ [none,none] (J2 28 32 (Db m e.A) (Db m e.B)) .nil<|AE<|AB<|on<|AW<|zl
def D1 (e:AK) (m:AZ):AK:=if e.Kind=1 then Su e.A e.B e.C m else if e.Kind=2 then Ss e.A e.B e.C m else if e.Kind=3 then Sr e.A e.B e.C m else Sq e m
def oV:CT:=(152,[.agg (AK.c e),.agg (AZ.c m)],.val [] (.av (.agg (AK.c (D1 e m)))))
theorem pMove (e:AK) (m:AZ):PuP 152 (oV e m).2.1 (.av (.agg (AK.c (D1 e m)))):=by
 by_cases k1:e.Kind=1
 ·have hF:D1 e m=Su e.A e.B e.C m:=by unfold D1;rw [if_pos k1]
  rw [hF];obtain ⟨k,a0,a1,a2⟩:=e;simp only at k1;subst k1;exact qG a0 a1 a2 m
 by_cases k2:e.Kind=2
 ·have hF:D1 e m=Ss e.A e.B e.C m:=by unfold D1;rw [if_neg k1];rw [if_pos k2]
  rw [hF];obtain ⟨k,a0,a1,a2⟩:=e;simp only at k2;subst k2;exact qF a0 a1 a2 m
 by_cases k3:e.Kind=3
 ·have hF:D1 e m=Sr e.A e.B e.C m:=by unfold D1;rw [if_neg k1];rw [if_neg k2];rw [if_pos k3]
  rw [hF];obtain ⟨k,a0,a1,a2⟩:=e;simp only at k3;subst k3;exact qE a0 a1 a2 m
 have hF:D1 e m=Sq e m:=by unfold D1;rw [if_neg k1,if_neg k2,if_neg k3]
 rw [hF];exact qC e m k1 k2 k3
theorem eD (e:AK) (m:AZ):OKc (oV e m):=cPu<|pMove e m
end
section
open Go.ChangeShapes Go.WideShapes Go.ChangeAt Go.RowKit
theorem own:ownKnob Tryz.prog.godebug=none:=by kernel_rfl
theorem mK:laidOutB Tryz.prog=true:=by kernel_rfl
theorem opT57:FC Tryz.prog 57 (fun xs:List Int=>[lst 1 eIn xs]) (fun xs=>xs.length<=maxLen/\∀ x∈xs,WF .i64 x):=JY 1 Tryz.underlying57 kr (by decide) (Do Tryz.underlying3)
theorem opT22:FC Tryz.prog 22 (fun xs:List (List Int)=>[lst 1 (fun x=>[lst 1 eIn x]) xs]) (fun xs=>xs.length<=maxLen/\∀ x∈xs,(x.length<=maxLen/\∀ y∈x,WF .i64 y)):=JY 1 Tryz.underlying22 kr (by decide) opT57
def Uq.ok (x:Uq):Prop:=WF .i64 x.e0/\WF .i64 x.e1/\WF .i64 x.e2/\True
theorem opT23:FC Tryz.prog 23 Uq.c Uq.ok:=by
 refine Gu (Th Tryz.underlying23 kr (Do Tryz.underlying3)) ?_
 rintro xs ⟨hl,hx⟩
 match xs,hl with
 | [a0,a1,a2],_=>exact ⟨⟨a0,a1,a2⟩,⟨hx _ (by simp),hx _ (by simp),hx _ (by simp),trivial⟩,rfl⟩
def EA.ok (x:EA):Prop:=(x.Board.length<=maxLen/\∀ y∈x.Board,(y.length<=maxLen/\∀ z∈y,WF .i64 z))/\Uq.ok x.Odd/\True
theorem opT25:FC Tryz.prog 25 EA.c EA.ok:=by
 refine Gu (FP Tryz.underlying25 kr (Bh 1 kr rfl opT22 (Bh 3 kr rfl opT23 HC))) ?_
 rintro ⟨a0,a1,_⟩ ⟨h0,h1,_⟩
 exact ⟨⟨a0,a1⟩,⟨h0,h1,trivial⟩,rfl⟩
def AC.ok (x:AC):Prop:=WF .i64 x.X/\WF .i64 x.Y/\True
theorem dR:FC Tryz.prog 66 AC.c AC.ok:=by
 refine Gu (FP Tryz.underlying66 kr (Bh 1 kr rfl (Do Tryz.underlying3) (Bh 1 kr rfl (Do Tryz.underlying3) HC))) ?_
 rintro ⟨a0,a1,_⟩ ⟨h0,h1,_⟩
 exact ⟨⟨a0,a1⟩,⟨h0,h1,trivial⟩,rfl⟩
def AK.ok (x:AK):Prop:=WF .i64 x.Kind/\AC.ok x.A/\AC.ok x.B/\AC.ok x.C/\True
theorem opT68:FC Tryz.prog 68 AK.c AK.ok:=by
 refine Gu (FP Tryz.underlying68 kr (Bh 1 kr rfl (Do Tryz.underlying3) (Bh 2 kr rfl dR (Bh 2 kr rfl dR (Bh 2 kr rfl dR HC))))) ?_
 rintro ⟨a0,a1,a2,a3,_⟩ ⟨h0,h1,h2,h3,_⟩
 exact ⟨⟨a0,a1,a2,a3⟩,⟨h0,h1,h2,h3,trivial⟩,rfl⟩
theorem opT26:FC Tryz.prog 26 (fun xs:List AK=>[lst 7 AK.c xs]) (fun xs=>xs.length<=maxLen/\∀ x∈xs,AK.ok x):=JY 7 Tryz.underlying26 kr (by decide) opT68
def AO.ok (x:AO):Prop:=WF .i64 x.Kind/\(x.Edges.length<=maxLen/\∀ y∈x.Edges,AK.ok y)/\WF .i64 x.R/\True
theorem opT28:FC Tryz.prog 28 AO.c AO.ok:=by
 refine Gu (FP Tryz.underlying28 kr (Bh 1 kr rfl (Do Tryz.underlying3) (Bh 1 kr rfl opT26 (Bh 1 kr rfl (Do Tryz.underlying3) HC)))) ?_
 rintro ⟨a0,a1,a2,_⟩ ⟨h0,h1,h2,_⟩
 exact ⟨⟨a0,a1,a2⟩,⟨h0,h1,h2,trivial⟩,rfl⟩
def AL.ok (x:AL):Prop:=WF .i64 x.Id/\x.Pad.size<=maxLen/\WF .i64 x.Kind/\x.Net.size<=maxLen/\WF .i64 x.From/\WF .i64 x.To/\AO.ok x.Shape/\True
theorem opT61:FC Tryz.prog 61 AL.c AL.ok:=by
 refine Gu (FP Tryz.underlying61 kr (Bh 1 kr rfl (Do Tryz.underlying3) (Bh 1 kr rfl (LR Tryz.underlying9) (Bh 1 kr rfl (Do Tryz.underlying3) (Bh 1 kr rfl (LR Tryz.underlying9) (Bh 1 kr rfl (Do Tryz.underlying3) (Bh 1 kr rfl (Do Tryz.underlying3) (Bh 3 kr rfl opT28 HC)))))))) ?_
 rintro ⟨a0,a1,a2,a3,a4,a5,a6,_⟩ ⟨h0,h1,h2,h3,h4,h5,h6,_⟩
 exact ⟨⟨a0,a1,a2,a3,a4,a5,a6⟩,⟨h0,h1,h2,h3,h4,h5,h6,trivial⟩,rfl⟩
end
def F6 (x0:AC) (x1:AC):AC:=AC.mk (W64 (x0.X+x1.X)) (W64 (x0.Y+x1.Y))
def Q3 (x0:AC) (x1:AC):CT:=(123,[.agg (AC.c x0),.agg (AC.c x1)],.val [] (.av (.agg (AC.c (F6 x0 x1)))))
theorem ZD (x0:AC) (x1:AC):PuP 123 (Q3 x0 x1).2.1 (.av (.agg (AC.c (F6 x0 x1)))):=by
 refine pwf Tryz.func123 fun W0 M0 => ?_
 exact AB<|on<|AB<|on<|AW<|zl
theorem Ku (x0:AC) (x1:AC):OKc (Q3 x0 x1):=cPu<|ZD x0 x1
def CP (x0:Int):Int:=Int.tmod (W64 ((Int.tmod x0 4)+4)) 4
def NI (x0:Int):CT:=(163,[.one (.i x0)],.val [] (.av (.one (.i (CP x0)))))
theorem au15 {p:Prop} (h:p:=by first | assumption | decide | omega):p:=h
theorem Tc (x0:Int):PuP 163 (NI x0).2.1 (tO (.i (CP x0))):=by
 refine pwf Tryz.func163 fun W0 M0 => ?_
 exact AB<|on<|AB<|oc [] [(4:Int)≠0,(4:Int)≠0] .nil (H2 au15 au15)<|AE<|AW<|zl
theorem SB (x0:Int):OKc (NI x0):=cPu<|Tc x0
def Bv (x0:AC) (x1:Int):AC:=bif decide (((CP x1):Int)=1) then (AC.mk (W64 (0-x0.Y)) x0.X) else (bif decide (((CP x1):Int)=2) then (AC.mk (W64 (0-x0.X)) (W64 (0-x0.Y))) else (bif decide (((CP x1):Int)=3) then (AC.mk x0.Y (W64 (0-x0.X))) else (x0)))
def Li (x0:AC) (x1:Int):CT:=(124,[.agg (AC.c x0),.one (.i x1)],.val [] (.av (.agg (AC.c (Bv x0 x1)))))
theorem R0 (x0:AC) (x1:Int):PuP 124 (Li x0 x1).2.1 (.av (.agg (AC.c (Bv x0 x1)))):=by
 refine pwf Tryz.func124 fun W0 M0 => ?_
 refine AB<|on<|AB<|AB<|oq 6 _ (SB x1)<|AE<|AM<|AB<|on<|kb (decide (((CP x1):Int)=1)) (fun h1 => ?_) (fun h1 => ?_)
 ·exact AB<|on<|AW<|DB<|Be<|zl (by simp only [Bv,h1,cond_true,cond_false] <;> kernel_rfl)
 refine AB<|on<|kb (decide (((CP x1):Int)=2)) (fun h2 => ?_) (fun h2 => ?_)
 ·exact AB<|on<|AW<|DB<|Be<|zl (by simp only [Bv,h1,h2,cond_true,cond_false] <;> kernel_rfl)
 refine AB<|on<|kb (decide (((CP x1):Int)=3)) (fun h3 => ?_) (fun h3 => ?_)
 ·exact AB<|on<|AW<|DB<|Be<|zl (by simp only [Bv,h1,h2,h3,cond_true,cond_false] <;> kernel_rfl)
 exact AQ<|A3<|AE<|AB<|on<|AW<|zl (by simp only [Bv,h1,h2,h3,cond_true,cond_false] <;> kernel_rfl)
theorem Pz (x0:AC) (x1:Int):OKc (Li x0 x1):=cPu<|R0 x0 x1
def CB (x0:AC) (x1:Bool):AC:=AC.mk (bif x1 then (W64 (0-x0.X)) else x0.X) x0.Y
def Jk (x0:AC) (x1:Bool):CT:=(125,[.agg (AC.c x0),.one (.b x1)],.val [] (.av (.agg (AC.c (CB x0 x1)))))
theorem Oj (x0:AC) (x1:Bool):PuP 125 (Jk x0 x1).2.1 (.av (.agg (AC.c (CB x0 x1)))):=by
 refine pwf Tryz.func125 fun W0 M0 => ?_
 refine AB<|on<|AB<|AB<|rn ⟨[(2,tP 2 0),(4,tP 4 0),(5,tB x1)],[(2,.cells (AC.c x0) 66),G7]⟩<|Bd (⟨[(2,tP 2 0),(4,tP 4 0)],[(2,.cells [.i (bif x1 then (W64 (0-x0.X)) else x0.X),.i x0.Y] 66),G7]⟩) ?_ ?_
 ·refine Ap _ rfl (fun h1 => ?_) (fun h1 => ?_)
  ·refine rn ⟨[(2,tP 2 0),(4,tP 4 0)],[(2,.cells [.i (W64 (0-x0.X)),.i x0.Y] 66),G7]⟩<|Al ?_
   first | rfl | (simp only [h1,cond_true,cond_false] <;> rfl)
  refine AQ<|AE<|Cv.trans (ck (⟨[(2,tP 2 0),(4,tP 4 0)],[(2,.cells (AC.c x0) 66),G7]⟩)) (Al ?_)
  first | rfl | (simp only [h1,cond_true,cond_false] <;> rfl)
 exact AB<|on<|AW<|zl
theorem NY (x0:AC) (x1:Bool):OKc (Jk x0 x1):=cPu<|Oj x0 x1
def Z09 (x1:AC) (x0:AZ):AC:=Bv (CB x1 x0.Mirror) x0.Turn
def Az (x0:AZ) (x1:AC):AC:=F6 (Z09 x1 x0) x0.At
def NJ (x0:AZ) (x1:AC):CT:=(66,[.agg (AZ.c x0),.agg (AC.c x1)],.val [] (.av (.agg (AC.c (Az x0 x1)))))
theorem Td (x0:AZ) (x1:AC):PuP 66 (NJ x0 x1).2.1 (.av (.agg (AC.c (Az x0 x1)))):=by
 refine pwf Tryz.func66 fun W0 M0 => ?_
 exact AB<|on<|AB<|oe [] _ [none,none,none] (J3 8 11 14 (NY x1 x0.Mirror) (Pz (CB x1 x0.Mirror) x0.Turn) (Ku (Z09 x1 x0) x0.At)) .nil<|AE<|AW<|zl
theorem EZ (x0:AZ) (x1:AC):OKc (NJ x0 x1):=cPu<|Td x0 x1
def EW (x0:Int):Int:=bif decide ((x0:Int)=2) then (3) else (bif decide ((x0:Int)=3) then (2) else (x0))
def PO (x0:Int):CT:=(129,[.one (.i x0)],.val [] (.av (.one (.i (EW x0)))))
theorem Vr (x0:Int):PuP 129 (PO x0).2.1 (tO (.i (EW x0))):=by
 refine pwf Tryz.func129 fun W0 M0 => ?_
 refine AB<|on<|AB<|AB<|on<|AM<|AB<|on<|kb (decide ((x0:Int)=2)) (fun h1 => ?_) (fun h1 => ?_)
 ·exact AB<|on<|AW<|DB<|Be<|zl (by simp only [EW,h1,cond_true,cond_false] <;> kernel_rfl)
 refine AB<|rn ⟨[(0,tI x0),(6,tB (decide ((x0:Int)=3)))],[]⟩<|Ap _ rfl (fun h2 => ?_) (fun h2 => ?_)
 ·exact AB<|on<|AW<|DB<|Be<|zl (by simp only [EW,h1,h2,cond_true,cond_false] <;> kernel_rfl)
 exact AQ<|A3<|AE<|AB<|on<|AW<|zl (by simp only [EW,h1,h2,cond_true,cond_false] <;> kernel_rfl)
theorem Tm (x0:Int):OKc (PO x0):=cPu<|Vr x0
def Dh (x0:AK) (x1:AZ):AK:=AK.mk (bif x1.Mirror then (EW x0.Kind) else x0.Kind) (Az x1 x0.A) (Az x1 x0.B) (AC.mk (bif !decide ((x0.Kind:Int)=1) then ((Az x1 x0.C).X) else x0.C.X) (bif !decide ((x0.Kind:Int)=1) then ((Az x1 x0.C).Y) else x0.C.Y))
def PP (x0:AK) (x1:AZ):CT:=(74,[.agg (AK.c x0),.agg (AZ.c x1)],.val [] (.av (.agg (AK.c (Dh x0 x1)))))
abbrev N4 (x0:AK) (x1:AZ) (t_:List Cl):List Cl:=(.i x0.Kind)::(.i ((Az x1 x0.A).X))::(.i ((Az x1 x0.A).Y))::(.i ((Az x1 x0.B).X))::(.i ((Az x1 x0.B).Y))::t_
abbrev bF (x0:AK) (x1:AZ):List (Nat×Blk):=[(2,.cells (AK.c x0) 68),(3,.cells (AZ.c x1) 74),G4,(5,.cells (N4 x0 x1 [.i x0.C.X,.i x0.C.Y]) 68)]
abbrev VJ:List (Nat×Tv):=(CR [(5,tP 5 0)])
theorem Vs (x0:AK) (x1:AZ):PuP 74 (PP x0 x1).2.1 (.av (.agg (AK.c (Dh x0 x1)))):=by
 refine pwf Tryz.func74 fun W0 M0 => ?_
 refine AB<|on<|AB<|oe [] _ [none,none] (J2 11 15 (EZ x1 x0.A) (EZ x1 x0.B)) .nil<|AE<|AB<|AB<|rn ⟨(CR [(5,tP 5 0),(21,tB (!decide ((x0.Kind:Int)=1)))]),(bF x0 x1)⟩<|Bd (⟨VJ,[(2,.cells (AK.c x0) 68),(3,.cells (AZ.c x1) 74),G4,(5,.cells (N4 x0 x1 [.i (bif !decide ((x0.Kind:Int)=1) then ((Az x1 x0.C).X) else x0.C.X),.i (bif !decide ((x0.Kind:Int)=1) then ((Az x1 x0.C).Y) else x0.C.Y)]) 68)]⟩) ?_ ?_
 ·refine Ap _ rfl (fun h1 => ?_) (fun h1 => ?_)
  ·have g1:=Bq h1
   refine rs 25 _ ⟨VJ,[(2,.cells (AK.c x0) 68),(3,.cells (AZ.c x1) 74),G4,(5,.cells (N4 x0 x1 [.i ((Az x1 x0.C).X),.i ((Az x1 x0.C).Y)]) 68)]⟩ (EZ x1 x0.C)<|AE<|Al ?_
   first | rfl | (simp only [h1,cond_true,cond_false] <;> rfl)
  have g1:=BN h1
  refine AQ<|AE<|Cv.trans (ck (⟨VJ,(bF x0 x1)⟩)) (Al ?_)
  first | rfl | (simp only [h1,cond_true,cond_false] <;> rfl)
 refine AB<|AB<|rn ⟨[(2,tP 2 0),(4,tP 4 0),(5,tP 5 0),(28,tB x1.Mirror)],[(2,.cells (AK.c x0) 68),G4,(5,.cells (N4 x0 x1 [.i (bif !decide ((x0.Kind:Int)=1) then ((Az x1 x0.C).X) else x0.C.X),.i (bif !decide ((x0.Kind:Int)=1) then ((Az x1 x0.C).Y) else x0.C.Y)]) 68)]⟩<|Bd (⟨[(4,tP 4 0),(5,tP 5 0)],[G4,(5,.cells [.i (bif x1.Mirror then (EW x0.Kind) else x0.Kind),.i ((Az x1 x0.A).X),.i ((Az x1 x0.A).Y),.i ((Az x1 x0.B).X),.i ((Az x1 x0.B).Y),.i (bif !decide ((x0.Kind:Int)=1) then ((Az x1 x0.C).X) else x0.C.X),.i (bif !decide ((x0.Kind:Int)=1) then ((Az x1 x0.C).Y) else x0.C.Y)] 68)]⟩) ?_ ?_
 ·refine Ap _ rfl (fun h1 => ?_) (fun h1 => ?_)
  ·refine rs 31 _ ⟨[(4,tP 4 0),(5,tP 5 0)],[G4,(5,.cells [.i (EW x0.Kind),.i ((Az x1 x0.A).X),.i ((Az x1 x0.A).Y),.i ((Az x1 x0.B).X),.i ((Az x1 x0.B).Y),.i (bif !decide ((x0.Kind:Int)=1) then ((Az x1 x0.C).X) else x0.C.X),.i (bif !decide ((x0.Kind:Int)=1) then ((Az x1 x0.C).Y) else x0.C.Y)] 68)]⟩ (Tm x0.Kind)<|AE<|Al ?_
   first | rfl | (simp only [h1,cond_true,cond_false] <;> rfl)
  refine AQ<|AE<|Cv.trans (ck (⟨[(4,tP 4 0),(5,tP 5 0)],[G4,(5,.cells (N4 x0 x1 [.i (bif !decide ((x0.Kind:Int)=1) then ((Az x1 x0.C).X) else x0.C.X),.i (bif !decide ((x0.Kind:Int)=1) then ((Az x1 x0.C).Y) else x0.C.Y)]) 68)]⟩)) (Al ?_)
  first | rfl | (simp only [h1,cond_true,cond_false] <;> rfl)
 exact AB<|on<|AW<|zl
theorem Tn (x0:AK) (x1:AZ):OKc (PP x0 x1):=cPu<|Vs x0 x1
def Z0a (x2:Int) (x1:Int):AC:=Az (AZ.mk (AC.mk 0 0) x2 false) (AC.mk x1 0)
def Z0b (x3:Int) (x2:Int) (x1:Int):AC:=Az (AZ.mk (AC.mk 0 0) (bif decide ((x3:Int)=3) then (W64 (x2+3)) else (W64 (x2+1))) false) (AC.mk x1 0)
def FD (x0:AC) (x1:Int) (x2:Int) (x3:Int):AK:=AK.mk x3 (F6 x0 (Z0a x2 x1)) (F6 x0 (Z0b x3 x2 x1)) x0
def Q2 (x0:AC) (x1:Int) (x2:Int) (x3:Int):CT:=(93,[.agg (AC.c x0),.one (.i x1),.one (.i x2),.one (.i x3)],.val [] (.av (.agg (AK.c (FD x0 x1 x2 x3)))))
abbrev Ri (x0:AC) (x2:Int) (x1:Int):List (Nat×Blk):=[(4,.cells (AC.c x0) 66),(8,.cells sX 68),(9,.cells (AC.c (Z0a x2 x1)) 66)]
theorem ZC (x0:AC) (x1:Int) (x2:Int) (x3:Int):PuP 93 (Q2 x0 x1 x2 x3).2.1 (.av (.agg (AK.c (FD x0 x1 x2 x3)))):=by
 refine pwf Tryz.func93 fun W0 M0 => ?_
 refine AB<|on<|AB<|oq 16 _ (EZ (AZ.mk (AC.mk 0 0) x2 false) (AC.mk x1 0))<|AE<|AB<|on<|AB<|AB<|rn ⟨[(1,tI x1),(2,tI x2),(3,tI x3),(4,tP 4 0),(8,tP 8 0),(9,tP 9 0),(10,tI (W64 (x2+1))),(20,tB (decide ((x3:Int)=3)))],(Ri x0 x2 x1)⟩<|Bd (⟨[(1,tI x1),(3,tI x3),(4,tP 4 0),(8,tP 8 0),(9,tP 9 0),(10,tI (bif decide ((x3:Int)=3) then (W64 (x2+3)) else (W64 (x2+1))))],(Ri x0 x2 x1)⟩) ?_ ?_
 ·refine Ap _ rfl (fun h1 => ?_) (fun h1 => ?_)
  ·refine rn ⟨[(1,tI x1),(3,tI x3),(4,tP 4 0),(8,tP 8 0),(9,tP 9 0),(10,tI (W64 (x2+3)))],(Ri x0 x2 x1)⟩<|Al ?_
   first | rfl | (simp only [h1,cond_true,cond_false] <;> rfl)
  refine AQ<|AE<|Cv.trans (ck (⟨[(1,tI x1),(3,tI x3),(4,tP 4 0),(8,tP 8 0),(9,tP 9 0),(10,tI (W64 (x2+1)))],(Ri x0 x2 x1)⟩)) (Al ?_)
  first | rfl | (simp only [h1,cond_true,cond_false] <;> rfl)
 exact AB<|oq 27 _ (EZ (AZ.mk (AC.mk 0 0) (bif decide ((x3:Int)=3) then (W64 (x2+3)) else (W64 (x2+1))) false) (AC.mk x1 0))<|AE<|AB<|oe [] _ [none,none] (J2 31 34 (Ku x0 (Z0a x2 x1)) (Ku x0 (Z0b x3 x2 x1))) .nil<|AE<|AW<|zl
theorem D5 (x0:AC) (x1:Int) (x2:Int) (x3:Int):OKc (Q2 x0 x1 x2 x3):=cPu<|ZC x0 x1 x2 x3
def U1 (n:Int) (m:Int):Int:=Int.tmod (W64 ((Int.tmod n m)+m)) m
def cMod (n:Int) (m:Int):CT:=(29,[.one (.i n),.one (.i m)],.val [] (.av (.one (.i (U1 n m)))))
theorem pMod (n:Int) (m:Int) (hm:m≠0):PuP 29 (cMod n m).2.1 (tO (.i (U1 n m))):=by
 refine pwf Tryz.func29 fun W0 M0 => ?_
 exact AB<|on<|AB<|oc [] [(m:Int)≠0,(m:Int)≠0] .nil (H2 au15 au15)<|AE<|AW<|zl
theorem okMod (n:Int) (m:Int) (hm:m≠0):OKc (cMod n m):=cPu<|pMod n m hm
def CJ (d:AD):Prop:=0<=d.At/\d.At<=d.L.length/\(d.L.length:Int)<=9223372036854775807
def AA (d:AD) (n:Int):(Int×AD):=bif decide ((((d.L.length:Int)):Int)<=d.At) then ((0,d)) else ((U1 (d.L.getD ((W64 ((W64 (d.At+1))-1)).toNat) default) n,AD.mk d.L (W64 (d.At+1))))
theorem au10 {p:Prop} (h:p:=by first | with_reducible assumption | omega | decide | (simp only [List.length_cons,List.length_nil,List.length_append];omega) | assumption):p:=h
theorem au0 {p:Prop} (h:p:=by first | decide | omega | exact Ld (by first | omega | (simp only [Bf];omega)) (by omega) | (simp only [Bf];omega) | (constructor <;> omega) | (simp only [List.length_append,List.length_cons,List.length_nil];omega) | (simp only [List.length_append,List.length_cons,List.length_nil,List.length_drop,List.length_take] at *;omega)):p:=h
theorem BR  (d:AD) (n:Int) (hd:CJ d) (hn:n≠0):Wr Tryz.prog 42 1000 [.one (.ptr 1000 0),.one (.i n)] (.cells (AD.c d) 117) (tO (.i ((AA d n).1))) (.cells (AD.c ((AA d n).2)) 117):=by
 refine Ht Tryz.func42 rfl kr kr kr kr fun W0 M0 X hX => ?_
 obtain ⟨a1,a2,a3⟩:=hd
 refine AB<|on<|AB<|AB<|od [] [] [] .nil .nil<|AE<|kb (decide ((((d.L.length:Int)):Int)<=d.At)) (fun h1 => ?_) (fun h1 => ?_)
 ·have g1:=oT h1
  exact AB<|on<|AW<|Be<|xl (tO (.i 0)) ⟨Ej (by simp only [AA,h1,cond_true,cond_false] <;> rfl),.cells (AD.c d) 117,by kernel_rfl,DP (by first | (simp only [AA,h1,cond_true,cond_false];done) | (simp only [AA,h1,cond_true,cond_false];kernel_rfl))⟩
 have g1:=oF h1
 exact AQ<|AE<|AB<|on<|AB<|oe [] _ [0<=(W64 ((W64 (d.At+1))-1):Int)/\(W64 ((W64 (d.At+1))-1):Int)<((d.L.length:Nat):Int),none] (J1 34 (okMod (d.L.getD ((W64 ((W64 (d.At+1))-1)).toNat) default) n au10)) (H1 au0)<|AE<|AW<|xl (tO (.i (U1 (d.L.getD ((W64 ((W64 (d.At+1))-1)).toNat) default) n))) ⟨Ej (by simp only [AA,h1,cond_true,cond_false] <;> rfl),.cells [lst 1 eIn d.L,.i (W64 (d.At+1))] 117,by kernel_rfl,DP (by first | (simp only [AA,h1,cond_true,cond_false];done) | (simp only [AA,h1,cond_true,cond_false];kernel_rfl))⟩
theorem CV {l:List Int} (h:(l.length:Int)<=9223372036854775807):CJ (AD.mk l 0):=⟨Int.le_refl _,by show (0:Int)<=(l.length:Int);omega,h⟩
theorem BO {d:AD} {n:Int} (h:CJ d):CJ (AA d n).2:=by
 obtain ⟨h1,h2,h3⟩:=h
 unfold AA
 by_cases hc:(d.L.length:Int)<=d.At
 ·simp only [hc,decide_true,cond_true];exact ⟨h1,h2,h3⟩
 simp only [hc,decide_false,cond_false]
 rw [Ae (by omega) (by omega)]
 exact ⟨by show 0<=d.At+1;omega,by show d.At+1<=(d.L.length:Int);omega,h3⟩
theorem mod_b (n m:Int) (h0:0<m) (h1:m<=4611686018427387904):0<=U1 n m/\U1 n m<m:=by
 have e:U1 n m=n % m:=by
  unfold U1 W64
  rcases Int.lt_or_le n 0 with h | h
  ·have b1:=Int.emod_nonneg (-n) (show m≠0 by omega)
   have b2:=Int.emod_lt_of_pos (-n) h0
   rw [show n.tmod m = -((-n) % m) by rw [<- Int.tmod_eq_emod_of_nonneg (by omega),Int.neg_tmod,Int.neg_neg]]
   rw [IntKind.wrap_i64]
   rw [show (-((-n) % m)+m+9223372036854775808) % 18446744073709551616-9223372036854775808 = -((-n) % m)+m by omega]
   rw [Int.tmod_eq_emod_of_nonneg (by omega)]
   have e1:=Int.emod_add_mul_ediv (-n) m
   have e2 : -((-n) % m)+m=n+m*((-n)/m+1):=by grind
   rw [e2,Int.add_mul_emod_self_left]
  have b1:=Int.emod_nonneg n (show m≠0 by omega)
  have b2:=Int.emod_lt_of_pos n h0
  rw [Int.tmod_eq_emod_of_nonneg h,IntKind.wrap_i64]
  rw [show (n % m+m+9223372036854775808) % 18446744073709551616-9223372036854775808=n % m+m by omega]
  rw [Int.tmod_eq_emod_of_nonneg (by omega),Int.add_emod_right,Int.emod_emod_of_dvd _ (Int.dvd_refl m)]
 rw [e]
 exact ⟨Int.emod_nonneg n (by omega),Int.emod_lt_of_pos n h0⟩
theorem DO (d:AD) (n:Int) (h0:0<n) (h1:n<=4611686018427387904):0<=(AA d n).1/\(AA d n).1<n:=by
 unfold AA
 by_cases hc:(d.L.length:Int)<=d.At
 ·simp only [hc,decide_true,cond_true];omega
 simp only [hc,decide_false,cond_false]
 exact mod_b _ n h0 h1
theorem SL {v a:Int} {d:AD} {n:Int} (h:v<W64 (a+(AA d n).1)) (h0:0<n) (h1:n<=1000000) (ha:0<=a) (hb:a<=1000000):v<a+n:=by
 have:=DO d n h0 (by omega)
 rw [Ae (by omega) (by omega)] at h
 omega
theorem SU {v a:Int} {d:AD} {n:Int} (h:¬ v<W64 (a+(AA d n).1)) (h0:0<n) (h1:n<=1000000) (ha:0<=a) (hb:a<=1000000):W64 (a+(AA d n).1)<a+n:=by
 have:=DO d n h0 (by omega)
 rw [Ae (by omega) (by omega)]
 omega
theorem Nw {p q:Prop} [Decidable p] [Decidable q] (h:(bif decide p then decide q else false)=true):p/\q:=by
 by_cases hp:p
 ·rw [decide_eq_true hp] at h;exact ⟨hp,of_decide_eq_true h⟩
 rw [decide_eq_false hp] at h;cases h
theorem Cr {c:Bool} {a b:AD} (ha:CJ a) (hb:CJ b):CJ (bif c then a else b):=by cases c <;> assumption
theorem J7 (d:AD) (n k:Int) (h0:0<n) (h1:n<=4611686018427387904) (h2:n<=k):0<=(AA d n).1/\(AA d n).1<k:=⟨(DO d n h0 h1).1,by have:=(DO d n h0 h1).2;omega⟩
theorem pT  (l:(List AL)) (layer:Int):FV Tryz.prog 69 [.one (lst 9 AL.c l),.one (.i layer)] (.av (.one (.clo 126 2 (Am [.eptr 1 1 (fun _ j_=>([lst 9 AL.c l]:List Cl).getD j_ default) 0 0,.eptr 1 1 (fun _ j_=>([.i layer]:List Cl).getD j_ default) 0 0])))):=by
 refine pwf Tryz.func69 fun W0 M0 => ?_
 refine AB<|DR Cq [] [] [] [2,3] [2,3] [] ⟨[(2,tP 2 0),(3,tP 3 0)],[(2,.cells [lst 9 AL.c l] 50),(3,.cells [.i layer] 3)]⟩ .nil kr .nil<|AE<|AB<|DR Cq [] [] [] [4] [2,3] [] ⟨[(4,.av (.one (.clo 126 2 (Am [.ptr 2 0,.ptr 3 0]))))],[(2,.cells [lst 9 AL.c l] 50),(3,.cells [.i layer] 3)]⟩ .nil kr .nil<|AE<|AW ?_
 exact ⟨_,Cv.trans (Hm (⟨[(4,.av (.one (.clo 126 2 (Am [.eptr 1 1 (fun _ j_=>([lst 9 AL.c l]:List Cl).getD j_ default) 0 0,.ptr 3 0]))))],[(3,.cells [.i layer] 3)]⟩) 2 [lst 9 AL.c l] 50 hk0 kr kr kr kr) (Hm (⟨[(4,.av (.one (.clo 126 2 (Am [.eptr 1 1 (fun _ j_=>([lst 9 AL.c l]:List Cl).getD j_ default) 0 0,.eptr 1 1 (fun _ j_=>([.i layer]:List Cl).getD j_ default) 0 0]))))],[]⟩) 3 [.i layer] 3 hk0 kr kr kr kr),.inl rfl,.av (.one (.clo 126 2 (Am [.eptr 1 1 (fun _ j_=>([lst 9 AL.c l]:List Cl).getD j_ default) 0 0,.eptr 1 1 (fun _ j_=>([.i layer]:List Cl).getD j_ default) 0 0]))),by kernel_rfl,Ej rfl⟩
section
open Go.RowKit
def IWL (P:Program) (N:Nat) (Ow:World->Nat->Prop) (n0:Nat) (ops:Array Oper) (l:List Oper) (Q:IQ) (s:AS) (J:World->Prop) (al:Bool):Prop :=
 ∀ W0 M σ a w,(J W0/\a.defers=[]/\IOk Ow n0 al M W0)->Sim N W0 noX M M σ (get s.t) (get s.h) a w->wpListIn (FW none) 0 P ops (fun e a' w'=>∃ s' J' al' W0' M' σ',Q e s' J' al'/\(J' W0'/\a'.defers=[]/\IOk Ow n0 al' M' W0')/\Sim N W0' noX M' M' σ' (get s'.t) (get s'.h) a' w') l a w
section
variable {P:Program} {N:Nat} {Ow:World→Nat→Prop} {n0:Nat} {Q:IQ} {s:AS} {J:World→Prop} {al:Bool} {ops:Array Oper} {l:List Oper} {o:Oper}
theorem Kw {id:Nat} (h:IWL P N Ow n0 l.toArray l Q s J al):IWp P N Ow n0 (.region id l.toArray false) Q s J al:=fun W0 M σ a w hJ hs=>wpIn_region_lit (h W0 M σ a w hJ hs)
theorem Ha (hO:OwS Ow n0) {E:TypeId->Option (List Kd)} (hE:JE P ⟨fun _=>none,E,fun _=>false,fun _=>none⟩) (k:Nat) (ts:List Nat) (cs:List Prop) (T:List (Nat×Tv)) (hr:QD P ⟨DG [],E,A8 [],get []⟩ N ops (l.take k) ts [] s=some (cs,⟨T,[]⟩)) (hc:Bp cs)
  (hdv:∀ i v,get s.t i=some v->v.dv=true) (hh:s.h=[]) (h:IWL P N Ow n0 ops (l.drop k) Q ⟨T,[]⟩ J al):IWL P N Ow n0 ops l Q s J al:=by
 have hV:Jv P ⟨DG [],E,A8 [],get []⟩:=(EN.nil (P:=P)).env (O:=A8 []) (q:=get []) hE
 intro W0 M σ a w hJ hs
 unfold QD at hr
 split at hr
 ·rename_i cs1 s1 h1
  simp only [Option.some.injEq,Prod.mk.injEq] at hr
  obtain ⟨rfl,hS⟩:=hr
  have key:=Oe (rd:=none) (ops:=ops) (Q':=fun e a' w'=>∃ s' J' al' W0' M' σ',Q e s' J' al'/\(J' W0'/\a'.defers=[]/\IOk Ow n0 al' M' W0')/\Sim N W0' noX M' M' σ' (get s'.t) (get s'.h) a' w') hV (l.drop k) (l.take k) s s1 cs1 h1 hc M _ a w (LN hdv hh hJ.2.1 hs) fun M' σ' a' w' hs'=>by
   have hs2:=FO hs' ts []
   rw [hS] at hs2
   obtain ⟨hd,hs3⟩:=IZ hs2
   exact h W0 M' σ' a' w' ⟨hJ.1,hd,J6 hJ.2.2 hO hs2⟩ hs3
  rw [List.take_append_drop] at key
  exact key
 cases hr
theorem Lc (h:Q .normal s J al):IWL P N Ow n0 ops [] Q s J al:=fun W0 M σ a w hJ hs=>⟨s,J,al,W0,M,σ,h,hJ,hs⟩
theorem Jd (ts:List Nat) (S:AS) (hS:Jc ts [] s=S) (h:IWL P N Ow n0 ops l Q S J al):IWL P N Ow n0 ops l Q s J al:=by
 subst hS
 exact fun W0 M σ a w hJ hs=>h W0 M σ a w hJ (FO hs ts [])
theorem Lb (hO:OwS Ow n0) {E:TypeId->Option (List Kd)} (hE:JE P ⟨fun _=>none,E,fun _=>false,fun _=>none⟩) (j:Nat) (want:Bool) (G:Prop) (cs:List Prop) (T:List (Nat×Tv)) (hg:o.guard=some (j,want)) (hG:Gd (get s.t) ops j want=some G) (hGp:G)
  (hst:XL P ⟨DG [],E,A8 [],get []⟩ N o G s=some (cs,⟨T,[]⟩)) (hc:Bp cs) (hdv:∀ i v,get s.t i=some v->v.dv=true) (hh:s.h=[]) (h:IWL P N Ow n0 ops l Q ⟨T,[]⟩ J al):IWL P N Ow n0 ops (o::l) Q s J al:=by
 have hV:Jv P ⟨DG [],E,A8 [],get []⟩:=(EN.nil (P:=P)).env (O:=A8 []) (q:=get []) hE
 intro W0 M σ a w hJ hs0
 have hs:=LN hdv hh hJ.2.1 hs0
 refine wpListIn_step fun K0 hK' => ?_
 rw [if_pos ((EY hs.tmps hs.room hg hG).2 hGp)]
 unfold XL at hst
 split at hst
 ·rename_i e he
  split at hst
  ·rename_i cs' g hr
   cases hok:IE N s o.dst g with
   | false=>rw [hok] at hst;cases hst
   | true =>
    rw [hok] at hst
    simp only [cond_true,Option.some.injEq,Prod.mk.injEq] at hst
    obtain ⟨rfl,hS⟩:=hst
    obtain ⟨hc1,hc2⟩:=hc.append
    have hgo0:=J9 hok (fun n v b hg=>by subst hg;exact Rx hr) (fun l v hg=>by subst hg;exact Nf hr) (fun n q v b bq hg=>by subst hg;exact Ry hr) (fun n b v hg=>by subst hg;exact Ng hr)
    refine (SZ hV (fun x v hv=>Wa hGp hc1 hs.tmps hv) he hs.std hr hc2 (ST hgo0)).wp ?_ (fun c hc=>by rw [hc] at he;cases he)
    rintro U w' ⟨M',σ',ho⟩
    have hsim:=MN hs ho hgo0
    rw [<- (FT s o.dst g).1,<- (FT s o.dst g).2,hS] at hsim
    obtain ⟨hd,hs3⟩:=IZ hsim
    exact hK' _ _ (h W0 M' σ' _ w' ⟨hJ.1,hd,J6 hJ.2.2 hO hsim⟩ hs3)
  cases hst
 cases hst
theorem O4 (hO:OwS Ow n0) (hwant:∀ (M:Nat->Option Obj) (σ:Nat->Loc) (a:Act),(∀ i v,get s.t i=some v->RT M σ v (a.tmps.getD i undef))->a.tmps.size=N->Region.wanted o (yielded ops a.tmps)=true) {c:Call} {f:Operand} {ly d:Nat} (xs:List Av) (ho:o.op=.call c) (hcf:c.callee=.value f)
  (hf:evT (get s.t) f=some (.av (.one (.val (.func (.yield ly) #[] #[]))))) (hxs:EU (evT (get s.t)) c.args.toList=some xs) (hv:xs.all Av.isV=true) (hod:o.dst=some d) (hdN:Nat.blt d N=true) (hT1:∀ i v,get s.t i=some v->v.dv=true/\TvM v)
  (hJg:∀ A B,J A->A.grownBy B none->J B) (Jt Jf:World->Prop)
  (hY:∀ W,J W->YieldAt (FW none) 0 P ly (xs.map Av.toV).toArray W (fun e W'=>(e=.returned (.bool true)/\Jt W'/\KpS Ow W W')\/(e=.returned (.bool false)/\Jf W')))
  (tf:List Nat) (htf:∀ i v,get (IC s.t tf) i=some v->∃ u,v=.av (.one (.val u))) (hh:s.h=[])
  (ht:IWL P N Ow n0 ops l Q ⟨(d,tB true)::s.t,[]⟩ Jt true) (hff:IWL P N Ow n0 ops l Q ⟨(d,tB false)::IC s.t tf,[]⟩ Jf false):IWL P N Ow n0 ops (o::l) Q s J true:=by
 intro W0 M σ a w hJ hs
 refine wpListIn_step fun K0 hK' => ?_
 rw [if_pos (hwant M σ a hs.tmps hs.room)]
 have hgrow:W0.grownBy w none:={ os:=hs.os,tape:=hs.tape,output:=hs.output,size:=hs.size,block:=fun b hb _=>hs.old b hb (Ez b) }
 have hiok:=hJ.2.2
 have hdN':d<N:=by have:=Nat.le_of_ble_eq_true hdN;omega
 have hput:∀ (b:Bool) (T:List (Nat×Tv)) (M':Nat->Option Obj) (σ':Nat->Loc),(∀ i v,get T i=some v->RT M' σ' v (a.tmps.getD i undef))->∀ i v,get ((d,tB b)::T) i=some v->RT M' σ' v ((a.put o.dst (.bool b)).tmps.getD i undef):=fun b T M' σ' hT i v hv=>by
  have hds:d<a.tmps.size:=by rw [hs.room];exact hdN'
  simp only [get,CH] at hv
  rw [hod]
  by_cases hi:d=i
  ·subst hi
   simp at hv;subst hv
   have:(a.put (some d) (.bool b)).tmps.getD d undef=.bool b:=by simp [Act.put,Array.getD_eq_getD_getElem?,hds]
   rw [this]
   exact ⟨rfl,rfl⟩
  simp [hi] at hv
  have:(a.put (some d) (.bool b)).tmps.getD i undef=a.tmps.getD i undef:=by simp [Act.put,Array.getD_eq_getD_getElem?,Array.getElem?_setIfInBounds,hi]
  rw [this];exact hT i v hv
 have hsize:∀ b:Bool,(a.put o.dst (.bool b)).tmps.size=N:=fun b=>by rw [hod];simpa [Act.put] using hs.room
 have hdef:∀ b:Bool,(a.put o.dst (.bool b)).defers=[]:=fun b=>by rw [hod];simpa [Act.put] using hJ.2.1
 have hnew:∀ (b:Bool) (w2:World) (T:List (Nat×Tv)) (Mn:Nat->Option Obj),(∀ i v,get T i=some v->RT Mn σ v (a.tmps.getD i undef))->(∀ b o,Mn b=some o->Dy w2.heap[b]? o)->Sim N w2 noX Mn Mn σ (get ((d,tB b)::T)) (get []) (a.put o.dst (.bool b)) w2:=fun b w2 T Mn hT himm =>
  ⟨rfl,rfl,rfl,Nat.le_refl _,fun _ _ _=>rfl,fun _ _ h=>h,fun b o h h'=>(by rw [h] at h';cases h'),fun m x hx=>(by cases hx),⟨by rw [hdef b];trivial,fun _=>hdef b⟩,hsize b,hput b T Mn σ hT,himm,fun n b hb=>(by cases hb),fun n b hb=>(by cases hb),fun n m b c hb=>(by cases hb)⟩
 refine bQ hs.tmps ho hcf hf hxs hv (hY w (hJg W0 w hJ.1 hgrow)) fun e w2 he => ?_
 rcases he with ⟨rfl,h5,h6⟩ | ⟨rfl,h5⟩
 ·have hst:∀ b,Ow w b->Ow W0 b:=hO.st W0 w (hiok rfl).1 fun b hb=>hs.old b hb (Ez b)
  refine ⟨_,rfl,hK' _ _ (ht w2 (Sc M) σ _ w2 ⟨h5,hdef true,fun _=>⟨Nat.le_trans (hiok rfl).1 (Nat.le_trans hs.size h6.1),fun b h=>(h6.2.2 b h).elim (fun h7=>Nat.lt_of_lt_of_le ((hiok rfl).2.1 b (hst b h7)) (Nat.le_trans hs.size h6.1)) And.right,fun b o' h hw2 => ?_⟩⟩ (hnew true w2 s.t (Sc M) (fun i v hv=>Sj (Zo LA) (hs.tmps i v hv) (hT1 i v hv).2) fun b o' h => ?_))⟩
  ·rcases h6.2.2 b hw2 with h7 | h7
   ·exact (hiok rfl).2.2 b o' (Ec h).1 (hst b h7)
   have:=HG (hs.imm b o' (Ec h).1);omega
  exact immT (fun o2 e hc=>h6.2.1 b o2 e hc fun h7=>(hiok rfl).2.2 b o' (Ec h).1 (hst b h7)) (hs.imm b o' (Ec h).1) (Ec h).2
 refine ⟨_,rfl,hK' _ _ (hff w2 noM σ _ w2 ⟨h5,hdef false,fun h=>by cases h⟩ (hnew false w2 (IC s.t tf) noM (fun i v hv => ?_) fun b o' h=>by cases h))⟩
 obtain ⟨u,rfl⟩:=htf i v hv
 exact hs.tmps i _ (IG _ _ _ _ hv)
theorem Zc (hO:OwS Ow n0) (j:Nat) (want:Bool) (G:Prop) (hg:o.guard=some (j,want)) (hG:Gd (get s.t) ops j want=some G) (hGp:G) {c:Call} {f:Operand} {ly d:Nat} (xs:List Av) (ho:o.op=.call c) (hcf:c.callee=.value f)
  (hf:evT (get s.t) f=some (.av (.one (.val (.func (.yield ly) #[] #[]))))) (hxs:EU (evT (get s.t)) c.args.toList=some xs) (hv:xs.all Av.isV=true) (hod:o.dst=some d) (hdN:Nat.blt d N=true) (hT1:∀ i v,get s.t i=some v->v.dv=true/\TvM v)
  (hJg:∀ A B,J A->A.grownBy B none->J B) (Jt Jf:World->Prop)
  (hY:∀ W,J W->YieldAt (FW none) 0 P ly (xs.map Av.toV).toArray W (fun e W'=>(e=.returned (.bool true)/\Jt W'/\KpS Ow W W')\/(e=.returned (.bool false)/\Jf W')))
  (tf:List Nat) (htf:∀ i v,get (IC s.t tf) i=some v->∃ u,v=.av (.one (.val u))) (hh:s.h=[])
  (ht:IWL P N Ow n0 ops l Q ⟨(d,tB true)::s.t,[]⟩ Jt true) (hff:IWL P N Ow n0 ops l Q ⟨(d,tB false)::IC s.t tf,[]⟩ Jf false):IWL P N Ow n0 ops (o::l) Q s J true :=
 O4 hO (fun M σ a h1 h2=>(EY h1 h2 hg hG).2 hGp) xs ho hcf hf hxs hv hod hdN hT1 hJg Jt Jf hY tf htf hh ht hff
theorem WQ (hO:OwS Ow n0) (hgn:o.guard=none) {c:Call} {f:Operand} {ly d:Nat} (xs:List Av) (ho:o.op=.call c) (hcf:c.callee=.value f)
  (hf:evT (get s.t) f=some (.av (.one (.val (.func (.yield ly) #[] #[]))))) (hxs:EU (evT (get s.t)) c.args.toList=some xs) (hv:xs.all Av.isV=true) (hod:o.dst=some d) (hdN:Nat.blt d N=true) (hT1:∀ i v,get s.t i=some v->v.dv=true/\TvM v)
  (hJg:∀ A B,J A->A.grownBy B none->J B) (Jt Jf:World->Prop)
  (hY:∀ W,J W->YieldAt (FW none) 0 P ly (xs.map Av.toV).toArray W (fun e W'=>(e=.returned (.bool true)/\Jt W'/\KpS Ow W W')\/(e=.returned (.bool false)/\Jf W')))
  (tf:List Nat) (htf:∀ i v,get (IC s.t tf) i=some v->∃ u,v=.av (.one (.val u))) (hh:s.h=[])
  (ht:IWL P N Ow n0 ops l Q ⟨(d,tB true)::s.t,[]⟩ Jt true) (hff:IWL P N Ow n0 ops l Q ⟨(d,tB false)::IC s.t tf,[]⟩ Jf false):IWL P N Ow n0 ops (o::l) Q s J true :=
 O4 hO (fun M σ a h1 h2=>by simp [Region.wanted,hgn]) xs ho hcf hf hxs hv hod hdN hT1 hJg Jt Jf hY tf htf hh ht hff
theorem TH {W0 w:World} {M0 M:Nat->Option Obj} {σ:Nat->Loc} {T:Nat->Option Tv} {H:Nat->Option Blk} {a:Act} (h:Sim N W0 noX M0 M σ T H a w) (hd:a.defers=[]):Sim N W0 noX M M σ T H a w :=
 ⟨h.os,h.tape,h.output,h.size,h.old,fun _ _ h=>h,fun b o h h'=>(by rw [h] at h';cases h'),h.pin,⟨by rw [hd];trivial,fun _=>hd⟩,h.room,h.tmps,h.imm,h.blk,h.loc,h.inj⟩
theorem X3 {c:Code} {S:AS} (hO:OwS Ow n0) (h:∀ W0 M1,Cv N W0 noX M1 s S) (k:IWp P N Ow n0 c Q S J al):IWp P N Ow n0 c Q s J al:=by
 intro W0 M σ a w hJ hs
 obtain ⟨M',σ',h2⟩:=h W0 M M σ a w hs
 exact k W0 M' σ' a w ⟨hJ.1,hJ.2.1,J6 hJ.2.2 hO h2⟩ (TH h2 hJ.2.1)
end
end
abbrev iM (t:Bool) (sz len:Nat) (f:Nat->Nat->Cl):Cl:=.eptr 1 1 (fun _ j=>([.list t sz len f]:List Cl).getD j default) 0 0
theorem kA {M:Nat->Option Obj} {t:Bool} {sz len:Nat} {f:Nat->Nat->Cl} {v:Value} (h:RC M (.list t sz len f) v):∃ g:Nat->Nat->Value,RC M (.list t sz len (fun i j=>.val (g i j))) v/\∀ i j,i<len->j<sz->RC M (f i j) (g i j):=by
 cases h with
 | nil _ _ _ h0=>exact ⟨fun _ _=>undef,.nil _ _ _ h0,fun i j hi=>by omega⟩
 | mt _ _ _ a cap h5=>exact ⟨fun _ _=>undef,.mt _ _ _ a cap h5,fun i j hi=>by omega⟩
 | list _ _ _ _ b off cap g h1 h2 h4 h5=>exact ⟨g,.list _ _ _ _ b off cap g h1 (fun i j hi hj=>.val _ (Jr (h2 i j hi hj))) h4 h5,h2⟩
theorem Vm {M:Nat->Option Obj} {t:Bool} {sz len:Nat} {f:Nat->Nat->Cl} {V:Value} (h:RC M (iM t sz len f) V):∃ g:Nat->Nat->Value,RC M (iM t sz len (fun i j=>.val (g i j))) V/\∀ i j,i<len->j<sz->RC M (f i j) (g i j):=by
 cases h with
 | eptr _ _ _ _ _ b base g0 h1 h2 =>
  obtain ⟨g,hg1,hg2⟩:=kA (h2 0 (by decide))
  exact ⟨g,.eptr _ _ _ _ _ _ _ g0 h1 (fun j hj=>by
   have:j=0:=by omega
   subst this;exact hg1),hg2⟩
section
open Go.RowKit
section
variable {P:Program}
def WrR (P:Program) (f:FuncId) (K:Nat) (xs:List Av) (sz len:Nat) (F0:Nat->Nat->Cl) (ty:TypeId) (r:Tv) (F1:Nat->Nat->Cl):Prop:=∀ (M:Nat->Option Obj) (σ:Nat->Loc) (w:World) (args:List Value),(∀ b o,M b=some o->Dy w.heap[b]? o)->BT M σ w (σ K) (.row sz len F0 ty)->((σ K).nil=true\/M (σ K).b=none)->L2 (RA M σ) xs args ->
 Calls P f args.toArray w fun en w'=>∃ U,en=.returned U/\∃ M',F3 w w' M M' (only (σ K))/\(∀ σ',RT M' σ' r U)/\∀ σ',BT M' σ' w' (σ K) (.row sz len F1 ty)
theorem Ft {f:FuncId} {fn:Func} {c:Code} (hf:P.funcs[f]? = some fn) (hb:fn.body=some c) {K:Nat} {xs:List Av} {sz len:Nat} {F0 F1:Nat->Nat->Cl} {ty:TypeId} {r:Tv} (hN:Nat.ble xs.length fn.ntmps=true) (hK:Nat.ble fn.ntmps K=true) (hd:r.dv=true)
  (h:∀ (W0:World) (M0:Nat->Option Obj) (X:Nat->Option Loc),DI X W0 [K]->AWp P none fn.ntmps W0 X M0 c (KN P fn.ntmps W0 X M0 fn fun r' s'=>TvE r' r/\∃ b,get s'.h K=some b/\HW b (.row sz len F1 ty)) ⟨EL 0 xs,[(K,.row sz len F0 ty)]⟩):WrR P f K xs sz len F0 ty r F1:=by
 intro M σ w args himm hblk hM hargs
 have one:∀ n b,get [(K,Blk.row sz len F0 ty)] n=some b->n=K/\b=.row sz len F0 ty:=fun n b hn=>by
  simp only [get,CH] at hn
  by_cases hk:K=n
  ·simp [hk] at hn;exact ⟨hk.symm,hn.symm⟩
  simp [hk] at hn
 by_cases hnil:(σ K).nil=true
 ·have hlen:len=0:=by
   rcases hblk with h0 | ⟨h0,_⟩
   ·exact h0.2
   rw [hnil] at h0;cases h0
  refine Dz (X:=noX) (σ:=σ) (h0:=[(K,.row sz len F0 ty)]) hf hb (Nat.le_of_ble_eq_true hN) himm hargs (fun n b hn => ?_) (fun n b hn => ?_) (fun n x hx=>by cases hx) (fun n m b c hn hm hne => ?_) (CW (h w M noX (fun k x hk=>by cases hk))) ?_
  ·obtain ⟨rfl,rfl⟩:=one n b hn;exact hblk
  ·obtain ⟨rfl,rfl⟩:=one n b hn;exact .inl hnil
  ·exact absurd ((one n b hn).1.trans (one m c hm).1.symm) hne
  rintro r' s' M' σ' a' w' U ⟨he,b,hb1,hbe⟩ hs hR
  exact ⟨U,rfl,M',⟨hs.os,hs.tape,hs.output,hs.size,fun b hb hne=>hs.old b hb (Ez b),hs.sub,hs.new,hs.imm⟩,fun σ''=>HO hd (Jq he hR),fun σ''=>.inl ⟨hnil,hlen⟩⟩
 have hnil:(σ K).nil=false:=by simpa using hnil
 have hMK:M (σ K).b=none:=by
  rcases hM with h1 | h1
  ·rw [hnil] at h1;cases h1
  exact h1
 let X:Nat->Option Loc:=upd noX K (some (σ K))
 have hX:X K=some (σ K):=A2 _ _ _
 have pins:∀ n x,X n=some x->n=K/\x=σ K:=fun n x hx=>by
  by_cases hk:n=K
  ·subst hk;rw [hX] at hx;injection hx with hx;exact ⟨rfl,hx.symm⟩
  simp only [X] at hx;rw [Bw _ _ hk] at hx;cases hx
 have hXK:∀ k x,X k=some x->A8 [K] k=true:=fun k x hk=>by rw [(pins k x hk).1];exact LV _
 refine Dz (X:=X) (σ:=σ) (h0:=[(K,.row sz len F0 ty)]) hf hb (Nat.le_of_ble_eq_true hN) himm hargs (fun n b hn => ?_) (fun n b hn => ?_) (fun n x hx => ?_) (fun n m b c hn hm hne => ?_) (CW (h w M X fun k x hk=>.inl (hXK k x hk))) ?_
 ·obtain ⟨rfl,rfl⟩:=one n b hn;exact hblk
 ·obtain ⟨rfl,rfl⟩:=one n b hn;exact .inr ⟨hMK,n,σ n,hX,rfl⟩
 ·obtain ⟨rfl,rfl⟩:=pins n x hx;exact ⟨Nat.le_of_ble_eq_true hK,rfl⟩
 ·exact absurd ((one n b hn).1.trans (one m c hm).1.symm) hne
 rintro r' s' M' σ' a' w' U ⟨he,b,hb1,hbe⟩ hs hR
 have hpin:=(hs.pin K _ hX).2
 have hbk:=hs.blk K _ hb1
 rw [hpin] at hbk
 refine ⟨U,rfl,M',⟨hs.os,hs.tape,hs.output,hs.size,fun b hb hne=>hs.old b hb ?_,hs.sub,hs.new,hs.imm⟩,fun σ''=>HO hd (Jq he hR),fun σ''=>(I7 hbe hbk:BT M' σ' w' (σ K) (.row sz len F1 ty))⟩
 rintro ⟨n,x,hx,rfl⟩
 obtain ⟨rfl,rfl⟩:=pins n x hx
 exact hne ⟨hnil,rfl⟩
theorem F2 {α:Type} [Inhabited α] {c:α->List Cl} {xs ys:List α} {sz n:Nat} {ty:TypeId} (h:xs=ys) (hl:xs.length=n):HW (.row sz xs.length (AP c xs) ty) (.row sz n (AP c ys) ty):=by
 subst h hl
 exact .refl _
def Hx (K n:Nat):Av->Av
 | .one (.own m sz len)=>bif Nat.beq m K then .one (.own n sz len) else .one (.own m sz len)
 | x=>x
def cP (K:Nat):Av->Bool
 | .one (.own m _ _)=>Nat.beq m K
 | x=>x.dv
theorem Fz {f:FuncId} {K n:Nat} {xs:List Av} {sz len:Nat} {F0 F1:Nat->Nat->Cl} {ty:TypeId} {r:Tv} (h1:∀ args w,(callFunc f args).run P w=.ok (.enter f args) w) (hx:xs.all (cP K)=true) (h:WrR P f K xs sz len F0 ty r F1):DK P f (xs.map (Hx K n)) (wrI n (.row sz len F0 ty) r (.row sz len F1 ty)):=by
 refine .inl ⟨h1,fun M σ w hh args cs' g hs hargs hres hc => ?_⟩
 simp only [wrI,res,Fg] at hres
 cases hn:hh n with
 | none=>rw [hn] at hres;cases hres
 | some b =>
  rw [hn] at hres
  simp only [Option.some.injEq,Prod.mk.injEq] at hres
  obtain ⟨rfl,rfl⟩:=hres
  have:=hc.head
  subst this
  have hblk:=hs.blk n _ hn
  let σ2:Nat->Loc:=upd σ K (σ n)
  have hK:σ2 K=σ n:=A2 _ _ _
  have hargs2:L2 (RA M σ2) xs args:=by
   refine L2.of (by have:=hargs.length;simpa using this) fun i x V hxi hV => ?_
   obtain ⟨V',hV',hR⟩:=hargs.get i (Hx K n x) (by rw [List.getElem?_map,hxi];rfl)
   rw [hV] at hV';injection hV' with hV';subst hV'
   have hok:=(List.all_eq_true.1 hx) x (List.mem_of_getElem? hxi)
   unfold cP at hok
   split at hok
   ·rename_i m sz' len'
    simp only [Hx,hok,cond_true] at hR
    have:=Nat.eq_of_beq_eq_true hok
    subst this
    have hR':R M σ (.own n sz' len') V:=hR
    show R M σ2 (.own m sz' len') V
    unfold R at hR' ⊢
    rw [hK];exact hR'
   rename_i hne
   have:Hx K n x=x:=by
    unfold Hx
    split
    ·rename_i m a b;exact (hne m a b rfl).elim
    rfl
   rw [this] at hR
   exact HO (σ':=σ2) (r:=.av x) hok hR
  refine (h M σ2 w args hs.imm (by rw [hK];exact hblk) (by rw [hK];exact hs.loc n _ hn) hargs2).mono ?_
  rintro en w' ⟨U,hU,M',hk,hR,hb⟩
  rw [hK] at hk
  refine ⟨U,hU,fun dst _=>⟨M',σ,hk,rfl,hR σ,?_⟩⟩
  have:=hb σ
  rw [hK] at this
  exact this
end
end
section
section
variable {α:Type} [Inhabited α]
def Ih (lt:α->Bool) (out:List α):Nat->Nat
 | 0=>0
 | k+1=>bif lt (out.getD k default) then Ih lt out k else k+1
def UL (lt:α->α->Bool) (out:List α) (x:α):List α:=out.take (Ih (lt x) out out.length)++x::out.drop (Ih (lt x) out out.length)
def CS (lt:α->α->Bool) (l:List α):List α:=l.foldl (UL lt) []
theorem Zd (lt:α->α->Bool) (out:List α) (x:α):(UL lt out x).Perm (x::out):=by
 unfold UL
 refine List.perm_middle.trans ?_
 rw [List.take_append_drop]
theorem M9 (lt:α->α->Bool) (l:List α) (x:α):CS lt (l++[x])=UL lt (CS lt l) x:=by
 unfold CS
 rw [List.foldl_append];rfl
theorem NA (lt:α->α->Bool) (l:List α):(CS lt l).Perm l:=by
 have key:∀ (l out:List α),(l.foldl (UL lt) out).Perm (out++l):=by
  intro l
  induction l with
  | nil=>intro out;simp
  | cons x l ih =>
   intro out
   rw [List.foldl_cons]
   refine (ih _).trans ?_
   refine ((Zd lt out x).append_right l).trans ?_
   exact List.perm_middle.symm
 exact key l []
theorem Dd (lt:α->α->Bool) (l:List α):(CS lt l).length=l.length:=(NA lt l).length_eq
theorem O7 (lt:α->α->Bool) (l:List α) (x:α):x∈CS lt l↔x∈l:=(NA lt l).mem_iff
theorem Yv (A:List α) (x y:α) (R:List α) :
  (A++y::x::R).getD A.length default=y/\(A++y::x::R).getD (A.length+1) default=x/\((A++y::x::R).set (A.length+1) y).set A.length x=A++x::y::R:=by
 refine ⟨?_,?_,?_⟩
 ·rw [List.getD_eq_getElem?_getD,List.getElem?_append_right (by omega)];simp
 ·rw [List.getD_eq_getElem?_getD,List.getElem?_append_right (by omega)];simp
 rw [List.set_append_right _ _ (by omega),List.set_append_right _ _ (by omega)];simp
theorem EO (out:List α) (j:Nat) (h:j<out.length):out.take (j+1)=out.take j++[out.getD j default]/\out.drop j=out.getD j default::out.drop (j+1):=by
 constructor
 ·rw [List.take_add_one,List.getElem?_eq_getElem h,List.getD_eq_getElem?_getD,List.getElem?_eq_getElem h];rfl
 rw [List.drop_eq_getElem_cons h,List.getD_eq_getElem?_getD,List.getElem?_eq_getElem h];rfl
theorem rO {β:Type} (lt:α->α->Bool) (f:Nat->List α->Int->β) (K:List α->β)
  (hf:∀ m d (j:Nat),f (m+1) d j=bif (bif decide ((0:Int)<j) then lt (d.getD j default) (d.getD (j-1) default) else false) then f m ((d.set j (d.getD (j-1) default)).set (j-1) (d.getD j default)) ((j:Int)-1) else K d)
  (out rest:List α) (x:α):∀ (j m:Nat),j<=out.length->j<m->f m (out.take j++x::(out.drop j++rest)) j=K (out.take (Ih (lt x) out j)++x::(out.drop (Ih (lt x) out j)++rest)):=by
 intro j
 induction j with
 | zero =>
  intro m hj hm
  obtain ⟨m,rfl⟩:∃ k,m=k+1:=⟨m-1,by omega⟩
  rw [hf]
  simp [Ih]
 | succ j ih =>
  intro m hj hm
  obtain ⟨m,rfl⟩:∃ k,m=k+1:=⟨m-1,by omega⟩
  obtain ⟨e1,e2⟩:=EO out j (by omega)
  have hl:(out.take j).length=j:=by rw [List.length_take];omega
  obtain ⟨s1,s2,s3⟩:=Yv (out.take j) x (out.getD j default) (out.drop (j+1)++rest)
  rw [hl] at s1 s2 s3
  have hd:out.take (j+1)++x::(out.drop (j+1)++rest)=out.take j++out.getD j default::x::(out.drop (j+1)++rest):=by rw [e1];simp
  rw [hf,hd,Nat.add_sub_cancel,s1,s2,s3]
  have h0:decide ((0:Int)<((j+1:Nat):Int))=true:=decide_eq_true (by omega)
  rw [h0,cond_true]
  conv=>rhs;unfold Ih
  cases hlt:lt x (out.getD j default) with
  | true =>
   rw [cond_true,cond_true]
   have:=ih m (by omega) (by omega)
   rw [e2] at this
   rw [show ((j+1:Nat):Int)-1=(j:Int) by omega,<- this]
   rfl
  | false =>
   rw [cond_false,cond_false,hd]
theorem rP {β:Type} (lt:α->α->Bool) (l:List α) (g:Nat->List α->Int->β) (K:List α->β) (hK:∀ m d (i:Nat),l.length<=i->g (m+1) d i=K d)
  (hg:∀ m (i:Nat) (out rest:List α) x,i<l.length->out.length=i->g (m+1) (out++x::rest) i=g m (UL lt out x++rest) ((i:Int)+1)) :
  ∀ (k m i:Nat),l.length-i=k->i<=l.length->k<m->g m (CS lt (l.take i)++l.drop i) i=K (CS lt l):=by
 intro k
 induction k with
 | zero =>
  intro m i hk hi hm
  obtain ⟨m,rfl⟩:∃ k,m=k+1:=⟨m-1,by omega⟩
  rw [hK m _ i (by omega),List.drop_eq_nil_of_le (by omega),List.take_of_length_le (by omega),List.append_nil]
 | succ k ih =>
  intro m i hk hi hm
  obtain ⟨m,rfl⟩:∃ k,m=k+1:=⟨m-1,by omega⟩
  obtain ⟨e1,e2⟩:=EO l i (by omega)
  rw [e2,hg m i _ _ _ (by omega) (by rw [Dd,List.length_take];omega),<- M9,<- e1]
  have:=ih m (i+1) (by omega) (by omega) (by omega)
  rw [show ((i+1:Nat):Int)=(i:Int)+1 by omega] at this
  exact this
theorem Zp {β:Type} (xs:List α) (g:Nat->List α->Int->β) (K:List α->Int->β) (h:∀ m acc (v:Nat),g (m+1) acc v=bif decide ((v:Int)<(xs.length:Int)) then g m (acc++[xs.getD v default]) ((v:Int)+1) else K acc v) :
  ∀ (k v m:Nat) (acc:List α),xs.length-v=k->v<=xs.length->k<m->g m acc v=K (acc++xs.drop v) (xs.length:Int):=by
 intro k
 induction k with
 | zero =>
  intro v m acc hk hv hm
  obtain ⟨m,rfl⟩:∃ k,m=k+1:=⟨m-1,by omega⟩
  rw [h,decide_eq_false (by omega),cond_false,List.drop_eq_nil_of_le (by omega),List.append_nil,show v=xs.length by omega]
 | succ k ih =>
  intro v m acc hk hv hm
  obtain ⟨m,rfl⟩:∃ k,m=k+1:=⟨m-1,by omega⟩
  obtain ⟨_,e2⟩:=EO xs v (by omega)
  rw [h,decide_eq_true (by omega),cond_true,e2]
  have:=ih (v+1) m (acc++[xs.getD v default]) (by omega) (by omega) (by omega)
  rw [show ((v+1:Nat):Int)=(v:Int)+1 by omega] at this
  rw [this,List.append_assoc];rfl
theorem Ky {β γ:Type} (xs:List α) (step:γ->α->γ) (g:Nat->γ->Int->β) (K:γ->Int->β) (h:∀ m acc (v:Nat),g (m+1) acc v=bif decide ((v:Int)<(xs.length:Int)) then g m (step acc (xs.getD v default)) ((v:Int)+1) else K acc v) :
  ∀ (k v m:Nat) (acc:γ),xs.length-v=k->v<=xs.length->k<m->g m acc v=K ((xs.drop v).foldl step acc) (xs.length:Int):=by
 intro k
 induction k with
 | zero =>
  intro v m acc hk hv hm
  obtain ⟨m,rfl⟩:∃ k,m=k+1:=⟨m-1,by omega⟩
  rw [h,decide_eq_false (by omega),cond_false,List.drop_eq_nil_of_le (by omega),show v=xs.length by omega];rfl
 | succ k ih =>
  intro v m acc hk hv hm
  obtain ⟨m,rfl⟩:∃ k,m=k+1:=⟨m-1,by omega⟩
  obtain ⟨_,e2⟩:=EO xs v (by omega)
  rw [h,decide_eq_true (by omega),cond_true,e2]
  have:=ih (v+1) m (step acc (xs.getD v default)) (by omega) (by omega) (by omega)
  rw [show ((v+1:Nat):Int)=(v:Int)+1 by omega] at this
  rw [this,List.foldl_cons]
theorem gG {β γ:Type} (xs:List α) (step:γ->α->γ) (g:Nat->Nat->γ->β) (K:γ->β) (h0:∀ x acc,g 0 x acc=K acc) (h:∀ m x acc,x<xs.length->g (m+1) x acc=g m (x+1) (step acc (xs.getD x default))) :
  ∀ (m x:Nat) (acc:γ),m+x=xs.length->g m x acc=K ((xs.drop x).foldl step acc):=by
 intro m
 induction m with
 | zero =>
  intro x acc hx
  rw [h0,List.drop_eq_nil_of_le (by omega)];rfl
 | succ m ih =>
  intro x acc hx
  obtain ⟨_,e2⟩:=EO xs x (by omega)
  rw [h m x acc (by omega),ih (x+1) _ (by omega),e2,List.foldl_cons]
omit [Inhabited α] in
theorem Gw {γ:Type} (f:α->γ):∀ (xs:List α) (acc:List γ),xs.foldl (fun acc x=>acc++[f x]) acc=acc++xs.map f
 | [],acc=>by simp
 | x::xs,acc=>by rw [List.foldl_cons,Gw f xs,List.map_cons,List.append_assoc];rfl
def ixI (f:α->Bool) (xs:List α):Int:=match xs.findIdx? f with
 | some i=>(i:Int)
 | none => -1
omit [Inhabited α] in
theorem ixI_b {f:α->Bool} {xs:List α} (h:¬ ixI f xs<0):0<=ixI f xs/\ixI f xs<(xs.length:Int):=by
 unfold ixI at *
 cases hk:xs.findIdx? f with
 | none=>rw [hk] at h;exact absurd (by decide) h
 | some i =>
  rw [hk] at h
  have:=(List.findIdx?_eq_some_iff_getElem.1 hk).1
  simp only
  omega
theorem fI {f:α->Bool} {xs:List α} (h:¬ ixI f xs<0):f (xs.getD (ixI f xs).toNat default)=true/\xs.find? f=some (xs.getD (ixI f xs).toNat default):=by
 unfold ixI at *
 cases hk:xs.findIdx? f with
 | none=>rw [hk] at h;exact absurd (by decide) h
 | some i =>
  obtain ⟨h1,h2,h3⟩:=List.findIdx?_eq_some_iff_getElem.1 hk
  have e:xs.getD ((i:Int)).toNat default=xs[i]:=by rw [Int.toNat_natCast,List.getD_eq_getElem?_getD,List.getElem?_eq_getElem h1];rfl
  simp only [e]
  refine ⟨h2,?_⟩
  rw [List.find?_eq_some_iff_getElem]
  exact ⟨h2,i,h1,rfl,fun j hj=>by have:=h3 j hj;simpa using this⟩
omit [Inhabited α] in
theorem fJ {f:α->Bool} {xs:List α} (h:ixI f xs<0):xs.find? f=none:=by
 unfold ixI at h
 cases hk:xs.findIdx? f with
 | some i=>rw [hk] at h;exact absurd h (by simp only;omega)
 | none =>
  rw [List.find?_eq_none]
  rw [List.findIdx?_eq_none_iff] at hk
  intro x hx;rw [hk x hx];decide
theorem ix_l0 (f:α->Bool) (xs:List α) (g:Nat->Int->Int) (hg:∀ m (v:Nat),g (m+1) v=bif decide ((v:Int)<(xs.length:Int)) then (bif f (xs.getD v default) then (v:Int) else g m ((v:Int)+1)) else -1) :
  ∀ (k v m:Nat),xs.length-v=k->v<=xs.length->k<m->g m v=match (xs.drop v).findIdx? f with | some i=>((v+i:Nat):Int) | none => -1:=by
 intro k
 induction k with
 | zero =>
  intro v m hk hv hm
  obtain ⟨m,rfl⟩:∃ k,m=k+1:=⟨m-1,by omega⟩
  rw [hg,decide_eq_false (by omega),cond_false,List.drop_eq_nil_of_le (by omega)]
  rfl
 | succ k ih =>
  intro v m hk hv hm
  obtain ⟨m,rfl⟩:∃ k,m=k+1:=⟨m-1,by omega⟩
  obtain ⟨_,e2⟩:=EO xs v (by omega)
  rw [hg,decide_eq_true (by omega),cond_true,e2,List.findIdx?_cons]
  cases hf:f (xs.getD v default) with
  | true=>simp
  | false =>
   have:=ih (v+1) m (by omega) (by omega) (by omega)
   rw [show ((v+1:Nat):Int)=(v:Int)+1 by omega] at this
   rw [cond_false,this]
   cases (xs.drop (v+1)).findIdx? f with
   | none=>simp
   | some i =>
    simp only [Option.map_some]
    rw [show v+1+i=v+(i+1) by omega]
    rfl
end
end
def SeqV (P:Program) (gf:Nat) (lb:Array Value) (V:Nat->Array Value->World->Prop) (Kp:World->World->Prop) (n:Nat) (w:World):Prop :=
 ∀ (l:Nat) (J:Nat->World->Prop) (W:World),Below w.heap.size w W->(∀ j A B,J j A->A.grownBy B none->J j B) ->
  (∀ j v A,j<n->J j A->V j v A->YieldAt (FW none) 0 P l v A fun e B=>e=.returned (.bool true)/\J (j+1) B/\Kp A B)->J 0 W ->
  CallsIn (FW none) 1 P gf (#[.func (.yield l) #[] #[]]++lb) W fun e B=>(∃ u,e=.returned u)/\J n B
theorem Yl {P:Program} {g:Operand} {ps:Array Tmp} {assign body:Code} {Q:Exit->Act->World->Prop} {a:Act} {w:World} {gf:Nat} {lb:Array Value} (hg:a.eval g=.func (.func gf) #[] lb) (eg:∀ args w,(callFunc gf args).run P w=.ok (.enter gf args) w)
  {V:Nat->Array Value->World->Prop} {Kp:World->World->Prop} {n:Nat} (hseq:SeqV P gf lb V Kp n w) (hKt:∀ {A B C:World},Kp A B->Kp B C->Kp A C)
  (hKb:∀ (W:World) (l:Nat) (o o':Obj),w.heap.size<=l->W.heap[l]? = some o->o.isCells=false->Kp W (W.putObj l o')) (hsz:∀ j v W,V j v W->v.size=ps.size)
  (I:Nat->World->Prop) (hI:OwnFrom w.heap.size I) (h0:I 0 w) (Ax:Nat->Act->World->Prop) (hAx:∀ j a',OwnFrom w.heap.size fun (_:Unit) W=>Ax j a' W)
  (hassign:∀ (l j:Nat) (v:Array Value) (W:World) (K:Act->World->Prop),j<n->I j W->V j v W->(∀ a' W',KeepsFrom w.heap.size W W'->Kp W W'->I j W'->Ax j a' W'->K a' W') ->
   assign.wpIn ((FW none).inRound l) 0 P (Exit.then K fun _ _ _=>False) { tmps:=(ps.zip v).foldl (fun t (p,u)=>t.setIfInBounds p u) a.tmps,defers:=[] } W)
  (hbody:∀ (l j:Nat) (a':Act) (W:World),j<n->I j W->Ax j a' W->body.wpIn ((FW none).inRound l) 0 P (fun e _ W'=>e=.normal/\KeepsFrom w.heap.size W W'/\Kp W W'/\I (j+1) W') a' W)
  (hdone:∀ (D:Nat) (W:World),w.heap.size<=D->I n W->W.heap[D]? = some (.deferred (some []))->Q .normal { a with defers:={ target:=.collected D,args := #[] }::a.defers } W):(Code.rangeFunc g ps assign body).wpIn (FW none) 2 P Q a w:=by
 refine wpIn_rangeFunc fun fn hfn => ?_
 -- the two blocks of the statement: the mark's and the record's
 generalize hD:w.heap.size=D at *
 let rc:LoopState->Obj:=fun st=>.loop { state:=st,pending:=none,fn:=fn,tmps:=a.tmps,params:=ps,assign:=assign,body:=body,defers:=D }
 have hcell:∀ st,(rc st).isCells=false:=fun _=>rfl
 let U:=w.alloc (.deferred (some []))
 let Z:=U.alloc (rc .ready)
 have sU:U.heap.size=D+1:=by show (w.alloc _).heap.size=_;rw [World.size_alloc,hD]
 have zL:Z.heap[D+1]? = some (rc .ready):=by rw [<- sU];exact World.alloc_heap_new U _
 have zD:Z.heap[D]? = some (.deferred (some [])):=(Below.heap_alloc U _ _ (by omega)).trans (by rw [<- hD];exact World.alloc_heap_new w _)
 have hIa:∀ {j:Nat} {W:World} (o:Obj),I j W->I j (W.alloc o):=fun o h=>hI.alloc o h
 let J:Nat->World->Prop:=fun j W=>I j W/\W.heap[D+1]? = some (rc .ready)/\W.heap[D]? = some (.deferred (some []))
 refine ⟨D+1,[{ target:=.collected D,args := #[] }],Z,{ target:=.fn (.func gf) lb,args := #[.func (.yield (D+1)) #[] #[]] },Z,gf,#[.func (.yield (D+1)) #[] #[]]++lb,Z,?_,?_,?_,?_,fun _=>by decide,?_⟩
 ·have:=run_enterLoop_outer (P:=P) (w:=w) fn a.tmps ps assign body
  rw [hD] at this
  exact this
 ·simp only [resolve,hg]
  simp [go_sem]
 ·intro f' _;trivial
 ·simp [invoke,go_sem,eg]
 refine (hseq (D+1) J Z ?_ ?_ ?_ ⟨hIa _ (hIa _ h0),zL,zD⟩).mono ?_
 ·rw [hD]
  exact (((Below.refl D w).alloc (by omega) _).alloc (by rw [show (w.alloc (.deferred (some []))).heap.size=D+1 from sU];omega) _)
 ·rintro j A B ⟨h1,h2,h3⟩ hgr
  have keep:∀ b (o:Obj),A.heap[b]? = some o->B.heap[b]? = some o:=fun b o h=>(hgr.block b (Array.getElem?_eq_some_iff.1 h).1 (fun e=>by cases e)).trans h
  exact ⟨hI j A B none h1 hgr (fun r e=>by cases e),keep _ _ h2,keep _ _ h3⟩
 ·rintro j v A hj ⟨h1,h2,h3⟩ hv
  refine ⟨fn,_,assign,body,run_yield h2 (hsz j v A hv),roundIn_of_wpIn hfn (hassign (D+1) j v A _ hj h1 hv ?_)⟩
  intro a' B kf kp i1 ax
  have l1:B.heap[D+1]? = some (rc .ready):=kf.same _ _ (by omega) h2 rfl
  have d1:B.heap[D]? = some (.deferred (some [])):=kf.same _ _ (Nat.le_refl _) h3 rfl
  have hlt:D+1<B.heap.size:=(Array.getElem?_eq_some_iff.1 l1).1
  refine ⟨_,run_beginRound l1 rfl,?_⟩
  generalize hC:B.putObj (D+1) (.loop { state:=.busy,pending:=none,fn:=fn,tmps:=a.tmps,params:=ps,assign:=assign,body:=body,defers:=D })=C
  have l2:C.heap[D+1]? = some (rc .busy):=by rw [<- hC];exact World.putObj_heap_same hlt
  have d2:C.heap[D]? = some (.deferred (some [])):=by rw [<- hC];exact (World.putObj_heap_other (by omega)).trans d1
  have kp2:Kp B C:=by rw [<- hC];exact hKb _ _ _ _ (by omega) l1 rfl
  have i2:I j C:=by rw [<- hC];exact hI.putObj _ i1 (by omega) l1 rfl
  have ax2:Ax j a' C:=by rw [<- hC];exact (hAx j a').putObj (s:=()) _ ax (by omega) l1 rfl
  refine wpIn_mono (hbody (D+1) j a' C hj i2 ax2) ?_
  rintro e a3 G ⟨rfl,kf3,kp3,i3⟩
  have l3:G.heap[D+1]? = some (rc .busy):=kf3.same _ _ (by omega) l2 rfl
  have d3:G.heap[D]? = some (.deferred (some [])):=kf3.same _ _ (Nat.le_refl _) d2 rfl
  have kp4:=hKb G (D+1) _ (rc .ready) (by omega) l3 rfl
  exact ⟨_,_,run_endRound none l3,rfl,⟨hI.putObj _ i3 (by omega) l3 rfl,World.putObj_heap_same (Array.getElem?_eq_some_iff.1 l3).1,(World.putObj_heap_other (by omega)).trans d3⟩,hKt kp (hKt (hKt kp2 kp3) kp4)⟩
 rintro e B ⟨⟨u,rfl⟩,h1,h2,h3⟩
 exact ⟨none,_,run_endLoop h2 (fun e=>by cases e),hdone D _ (Nat.le_refl _) (hI.putObj _ h1 (by omega) h2 rfl) ((World.putObj_heap_other (by omega)).trans h3)⟩
section
open Go.RowKit
open Classical in
noncomputable def Hv (M:Nat->Option Obj) (b:Nat):Option Obj:=match M b with
 | some o=>if DM o then none else some o
 | none=>none
theorem Hu {M:Nat->Option Obj} {b:Nat} {o:Obj} (h:Hv M b=some o):M b=some o/\¬ DM o:=by
 unfold Hv at h
 split at h
 ·rename_i o' h1
  split at h
  ·cases h
  injection h with h;subst h;exact ⟨h1,‹_›⟩
 cases h
theorem Km {M:Nat->Option Obj} {b:Nat} (h:M b=none):Hv M b=none:=by unfold Hv;rw [h]
theorem Mv {M:Nat->Option Obj} {b:Nat} {o:Obj} (hf:¬ DM o) (h:M b=some o):Hv M b=some o:=by unfold Hv;rw [h];simp [hf]
theorem Ym {M:Nat->Option Obj} {b n:Nat} (h:M b=some (HJ n)):Hv M b=none:=by unfold Hv;rw [h];simp [show DM (HJ n) from ⟨n,rfl⟩]
def nK (M:Nat->Option Obj) (Ow:World->Nat->Prop) (E:List Av) (v:Array Value) (W:World):Prop:=∃ Mj:Nat->Option Obj,E.length=v.size/\(∀ b o,Mj b=some o->Dy W.heap[b]? o/\o.isCells=true/\¬ Ow W b/\¬ DM o) /\
 ∀ MM:Nat->Option Obj,(∀ b o,M b=some o->MM b=some o)->(∀ b c t f,¬ DM (.cells c t f)->Mj b=some (.cells c t f)->∃ t',MM b=some (.cells c t' f))->L2 (fun e u=>∀ σ,RA MM σ e u) E v.toList
def JC (P:Program) (gf:FuncId) (k:Nat) (caps:Nat->Cl) (n:Nat) (E:Fin n->List Av):Prop :=
 ∀ (M:Nat->Option Obj) (w:World) (cs:Array Value) (Ow:World->Nat->Prop),(∀ b o,M b=some o->Dy w.heap[b]? o)->OwS Ow w.heap.size->(∀ b,Ow w b->b<w.heap.size/\M b=none)->cs.size=k->(∀ i,i<k->RC M (caps i) (cs.getD i undef)) ->
  SeqV P gf cs (fun j v W=>∃ hj:j<n,nK M Ow (E ⟨j,hj⟩) v W) (KpS Ow) n w
section
variable {P:Program} {N:Nat} {W0:World} {X:Nat→Option Loc} {M0:Nat→Option Obj}
theorem Zw {ι:Type} {Q:Exit->AS->Prop} {g:Operand} {ps:Array Tmp} {assign body:Code} {t0:List (Nat×Tv)} (pids:List Nat) (fid q off r:Nat) {gf:FuncId} {k:Nat} {caps:Nat->Cl} {n:Nat} {E:Fin n->List Av} (H:ι->List (Nat×Blk)) (t1:Fin n->List (Nat×Tv)) (Inv Fm:Nat->ι->Prop) (x0:ι)
  (hX0:∀ m,X m=none) (hg:evT (get t0) g=some (.av (.one (.clo gf k caps)))) (hcd:(Cl.clo gf k caps).dv=true) (eg:∀ args w,(callFunc gf args).run P w=.ok (.enter gf args) w)
  (It:JC P gf k caps n E) (hnm:∀ i,i<k->NM (caps i)) (hE:∀ x,(E x).length=ps.size) (hps:∀ p∈ps.toList,p<N)
  (hpv:∀ i v,get t0 i=some v->pvT pids v=true) (hh:∀ x m b,get (H x) m=some b->((A8 pids m=true/\b.isP=true)\/(m=r/\b.isR=true))/\b.no fid=true)
  (hpc:∀ x m,A8 pids m=true->∃ b,get (H x) m=some b) (hfp:A8 pids fid=false) (hrp:A8 pids r=false) (hrf:r≠fid) (hfN:N<=fid) (hrN:N<=r) (hpN:∀ m∈pids,N<=m) (hmem:∀ m∈pids,A8 pids m=true) (hq:A8 pids q=true)
  (hEd:∀ x i v,get (QC t0 ps.toList (E x)) i=some v->v.no fid=true)
  (hheld:∀ x,O8 q off r (H x)=true) (hm:∀ x m b,get (H x) m=some b->BkN b)
  (ht1:∀ x,TsM (t1 x)) (ht1p:∀ x i v,get (t1 x) i=some v->pvT pids v=true)
  (hI0:Inv 0 x0) (hF0:Fm 0 x0)
  (hassign:∀ l W1 M1 X1 k j x,Inv j x->PXr pids r (∃ bb,get (H x) r=some bb) X1->AWp P (some l) N W1 X1 M1 assign (fun e s'=>e=.normal/\s'=⟨t1 k,H x⟩) ⟨QC t0 ps.toList (E k),H x⟩)
  (hbody:∀ l W1 M1 X1 (k:Fin n) j x,(∀ m z,X1 m=some z->A8 (fid::pids) m=true)->j<n->Inv j x->AWp P (some l) N W1 X1 M1 body (fun e s'=>e=.normal/\∃ y,Inv (j+1) y/\(k.val=j->Fm j x->Fm (j+1) y)/\∀ m b,get (H y) m=some b->get s'.h m=some b) ⟨t1 k,H x⟩)
  (hdone:∀ x,Inv n x->Fm n x->Q .normal ⟨t0,H x⟩):AWp P none N W0 X M0 (.rangeFunc g ps assign body) Q ⟨t0,H x0⟩:=by
 intro M σ a w hs
 have hnof:∀ v:Tv,pvT pids v=true->v.no fid=true:=fun v h=>by
  cases hn:v.no fid with
  | true=>rfl
  | false=>have:=hmem fid (Oi h hn);rw [hfp] at this;cases this
 have hpne:∀ m,A8 pids m=true->m≠fid/\m≠r:=fun m h=>⟨fun e=>(by rw [e,hfp] at h;cases h),fun e=>(by rw [e,hrp] at h;cases h)⟩
 have hPb:∀ x m,A8 pids m=true->∃ b,get (H x) m=some b/\b.isP=true:=fun x m h=>by
  obtain ⟨b,hb⟩:=hpc x m h
  rcases (hh x m b hb).1 with h1 | h1
  ·exact ⟨b,hb,h1.2⟩
  exact absurd h1.1 (hpne m h).2
 have hPn:∀ {X':Nat->Option Loc} {W1:World} {Mb M1:Nat->Option Obj} {σ1:Nat->Loc} {T:Nat->Option Tv} {b:Act} {A:World} {x:ι},Sim N W1 X' Mb M1 σ1 T (get (H x)) b A->∀ m,A8 pids m=true->(σ1 m).nil=false/\(σ1 m).b<A.heap.size/\M1 (σ1 m).b=none:=fun {X' W1 Mb M1 σ1 T b A x} h1 m hmm=>by
  obtain ⟨bk,hbk,hp⟩:=hPb x m hmm
  have h2:=h1.blk m bk hbk
  have hn:(σ1 m).nil=false:=by
   cases bk with
   | cells l ty=>exact h2.1
   | omap=>exact h2.1
   | row=>cases hp
   | rowx=>cases hp
  refine ⟨hn,h2.lt hn,?_⟩
  rcases h1.loc m bk hbk with h | h
  ·rw [hn] at h;cases h
  exact h.1
 have hplt:∀ m,A8 pids m=true->(σ m).b<w.heap.size:=fun m hmm=>(hPn hs m hmm).2.1
 -- the iterator's value
 obtain ⟨cs,hgv1,hgv2,hgv3⟩:=Ge hs.tmps hg
 have hcaps:∀ i,i<k->RC M (caps i) (cs.getD i undef):=fun i hi=>(KM (List.all_eq_true.1 hcd i (List.mem_range.2 hi))).1 (hgv3 i hi)
 obtain ⟨Ow,hOw⟩:∃ Ow:World->Nat->Prop,Ow=fun W b=>((∃ m,A8 pids m=true/\(σ m).b=b)\/JD (σ q).b off W b)\/(b<w.heap.size/\Hv M b=none):=⟨_,rfl⟩
 have hOi:∀ {W b},Ow W b->((∃ m,A8 pids m=true/\(σ m).b=b)\/JD (σ q).b off W b)\/(b<w.heap.size/\Hv M b=none):=fun h=>by rw [hOw] at h;exact h
 have hOr:∀ {W b},((∃ m,A8 pids m=true/\(σ m).b=b)\/JD (σ q).b off W b)\/(b<w.heap.size/\Hv M b=none)->Ow W b:=fun h=>by rw [hOw];exact h
 have hOo:∀ {W b},(∃ m,A8 pids m=true/\(σ m).b=b)\/JD (σ q).b off W b->Ow W b:=fun h=>by rw [hOw];exact .inl h
 have hHeldSame:∀ {A B:World},B.heap[(σ q).b]? = A.heap[(σ q).b]? -> ∀ b,JD (σ q).b off B b->JD (σ q).b off A b:=fun h b ⟨o,len,cap,h1,h2⟩=>⟨o,len,cap,by rw [<- h];exact h1,h2⟩
 have hOg:∀ {A B:World},w.heap.size<=A.heap.size->B.heap[(σ q).b]? = A.heap[(σ q).b]? -> ∀ b,Ow B b->Ow A b:=fun _ hB b hb=>hOr ((hOi hb).imp (Or.imp id (hHeldSame hB b)) id)
 have hseq:=It (Hv M) w cs Ow (fun b o h=>hs.imm b o (Hu h).1) ⟨fun A B hA hB b hb=>hOg hA (hB _ (Nat.lt_of_lt_of_le (hplt q hq) hA)) b hb⟩ (fun b hb=>by
  rcases hOi hb with (⟨m,hmm,rfl⟩ | hb) | hb
  ·exact ⟨hplt m hmm,Km (hPn hs m hmm).2.2⟩
  ·obtain ⟨⟨bk,hbk⟩,hn,rfl⟩:=SR hs (hheld x0) hb
   refine ⟨(hs.blk r bk hbk).lt hn,?_⟩
   rcases hs.loc r bk hbk with h | h
   ·rw [hn] at h;cases h
   exact Km h.1
  exact hb) hgv2 fun i hi=>Pc (fun b c t f hf h=>⟨t,Mv hf h⟩) (hcaps i hi) (hnm i hi)
 -- names
 have hXPm:∀ m x,Py pids σ X m=some x->A8 pids m=true/\x=σ m:=fun m x hx=>by
  unfold Py at hx
  cases hmm:A8 pids m with
  | true=>rw [hmm] at hx;injection hx with hx;exact ⟨rfl,hx.symm⟩
  | false=>rw [hmm] at hx;have:X m=some x:=hx;rw [hX0] at this;cases this
 have hPp:∀ m,A8 pids m=true->Py pids σ X m=some (σ m):=fun m h=>by unfold Py;rw [h];rfl
 obtain ⟨XP,hXPd⟩:∃ XP,XP=Py pids σ X:=⟨_,rfl⟩
 have hXPi:∀ b,inX XP b↔∃ m,A8 pids m=true/\(σ m).b=b:=fun b=>by
  rw [hXPd]
  constructor
  ·rintro ⟨m,x,h1,h2⟩
   obtain ⟨h3,rfl⟩:=hXPm m x h1
   exact ⟨m,h3,h2⟩
  rintro ⟨m,h1,h2⟩
  exact ⟨m,_,hPp m h1,h2⟩
 have hnfP:∀ l M4,(∀ b o,M b=some o->M4 b=some o)->l=a.defers->Jw XP M0 M4 l:=fun l M4 h4 e=>⟨by rw [e];exact HU.mono h4 hs.defers.1,fun ⟨m,x,h1,h2,_⟩=>by
  rw [hXPd] at h1
  obtain ⟨h3,rfl⟩:=hXPm m x h1
  rw [(hPn hs m h3).1] at h2;cases h2⟩
 have hT0:∀ (M4:Nat->Option Obj) (σ4:Nat->Loc),(∀ b o,M b=some o->M4 b=some o)->(∀ m,A8 pids m=true->σ4 m=σ m)->∀ i v,get t0 i=some v->RT M4 σ4 v (a.tmps.getD i undef):=fun M4 σ4 h4 hσ i v hv =>
  D6 h4 (fun d hd=>hσ d (hmem d (Oi (hpv i v hv) hd))) (hs.tmps i v hv)
 have hs0:Sim N W0 XP M0 M σ (get t0) (get (H x0)) a w:=⟨hs.os,hs.tape,hs.output,hs.size,fun b hb hx=>hs.old b hb fun ⟨m,x,h1,h2⟩=>(by rw [hX0] at h1;cases h1),hs.sub,hs.new,fun m x hx=>by
   rw [hXPd] at hx
   obtain ⟨h3,rfl⟩:=hXPm m x hx
   exact ⟨hpN m (ES h3),rfl⟩,hnfP _ M (fun _ _ h=>h) rfl,hs.room,hs.tmps,hs.imm,hs.blk,fun m b hb=>(hs.loc m b hb).imp id fun h=>⟨h.1,.inl (h.2.elim id fun ⟨m,x,h1,_⟩=>by rw [hX0] at h1;cases h1)⟩,hs.inj⟩
 have hlt:∀ b o,M b=some o->b<w.heap.size:=fun b o h=>(HG (hs.imm b o h))
 have hσP:∀ {X':Nat->Option Loc} {M1:Nat->Option Obj} {σ1:Nat->Loc} {T:Nat->Option Tv} {HH:Nat->Option Blk} {b:Act} {A W1:World} {Mb:Nat->Option Obj},Sim N W1 X' Mb M1 σ1 T HH b A->(∀ m,A8 pids m=true->X' m=some (σ m))->∀ m,A8 pids m=true->σ1 m=σ m:=fun h1 h2 m hmm=>(h1.pin m _ (h2 m hmm)).2
 have hXPp:∀ m,A8 pids m=true->XP m=some (σ m):=fun m h=>by rw [hXPd];exact hPp m h
 let SI:Nat->World->Prop:=fun j W=>∃ x M' σ',Sim N W0 XP M0 M' σ' (get t0) (get (H x)) a W/\Cln M M'/\Inv j x/\Fm j x/\w.heap.size<=W.heap.size
 let Ax:Nat->Act->World->Prop:=fun j a' W=>∃ (hj:j<n) (Mn:Nat->Option Obj),w.heap.size<=W.heap.size/\a'.tmps.size=N/\a'.defers=[]/\(∀ i v,get (t1 ⟨j,hj⟩) i=some v->RT Mn σ v (a'.tmps.getD i undef))/\∀ b o,Mn b=some o->Dy W.heap[b]? o/\(o.isCells=true\/M b=some o)/\(M b=none->W0.heap.size<=b)/\¬ ((∃ m,A8 pids m=true/\(σ m).b=b)\/JD (σ q).b off W b)/\(M b=some o\/¬ DM o/\∀ n,M b≠some (HJ n))
 -- one piece of a round
 have step:∀ {XA:Nat->Option Loc} {M' M3:Nat->Option Obj} {σ' σ3:Nat->Loc} {W W':World} {x y:ι} {T':Nat->Option Tv} {h':List (Nat×Blk)} {a':Act},Sim N W0 XP M0 M' σ' (get t0) (get (H x)) a W->Cln M M'->Sim N W XA M' M3 σ3 T' (get h') a' W'->(∀ m b,get (H y) m=some b->get h' m=some b) ->
   (∀ b,inX XA b->(∃ m,A8 pids m=true/\(σ m).b=b)\/((∃ bb,get (H x) r=some bb)/\(σ' r).nil=false/\(σ' r).b=b))->(∀ m,A8 pids m=true->σ3 m=σ m) ->
   KeepsFrom w.heap.size W W'/\KpS Ow W W'/\Sim N W0 XP M0 (KL M' M3) σ3 (get t0) (get (H y)) a W'/\Cln M (KL M' M3):=by
  intro XA M' M3 σ' σ3 W W' x y T' h' a' h1 h2 hr hy hX hσ3
  have hσ':=hσP h1 hXPp
  have hC:=gY h2 hr.sub
  have hXO:∀ b,inX XA b->Ow W b:=fun b hb=>by
   rcases hX b hb with h | ⟨⟨bb,hbb⟩,hn,rfl⟩
   ·exact hOo (.inl h)
   have:=UP h1 (hheld x) hbb hn
   rw [hσ' q hq] at this
   exact hOo (.inr this)
  have hsim:Sim N W0 XP M0 (KL M' M3) σ3 (get t0) (get (H y)) a W':=by
   refine cI h1 hr (fun b hb => ?_) hy (hm y) hs.room (hT0 _ σ3 hC.1 hσ3) (fun m z hz => ?_) (fun b=>Iff.rfl) (hnfP _ _ hC.1 rfl)
   ·rcases hX b hb with h | ⟨⟨bb,hbb⟩,hn,rfl⟩
    ·exact .inl ((hXPi b).2 h)
    rcases h1.loc r bb hbb with h3 | h3
    ·rw [hn] at h3;cases h3
    exact h3.2.symm
   rw [hXPd] at hz
   obtain ⟨h3,rfl⟩:=hXPm m z hz
   exact ⟨hpN m (ES h3),hσ3 m h3⟩
  refine ⟨⟨hr.size,fun b o hb ho hoc => ?_⟩,⟨hr.size,fun b o hb hc ho=>(hr.old b (Array.getElem?_eq_some_iff.1 hb).1 fun h=>ho (hXO b h)).trans hb,fun b hb => ?_⟩,hsim,hC⟩
  ·refine (hr.old b (Array.getElem?_eq_some_iff.1 ho).1 fun hX' => ?_).trans ho
   rcases hX b hX' with ⟨m,hmm,rfl⟩ | ⟨⟨bb,hbb⟩,hn,rfl⟩
   ·have:=hplt m hmm;omega
   have h3:=h1.blk r bb hbb
   have h4:=(hh x r bb hbb).1
   cases bb with
   | row sz len f ty =>
    rcases h3 with ⟨h5,_⟩ | ⟨_,c,hc,_⟩
    ·rw [hn] at h5;cases h5
    rw [ho] at hc;injection hc with hc;subst hc;cases hoc
   | cells=>rcases h4 with h4 | h4 <;> first | (rw [hrp] at h4;cases h4.1) | cases h4.2
   | omap=>rcases h4 with h4 | h4 <;> first | (rw [hrp] at h4;cases h4.1) | cases h4.2
   | rowx=>rcases h4 with h4 | h4 <;> first | cases h4.2 | (rw [hrp] at h4;cases h4.1)
  rcases hOi hb with (h | h) | h
  ·exact .inl (hOo (.inl h))
  rotate_left
  ·exact .inl (hOr (.inr h))
  rw [<- hσ3 q hq] at h
  obtain ⟨⟨bk,hbk⟩,hn,rfl⟩:=SR hsim (hheld y) h
  rcases hr.loc r bk (hy r bk hbk) with h3 | ⟨_,h3 | h3⟩
  ·rw [hn] at h3;cases h3
  ·exact .inr ⟨h3,(hr.blk r bk (hy r bk hbk)).lt hn⟩
  exact .inl (hXO _ h3)
 -- what else is known to lie in the world
 have merge:∀ {M' Mn:Nat->Option Obj} {σ':Nat->Loc} {W:World} {x:ι},Sim N W0 XP M0 M' σ' (get t0) (get (H x)) a W->Cln M M'->(∀ b o,Mn b=some o->Dy W.heap[b]? o/\(o.isCells=true\/M b=some o)/\(M b=none->W0.heap.size<=b)/\¬ ((∃ m,A8 pids m=true/\(σ m).b=b)\/JD (σ q).b off W b)/\(M b=some o\/¬ DM o/\∀ n,M b≠some (HJ n))) ->
   ∃ MM:Nat->Option Obj,(∀ b o,M' b=some o->MM b=some o)/\(∀ b c t f,¬ DM (.cells c t f)->Mn b=some (.cells c t f)->∃ t',MM b=some (.cells c t' f))/\Cln M MM/\Sim N W0 XP M0 MM σ' (get t0) (get (H x)) a W:=by
  intro M' Mn σ' W x h1 h2 hA4
  have hσ':=hσP h1 hXPp
  obtain ⟨MM,hMM⟩:∃ MM:Nat->Option Obj,MM=fun b=>match M' b with | some o=>some o | none=>Mn b:=⟨_,rfl⟩
  have hM1:∀ b o,M' b=some o->MM b=some o:=fun b o h=>by rw [hMM];simp only [h]
  have hM3:∀ b o,MM b=some o->M' b=some o\/Mn b=some o:=fun b o h=>by
   rw [hMM] at h
   cases h3:M' b with
   | some o'=>simp only [h3] at h;exact .inl h
   | none=>simp only [h3] at h;exact .inr h
  have hM2:∀ b c t f,¬ DM (.cells c t f)->Mn b=some (.cells c t f)->∃ t',MM b=some (.cells c t' f):=fun b c t f hf h=>by
   cases h3:M' b with
   | some o' =>
    have h4:=h1.imm b o' h3
    rcases (hA4 b _ h).2.2.2.2 with h5 | ⟨h5,h6⟩
    ·exact ⟨t,hM1 b _ (h2.1 b _ h5)⟩
    have h7:¬ DM o':=fun ⟨n,hn⟩=>h6 n (by rw [<- hn];exact h2.2 b o' h3 (.inr ⟨n,hn⟩))
    obtain ⟨ty,e1⟩:=rR (hA4 b _ h).1 fun n hn=>h5 ⟨n,hn⟩
    cases o' with
    | cells c' t' f' =>
     obtain ⟨ty',e2⟩:=rR h4 fun n hn=>h7 ⟨n,hn⟩
     rw [e1] at e2
     injection e2 with e2;injection e2 with e3 e4 e5
     subst e3;subst e5
     exact ⟨t',hM1 b _ h3⟩
    | _ =>
     have e2:=rQ h4 (fun _ _ _ h=>by cases h)
     rw [e1] at e2;injection e2 with e2;cases e2
   | none=>exact ⟨t,by rw [hMM];simp only [h3];exact h⟩
  have hCM:Cln M MM:=⟨fun b o h=>hM1 b o (h2.1 b o h),fun b o h ho=>(hM3 b o h).elim (fun h'=>h2.2 b o h' ho) fun h'=>(hA4 b o h').2.2.2.2.elim id fun h5=>(hA4 b o h').2.1.elim (fun hc=>ho.elim (fun ho=>by rw [ho] at hc;cases hc) fun ho=>absurd ho h5.1) id⟩
  have h1M:Sim N W0 XP M0 MM σ' (get t0) (get (H x)) a W:=by
   refine ⟨h1.os,h1.tape,h1.output,h1.size,h1.old,fun b o h=>hM1 b o (h1.sub b o h),fun b o h h0 => ?_,h1.pin,hnfP _ MM hCM.1 rfl,h1.room,fun i v hv=>D6 hM1 (fun _ _=>rfl) (h1.tmps i v hv),fun b o h=>(hM3 b o h).elim (h1.imm b o) fun h'=>(hA4 b o h').1,fun m b hb=>(h1.blk m b hb).mono hM1 (fun _ _=>rfl) (fun _=>rfl),fun m b hb => ?_,h1.inj⟩
   ·rcases hM3 b o h with h | h
    ·exact h1.new b o h h0
    cases hMb:M b with
    | none=>exact (hA4 b o h).2.2.1 hMb
    | some o'=>exact hs.new b o' hMb h0
   cases hn:(σ' m).nil with
   | true=>exact .inl rfl
   | false =>
    rcases h1.loc m b hb with h | h
    ·rw [hn] at h;cases h
    refine .inr ⟨?_,h.2⟩
    cases hc:MM (σ' m).b with
    | none=>rfl
    | some o =>
     rcases hM3 _ o hc with h3 | h3
     ·rw [h.1] at h3;cases h3
     refine absurd ?_ (hA4 _ o h3).2.2.2.1
     rcases (hh x m b hb).1 with h4 | ⟨rfl,h4⟩
     ·exact .inl ⟨m,h4.1,by rw [hσ' m h4.1]⟩
     have:=UP h1 (hheld x) hb hn
     rw [hσ' q hq] at this
     exact .inr this
  exact ⟨MM,hM1,hM2,hCM,h1M⟩
 have hgr:∀ {A B:World} {row:Option Nat},A.grownBy B row->(∀ r,row=some r->w.heap.size<=r/\∃ o:Obj,A.heap[r]? = some o/\o.isCells=false)->w.heap.size<=A.heap.size->∀ b,((∃ m,A8 pids m=true/\(σ m).b=b)\/JD (σ q).b off B b)->((∃ m,A8 pids m=true/\(σ m).b=b)\/JD (σ q).b off A b):=fun {A B row} hg' hr hA b hb=>hb.imp id (hHeldSame (hg'.block _ (Nat.lt_of_lt_of_le (hplt q hq) hA) fun e=>by
  have:=(hr _ e.symm).1
  have:=hplt q hq
  omega) b)
 refine wpIn_wide.2 ((wpIn_wide (n:=2)).1 ?_)
 refine Yl hgv1 eg hseq KpS.trans (fun W l o o' hl ho hoc=>⟨by simp,fun b o2 hb hb2 _ => ?_,fun b hb => ?_⟩) (fun j v W hv => ?hsz)
  SI ?hI ⟨x0,M,σ,hs0,⟨fun _ _ h=>h,fun _ _ h _=>h⟩,hI0,hF0,Nat.le_refl _⟩ Ax ?hAx ?assign ?body ?done
 ·rw [World.putObj_heap_other (fun e=>by subst e;rw [ho] at hb;injection hb with hb;subst hb;rw [hoc] at hb2;cases hb2)]
  exact hb
 ·refine .inl (hOr ((hOi hb).imp (Or.imp id (hHeldSame (World.putObj_heap_other (fun e => ?_)) b)) id))
  have:=hplt q hq
  omega
 case hsz =>
  obtain ⟨hj,Mj,hL,_⟩:=hv
  rw [hE] at hL
  exact hL.symm
 case hI =>
  rintro j A B row ⟨x,M',σ',h1,h2,h3,h4,h5⟩ hg' hr
  refine ⟨x,M',σ',Vf h1 (fun m b hb hbm rr e => ?_) hg' (fun rr e => ?_),h2,h3,h4,Nat.le_trans h5 hg'.size⟩
  ·have h6:=(hr rr e).1
   have hmm:A8 pids m=true:=by
    rcases (hh x m b hb).1 with h | h
    ·exact h.1
    cases b <;> first | (exfalso;cases hbm;done) | (exfalso;exact absurd h.2 (by simp [Blk.isR])) | exact absurd hbm (by simp [Blk.isM])
   rw [hσP h1 hXPp m hmm]
   have:=hplt m hmm
   omega
  obtain ⟨h6,o,h7,h8⟩:=hr rr e
  refine ⟨Nat.le_trans hs.size h6,⟨o,h7,h8⟩,?_⟩
  cases hM1:M' rr with
  | none=>rfl
  | some o' =>
   have h9:=h1.imm rr o' hM1
   rw [h7] at h9;have h9:=fQ h9 h8;subst h9
   have:=hlt rr _ (h2.2 rr _ hM1 (.inl h8))
   omega
 case hAx =>
  rintro j a' _ A B row ⟨hj,Mn,h1,h2,h3,h4,h5⟩ hg' hr
  refine ⟨hj,Mn,Nat.le_trans h1 hg'.size,h2,h3,h4,fun b o hb => ?_⟩
  obtain ⟨h6,h7,h8,h9,h9'⟩:=h5 b o hb
  have hkeep:B.heap[b]? = A.heap[b]? := hg'.block b (HG h6) fun e=>by
   obtain ⟨h10,o',h11,h12⟩:=hr b e.symm
   rw [h11] at h6;have h11:=fQ h6 h12;subst h11
   rcases h7 with h7 | h7
   ·rw [h12] at h7;cases h7
   have:=hlt b _ h7;omega
  exact ⟨by rw [hkeep];exact h6,h7,h8,fun h=>h9 (hgr hg' hr h1 b h),h9'⟩
 case assign =>
  rintro l j vals W K hjn ⟨x,M'',σ',h1',h2',hinv,hfm,hws⟩ ⟨hj,Mj,_,hMj,hL⟩ hK
  obtain ⟨M',_,hMjM,h2,h1⟩:=merge h1' h2' (fun b o hb=>⟨(hMj b o hb).1,.inl (hMj b o hb).2.1,fun hMb=>by
   have h3:=(hMj b o hb).2.2.1
   have:¬ b<w.heap.size:=fun h=>h3 (hOr (.inr ⟨h,Km hMb⟩))
   have:=hs.size
   omega,fun h=>(hMj b o hb).2.2.1 (hOo h),.inr ⟨(hMj b o hb).2.2.2,fun n hn=>(hMj b o hb).2.2.1 (hOr (.inr ⟨hlt b _ hn,Ym hn⟩))⟩⟩)
  obtain ⟨kx,hkx⟩:∃ kx:Fin n,kx=⟨j,hj⟩:=⟨_,rfl⟩
  rw [<- hkx] at hL
  have hσ':=hσP h1 hXPp
  obtain ⟨hfs,hft⟩:=X9 ps.toList (E kx) vals.toList t0 a.tmps (hT0 M' σ' h2.1 hσ') hs.room ((hL M' (fun b o h=>h2.1 b o (Hu h).1) hMjM).mono fun e _ v hv=>hv σ') (by simpa using (hE kx).symm) hps
  have efold:(ps.zip vals).foldl (fun t (p,v)=>t.setIfInBounds p v) a.tmps=(ps.toList.zip vals.toList).foldl (fun t (y:Tmp×Value)=>t.setIfInBounds y.1 y.2) a.tmps:=by
   rw [<- Array.foldl_toList,Array.toList_zip]
  rw [efold]
  obtain ⟨pr,hpr1,hpr2,hpr3⟩:∃ pr:List Nat,(∀ m,A8 pr m=true->A8 pids m=true\/(m=r/\(∃ bb,get (H x) r=some bb)/\(σ' r).nil=false))/\(∀ m,A8 pids m=true->A8 pr m=true)/\((∃ bb,get (H x) r=some bb)/\(σ' r).nil=false->A8 pr r=true):=by
   by_cases hrow:(∃ bb,get (H x) r=some bb)/\(σ' r).nil=false
   ·refine ⟨r::pids,fun m h => ?_,fun m h => ?_,fun _ => ?_⟩
    ·rcases List.mem_cons.1 (ES h) with e | e
     ·exact .inr ⟨e,hrow⟩
     exact .inl (hmem m e)
    ·exact IB (List.mem_cons_of_mem _ (ES h))
    exact IB (List.mem_cons_self ..)
   exact ⟨pids,fun m h=>.inl h,fun m h=>h,fun h=>absurd h hrow⟩
  obtain ⟨XA,hXA⟩:∃ XA,XA=NC fid ⟨(σ q).b,424242,true⟩ (Py pr σ' X):=⟨_,rfl⟩
  have hprf:∀ m,A8 pr m=true->m≠fid:=fun m h=>(hpr1 m h).elim (fun h=>(hpne m h).1) fun h=>by rw [h.1];exact hrf
  have hXAf:∀ m z,XA m=some z->(m=fid/\z=⟨(σ q).b,424242,true⟩)\/(m≠fid/\A8 pr m=true/\z=σ' m):=fun m z hz=>by
   rw [hXA] at hz
   unfold NC at hz
   cases hb:Nat.beq m fid with
   | true=>rw [hb] at hz;injection hz with hz;exact .inl ⟨Nat.eq_of_beq_eq_true hb,hz.symm⟩
   | false =>
    rw [hb] at hz
    have hz:Py pr σ' X m=some z:=hz
    unfold Py at hz
    cases hp:A8 pr m with
    | true=>rw [hp] at hz;injection hz with hz;exact .inr ⟨hprf m hp,rfl,hz.symm⟩
    | false=>rw [hp] at hz;have hz:X m=some z:=hz;rw [hX0] at hz;cases hz
  have hXAp:∀ m,A8 pr m=true->XA m=some (σ' m):=fun m h=>by
   rw [hXA]
   unfold NC
   rw [show Nat.beq m fid=false by rw [CH];simp [hprf m h]]
   show Py pr σ' X m=_
   unfold Py
   rw [h];rfl
  have hflat:nF XA:=⟨fid,⟨(σ q).b,424242,true⟩,by rw [hXA];unfold NC;rw [Nat.beq_refl];rfl,rfl,rfl⟩
  have hin:=QB (fid:=fid) (XB:=XA) (σ2:=upd σ' fid ⟨(σ q).b,424242,true⟩) h1 (a2:={ tmps:=_,defers:=[] }) rfl hfs (fun m z hz=>by
   rcases hXAf m z hz with ⟨rfl,rfl⟩ | ⟨h3,h4,rfl⟩
   ·exact ⟨hfN,A2 _ _ _⟩
   ·refine ⟨(hpr1 m h4).elim (fun h=>hpN m (ES h)) fun h=>by rw [h.1];exact hrN,Bw _ _ h3⟩) (fun m h=>Bw _ _ h) (fun i v hv=>⟨hft i v hv,hEd kx i v hv⟩) (fun m b hb=>by
   obtain ⟨h3,h4⟩:=hh x m b hb
   rcases h3 with h3 | ⟨rfl,h3⟩
   ·exact ⟨(hpne m h3.1).1,h4,.inr ⟨m,_,hXAp m (hpr2 m h3.1),rfl⟩⟩
   refine ⟨hrf,h4,?_⟩
   cases hn:(σ' m).nil with
   | true=>exact .inl rfl
   | false=>exact .inr ⟨m,_,hXAp m (hpr3 ⟨⟨b,hb⟩,hn⟩),rfl⟩)
  refine wpIn_mono (hassign l W M' XA kx j x hinv (fun m z hz=>by
   rcases hXAf m z hz with ⟨rfl,rfl⟩ | ⟨h3,h4,rfl⟩
   ·exact .inl ⟨q,hq,_,hXAp q (hpr2 q hq),by rw [hσ' q hq]⟩
   rcases hpr1 m h4 with h5 | ⟨rfl,h6,h5⟩
   ·exact .inl ⟨m,h5,_,hXAp m h4,rfl⟩
   exact .inr ⟨rfl,h6,h5⟩) M' _ _ W hin) ?_
  rintro e a' W' ⟨s',M3,σ3,⟨rfl,rfl⟩,hr⟩
  have hσ3:∀ m,A8 pids m=true->σ3 m=σ m:=fun m hmm=>(hr.pin m _ (hXAp m (hpr2 m hmm))).2.trans (hσ' m hmm)
  obtain ⟨k1,k2,k3,k4⟩:=step h1 h2 hr (y:=x) (fun _ _ h=>h) (fun b hb=>by
   obtain ⟨m,z,hz,hzb⟩:=hb
   rcases hXAf m z hz with ⟨rfl,rfl⟩ | ⟨h3,h4,rfl⟩
   ·exact .inl ⟨q,hq,hzb⟩
   rcases hpr1 m h4 with h5 | ⟨rfl,h5,h6⟩
   ·exact .inl ⟨m,h5,by rw [<- hσ' m h5];exact hzb⟩
   exact .inr ⟨h5,h6,hzb⟩) hσ3
  refine hK a' W' k1 k2 ⟨x,_,σ3,k3,k4,hinv,hfm,Nat.le_trans hws hr.size⟩ ⟨hj,KL M' M3,Nat.le_trans hws hr.size,hr.room,hr.defers.2 hflat,fun i v hv => ?_,fun b o hb=>⟨hr.imm b o (IK hr.sub hb),?_,fun hMb => ?_,fun ho => ?_,?_⟩⟩
  ·rw [<- hkx] at hv
   exact D6 (fun _ _ h=>h) (fun d hd=>(hσ3 d (hmem d (Oi (ht1p kx i v hv) hd))).symm) (Sj (Zo (PM hr.sub)) (hr.tmps i v hv) (ht1 kx i v hv))
  ·cases hc:o.isCells with
   | true=>exact .inl rfl
   | false=>exact .inr (k4.2 b o hb (.inl hc))
  ·cases h3:M' b with
   | some o' =>
    refine h1.new b o' h3 ?_
    cases h0:M0 b with
    | none=>rfl
    | some o2=>rw [hs.sub b o2 h0] at hMb;cases hMb
   | none=>exact Nat.le_trans h1.size (hr.new b o (IK hr.sub hb) h3)
  ·have h3:=IK hr.sub hb
   rcases ho with ⟨m,hmm,rfl⟩ | ho
   ·have:=(hPn hr m hmm).2.2
    rw [hσ3 m hmm,h3] at this;cases this
   rw [<- hσ3 q hq] at ho
   obtain ⟨⟨bk,hbk⟩,hn,rfl⟩:=SR hr (hheld x) ho
   rcases hr.loc r bk hbk with h | h
   ·rw [hn] at h;cases h
   rw [h.1] at h3;cases h3
  by_cases hf:DM o
  ·exact .inl (k4.2 b o hb (.inr hf))
  refine .inr ⟨hf,fun n hn=>hf ?_⟩
  have h3:=Gz (M3:=M3) (h2.1 b _ hn)
  rw [hb] at h3
  exact ⟨n,Option.some.inj h3⟩
 case body =>
  rintro l j a' W hjn ⟨x,M',σ',h1,h2,hinv,hfm,hws⟩ ⟨hj,Mn,_,hA1,hA2,hA3,hA4⟩
  obtain ⟨kx,hkx⟩:∃ kx:Fin n,kx=⟨j,hj⟩:=⟨_,rfl⟩
  rw [<- hkx] at hA3
  have hσ':=hσP h1 hXPp
  obtain ⟨MM,hM1,hM2,hCM,h1M⟩:=merge h1 h2 hA4
  obtain ⟨fl,hfl1,hfl2,hfl3,hfl4⟩:∃ fl:Loc,fl.nil=true/\fl.cap=424242/\(fl.b=(σ q).b\/(((∃ bb,get (H x) r=some bb)/\(σ' r).nil=false)/\fl.b=(σ' r).b))/\((∃ bb,get (H x) r=some bb)/\(σ' r).nil=false->fl.b=(σ' r).b):=by
   by_cases hrow:(∃ bb,get (H x) r=some bb)/\(σ' r).nil=false
   ·exact ⟨⟨(σ' r).b,424242,true⟩,rfl,rfl,.inr ⟨hrow,rfl⟩,fun _=>rfl⟩
   exact ⟨⟨(σ q).b,424242,true⟩,rfl,rfl,.inl rfl,fun h=>absurd h hrow⟩
  obtain ⟨XB,hXB⟩:∃ XB,XB=NC fid fl XP:=⟨_,rfl⟩
  have hXBf:∀ m z,XB m=some z->(m=fid/\z=fl)\/(m≠fid/\A8 pids m=true/\z=σ m):=fun m z hz=>by
   rw [hXB] at hz
   unfold NC at hz
   cases hb:Nat.beq m fid with
   | true=>rw [hb] at hz;injection hz with hz;exact .inl ⟨Nat.eq_of_beq_eq_true hb,hz.symm⟩
   | false =>
    rw [hb] at hz
    have hz:XP m=some z:=hz
    rw [hXPd] at hz
    obtain ⟨h3,h4⟩:=hXPm m z hz
    exact .inr ⟨(hpne m h3).1,h3,h4⟩
  have hXBp:∀ m,A8 pids m=true->XB m=some (σ m):=fun m h=>by
   rw [hXB]
   unfold NC
   rw [show Nat.beq m fid=false by rw [CH];simp [(hpne m h).1]]
   exact hXPp m h
  have hXBfid:XB fid=some fl:=by rw [hXB];unfold NC;rw [Nat.beq_refl];rfl
  have hin:=QB (fid:=fid) (XB:=XB) (σ2:=upd σ' fid fl) h1M (a2:=a') hA2 hA1 (fun m z hz=>by
   rcases hXBf m z hz with ⟨rfl,rfl⟩ | ⟨h3,h4,rfl⟩
   ·exact ⟨hfN,A2 _ _ _⟩
   ·exact ⟨hpN m (ES h4),(Bw _ _ h3).trans (hσ' m h4)⟩) (fun m h=>Bw _ _ h) (fun i v hv=>⟨Sj hM2 (D6 (fun _ _ h=>h) (fun d hd=>hσ' d (hmem d (Oi (ht1p kx i v hv) hd))) (hA3 i v hv)) (ht1 kx i v hv),hnof v (ht1p kx i v hv)⟩) (fun m b hb=>by
   obtain ⟨h3,h4⟩:=hh x m b hb
   rcases h3 with h3 | ⟨rfl,h3⟩
   ·exact ⟨(hpne m h3.1).1,h4,.inr ⟨m,_,hXBp m h3.1,by rw [hσ' m h3.1]⟩⟩
   refine ⟨hrf,h4,?_⟩
   cases hn:(σ' m).nil with
   | true=>exact .inl rfl
   | false=>exact .inr ⟨fid,fl,hXBfid,hfl4 ⟨⟨b,hb⟩,hn⟩⟩)
  refine wpIn_mono (hbody l W MM XB kx j x (fun m z hz=>IB ((hXBf m z hz).elim (fun h=>by rw [h.1];exact List.mem_cons_self ..) fun h=>List.mem_cons_of_mem _ (ES h.2.1))) hjn hinv MM _ a' W hin) ?_
  rintro e a2 W' ⟨s',M3,σ3,⟨rfl,y,hy1,hy2,hy3⟩,hr⟩
  have hσ3:∀ m,A8 pids m=true->σ3 m=σ m:=fun m hmm=>(hr.pin m _ (hXBp m hmm)).2
  obtain ⟨k1,k2,k3,k4⟩:=step h1M hCM hr hy3 (fun b hb=>by
   obtain ⟨m,z,hz,hzb⟩:=hb
   rcases hXBf m z hz with ⟨rfl,rfl⟩ | ⟨h3,h4,rfl⟩
   ·rcases hfl3 with h5 | ⟨h5,h6⟩
    ·exact .inl ⟨q,hq,by rw [<- h5];exact hzb⟩
    exact .inr ⟨h5.1,h5.2,by rw [<- h6];exact hzb⟩
   exact .inl ⟨m,h4,hzb⟩) hσ3
  exact ⟨rfl,k1,k2,y,_,σ3,k3,k4,hy1,hy2 (by rw [hkx]) hfm,Nat.le_trans hws hr.size⟩
 case done =>
  rintro D W hD ⟨x,M',σ',h1,h2,hinv,hfm,hws⟩ hK
  refine ⟨⟨t0,H x⟩,_,σ',hdone x hinv hfm,cJ h1 hK ?_ (Nat.le_trans hs.size hD) (fun d' hd' e => ?_) (fun m x hx=>by rw [hX0] at hx;cases hx) (fun b hb => ?_) (fun ⟨m,x,h3,_⟩=>by rw [hX0] at h3;cases h3)⟩
  ·cases h0D:M0 D with
   | none=>rfl
   | some o=>have:=hlt D o (hs.sub D o h0D);omega
  ·obtain ⟨D',h3,h4⟩:=YC hs.defers.1 hd'
   rw [h3] at e
   injection e with e1 _
   injection e1 with e1
   subst e1
   have:=hlt _ _ h4
   omega
  obtain ⟨m,hmm,rfl⟩:=(hXPi b).1 hb
  obtain ⟨bk,hbk,_⟩:=hPb x0 m hmm
  rcases hs.loc m bk hbk with h | ⟨_,h⟩
  ·rw [(hPn hs m hmm).1] at h;cases h
  exact h
end
end
section
open Go.RowKit
section
variable {P:Program} {N:Nat} {W0:World} {X:Nat→Option Loc} {M0:Nat→Option Obj}
theorem HN {ι:Type} {Q:Exit->AS->Prop} {g:Operand} {ps:Array Tmp} {assign body:Code} {t0:List (Nat×Tv)} (pids:List Nat) (fid q off r:Nat) {gf:FuncId} {k:Nat} {caps:Nat->Cl} {n:Nat} {E:Fin n->List Av} (H:ι->List (Nat×Blk)) (t1:Fin n->List (Nat×Tv)) (Inv Fm:Nat->ι->Prop) (x0:ι)
  (hX0:∀ m,X m=none) (hg:evT (get t0) g=some (.av (.one (.clo gf k caps)))) (hcd:(Cl.clo gf k caps).dv=true) (eg:∀ args w,(callFunc gf args).run P w=.ok (.enter gf args) w)
  (It:JC P gf k caps n E) (hnm:∀ i,i<k->NM (caps i)) (hck:XT N pids fid q r t0 ps=true) (hfam:∀ x,famB pids fid q off r (H x)=true) (hE:∀ x,(E x).length=ps.size) (hEd:∀ x,(E x).all Av.dv=true) (hm:∀ x,HsN (H x))
  (ht1:∀ x,TsM (t1 x)) (ht1p:∀ x,(t1 x).all (fun p=>pvT pids p.2)=true) (hI0:Inv 0 x0) (hF0:Fm 0 x0)
  (hassign:∀ l W1 M1 X1 k j x,Inv j x->PXr pids r (∃ bb,get (H x) r=some bb) X1->AWp P (some l) N W1 X1 M1 assign (fun e s'=>e=.normal/\s'=⟨t1 k,H x⟩) ⟨QC t0 ps.toList (E k),H x⟩)
  (hbody:∀ l W1 M1 X1 (k:Fin n) j x,(∀ m z,X1 m=some z->A8 (fid::pids) m=true)->j<n->Inv j x->AWp P (some l) N W1 X1 M1 body (fun e s'=>e=.normal/\∃ y,Inv (j+1) y/\(k.val=j->Fm j x->Fm (j+1) y)/\∀ m b,get (H y) m=some b->get s'.h m=some b) ⟨t1 k,H x⟩)
  (hdone:∀ x,Inv n x->Fm n x->Q .normal ⟨t0,H x⟩):AWp P none N W0 X M0 (.rangeFunc g ps assign body) Q ⟨t0,H x0⟩:=by
 unfold XT at hck
 simp only [Bool.and_eq_true,Bool.not_eq_true'] at hck
 obtain ⟨c1,c2,c3,c4,c5,c6,c7,c8,c9⟩:=hck
 have hpv:∀ i v,get t0 i=some v->pvT pids v=true:=fun i v hv=>List.all_eq_true.1 c1 (i,v) (Ct hv)
 have hno:∀ v:Tv,pvT pids v=true->v.no fid=true:=fun v h=>by
  cases hn:v.no fid with
  | true=>rfl
  | false=>have:=IB (Oi h hn);rw [c3] at this;cases this
 have hf:∀ x,(∀ m b,get (H x) m=some b->((A8 pids m=true/\b.isP=true)\/(m=r/\b.isR=true))/\b.no fid=true)/\(∀ m,A8 pids m=true->∃ b,get (H x) m=some b)/\O8 q off r (H x)=true:=fun x=>by
  have h:=hfam x
  unfold famB at h
  simp only [Bool.and_eq_true] at h
  obtain ⟨h1,h2,h3⟩:=h
  refine ⟨fun m b hb => ?_,fun m hmm=>Option.isSome_iff_exists.1 (List.all_eq_true.1 h2 m (ES hmm)),h3⟩
  have:=List.all_eq_true.1 h1 (m,b) (Ct hb)
  simp only [Bool.and_eq_true,Bool.or_eq_true] at this
  exact ⟨this.1.imp id fun h=>⟨Nat.eq_of_beq_eq_true h.1,h.2⟩,this.2⟩
 exact Zw pids fid q off r H t1 Inv Fm x0 hX0 hg hcd eg It hnm hE (fun p hp=>Nat.le_of_ble_eq_true (List.all_eq_true.1 c9 p hp)) hpv (fun x=>(hf x).1) (fun x=>(hf x).2.1) c3 c4 (fun e=>by rw [e,Nat.beq_refl] at c5;cases c5) (Nat.le_of_ble_eq_true c6) (Nat.le_of_ble_eq_true c7) (fun m hmm=>Nat.le_of_ble_eq_true (List.all_eq_true.1 c2 m hmm)) (fun m hmm=>IB hmm) c8 (fun x i v hv=>TK _ _ _ (fun j u hu=>hno u (hpv j u hu)) (hEd x) i v hv) (fun x=>(hf x).2.2) hm ht1 (fun x i v hv=>List.all_eq_true.1 (ht1p x) (i,v) (Ct hv)) hI0 hF0 hassign hbody hdone
end
section
variable {P:Program} {N:Nat} {Ow:World→Nat→Prop} {n0:Nat} {Q:IQ} {s:AS} {J:World→Prop} {al:Bool} {ops:Array Oper} {l:List Oper} {o:Oper}
theorem Yk {M:Nat->Option Obj} {σ:Nat->Loc} {w:World} {a:Act} {o:Oper} {c:Call} {f:Operand} {ly:Nat} {xs:List Av} {T:Nat->Option Tv} (hT:∀ i v,T i=some v->RT M σ v (a.tmps.getD i undef)) (ho:o.op=.call c) (hcf:c.callee=.value f) (hf:evT T f=some (.av (.one (.val (.func (.yield ly) #[] #[]))))) (hxs:EU (evT T) c.args.toList=some xs)
  {R:Ending->World->Prop} (hY:∀ v:Array Value,L2 (RA M σ) xs v.toList->YieldAt (FW none) 0 P ly v w R) {K:Act->World->Prop} {Q:Exit->Act->World->Prop} (hK:∀ e w',R e w'->∃ V,e=.returned V/\K (a.put o.dst V) w'):o.wpIn (FW none) 0 P a w K Q:=by
 have hargs:=I0 (fun x v=>Ge hT) _ _ hxs
 obtain ⟨fn,tmps,assign,body,hy,hR⟩:=hY (c.args.map a.eval) (by simpa using hargs)
 refine ⟨fun _ _=>trivial,?_⟩
 rw [Oper.semAt_eq _ _ _ (fun d h=>by rw [ho] at h;cases h)]
 have hfv:=(Ge hT hf).1
 have hres:(execOp a.eval o).run P w=.ok (.round ly fn tmps assign body) w:=by
  simp only [execOp,ho,Sem.run_bind,resolve,hcf,hfv,Deferred.ofValue]
  simpa [invoke] using hy
 rw [hres,Oper.uponIn_round]
 refine ⟨fun h=>(by cases h),?_⟩
 have h1:RoundIn (FW none) (0-1) P ly fn tmps assign body w R:=hR
 refine h1.mono ?_
 rintro e w' he
 obtain ⟨V,rfl,hk⟩:=hK e w' he
 exact hk
theorem WP (hO:OwS Ow n0) (hgn:o.guard=none) {c:Call} {f:Operand} {ly d:Nat} (xs:List Av) (ho:o.op=.call c) (hcf:c.callee=.value f)
  (hf:evT (get s.t) f=some (.av (.one (.val (.func (.yield ly) #[] #[]))))) (hxs:EU (evT (get s.t)) c.args.toList=some xs) (hv:xs.all Av.dv=true) (hvm:∀ x∈xs,AvM x) (hod:o.dst=some d) (hdN:Nat.blt d N=true) (hT1:∀ i v,get s.t i=some v->v.dv=true/\TvM v)
  (hJg:∀ A B,J A->A.grownBy B none->J B) (Jt:World->Prop)
  (hY:∀ W v,J W->nK (fun _=>none) Ow xs v W->YieldAt (FW none) 0 P ly v W (fun e W'=>e=.returned (.bool true)/\Jt W'/\KpS Ow W W')) (hh:s.h=[])
  (ht:IWL P N Ow n0 ops l Q ⟨(d,tB true)::s.t,[]⟩ Jt true):IWL P N Ow n0 ops (o::l) Q s J true:=by
 intro W0 M σ a w hJ hs
 refine wpListIn_step fun K0 hK' => ?_
 rw [if_pos (by simp [Region.wanted,hgn])]
 have hgrow:W0.grownBy w none:={ os:=hs.os,tape:=hs.tape,output:=hs.output,size:=hs.size,block:=fun b hb _=>hs.old b hb (Ez b) }
 have hiok:=hJ.2.2
 have hdN':d<N:=by have:=Nat.le_of_ble_eq_true hdN;omega
 have hst:∀ b,Ow w b->Ow W0 b:=hO.st W0 w (hiok rfl).1 fun b hb=>hs.old b hb (Ez b)
 have hput:∀ (b:Bool) (T:List (Nat×Tv)) (M':Nat->Option Obj) (σ':Nat->Loc),(∀ i v,get T i=some v->RT M' σ' v (a.tmps.getD i undef))->∀ i v,get ((d,tB b)::T) i=some v->RT M' σ' v ((a.put o.dst (.bool b)).tmps.getD i undef):=fun b T M' σ' hT i v hv=>by
  have hds:d<a.tmps.size:=by rw [hs.room];exact hdN'
  simp only [get,CH] at hv
  rw [hod]
  by_cases hi:d=i
  ·subst hi
   simp at hv;subst hv
   have:(a.put (some d) (.bool b)).tmps.getD d undef=.bool b:=by simp [Act.put,Array.getD_eq_getD_getElem?,hds]
   rw [this]
   exact ⟨rfl,rfl⟩
  simp [hi] at hv
  have:(a.put (some d) (.bool b)).tmps.getD i undef=a.tmps.getD i undef:=by simp [Act.put,Array.getD_eq_getD_getElem?,Array.getElem?_setIfInBounds,hi]
  rw [this];exact hT i v hv
 have hsize:∀ b:Bool,(a.put o.dst (.bool b)).tmps.size=N:=fun b=>by rw [hod];simpa [Act.put] using hs.room
 have hdef:∀ b:Bool,(a.put o.dst (.bool b)).defers=[]:=fun b=>by rw [hod];simpa [Act.put] using hJ.2.1
 refine Yk hs.tmps ho hcf hf hxs (fun v hL=>hY w v (hJg W0 w hJ.1 hgrow) ⟨Hv (Sc M),by have:=hL.length;simpa using this,fun b o' hb=>⟨hs.imm b o' (Ec (Hu hb).1).1,(Ec (Hu hb).1).2,fun h=>(hiok rfl).2.2 b o' (Ec (Hu hb).1).1 (hst b h),(Hu hb).2⟩,fun MM _ hMM => ?_⟩) fun e w2 he => ?_
 ·refine hL.mono fun x hx u hu σ' => ?_
  have h1:RA M σ' x u:=HO (r:=.av x) (List.all_eq_true.1 hv x hx) hu
  exact Mo (fun b c t f hf h=>hMM b c t f hf (Mv hf (LA b c t f hf h))) h1 (hvm x hx)
 obtain ⟨rfl,h5,h6⟩:=he
 refine ⟨_,rfl,hK' _ _ (ht w2 (Sc M) σ _ w2 ⟨h5,hdef true,fun _=>⟨Nat.le_trans (hiok rfl).1 (Nat.le_trans hs.size h6.1),fun b h=>(h6.2.2 b h).elim (fun h7=>Nat.lt_of_lt_of_le ((hiok rfl).2.1 b (hst b h7)) (Nat.le_trans hs.size h6.1)) And.right,fun b o' h hw2 => ?_⟩⟩ ?_)⟩
 ·rcases h6.2.2 b hw2 with h7 | h7
  ·exact (hiok rfl).2.2 b o' (Ec h).1 (hst b h7)
  have:=HG (hs.imm b o' (Ec h).1);omega
 exact ⟨rfl,rfl,rfl,Nat.le_refl _,fun _ _ _=>rfl,fun _ _ h=>h,fun b o h h'=>(by rw [h] at h';cases h'),fun m x hx=>(by cases hx),⟨by rw [hdef true];trivial,fun _=>hdef true⟩,hsize true,hput true s.t (Sc M) σ (fun i v hv=>Sj (Zo LA) (hs.tmps i v hv) (hT1 i v hv).2),fun b o' h=>immT (fun o2 e hc=>h6.2.1 b o2 e hc fun h7=>(hiok rfl).2.2 b o' (Ec h).1 (hst b h7)) (hs.imm b o' (Ec h).1) (Ec h).2,fun n b hb=>(by cases hb),fun n b hb=>(by cases hb),fun n m b c hb=>(by cases hb)⟩
end
def IEndV (n:Nat) (JJ:Nat->World->Prop):IQ:=fun e s' J' al'=>(e=.ret\/e=.normal)/\J'=JJ n
theorem UI {P:Program} {gf:FuncId} {fn:Func} {c:Code} (hf:P.funcs[gf]? = some fn) (hb:fn.body=some c) (hnr:fn.results.toList=[]) {k:Nat} {caps:Nat->Cl} {n:Nat} {E:Fin n->List Av} (hN:Nat.ble (k+1) fn.ntmps=true) (hcd:∀ i,i<k->(caps i).dv=true)
  (h:∀ (Ow:World->Nat->Prop) (n0 ly:Nat) (JJ:Nat->World->Prop),OwS Ow n0->(∀ j A B,JJ j A->A.grownBy B none->JJ j B) ->
   (∀ j (hj:j<n) W v,JJ j W->nK (fun _=>none) Ow (E ⟨j,hj⟩) v W->YieldAt (FW none) 0 P ly v W (fun e W'=>e=.returned (.bool true)/\JJ (j+1) W'/\KpS Ow W W')) ->
   IWp P fn.ntmps Ow n0 c (IEndV n JJ) ⟨EL 0 (.one (.val (.func (.yield ly) #[] #[]))::Cn k caps),[]⟩ (JJ 0) true):JC P gf k caps n E:=by
 intro M w cs Ow himm hOs hOw hcs hcaps l J W hB hJ hY h0
 have hlt:∀ b o,M b=some o->b<w.heap.size:=fun b o hb=>(HG (himm b o hb))
 have himmW:∀ b o,M b=some o->Dy W.heap[b]? o:=fun b o hb=>by rw [hB.block b (hlt b o hb)];exact himm b o hb
 have hst:∀ b,Ow W b->Ow w b:=hOs.st w W (Nat.le_refl _) fun b hb=>hB.block b hb
 have hbody:=h Ow w.heap.size l J hOs hJ (fun j hj W1 v h1 ⟨Mj,e1,e2,e3⟩=>hY j v W1 hj h1 ⟨hj,Mj,e1,e2,fun MM _ h3=>e3 MM (fun _ _ h=>by cases h) h3⟩)
 obtain ⟨a0,ha0⟩:∃ a0:Act,a0={ tmps:=(#[Value.func (.yield l) #[] #[]]++cs)++Array.replicate (fn.ntmps-(#[Value.func (.yield l) #[] #[]]++cs).size) undef,defers:=[] }:=⟨_,rfl⟩
 have hs0:Sim fn.ntmps W noX M M (fun _=>⟨0,0,false⟩) (get (EL 0 (.one (.val (.func (.yield l) #[] #[]))::Cn k caps))) (get []) a0 W := ?hs0
 ·have hbod:=hbody W M (fun _=>⟨0,0,false⟩) a0 W ⟨h0,by rw [ha0],fun _=>⟨hB.size,fun b hb=>Nat.lt_of_lt_of_le (hOw b (hst b hb)).1 hB.size,fun b o hb ho=>by rw [(hOw b (hst b ho)).2] at hb;cases hb⟩⟩ hs0
  rw [ha0] at hbod
  refine callsIn_wide.2 (callsIn_wide.1 (callsIn_of_wp_marks (F:=FW none) (n:=0) hf hb trivial (wpIn_mono hbod ?_)))
  clear hbod hs0
  rintro e a' w' ⟨s',J',al',W0',M',σ',⟨he,rfl⟩,⟨hJ',hd,_⟩,hs'⟩
  have hgrow:W0'.grownBy w' none:={ os:=hs'.os,tape:=hs'.tape,output:=hs'.output,size:=hs'.size,block:=fun b hb _=>hs'.old b hb (Ez b) }
  obtain ⟨U,hU,_⟩:=XQ (P:=P) (fn:=fn) (r:=.tup []) hs' (by rw [hnr];rfl)
  have key:LeavesInM (FW none) 0 P fn a'.tmps (fun e W'=>(∃ v,e=.returned v)/\J n W') a'.defers .returning w':=by
   rw [hd]
   exact ⟨U,hU,⟨U,rfl⟩,hJ n W0' w' hJ' hgrow⟩
  rcases he with rfl | rfl
  ·exact key
  exact key
 case hs0 =>
  subst ha0
  have hsz:(#[Value.func (.yield l) #[] #[]]++cs).size=k+1:=by simp [hcs];omega
  have hNk:=Nat.le_of_ble_eq_true hN
  refine ⟨rfl,rfl,rfl,Nat.le_refl _,fun _ _ _=>rfl,fun _ _ h=>h,fun b o h h'=>(by rw [h] at h';cases h'),fun m x hx=>(by cases hx),Jw.nil,?_,fun i v hv => ?_,himmW,fun m b hb=>(by cases hb),fun m b hb=>(by cases hb),fun m m' b c hb=>(by cases hb)⟩
  ·simp only [Array.size_append,Array.size_replicate] at hsz ⊢
   omega
  obtain ⟨_,x,hx,rfl⟩:=Kx _ _ _ _ hv
  rw [Nat.sub_zero] at hx
  have hargs:L2 (RA M fun _=>⟨0,0,false⟩) (.one (.val (.func (.yield l) #[] #[]))::Cn k caps) (.func (.yield l) #[] #[]::cs.toList):=by
   refine .cons ⟨rfl,rfl⟩ (L2.of (by simp [Cn,hcs]) fun i x y hx hy => ?_)
   have hi:i<k:=by have:=(List.getElem?_eq_some_iff.1 hx).1;simpa [Cn] using this
   have:=(KM (σ:=fun _=>⟨0,0,false⟩) (hcd i hi)).2 (hcaps i hi)
   simp only [Cn,List.getElem?_map,List.getElem?_range hi,Option.map_some,Option.some.injEq] at hx
   subst hx
   have hy':cs.getD i undef=y:=by
    simp only [Array.getD_eq_getD_getElem?]
    rw [<- Array.getElem?_toList,hy];rfl
   rw [hy'] at this
   exact this
  obtain ⟨u,hu,hRu⟩:=hargs.get i x hx
  have:((#[Value.func (.yield l) #[] #[]]++cs)++Array.replicate (fn.ntmps-(#[Value.func (.yield l) #[] #[]]++cs).size) undef).getD i undef=u:=by
   have hu2:(#[Value.func (.yield l) #[] #[]]++cs)[i]? = some u:=by
    rw [<- Array.getElem?_toList]
    simpa using hu
   have hi:i<(#[Value.func (.yield l) #[] #[]]++cs).size:=(Array.getElem?_eq_some_iff.1 hu2).1
   rw [Array.getD_eq_getD_getElem?,Array.getElem?_append_left hi,hu2];rfl
  show RA M _ x _
  rw [this]
  exact hRu
theorem O5 {P:Program} {N:Nat} {Ow:World->Nat->Prop} {n0:Nat} {Q:IQ} {s:AS} {J:World->Prop} {al:Bool} {c:Code} (ts:List Nat) (S:AS) (hS:Jc ts [] s=S) (h:IWp P N Ow n0 c Q S J al):IWp P N Ow n0 c Q s J al:=by
 subst hS
 exact fun W0 M σ a w hJ hs=>h W0 M σ a w hJ (FO hs ts [])
theorem Kt {P:Program} {f:FuncId} {xs:List Av} {sz len:Nat} {F:Nat->Nat->Cl} {ty:TypeId} (h:Fr P f xs (.row sz len F ty) (fun d=>.av (.one (.own d sz len)))):FV P f xs (.av (.one (.list false sz len F))):=by
 intro M σ w args himm hargs
 refine (h M σ w args himm hargs).mono ?_
 rintro en w' ⟨U,hU,M',x,hk,hx,hb,hR⟩
 refine ⟨U,hU,?_⟩
 have hV:R M' (fun _=>x) (.own 0 sz len) U:=hR (fun _=>x) 0 rfl
 unfold R at hV
 cases hn:x.nil with
 | true =>
  rw [hn] at hV
  obtain ⟨rfl,rfl⟩:len=0/\U=.slice none 0 0:=hV
  exact ⟨M',hk,fun σ'=>RC.nil _ _ _ rfl⟩
 | false =>
  rw [hn] at hV
  have hV:U=.slice (some ⟨x.b,0,none⟩) len x.cap:=hV
  subst hV
  obtain ⟨hx1,hx2⟩:w.heap.size<=x.b/\M' x.b=none:=by
   rcases hx with h0 | h0
   ·rw [hn] at h0;cases h0
   exact h0
  rcases hb (fun _=>x) with ⟨h0,_⟩ | ⟨_,c,hc,h1,h2,h3,g,hg⟩
  ·rw [hn] at h0;cases h0
  have key:∀ b o,M' b=some o->b≠x.b:=fun b o ho e=>by rw [e,hx2] at ho;cases ho
  refine ⟨fun b=>if b=x.b then some (.cells c 1) else M' b,⟨hk.os,hk.tape,hk.output,hk.size,hk.old,fun b o ho => ?_,fun b o ho h0 => ?_,fun b o ho => ?_⟩,fun σ' => ?_⟩
  ·have:=hk.sub b o ho
   simp only [if_neg (key b o this)];exact this
  ·by_cases e:b=x.b
   ·rw [e];exact hx1
   simp only [if_neg e] at ho;exact hk.new b o ho h0
  ·by_cases e:b=x.b
   ·simp only [if_pos e,Option.some.injEq] at ho;rw [e,<- ho,hc];exact UM (.cells c ty)
   simp only [if_neg e] at ho;exact hk.imm b o ho
  show RC _ (.list false sz len F) _
  refine .list false sz len F x.b 0 x.cap g (fun i j hi hj => ?_) (fun i j hi hj=>Dl (fun b o ho => ?_) (hg i j hi hj).2) h2 (fun h=>by cases h)
  ·simp only [ET,if_pos]
   rw [Nat.zero_add]
   exact (hg i j hi hj).1
  simp only [if_neg (key b o ho)];exact ho
theorem Qb {P:Program} {gf:FuncId} {fn:Func} {c:Code} (hf:P.funcs[gf]? = some fn) (hb:fn.body=some c) (hnr:fn.results.toList=[]) {k:Nat} {caps:Nat->Cl} {n:Nat} {E:Fin n->List Av} (hE:∀ x,(E x).all Av.isV=true) (hE1:∀ x,∀ e∈E x,∀ c∈e.cells,c.toV.oneCell'=true) (hN:Nat.ble (k+1) fn.ntmps=true) (hcd:∀ i,i<k->(caps i).dv=true)
  (h:∀ (Ow:World->Nat->Prop) (n0 ly:Nat) (JJ Jx:Nat->World->Prop),OwS Ow n0->(∀ j A B,JJ j A->A.grownBy B none->JJ j B) ->
   (∀ j (hj:j<n) W,JJ j W->YieldAt (FW none) 0 P ly ((E ⟨j,hj⟩).map Av.toV).toArray W (fun e W'=>(e=.returned (.bool true)/\JJ (j+1) W'/\KpS Ow W W')\/(e=.returned (.bool false)/\Jx (j+1) W'))) ->
   IWp P fn.ntmps Ow n0 c (IEnd n JJ Jx) ⟨EL 0 (.one (.val (.func (.yield ly) #[] #[]))::Cn k caps),[]⟩ (JJ 0) true):JC P gf k caps n E :=
 UI hf hb hnr hN hcd fun Ow n0 ly JJ hO hJ hY=>by
  have h1:=h Ow n0 ly JJ (fun _ _=>False) hO hJ (fun j hj W hW=>by
   obtain ⟨fn',tm,as',bd,hy,hR⟩:=hY j hj W ((E ⟨j,hj⟩).map Av.toV).toArray hW ⟨fun _=>none,by simp,(fun b o hb=>by cases hb),fun MM _ _=>by
    have e1:=hE ⟨j,hj⟩
    have e2:=hE1 ⟨j,hj⟩
    show L2 _ (E ⟨j,hj⟩) ((E ⟨j,hj⟩).map Av.toV)
    generalize E ⟨j,hj⟩=l at e1 e2 ⊢
    induction l with
    | nil=>exact .nil
    | cons e l ih =>
     simp only [List.all_cons,Bool.and_eq_true] at e1
     exact .cons (fun σ=>pJ e1.1 (e2 e (List.mem_cons_self ..))) (ih e1.2 fun e he=>e2 e (List.mem_cons_of_mem _ he))⟩
   exact ⟨fn',tm,as',bd,hy,hR.mono fun e W' he=>.inl he⟩)
  intro W0 M σ a w hJ0 hs
  refine wpIn_mono (h1 W0 M σ a w hJ0 hs) ?_
  rintro e a' w' ⟨s',J',al',W0',M',σ',⟨he,hend⟩,hJ',hs'⟩
  rcases hend with rfl | ⟨j,hj,rfl⟩
  ·exact ⟨s',_,al',W0',M',σ',⟨he,rfl⟩,hJ',hs'⟩
  exact hJ'.1.elim
theorem WR {P:Program} {gf:FuncId} {t:Bool} {sz len:Nat} {f:Nat->Nat->Cl} {k:Nat} {caps:Nat->Cl} {n:Nat} {E:Fin n->List Av} (E':(Nat->Nat->Value)->Fin n->List Av) (h0:caps 0=iM t sz len f) (hk:0<k)
  (hI:∀ g:Nat->Nat->Value,(∀ i j,i<len->j<sz->(g i j).oneCell'=true)->JC P gf k (fun i=>match i with | 0=>iM t sz len (fun i j=>.val (g i j)) | i+1=>caps (i+1)) n (E' g)) (hlen:∀ g x,(E' g x).length=(E x).length)
  (hE:∀ M g x (vs:List Value),(∀ i j,i<len->j<sz->RC M (f i j) (g i j))->L2 (fun e v=>∀ σ,RA M σ e v) (E' g x) vs->L2 (fun e v=>∀ σ,RA M σ e v) (E x) vs):JC P gf k caps n E:=by
 intro M w cs Ow himm hOs hOw hcs hcaps
 have h:=hcaps 0 hk
 rw [h0] at h
 obtain ⟨g,h1,h2⟩:=Vm h
 have h3:=hI g (fun i j hi hj=>Jr (h2 i j hi hj)) M w cs Ow himm hOs hOw hcs (fun i hi=>by
  cases i with
  | zero=>exact h1
  | succ i=>exact hcaps _ hi)
 intro l J W hB hJ hY hJ0
 exact h3 l J W hB hJ (fun j v A hj hJA ⟨hj',Mj,e1,e2,e3⟩=>hY j v A hj hJA ⟨hj',Mj,(hlen g _).symm.trans e1,e2,fun MM m1 m2=>hE MM g _ _ (fun i j hi hj=>Dl m1 (h2 i j hi hj)) (e3 MM m1 m2)⟩) hJ0
theorem WS {P:Program} {gf:FuncId} {k:Nat} {caps caps':Nat->Cl} {n:Nat} {E:Fin n->List Av} (h:∀ i,i<k->caps' i=caps i) (H:JC P gf k caps n E):JC P gf k caps' n E :=
 fun M w cs Ow a b c d e=>H M w cs Ow a b c d fun i hi=>by rw [<- h i hi];exact e i hi
theorem fL {P:Program} {N:Nat} {Ow:World->Nat->Prop} {n0:Nat} {Q:IQ} {s:AS} {J:World->Prop} {al:Bool} (hO:OwS Ow n0) {x y z:Code} (hdv:∀ i v,get s.t i=some v->v.dv=true) (hh:s.h=[])
  (h:∀ W0 X1 M1,(∀ k u,X1 k=some u->A8 [N] k=true)->AWp P none N W0 X1 M1 x (ATh (AWp P none N W0 X1 M1 y (fun e s'=>e=.normal/\∃ S,(∀ W2 M2,Cv N W2 noX M2 s' S)/\IWp P N Ow n0 z Q S J al)) (fun _ _=>False)) s):IWp P N Ow n0 (.seq x (.seq y z)) Q s J al:=by
 intro W0 M σ a w hJ hs
 have hX:∀ k u,NF N W0.heap.size k=some u->A8 [N] k=true:=fun k u hk=>by rw [(PF hk).1];exact LV _
 refine wpIn_seq (wpIn_mono (h W0 _ M hX M _ a w (LN hdv hh hJ.2.1 hs)) ?_)
 rintro e a' w' ⟨s',M',σ',h1,h2⟩
 cases e with
 | normal =>
  refine wpIn_seq (wpIn_mono (h1 M' σ' a' w' h2) ?_)
  rintro e a2 w2 ⟨s2,M2,σ2,⟨rfl,S,h3,h4⟩,h5⟩
  have h6:=J6 hJ.2.2 hO h5
  obtain ⟨hd,h7⟩:=IZ h5
  obtain ⟨M3,σ3,h8⟩:=h3 W0 M2 M2 σ2 a2 w2 h7
  exact h4 W0 M3 σ3 a2 w2 ⟨hJ.1,hd,J6 h6 hO h8⟩ (TH h8 hd)
 | _=>exact h1.elim
end
section
open Go.RowKit
def I4 (x:Int):Bool := !decide ((x:Int)=x)
variable (data' l:List AF) (x j n y:Int)
def iC:CT:=(167,[.one (.i x)],.val [] (.av (.one (.b (I4 x)))))
theorem pU (x:Int):PuP 167 (iC x).2.1 (tO (.b (I4 x))):=by
 refine pwf Tryz.func167 fun W0 M0 => ?_
 exact AB<|on<|AB<|on<|AW<|zl
theorem Xf (x:Int):OKc (iC x):=cPu<|pU x
def Cd (x:Int) (y:Int):Int:=bif I4 x then (bif I4 y then 0 else (-1)) else (bif I4 y then 1 else (bif decide ((x:Int)<y) then (-1) else (bif decide ((y:Int)<x) then 1 else 0)))
def Uk:CT:=(151,[.one (.i x),.one (.i y)],.val [] (.av (.one (.i (Cd x y)))))
theorem dP (x:Int) (y:Int):PuP 151 (Uk x y).2.1 (tO (.i (Cd x y))):=by
 refine pwf Tryz.func151 fun W0 M0 => ?_
 refine AB<|on<|AB<|oq 8 _ (Xf x)<|AE<|AB<|oq 10 _ (Xf y)<|AE<|AB<|AB<|on<|kb (I4 x) (fun h1 => ?_) (fun h1 => ?_)
 ·refine AB<|AB<|rn ⟨[(12,tB (I4 y))],[]⟩<|Ap _ rfl (fun h2 => ?_) (fun h2 => ?_)
  ·exact AB<|on<|AW<|Be<|Be<|zl (by simp only [Cd,h1,h2,cond_true,cond_false] <;> kernel_rfl)
  exact AQ<|AE<|AB<|on<|AW<|Be<|zl (by simp only [Cd,h1,h2,cond_true,cond_false] <;> kernel_rfl)
 refine AQ<|AE<|AB<|AB<|on<|kb (I4 y) (fun h2 => ?_) (fun h2 => ?_)
 ·exact AB<|on<|AW<|Be<|zl (by simp only [Cd,h1,h2,cond_true,cond_false] <;> kernel_rfl)
 refine AQ<|AE<|AB<|AB<|on<|kb (decide ((x:Int)<y)) (fun h3 => ?_) (fun h3 => ?_)
 ·exact AB<|on<|AW<|Be<|zl (by simp only [Cd,h1,h2,h3,cond_true,cond_false] <;> kernel_rfl)
 refine AQ<|AE<|AB<|AB<|rn ⟨[(19,tB (decide ((y:Int)<x)))],[]⟩<|Ap _ rfl (fun h4 => ?_) (fun h4 => ?_)
 ·exact AB<|on<|AW<|Be<|zl (by simp only [Cd,h1,h2,h3,h4,cond_true,cond_false] <;> kernel_rfl)
 exact AQ<|AE<|AB<|on<|AW<|zl (by simp only [Cd,h1,h2,h3,h4,cond_true,cond_false] <;> kernel_rfl)
theorem H9 (x:Int) (y:Int):OKc (Uk x y):=cPu<|dP x y
def Pk (x:AF) (y:AF):Int:=Cd x.Id y.Id
def YH (x:AF) (y:AF):CT:=(150,[.agg (AF.c x),.agg (AF.c y)],.val [] (.av (.one (.i (Pk x y)))))
theorem pcmpP (x:AF) (y:AF):PuP 150 (YH x y).2.1 (tO (.i (Pk x y))):=by
 refine pwf Tryz.func150 fun W0 M0 => ?_
 exact AB<|on<|AB<|oq 9 _ (H9 x.Id y.Id)<|AE<|AW<|zl
theorem qX (x:AF) (y:AF):OKc (YH x y):=cPu<|pcmpP x y
def IR (l:(List AF)) (n:Int) (data:List AF) (i:Int) (K0:List AF->Int->(List AF)):Nat->List AF->Int->(List AF)
 | 0,_,_=>default
 | n1+1,data',j=>bif bif decide ((0:Int)<j) then decide (((Pk (data'.getD j.toNat default) (data'.getD (j-1).toNat default)):Int)<0) else false then ((IR l n data i K0 n1) ((data'.set j.toNat (data'.getD (j-1).toNat default)).set (j-1).toNat (data'.getD j.toNat default)) (j-1)) else (K0 data' (i+1))
def HQ (l:(List AF)) (n:Int):Nat->List AF->Int->(List AF)
 | 0,_,_=>default
 | n0+1,data,i=>bif decide ((i:Int)<n) then (IR l n data i (HQ l n n0) (i.toNat+1) data i) else data
def FG (l:(List AF)) (n:Int):(List AF):=HQ l n ((n-1).toNat+1) l 1
abbrev G6:Bool:=(decide ((0:Int)<j))
abbrev JN:Cl:=.own 1000 7 l.length
abbrev JK:=data'.getD j.toNat default
abbrev U9:=data'.set j.toNat (data'.getD (j-1).toNat default)
theorem au19 {p:Prop} (h:p:=by first | omega | (simp only [List.length_set];omega) | simp):p:=h
theorem pInsP (l:(List AF)) (n:Int) (hn:n=(l.length:Int)) (hl:l.length<20):WrR Tryz.prog 179 1000 [.one (.own 1000 7 l.length),.one (.i 0),.one (.i n),.one (.clo 150 0 dfc)] 7 l.length (AP AF.c l) 78 (.tup []) (AP AF.c (FG l n)):=by
 refine Ft Tryz.func179 rfl kr kr kr fun W0 M0 X hX => ?_
 refine AB<|rn ⟨[(0,tO (JN l)),(1,tI 0),(2,tI n),(3,.av (.one (.clo 150 0 dfc))),(8,tI 1)],[(1000,.row 7 l.length (AP AF.c l) 78)]⟩<|AM<|lpC (κ:=List AF×Int) (fun x=>⟨[(0,tO (.own 1000 7 x.2.1.length)),(1,tI 0),(2,tI n),(3,.av (.one (.clo 150 0 dfc))),(8,tI x.2.2)],[(1000,.row 7 x.2.1.length (AP AF.c x.2.1) 78)]⟩) (fun x=>(n-x.2.2).toNat) (fun x=>(1<=x.2.2/\x.2.1.length=l.length/\1<=x.2.2/\(x.2.2<=n\/x.2.2=1))/\HQ l n x.1 x.2.1 x.2.2=FG l n) ?_ ((n-1).toNat+1,l,1) ⟨Nat.lt_succ_self _,⟨ax0,ax0,ax0,ax0⟩,(by simp only [FG,cond_true,cond_false])⟩
 rintro n0 ⟨data,i⟩ hm0 ⟨hinv0,hF0⟩
 try dsimp only at hm0 hinv0 hF0
 refine AB<|AB<|on<|kb (decide ((i:Int)<n)) (fun h1 => ?_) (fun h1 => ?_)
 ·have g1:=oT h1
  refine AQ<|AE<|AB<|AM<|AB<|rn ⟨[(0,tO (.own 1000 7 data.length)),(1,tI 0),(2,tI n),(3,.av (.one (.clo 150 0 dfc))),(8,tI i),(9,tI i)],[(1000,.row 7 data.length (AP AF.c data) 78)]⟩<|AM<|lpC (κ:=List AF×Int) (fun x=>⟨[(0,tO (.own 1000 7 x.2.1.length)),(1,tI 0),(2,tI n),(3,.av (.one (.clo 150 0 dfc))),(8,tI i),(9,tI x.2.2)],[(1000,.row 7 x.2.1.length (AP AF.c x.2.1) 78)]⟩) (fun x=>x.2.2.toNat) (fun x=>(0<=x.2.2/\x.2.1.length=l.length/\x.2.2<n)/\IR l n data i (HQ l n n0) x.1 x.2.1 x.2.2=FG l n) ?_ (i.toNat+1,data,i) ⟨Nat.lt_succ_self _,⟨ax0,ax0,ax0⟩,(by rw [<- hF0];simp only [HQ,h1,cond_true,cond_false])⟩
  rintro n1 ⟨data',j⟩ hm1 ⟨hinv1,hF1⟩
  try dsimp only at hm1 hinv1 hF1
  refine AB<|AB ?_
  refine dw [] [(32,YH (JK data' j) (data'.getD (W64 (j-1)).toNat default))] (t2 (G6 j) ((gk (G6 j) (0<=(j:Int)/\(j:Int)<((data'.length:Nat):Int)))::(gt (G6 j))::(gk (G6 j) (j.toNat<data'.length))::(t3 (G6 j) ((gk (G6 j) (0<=(W64 (j-1):Int)/\(W64 (j-1):Int)<((data'.length:Nat):Int)))::(gt (G6 j))::(gk (G6 j) ((W64 (j-1)).toNat<data'.length))::(t3 (G6 j) ((gk (G6 j) (CD (YH (data'.getD j.toNat default) (data'.getD (W64 (j-1)).toNat default)).2.1))::(t2 (G6 j) []))))))) ⟨[(0,tO (.own 1000 7 data'.length)),(1,tI 0),(2,tI n),(3,.av (.one (.clo 150 0 dfc))),(8,tI i),(9,tI j),(34,tB (bif decide ((0:Int)<j) then decide (((Pk (JK data' j) (data'.getD (W64 (j-1)).toNat default)):Int)<0) else false))],[(1000,.row 7 data'.length (AP AF.c data') 78)]⟩ (.cons (qX (data'.getD j.toNat default) (data'.getD (W64 (j-1)).toNat default)) .nil) (c2 (.cons (fun hG=>by first | exact au0 | (simp only [decide_eq_true_eq,decide_eq_false_iff_not,Bool.not_eq_true,Bool.and_eq_true] at hG <;> omega) | (simp at hG <;> omega) | (simp only [decide_eq_true_eq,decide_eq_false_iff_not] at hG;simp only [Bf];omega)) (ci (.cons (fun hG=>by first | exact au0 | (simp only [decide_eq_true_eq,decide_eq_false_iff_not,Bool.not_eq_true,Bool.and_eq_true] at hG <;> omega) | (simp at hG <;> omega) | (simp only [decide_eq_true_eq,decide_eq_false_iff_not] at hG;simp only [Bf];omega)) (c3 (.cons (fun hG=>by first | exact au0 | (simp only [decide_eq_true_eq,decide_eq_false_iff_not,Bool.not_eq_true,Bool.and_eq_true] at hG <;> omega) | (simp at hG <;> omega) | (simp only [decide_eq_true_eq,decide_eq_false_iff_not] at hG;simp only [Bf];omega)) (ci (.cons (fun hG=>by first | exact au0 | (simp only [decide_eq_true_eq,decide_eq_false_iff_not,Bool.not_eq_true,Bool.and_eq_true] at hG <;> omega) | (simp at hG <;> omega) | (simp only [decide_eq_true_eq,decide_eq_false_iff_not] at hG;simp only [Bf];omega)) (c3 (.cons (fun _=>rfl) (c2 .nil))))))))))) ?_
  (try rw [(show W64 (j-1)=j-1 from Ae oM oM)])
  refine AE<|Ap _ rfl (fun h2 => ?_) (fun h2 => ?_)
  ·have g2:=Nw h2
   refine AQ<|AE<|AB<|AM<|dw [] [] [0<=(W64 (j-1):Int)/\(W64 (j-1):Int)<((data'.length:Nat):Int),(W64 (j-1)).toNat<data'.length,0<=(j:Int)/\(j:Int)<((data'.length:Nat):Int),j.toNat<data'.length,0<=(j:Int)/\(j:Int)<((data'.length:Nat):Int),j.toNat<data'.length,0<=(W64 (j-1):Int)/\(W64 (j-1):Int)<((data'.length:Nat):Int),(W64 (j-1)).toNat<data'.length] ⟨[(0,tO (.own 1000 7 data'.length)),(1,tI 0),(2,tI n),(3,.av (.one (.clo 150 0 dfc))),(8,tI i),(9,tI j)],[(1000,.row 7 data'.length (fun i_ j_=>if i_=(W64 (j-1)).toNat/\0<=j_/\j_<0+7 then ((AF.c (JK data' j)):List Cl).getD (j_-0) default else (fun i_ j_=>if i_=j.toNat/\0<=j_/\j_<0+7 then ((AF.c (data'.getD (W64 (j-1)).toNat default)):List Cl).getD (j_-0) default else (AP AF.c data') i_ j_) i_ j_) 78)]⟩ .nil (H8 au0 au0 au0 au0 au0 au0 au0 au0) ?_
   (try rw [(show W64 (j-1)=j-1 from Ae oM oM)])
   refine A3<|AE<|BE (A5 1000 (Hw (l:=(AF.c (data'.getD j.toNat default))) (off:=0) (q:=7) (k:=(j-1).toNat) (Hw (l:=(AF.c (data'.getD (j-1).toNat default))) (off:=0) (q:=7) (k:=j.toNat) (A1 7 AF.c data') au0 (data'.getD (j-1).toNat default) (HY kr)) au0 (data'.getD j.toNat default) (HY kr)))<|rg ⟨[(0,tO (.own 1000 7 ((U9 data' j).set (j-1).toNat (JK data' j)).length)),(1,tI 0),(2,tI n),(3,.av (.one (.clo 150 0 dfc))),(8,tI i),(9,tI (W64 (j-1)))],[(1000,.row 7 ((U9 data' j).set (j-1).toNat (JK data' j)).length (AP AF.c ((U9 data' j).set (j-1).toNat (JK data' j))) 78)]⟩ ?_
   (try rw [(show W64 (j-1)=j-1 from Ae oM oM)])
   refine AE ?_
   refine ⟨(n1,(data'.set j.toNat (data'.getD (j-1).toNat default)).set (j-1).toNat (data'.getD j.toNat default),j-1),⟨?_,?_,(by rw [<- hF1];simp only [IR,h2,cond_true,cond_false])⟩,Nat.lt_succ_self _,Al kr⟩
   ·dsimp only;omega
   exact ⟨ax0,ax0,ax0⟩
  refine An<|Ai<|Ai<|Ao<|A3<|AE<|rg ⟨[(0,tO (.own 1000 7 data'.length)),(1,tI 0),(2,tI n),(3,.av (.one (.clo 150 0 dfc))),(8,tI (W64 (i+1)))],[(1000,.row 7 data'.length (AP AF.c data') 78)]⟩ ?_
  (try rw [(show W64 (i+1)=i+1 from Ae oM oM)])
  refine AE ?_
  refine ⟨(n0,data',i+1),⟨?_,?_,(by rw [<- hF1];simp only [IR,h2,cond_true,cond_false])⟩,Nat.lt_succ_self _,Al kr⟩
  ·dsimp only;omega
  exact ⟨ax0,ax0,ax0,ax0⟩
 have g1:=oF h1
 exact An<|Ai<|Ai<|Ao<|xn (.tup []) ⟨Ej rfl,.row 7 data.length (AP AF.c data) 78,by kernel_rfl,F2 (c:=AF.c) (xs:=data) (by rw [<- hF0];first | (simp only [HQ,h1,cond_true,cond_false] <;> rfl)) au19⟩
theorem fC {p:Prop} (h:p:=by
 unfold mp0
 cases l with
 | nil=>subst hn;rfl
 | cons a l =>
  have h:=rP (fun x y=>decide (mp1 x y<0)) (a::l) (mp2 (a::l) n) id (fun m d i hi=>by
   rw [mp2,decide_eq_false oM,cond_false];rfl) (fun m i out rest x hi ho=>by
   rw [mp2,decide_eq_true oM,cond_true]
   have h1:=rO (fun x y=>decide (mp1 x y<0)) (mp3 (a::l) n (out++x::rest) i (mp2 (a::l) n m)) (fun d=>mp2 (a::l) n m d ((i:Int)+1)) (fun m d j=>by
    rw [mp3,Int.toNat_natCast,show ((j:Int)-1).toNat=j-1 by omega]) out rest x i ((i:Int).toNat+1) oM oM
   subst ho
   rw [List.take_length,List.drop_length,List.nil_append] at h1
   rw [h1]
   unfold UL
   rw [List.append_assoc];rfl) ((a::l).length-1) ((n-1).toNat+1) 1 rfl (by simp) oM
  exact h):p:=h
section
 open Go.Proofs.YtheobjkgllmnmaaGreat renaming FG→mp0,Pk→mp1,HQ→mp2,IR→mp3
theorem U7 (l:List AF) (n:Int) (hn:n=(l.length:Int)):FG l n=CS (fun x y=>decide (Pk x y<0)) l:=fC
end
theorem Mt (l:List AF) (n:Int) (hn:n=(l.length:Int)) (hl:l.length<20):(FG l n).length=l.length:=by rw [U7 l n hn,Dd]
abbrev OD:Blk:=.row 7 l.length (AP AF.c l) 78
def Z0c:CT:=(179,([.one (JN l),.one (.i 0),.one (.i n),.one (.clo 150 0 dfc)]:List Av).map (Hx 1000 1000),wrI 1000 (OD l) (.tup []) (.row 7 l.length (AP AF.c (FG l n)) 78))
def Ka (l:(List AF)) (n:Int):(List AF):=FG l n
theorem pStaP (l:(List AF)) (n:Int) (hn:n=(l.length:Int)) (hl:l.length<20):WrR Tryz.prog 166 1000 [.one (.own 1000 7 l.length),.one (.i n),.one (.clo 150 0 dfc)] 7 l.length (AP AF.c l) 78 (.tup []) (AP AF.c (Ka l n)):=by
 refine Ft Tryz.func166 rfl kr kr kr fun W0 M0 X hX => ?_
 refine AB<|on<|AB<|rn ⟨[(0,tO (JN l)),(1,tI n),(2,.av (.one (.clo 150 0 dfc))),(6,tI 20),(7,tI 0),(8,tI 20)],[(1000,.row 7 l.length (AP AF.c l) 78)]⟩<|AB<|AM<|EF 1<|CA<|AB<|AB<|rn ⟨[(0,tO (JN l)),(1,tI n),(2,.av (.one (.clo 150 0 dfc))),(6,tI 20),(7,tI 0),(8,tI 20),(13,tB (decide ((20:Int)<=n)))],[(1000,.row 7 l.length (AP AF.c l) 78)]⟩ ?_
 have h1:(decide ((20:Int)<=n))=false:=decide_eq_false oM
 have g1:=oF h1
 refine Ap _ rfl (fun h=>absurd (h1.symm.trans h) (by decide)) (fun _ => ?_)
 refine An<|Ai<|Ai<|Ao<|AE<|AB<|rb 27 (Z0c l n) (OD l) ⟨[(0,tO (JN l)),(1,tI n),(2,.av (.one (.clo 150 0 dfc))),(6,tI 20)],[(1000,.row 7 l.length (AP AF.c (FG l n)) 78)]⟩ (Fz (fun _ _=>kr) kr (pInsP l n au10 au10))<|AE<|BE (KD (⟨[(0,tO (.own 1000 7 (FG l n).length)),(1,tI n),(2,.av (.one (.clo 150 0 dfc))),(6,tI 20)],[(1000,.row 7 (FG l n).length (AP AF.c (FG l n)) 78)]⟩) 1000 (Jy 7 AF.c (FG l n) (Mt l n au10 au10)))<|AM<|EF 1<|CA<|AB<|AB<|rn ⟨[(0,tO (.own 1000 7 (FG l n).length)),(1,tI n),(2,.av (.one (.clo 150 0 dfc))),(6,tI 20),(30,tB (decide ((20:Int)<n)))],[(1000,.row 7 (FG l n).length (AP AF.c (FG l n)) 78)]⟩ ?_
 have h2:(decide ((20:Int)<n))=false:=decide_eq_false oM
 have g2:=oF h2
 refine Ap _ rfl (fun h=>absurd (h2.symm.trans h) (by decide)) (fun _ => ?_)
 exact An<|Ai<|Ai<|Ao<|xn (.tup []) ⟨Ej rfl,.row 7 (FG l n).length (AP AF.c (FG l n)) 78,by kernel_rfl,F2 (c:=AF.c) (xs:=FG l n) (by simp only [Ka,h1,h2,cond_true,cond_false] <;> rfl) (Mt l n hn hl)⟩
theorem Mq (l:List AF) (n:Int) (hn:n=(l.length:Int)) (hl:l.length<20):(Ka l n).length=l.length:=Mt l n hn hl
def Z0d:CT:=(166,([.one (JN l),.one (.i ((l.length:Nat):Int)),.one (.clo 150 0 dfc)]:List Av).map (Hx 1000 1000),wrI 1000 (OD l) (.tup []) (.row 7 l.length (AP AF.c (Ka l ((l.length:Nat):Int))) 78))
def CK (l:(List AF)):(List AF):=Ka l ((l.length:Nat):Int)
theorem pSrtP (l:(List AF)) (hl:l.length<20):WrR Tryz.prog 149 1000 [.one (.own 1000 7 l.length),.one (.clo 150 0 dfc)] 7 l.length (AP AF.c l) 78 (.tup []) (AP AF.c (CK l)):=by
 refine Ft Tryz.func149 rfl kr kr kr fun W0 M0 X hX => ?_
 exact rb 8 (Z0d l) (OD l) ⟨[],[(1000,.row 7 l.length (AP AF.c (Ka l ((l.length:Nat):Int))) 78)]⟩ (Fz (fun _ _=>kr) kr (pStaP l ((l.length:Nat):Int) au10 au10))<|yn (A5 1000 (Jy 7 AF.c (Ka l ((l.length:Nat):Int)) (Mq l ((l.length:Nat):Int) au10 au10))) (.tup []) ⟨Ej rfl,.row 7 (Ka l ((l.length:Nat):Int)).length (AP AF.c (Ka l ((l.length:Nat):Int))) 78,by kernel_rfl,F2 (c:=AF.c) (xs:=Ka l ((l.length:Nat):Int)) (by rfl) (Mq l _ rfl hl)⟩
theorem Mr (l:List AF) (hl:l.length<20):(CK l).length=l.length:=Mq l _ rfl hl
theorem jJ (l:List AF):CK l=CS (fun x y=>decide (Pk x y<0)) l:=U7 l _ rfl
end
end Go.Proofs.YtheobjkgllmnmaaGreat
