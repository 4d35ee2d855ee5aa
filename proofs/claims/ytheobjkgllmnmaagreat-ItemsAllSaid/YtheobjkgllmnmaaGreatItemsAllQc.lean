/-
  No statement is proved in this text. It holds a part of what the proof of ItemsAll needs.
-/
import Derived.Test.YtheobjkgllmnmaaGreatItemsAllQb
namespace Go.Proofs.YtheobjkgllmnmaaGreat
set_option maxRecDepth 100000
set_option linter.unusedVariables false
set_option linter.unusedSimpArgs false
open Go.RowKit
section
open Go.RowKit
abbrev IQ:=Exit->AS->(World->Prop)->Bool->Prop
def IOk(Ow:World->Nat->Prop)(n0:Nat)(al:Bool)(M:m5)(W0:World):Prop:=al=true->n0<=W0.heap.size/\(∀b,Ow W0 b->b<W0.heap.size)/\∀b o,M b=some o->¬ Ow W0 b
def IWp(P:Program)(N:Nat)(Ow:World->Nat->Prop)(n0:Nat)(c:Code)(Q:IQ)(s:AS)(J:World->Prop)(al:Bool):Prop :=
 ∀W0 M σ a w,(J W0/\a.defers=[]/\IOk Ow n0 al M W0)->Sim N W0 noX M M σ (get s.t) (get s.h) a w->c.wpIn (FW none) 0 P (fun e a' w'=>∃s' J' al' W0' M' σ',Q e s' J' al'/\(J' W0'/\a'.defers=[]/\IOk Ow n0 al' M' W0')/\Sim N W0' noX M' M' σ' (get s'.t) (get s'.h) a' w') a w
def ITh(K:AS->(World->Prop)->Bool->Prop)(Q:IQ):IQ
 |.normal,s,J,M=>K s J M
 |e,s,J,M=>Q e s J M
def IBl(id:Nat)(Q:IQ):IQ
 |.exit id',s,J,M=>if id'=id then Q .normal s J M else Q (.exit id') s J M
 |e,s,J,M=>Q e s J M
theorem pX{d:Nat}{v:Tv}(h:v.dv=true):v.no d=true:=by
 cases v with
 |av x=>exact MH h
 |tup l =>
  simp only[Tv.dv,Tv.no,ku]at *;exact fun x hx=>MH (h x hx)
 |grd g x=>cases h
section
variable {P:Program}{N:Nat}{Ow:World→Nat→Prop}{n0:Nat}{Q:IQ}{s:AS}{J:World→Prop}{al:Bool}{Mc:m5}
def Qd(N b:Nat)(m:Nat):Option Loc:=bif Nat.beq m N then some ⟨b,424242,true⟩else none
theorem TP{b m:Nat}{x:Loc}(hx:Qd N b m=some x):m=N/\x=⟨b,424242,true⟩:=by
 unfold Qd at hx;cases hb:Nat.beq m N with
 |true=>rw[hb]at hx;injection hx with hx;exact⟨lx hb,hx.symm⟩
 |false=>rw[hb]at hx;cases hx
theorem ZH{b b':Nat}(h:inX (Qd N b) b'):b'=b:=by
 obtain⟨m,x,h1,h2⟩:=h;rw[(TP h1).2]at h2;exact h2.symm
theorem dC{b:Nat}:Tu (Qd N b):=⟨N,⟨b,424242,true⟩,by unfold Qd;rw[Nat.beq_refl];rfl,rfl,rfl⟩
theorem OL{W0 w:World}{M:m5}{σ:Nat->Loc}{a:Act}(hdv:∀i v,get s.t i=some v->v.dv=true)(hh:s.h=[])(hd:a.defers=[])(hs:Sim N W0 noX Mc M σ (get s.t) (get s.h) a w) :
  Sim N W0 (Qd N W0.heap.size) Mc M (upd σ N ⟨W0.heap.size,424242,true⟩) (get s.t) (get s.h) a w:=by
 refine⟨hs.os,hs.tape,hs.output,hs.size,fun b hb _=>hs.old b hb (He b),hs.sub,hs.new,fun m x hx=>?_,⟨by rw[hd];trivial,fun _=>hd⟩,hs.room,fun i v hv=>D6 (fun _ _ h=>h) (fun d hd=>?_) (hs.tmps i v hv),hs.imm,fun n b hb=>?_,fun n b hb=>?_,fun n m b c hb=>?_⟩
 ·obtain⟨rfl,rfl⟩:=TP hx;exact⟨lu _,by unfold upd;rw[Nat.beq_refl];rfl⟩
 ·rw[pX (hdv i v hv)]at hd;cases hd
 all_goals rw[hh]at hb;cases hb
theorem Kl{W0 w:World}{M:m5}{σ:Nat->Loc}{a:Act}{T:Nat->Option Tv}{H:Nat->Option Blk}(h2:Sim N W0 (Qd N W0.heap.size) Mc M σ T H a w):a.defers=[]/\Sim N W0 noX M M σ T H a w:=by
 have hd:=h2.defers.2 dC;refine⟨hd,h2.os,h2.tape,h2.output,h2.size,fun b hb _=>h2.old b hb fun h=>?_,fun _ _ h=>h,fun b o h h'=>(by rw[h]at h';cases h'),fun m x hx=>(by cases hx),⟨by rw[hd];trivial,fun _=>hd⟩,h2.room,h2.tmps,h2.imm,h2.blk,fun n b hb=>(h2.loc n b hb).imp id fun h=>⟨h.1,?_⟩,h2.inj⟩
 ·have:=ZH h;omega
 rcases h.2 with h|h
 ·exact .inl h
 exact .inl (Nat.le_of_eq (ZH h).symm)
theorem Md{W0 w:World}{M M':m5}{X:m6}{σ:Nat->Loc}{T:Nat->Option Tv}{H:Nat->Option Blk}{a:Act}(h:IOk Ow n0 al M W0)(hO:OwS Ow n0)(hs:Sim N W0 X M M' σ T H a w):IOk Ow n0 al M' W0:=fun ha=>by
 obtain⟨h1,h3,h2⟩:=h ha;refine⟨h1,h3,fun b o hb ho=>?_⟩;cases hM:M b with
 |some o'=>exact h2 b o' hM ho
 |none=>have:=hs.new b o hb hM;have:=h3 b ho;omega
theorem EJ(hO:OwS Ow n0){c:Code}(hdv:∀i v,get s.t i=some v->v.dv=true)(hh:s.h=[])(h:∀W0 X1 M1,AWp P none N W0 X1 M1 c (fun e s'=>Q e s' J al) s):IWp P N Ow n0 c Q s J al:=by
 intro W0 M σ a w hJ hs;refine wpIn_mono (h W0 _ M M _ a w (OL hdv hh hJ.2.1 hs)) ?_;rintro e a' w' ⟨s',M',σ',h1,h2⟩;obtain⟨hd,h3⟩:=Kl h2;exact⟨s',J,al,W0,M',σ',h1,⟨hJ.1,hd,Md hJ.2.2 hO h2⟩,h3⟩
theorem ED{x y:Code}(h:IWp P N Ow n0 x (ITh (fun s' J' M'=>IWp P N Ow n0 y Q s' J' M') Q) s J al):IWp P N Ow n0 (.seq x y) Q s J al:=by
 intro W0 M σ a w hJ hs;refine wpIn_seq (wpIn_mono (h W0 M σ a w hJ hs) ?_);rintro e a' w' ⟨s',J',al',W0',M',σ',h1,h2,h3⟩;cases e with
 |normal=>exact h1 W0' M' σ' a' w' h2 h3
 |_=>exact⟨s',J',al',W0',M',σ',h1,h2,h3⟩
theorem Hq{id:Nat}{c:Code}(h:IWp P N Ow n0 c (IBl id Q) s J al):IWp P N Ow n0 (.block id c) Q s J al:=by
 intro W0 M σ a w hJ hs;refine wpIn_block (wpIn_mono (h W0 M σ a w hJ hs) ?_);rintro e a' w' ⟨s',J',al',W0',M',σ',h1,h2,h3⟩;cases e with
 |exit id' =>
  simp only[IBl]at h1;simp only[Exit.inBlock];split
  ·rename_i he;rw[if_pos he]at h1;exact⟨s',J',al',W0',M',σ',h1,h2,h3⟩
  rename_i he;rw[if_neg he]at h1;exact⟨s',J',al',W0',M',σ',h1,h2,h3⟩
 |_=>exact⟨s',J',al',W0',M',σ',h1,h2,h3⟩
theorem Hf{c:Operand}{x y:Code}(b:Bool)(hc:evT (get s.t) c=some (.av (.one (.val (.bool b)))))(h1:b=true->IWp P N Ow n0 x Q s J al)(h2:b=false->IWp P N Ow n0 y Q s J al):IWp P N Ow n0 (.cond c x y) Q s J al:=by
 intro W0 M σ a w hJ hs;have hv:a.eval c=.bool b:=(HQ hs.tmps hc).1;exact wpIn_cond_split hv (fun hb=>h1 hb W0 M σ a w hJ hs) (fun hb=>h2 hb W0 M σ a w hJ hs)
theorem JI(h:Q .normal s J al):IWp P N Ow n0 .skip Q s J al:=fun W0 M σ a w hJ hs=>wpIn_skip ⟨s,J,al,W0,M,σ,h,hJ,hs⟩
theorem tY(h:Q .ret s J al):IWp P N Ow n0 .ret Q s J al:=fun W0 M σ a w hJ hs=>wpIn_ret ⟨s,J,al,W0,M,σ,h,hJ,hs⟩
theorem RI{id:Nat}(h:Q (.exit id) s J al):IWp P N Ow n0 (.exit id) Q s J al:=fun W0 M σ a w hJ hs=>wpIn_exit ⟨s,J,al,W0,M,σ,h,hJ,hs⟩
theorem RH{ι:Type}{c:Code}(S:ι->AS)(Jf:ι->World->Prop)(Inv:ι->Prop)(μ:ι->Nat)(round:∀x,Inv x->IWp P N Ow n0 c (ITh (fun s' J' al'=>∃y,Inv y/\μ y<μ x/\s'=S y/\J'=Jf y/\al'=al) Q) (S x) (Jf x) al)(x:ι)(hx:Inv x):IWp P N Ow n0 (.loop c) Q (S x) (Jf x) al:=by
 have key:∀n x,μ x<n->Inv x->∀W0 M σ a w,(Jf x W0/\a.defers=[]/\IOk Ow n0 al M W0)->Sim N W0 noX M M σ (get (S x).t) (get (S x).h) a w->Code.roundsIn (FW none) 0 P c (fun e a' w'=>∃s' J' al' W0' M' σ',Q e s' J' al'/\(J' W0'/\a'.defers=[]/\IOk Ow n0 al' M' W0')/\Sim N W0' noX M' M' σ' (get s'.t) (get s'.h) a' w') n a w:=by
  intro n;induction n with
  |zero=>intro x h;omega
  |succ n ih =>
   intro x hlt hx W0 M σ a w hJ hs;rw[roundsIn_succ];refine wpIn_mono (round x hx W0 M σ a w hJ hs) ?_;rintro e a' w' ⟨s',J',al',W0',M',σ',h1,h2,h3⟩;cases e with
   |normal =>
    obtain⟨y,hy,hm,rfl,rfl,rfl⟩:=h1;exact ih y mz hy W0' M' σ' a' w' h2 h3
   |_=>exact⟨s',J',al',W0',M',σ',h1,h2,h3⟩
 intro W0 M σ a w hJ hs;exact wpIn_loop_rounds (μ x+1) (key (μ x+1) x (lz _) hx W0 M σ a w hJ hs)
end
def Cl.isV:Cl->Bool
 |.val _=>true
 |_=>false
def Cl.toV:Cl->Value
 |.val v=>v
 |_=>undef
def Av.isV:Av->Bool
 |.one c=>c.isV
 |.agg l=>l.all Cl.isV
def Av.toV:Av->Value
 |.one c=>c.toV
 |.agg l=>.agg (l.map Cl.toV).toArray
theorem wZ{M:m5}{σ:Nat->Loc}:∀ {l:List Cl} {vs:List Value},L2 (R M σ) l vs->l.all Cl.isV=true->vs=l.map Cl.toV
 |[],_,h,_=>by cases h;rfl
 |c::l,_,h,hv=>by
  cases h with
  |cons h1 h2 =>
   simp only[List.all_cons,me]at hv;rw[wZ h2 hv.2];cases c with
   |val v=>rw[h1.1];rfl
   |_=>cases hv.1
theorem jx{M:m5}{σ:Nat->Loc}{x:Av}{V:Value}(h:RA M σ x V)(hv:x.isV=true):V=x.toV:=by
 cases x with
 |one c =>
  cases c with
  |val v=>exact h.1
  |_=>cases hv
 |agg l =>
  obtain⟨vs,rfl,h2⟩:=h;rw[wZ h2 hv];rfl
theorem ey{M:m5}{σ:Nat->Loc}{x:Av}(hv:x.isV=true)(ho:∀c∈x.cells,c.toV.oneCell'=true):RA M σ x x.toV:=by
 cases x with
 |one c =>
  cases c with
  |val v=>exact⟨rfl,ho (.val v) (by simp[Av.cells])⟩
  |_=>cases hv
 |agg l =>
  refine⟨_,rfl,?_⟩;simp only[Av.isV]at hv;simp only[Av.cells]at ho;induction l with
  |nil=>exact .nil
  |cons c l ih =>
   simp only[List.all_cons,me]at hv;refine .cons ?_ (ih hv.2 fun c hc=>ho c (lh _ hc));cases c with
   |val v=>exact⟨rfl,ho (.val v) (li ..)⟩
   |_=>cases hv.1
section
variable {P:Program}{V:Env P}{N:Nat}{W0:World}{X:m6}{M0 M:m5}{σ:Nat→Loc}{w:World}{a:Act}
theorem pU{o:Oper}{c:Call}{f:Operand}{ly:Nat}{xs:List Av}{T:Nat->Option Tv}(hT:∀i v,T i=some v->RT M σ v (a.tmps.getD i undef))(ho:o.op=.call c)(hcf:c.callee=.value f)(hf:evT T f=some (.av (.one (.val (.func (.yield ly) #[] #[])))))(hxs:FQ (evT T) c.args.toList=some xs)(hv:xs.all Av.isV=true)
 {R:Ending->World->Prop}(hY:YieldAt (FW none) 0 P ly (xs.map Av.toV).toArray w R){K:Act->World->Prop}{Q:Exit->Act->World->Prop}(hK:∀e w',R e w'->∃V,e=.returned V/\K (a.put o.dst V) w'):o.wpIn (FW none) 0 P a w K Q:=by
 obtain⟨fn,tmps,assign,body,hy,hR⟩:=hY;refine⟨fun _ _=>trivial,?_⟩;rw[Oper.semAt_eq _ _ _ (fun d h=>by rw[ho]at h;cases h)];have hfv:=(HQ hT hf).1;have hargs:=JO (fun x v=>HQ hT) _ _ hxs;have hmap:c.args.map a.eval=(xs.map Av.toV).toArray:=by
  have e:c.args.toList.map a.eval=xs.map Av.toV:=by
   clear hxs hy hR;revert hargs hv;generalize c.args.toList.map a.eval=vs;intro hv hargs;induction hargs with
   |nil=>rfl
   |cons h1 _ ih =>
    simp only[List.all_cons,me]at hv;rw[ih hv.2,List.map_cons,jx h1 hv.1]
  rw[<- e];apply Array.ext';simp
 have hres:(execOp a.eval o).run P w=.ok (.round ly fn tmps assign body) w:=by
  simp only[execOp,ho,Sem.run_bind,resolve,hcf,hfv,Deferred.ofValue,hmap];simpa [invoke]using hy
 rw[hres,Oper.uponIn_round];refine⟨fun h=>(by cases h),?_⟩;have h1:RoundIn (FW none) (0-1) P ly fn tmps assign body w R:=hR;refine h1.mono ?_;rintro e w' he;obtain⟨V,rfl,hk⟩:=hK e w' he;exact hk
end
end
section
open Go.RowKit
section
variable {P:Program}{V:Env P}{rd:Option Nat}{N:Nat}{W0:World}{X:m6}{M0:m5}{l1 l2:List Oper}{o:Oper}{s0:AS}
theorem gV{L:Array Bool}{j:Nat}(h:j<L.size):L.getD j true=L.getD j false:=by simp[h]
theorem ZN{l r:List Oper}{L:Array Bool}(h:N8 (l++r) L):N8 l L:=fun j o ho=>h j o (by rw[la (List.getElem?_eq_some_iff.1 ho).1];exact ho)
theorem uJ(hV:MQ P V)(hrun:LB P V N l1 s0)(hback1:Oj l1=true)(hord:RV P V N l1 s0 (fun j i=>((D0 l1 []).getD j 0).testBit i=true))(hback:Oj (l1++o::l2)=true)
 (hk:∀j,j<l1.length->((D0 (l1++o::l2) []).getD l1.length 0).testBit j=true)(hlater:∀i,l1.length<i->i<(l1++o::l2).length->((D0 (l1++o::l2) []).getD i 0).testBit l1.length=true)(hg:∀x∈l1,x.guard=none)
 {Q:Exit->Act->World->Prop}(hlast:∀(f:Nat) (L:Array Bool) (a:Act) (w:World),L.size=(l1++o::l2).length->(∀j,L.getD j false=decide (j<l1.length))->(List.range (l1++o::l2).length).countP (fun j=>!L.getD j false)<=f+1 ->
   (∃M σ,Sim N W0 X M0 M σ (get (stN P V N l1 s0 l1.length).t) (get (stN P V N l1 s0 l1.length).h) a w)->wpOpIn (FW rd) 0 P (l1++o::l2).toArray Q l1.length (wpAnyIn (FW rd) 0 P .any (l1++o::l2).toArray Q f (L.setIfInBounds l1.length true)) a w) :
  ∀(f:Nat) (L:Array Bool) (a:Act) (w:World),L.size=(l1++o::l2).length->N8 (l1++o::l2) L->(∀j,l1.length<=j->L.getD j false=false)->(List.range (l1++o::l2).length).countP (fun j=>!L.getD j false)<=f->eF P V N W0 X M0 l1 s0 L a w->wpAnyIn (FW rd) 0 P .any (l1++o::l2).toArray Q f L a w:=by
 have hlen:(l1++o::l2).length=l1.length+(l2.length+1):=by simp
 intro f;induction f with
 |zero =>
  intro L a w hsz hcl hno hcnt hinv;exfalso;have h0:(List.range (l1++o::l2).length).countP (fun j=>!L.getD j false)=0:=by omega
  rw[List.countP_eq_zero]at h0;have:=h0 l1.length (List.mem_range.2 mz);rw[hno _ (lu _)]at this;simp at this
 |succ f ih =>
  intro L a w hsz hcl hno hcnt hinv;have anc:=fun i o' ho' hpre=>K8 hback hcl (i+1) i (lz _) o' ho' hpre;have allready:∀n j,j<n->j<(l1++o::l2).length->Region.ready .any (l1++o::l2).toArray L=[]->L.getD j false=true:=by
   intro n;induction n with
   |zero=>intro j h;omega
   |succ n ihn =>
    intro j hj hjl hr;cases hd:L.getD j false with
    |true=>rfl
    |false =>
     have ho:=ea hjl;have:j∈Region.ready .any (l1++o::l2).toArray L:=by
      rw[mem_ready];refine⟨?_,(l1++o::l2)[j],by simp,fun e he hb=>?_⟩
      ·have hj':j<L.size:=by omega
       simp[hj']at hd ⊢;exact hd
      have h1:=(List.all_eq_true.1 hback) ((l1++o::l2)[j],j) (List.mem_zipIdx_iff_getElem?.2 ho);have h2:=(List.all_eq_true.1 h1) e (by simpa using he);simp only[hb,mc,mh]at h2;have hlt:=mr h2;exact ihn e.on mz mz hr
     rw[hr]at this;cases this
  refine⟨fun hr=>?_,fun i hi=>?_⟩
  ·exfalso;have:=allready (l1.length+1) l1.length mz mz hr;rw[hno _ (lu _)]at this;cases this
  rw[mem_ready]at hi;obtain⟨h1,oi,hoi,hpre⟩:=hi;have ho':(l1++o::l2)[i]? = some oi:=by simpa using hoi
  have hil:i<(l1++o::l2).length:=(List.getElem?_eq_some_iff.1 ho').1;have hun:L.getD i false=false:=by
   have hi':i<L.size:=by omega
   simp[hi']at h1 ⊢;exact h1
  rcases Nat.lt_trichotomy i l1.length with hlt|heq|hgt
  ·have ho1:l1[i]? = some oi:=by rw[la hlt]at ho';exact ho'
   unfold wpOpIn;rw[hoi];have hfin:=U7 (rd:=rd) (a:=a) (w:=w) (Q:=Q) (K:=wpAnyIn (FW rd) 0 P .any (l1++o::l2).toArray Q f (L.setIfInBounds i true)) hV hrun hback1 hord mz (ZN hcl) hinv ho1 hun hpre fun a' w' hinv'=>by
    refine ih _ a' w' (by simp[hsz]) ?_ (fun j hj=>?_) ?_ hinv'
    ·intro j oj hj hd e he hb
     by_cases hji:j=i
     ·subst hji;rw[ho']at hj;injection hj with hj;subst hj
      exact getD_set_true (hpre e he hb)
     rw[getD_set_ne false (Ne.symm hji)]at hd;exact getD_set_true (hcl j oj hj hd e he hb)
    ·rw[getD_set_ne false mz];exact hno j hj
    have hlt2:(List.range (l1++o::l2).length).countP (fun j=>!(L.setIfInBounds i true).getD j false)<(List.range (l1++o::l2).length).countP (fun j=>!L.getD j false):=by
     refine Mo ?_ (List.mem_range.2 hil) ?_ ?_
     ·intro j _ hj
      by_cases hji:i=j
      ·subst hji;simp[show i<L.size by omega]at hj
      rwa [getD_set_ne false hji]at hj
     ·rw[hun];rfl
     simp[show i<L.size by omega]
    omega
   have hgi:oi.guard=none:=hg oi (mo ho1);have hw:∀ys,Region.wanted oi ys=true:=fun ys=>by simp[Region.wanted,hgi]
   simp only[hw,if_true]at hfin ⊢;exact hfin
  ·subst heq;have hall:∀j,L.getD j false=decide (j<l1.length):=fun j=>by
    by_cases hj:j<l1.length
    ·rw[lj hj];exact(anc l1.length oi ho' hpre j (hk j hj)).1
    rw[lk hj];exact hno j mz
   refine hlast f L a w hsz hall hcnt ?_;obtain⟨M,σ,T,H,hs,hT,hH⟩:=hinv;have eT:T=get (stN P V N l1 s0 l1.length).t:=by
    funext x;obtain⟨k,hk2,hag,he⟩:=hT x;rw[he];refine bK hrun hk2 (lu _) hag fun j oj hj hd=>?_;have hjl:j<l1.length:=(List.getElem?_eq_some_iff.1 hj).1;exact⟨fun _=>hjl,fun _=>by rw[hall,lj hjl]⟩
   have eH:H=get (stN P V N l1 s0 l1.length).h:=by
    funext x;obtain⟨k,hk2,hag,he⟩:=hH x;rw[he];refine bL hrun hk2 (lu _) hag fun j oj hj hd=>?_;have hjl:j<l1.length:=(List.getElem?_eq_some_iff.1 hj).1;exact⟨fun _=>hjl,fun _=>by rw[hall,lj hjl]⟩
   rw[eT,eH]at hs;exact⟨M,σ,hs⟩
  exfalso;have:=(anc i oi ho' hpre l1.length (hlater i hgt hil)).1;rw[hno _ (lu _)]at this;cases this
theorem qE(hback:Oj (l1++o::l2)=true)(h2:l2.length<=1){Q:Exit->Act->World->Prop}{f:Nat}{L:Array Bool}{a:Act}{w:World}(hsz:L.size=(l1++o::l2).length)(hall:∀j,L.getD j false=decide (j<l1.length))(hcnt:(List.range (l1++o::l2).length).countP (fun j=>!L.getD j false)<=f+1)
 (hg:∀x∈l2,x.guard=none)(hQ1:l2=[]->Q .normal a w)(hQ2:∀u,l2=[u]->u.wpIn (FW rd) 0 P a w (fun a' w'=>Q .normal a' w') Q):wpAnyIn (FW rd) 0 P .any (l1++o::l2).toArray Q f (L.setIfInBounds l1.length true) a w:=by
 have hL1:∀j,(L.setIfInBounds l1.length true).getD j false=decide (j<l1.length+1):=fun j=>by
  by_cases hj:l1.length=j
  ·subst hj;have hlt:l1.length<L.size:=by rw[hsz];simp
   simp[hlt]
  rw[getD_set_ne false hj,hall];exact decide_eq_decide.2 mz
 have hdone:∀(L':Array Bool) (f':Nat) (a':Act) (w':World),L'.size=(l1++o::l2).length->(∀j,j<(l1++o::l2).length->L'.getD j false=true)->Q .normal a' w'->wpAnyIn (FW rd) 0 P .any (l1++o::l2).toArray Q f' L' a' w':=by
  intro L' f' a' w' hs' hd' hq;have hr:Region.ready .any (l1++o::l2).toArray L'=[]:=by
   rw[List.eq_nil_iff_forall_not_mem];intro j hj;rw[mem_ready]at hj;obtain⟨h1,oj,hoj,_⟩:=hj;have hjl:j<(l1++o::l2).length:=(List.getElem?_eq_some_iff.1 (by simpa using hoj:(l1++o::l2)[j]? = some oj)).1;have:=hd' j hjl;have hj':j<L'.size:=by omega
   simp[hj']at h1 this;rw[h1]at this;cases this
  cases f' with
  |zero=>exact⟨hr,hq⟩
  |succ f'=>exact⟨fun _=>hq,fun i hi=>by rw[hr]at hi;cases hi⟩
 cases l2 with
 |nil=>exact hdone _ _ _ _ (by simpa using hsz) (fun j hj=>by rw[hL1];simp at hj;exact lj hj) (hQ1 rfl)
 |cons u r =>
  have hr0:r=[]:=by
   cases r with
   |nil=>rfl
   |cons=>simp at h2
  subst hr0;have hlen:(l1++o::[u]).length=l1.length+2:=by simp
  cases f with
  |zero =>
   exfalso;have hlt:(List.range (l1++o::[u]).length).countP (fun j=>!(L.setIfInBounds l1.length true).getD j false)<(List.range (l1++o::[u]).length).countP (fun j=>!L.getD j false):=by
    refine Mo ?_ (List.mem_range.2 (show l1.length<_ by omega)) ?_ ?_
    ·intro j _ hj;rw[hL1]at hj;rw[hall];simp at hj ⊢;omega
    ·rw[hall];simp
    rw[hL1];simp
   have h0:(List.range (l1++o::[u]).length).countP (fun j=>!(L.setIfInBounds l1.length true).getD j false)=0:=by omega
   rw[List.countP_eq_zero]at h0;have:=h0 (l1.length+1) (List.mem_range.2 mz);rw[hL1]at this;simp at this
  |succ f =>
   have hu:(l1++o::[u])[l1.length+1]? = some u:=by rw[kz mz];simp
   refine⟨fun hr=>?_,fun i hi=>?_⟩
   ·exfalso;have:l1.length+1∈Region.ready .any (l1++o::[u]).toArray (L.setIfInBounds l1.length true):=by
     rw[mem_ready];refine⟨?_,u,by simp,fun e he hb=>?_⟩
     ·rw[gV (by simp[hsz]),hL1];exact lk mz
     have h1:=(List.all_eq_true.1 hback) (u,l1.length+1) (List.mem_zipIdx_iff_getElem?.2 hu);have h3:=(List.all_eq_true.1 h1) e (by simpa using he);simp only[hb,mc,mh]at h3;have hlt:=mr h3;rw[hL1];exact lj mz
    rw[hr]at this;cases this
   rw[mem_ready]at hi;obtain⟨h1,oi,hoi,hpre⟩:=hi;have ho':(l1++o::[u])[i]? = some oi:=by simpa using hoi
   have hil:i<(l1++o::[u]).length:=(List.getElem?_eq_some_iff.1 ho').1;have hi1:i=l1.length+1:=by
    have h3:=hL1 i;have h4:i<(L.setIfInBounds l1.length true).size:=by simp[hsz];omega
    rw[gV h4,h3]at h1;have h5:=of_decide_eq_false h1;omega
   subst hi1;rw[hu]at ho';injection ho' with ho';subst ho'
   unfold wpOpIn;rw[hoi];have hw:∀ys,Region.wanted u ys=true:=fun ys=>by simp[Region.wanted,hg u m3]
   simp only[hw,if_true];refine Oper.wpIn_mono (fun a' w' hq=>hdone _ _ _ _ (by simp[hsz]) (fun j hj=>?_) hq) (hQ2 u rfl)
   by_cases hji:l1.length+1=j
   ·subst hji;have h4:l1.length+1<(L.setIfInBounds l1.length true).size:=by simp[hsz]
    simp at h4;simp[h4]
   rw[getD_set_ne false hji,hL1];exact lj mz
end
def noM:m5:=fun _=>none
def XO(M:m5)(b:Nat):Option Obj:=match M b with
 |some (.cells c t f)=>some (.cells c t f)
 |_=>none
theorem Fj{M:m5}{b:Nat}{o:Obj}(h:XO M b=some o):M b=some o/\o.isCells=true:=by
 unfold XO at h;cases hM:M b with
 |none=>rw[hM]at h;cases h
 |some o' =>
  rw[hM]at h;cases o' with
  |cells c t f=>injection h with h;subst h;exact⟨rfl,rfl⟩
  |_=>cases h
theorem N0{M:m5}(b:Nat)(c:Array Value)(t:TypeId)(f:Nat×Nat)(h:M b=some (.cells c t f)):XO M b=some (.cells c t f):=by unfold XO;rw[h]
def dr(l1:List Oper)(o:Oper)(l2:List Oper):Bool :=
 Oj (l1++o::l2)&&((List.range l1.length).all fun j=>((D0 (l1++o::l2) []).getD l1.length 0).testBit j)&&((List.range l2.length).all fun j=>((D0 (l1++o::l2) []).getD (l1.length+1+j) 0).testBit l1.length) &&
 (l1++o::l2).all fun x=>match x.guard with|none=>true|some _=>false
section
variable {P:Program}{N:Nat}{Ow:World→Nat→Prop}{n0:Nat}{Q:IQ}{s:AS}{J:World→Prop}
theorem EA{K:AS->(World->Prop)->Bool->Prop}{Q:IQ}{s:AS}{J:World->Prop}{al:Bool}(h:K s J al):ITh K Q .normal s J al:=h
theorem QY{K:AS->(World->Prop)->Bool->Prop}{Q:IQ}{s:AS}{J:World->Prop}{al:Bool}{id:Nat}(h:Q (.exit id) s J al):ITh K Q (.exit id) s J al:=h
theorem Y3{Q:IQ}{s:AS}{J:World->Prop}{al:Bool}{id:Nat}(h:Q .normal s J al):IBl id Q .normal s J al:=h
theorem RJ{Q:IQ}{s:AS}{J:World->Prop}{al:Bool}{id:Nat}(h:Q .normal s J al):IBl id Q (.exit id) s J al:=by simp only[IBl,if_true];exact h
theorem Ck{α:Type}{p:α->Prop}:∀ {l:List (Nat×α)},(∀x∈l,p x.2)->∀i v,get l i=some v->p v
 |[],_,_,_,h=>by cases h
 |(k,x)::l,h,i,v,hv=>by
  simp only[get,Cb]at hv
  by_cases hi:k=i
  ·subst hi;simp at hv;subst hv;exact h (k,x) (li ..)
  simp[hi]at hv;exact Ck (fun y hy=>h y (lh _ hy)) i v hv
theorem C0{α:Type}[Inhabited α]{sz:Nat}{c:α->List Cl}{xs:List α}(h:∀x,∀y∈c x,NM y):NM (lst sz c xs):=by
 refine .list _ _ _ _ fun i j=>?_;rw[aE];cases hj:(c (xs.getD i default))[j]? with
 |none=>exact .val _
 |some y=>exact h _ y (mo hj)
theorem GO{L:List Cl}{sz len i off:Nat}(h:∀y∈L,NM y):NM (.eptr sz len (fun _ j=>(L:List Cl).getD j default) i off):=by
 refine .eptr _ _ _ _ _ fun _ j=>?_;show NM (L.getD j default);rw[aE];cases hj:L[j]? with
 |none=>exact .val _
 |some y=>exact h y (mo hj)
theorem cM{g:FuncId}{k:Nat}{L:List Cl}(h:∀y∈L,NM y):NM (.clo g k (BZ L)):=by
 refine .clo _ _ _ fun i=>?_;show NM (L.getD i default);rw[aE];cases hj:L[i]? with
 |none=>exact .val _
 |some y=>exact h y (mo hj)
theorem Bt{c:Cl}(h:NM c):TvM (.av (.one c)):=fun y hy=>by simp only[Av.cells,kl]at hy;subst hy;exact h
end
end
def IEnd(n:Nat)(JJ Jx:Nat->World->Prop):IQ:=fun e s' J' al'=>(e=.ret\/e=.normal)/\(J'=JJ n\/∃j,j<n/\J'=Jx (j+1))
section
open Go.RowKit
theorem J8:∀ {l:List Nat} {n:Nat},n∈l->A6 l n=true
 |k::r,n,h=>by
  simp only[A6];cases hk:Nat.beq k n with
  |true=>rfl
  |false =>
   rcases List.mem_cons.1 h with e|h
   ·rw[e,Nat.beq_refl]at hk;cases hk
   exact J8 h
theorem X3{fid:Nat}:∀(ps:List Tmp) (es:List Av) (t:List (Nat×Tv)),(∀i v,get t i=some v->v.no fid=true)->es.all Av.dv=true->∀i v,get (UT t ps es) i=some v->v.no fid=true
 |[],_,t,h,_,i,v,hv=>h i v (by cases ‹List Av›<;>exact hv)
 |p::ps,[],t,h,_,i,v,hv=>h i v hv
 |p::ps,e::es,t,h,he,i,v,hv=>by
  simp only[List.all_cons,me]at he;refine X3 ps es ((p,.av e)::t) (fun j u hu=>?_) he.2 i v hv;simp only[get,Cb]at hu
  by_cases hj:p=j
  ·subst hj;simp at hu;subst hu;exact MH he.1
  simp[hj]at hu;exact h j u hu
section
variable {P:Program}{N:Nat}{W0:World}{X:m6}{M0:m5}
end
end
section
open Go.RowKit
section
variable {P:Program}
def Fr(P:Program)(f:FuncId)(xs:List Av)(b:Blk)(v:Nat->Tv):Prop:=∀(M:m5) (σ:Nat->Loc) (w:World) (args:List Value),(∀b o,M b=some o->w.heap[b]? = some o)->L2 (RA M σ) xs args ->
 Calls P f args.toArray w fun en w'=>∃U,en=.returned U/\∃M' x,Gk w w' M M' M7/\(x.nil=true\/(w.heap.size<=x.b/\M' x.b=none))/\(∀σ',Bl M' σ' w' x b)/\∀(σ':Nat->Loc) d,σ' d=x->RT M' σ' (v d) U
theorem DQ{f:FuncId}{xs:List Av}{b:Blk}{v:Nat->Tv}(h1:∀args w,(callFunc f args).run P w=.ok (.enter f args) w)(h:Fr P f xs b v):EI P f xs (.new [] b v):=by
 refine .inl ⟨h1,fun M σ w h' args cs' g hs hargs hr hc=>?_⟩;simp only[res,l7,l8]at hr;obtain⟨rfl,rfl⟩:=hr;refine(h M σ w args hs.imm hargs).mono ?_;rintro en w' ⟨U,hU,M',x,hk,hx,hb,hR⟩;refine⟨U,hU,fun dst ⟨d,hd,hno⟩=>⟨M',upd σ d x,x,d,hd,hk,hx,rfl,hb _,hR _ _ (BH _ _ _)⟩⟩
def OwnV(v:Nat->Tv):Prop:=∀(M:m5) (σ σ':Nat->Loc) (n d:Nat) (U:Value),σ' d=σ n->RT M σ (v n) U->RT M σ' (v d) U
theorem Df(sz len:Nat):OwnV fun d=>.av (.one (.own d sz len)):=fun M σ σ' n d U h hR=>by
 have hR:R M σ (.own n sz len) U:=hR;show R M σ' (.own d sz len) U;simp only[R]at *;rw[h];exact hR
theorem DC{f:FuncId}{fn:Func}{c:Code}(hf:P.funcs[f]? = some fn)(hb:fn.body=some c){xs:List Av}{sz len:Nat}{g:Nat->Nat->Cl}{ty:TypeId}{v:Nat->Tv}(hN:Nat.ble xs.length fn.ntmps=true)(hv:OwnV v)
 (h:∀(W0:World) (M0:m5),AWp P none fn.ntmps W0 noX M0 c (My P fn.ntmps W0 noX M0 fn fun r' s'=>∃n,TvE r' (v n)/\∃b,get s'.h n=some b/\Ic b (.row sz len g ty)) ⟨FP 0 xs,[]⟩):Fr P f xs (.row sz len g ty) v:=by
 intro M σ w args himm hargs;refine Ew (X:=noX) (σ:=σ) (h0:=[]) hf hb (mr hN) himm hargs (fun n b h=>by cases h) (fun n b h=>by cases h) (fun n x h=>by cases h) (fun n m b c h=>by cases h) (EG (h w M)) ?_;rintro r' s' M' σ' a' w' U ⟨n,he,b,hb1,hbe⟩ hs hR;have hbk:=JR hbe (hs.blk n _ hb1);refine⟨U,rfl,M',σ' n,⟨hs.os,hs.tape,hs.output,hs.size,fun b hb _=>hs.old b hb (He b),hs.sub,hs.new,hs.imm⟩,?_,fun σ'' => ?_,fun σ'' d hd=>hv M' σ' σ'' n d U hd (ML he hR)⟩
 ·rcases hs.loc n _ hb1 with h1|⟨h1,h2|h2⟩
  ·exact .inl h1
  ·exact .inr ⟨h2,h1⟩
  exact absurd h2 (He _)
 exact hbk
theorem frE{α:Type}[Inhabited α]{c:α->List Cl}{sz n:Nat}{ty:TypeId}{xs ys:List α}{s':AS}(h:xs=ys)(hg:get s'.h n=some (.row sz xs.length (AL c xs) ty)) :
  ∃m,TvE (.av (.one (.own n sz xs.length))) (.av (.one (.own m sz ys.length)))/\∃b,get s'.h m=some b/\Ic b (.row sz ys.length (AL c ys) ty):=by subst h;exact⟨n,.refl _,_,hg,.refl _⟩
theorem dB{f:FuncId}{sz len:Nat}{F:Nat->Nat->Cl}{b:Blk}{v:Nat->Tv}(h0:len=0->Fr P f [.one (.val (.slice none 0 0))] b v)(h1:Fr P f [.one (.list true sz len F)] b v)(hsz:sz≠0:=by decide):Fr P f [.one (.list false sz len F)] b v:=by
 intro M σ w args himm hargs;cases hargs with
 |cons ha ht =>
  cases ht with
  |nil =>
   have ha:RC M (.list false sz len F) _:=ha;cases ha with
   |nil=>exact h0 rfl M σ w _ himm (.cons ⟨rfl,rfl⟩ .nil)
   |mt _ _ _ a cap=>exact h1 M σ w _ himm (.cons (RC.mt true sz F a cap (fun _ h=>absurd h hsz)) .nil)
   |list _ _ _ _ b off cap g e1 e2 e3=>exact h1 M σ w _ himm (.cons (RC.list true sz len F b off cap g e1 e2 e3 (fun _ h=>absurd h hsz)) .nil)
end
end
section
open Go.RowKit Go.MapKept
section
variable {K V:Type}[Inhabited K][Inhabited V]
def kfG(ck:K->Value)(l:List (K×V)):Nat->Value:=fun i=>ck (l.getD i default).1
def vfG(c:V->List Cl)(l:List (K×V)):Nat->Nat->Cl:=fun i j=>(c (l.getD i default).2).getD j default
def GB(eq:K->K->Bool)(l:List (K×V))(k:K):Bool:=l.any fun e=>eq e.1 k
def Ec(eq:K->K->Bool)(l:List (K×V))(k:K):Nat:=l.findIdx fun e=>eq e.1 k
def J7(eq:K->K->Bool)(l:List (K×V))(k:K)(v:V):List (K×V):=bif GB eq l k then l.set (Ec eq l k) (k,v)else l++[(k,v)]
theorem Yk{eq:K->K->Bool}{l:List (K×V)}{k:K}(h:GB eq l k=true):Ec eq l k<l.length/\eq (l.getD (Ec eq l k) default).1 k=true/\∀j,j<Ec eq l k->eq (l.getD j default).1 k=false:=by
 unfold GB at h;obtain⟨x,hx,hxk⟩:=List.any_eq_true.1 h;have hlt:l.findIdx (fun e=>eq e.1 k)<l.length:=List.findIdx_lt_length.2 ⟨x,hx,hxk⟩;refine⟨hlt,?_,fun j hj=>?_⟩
 ·have:=List.findIdx_getElem (w:=hlt);unfold Ec;rw[aE,ea hlt];exact this
 have:=List.not_of_lt_findIdx hj;have hj':j<l.length:=Nat.lt_trans hj hlt;rw[aE,ea hj'];exact this
theorem ad{eq:K->K->Bool}{l:List (K×V)}{k:K}(h:GB eq l k=false):∀j,j<l.length->eq (l.getD j default).1 k=false:=by
 intro j hj;unfold GB at h;have:=(List.any_eq_false.1 h) l[j] (List.getElem_mem hj);rw[aE,ea hj];simpa using this
theorem Yq{P:Program}{E:TypeId->Option (List Kd)}{kt:TypeId}{ck:K->Value}{eq:K->K->Bool}(heq:∀a b,eq a b=true↔ck a=ck b)(hfit:∀k,Gx P E kt (ck k))(l:List (K×V))(k:K) :
  ZW P E kt l.length (kfG ck l) (ck k) (GB eq l k) (Ec eq l k):=by
 refine⟨hfit k,fun j _=>hfit _,fun h=>?_,fun h j hj=>?_⟩
 ·obtain⟨h1,h2,h3⟩:=Yk h;refine⟨h1,(heq _ _).1 h2,fun j hj e=>?_⟩;have:=(heq _ _).2 e;rw[h3 j hj]at this;cases this
 intro e;have:=(heq _ _).2 e;rw[ad h j hj]at this;cases this
omit [Inhabited K] [Inhabited V] in
theorem Yf(eq:K->K->Bool)(l:List (K×V))(k:K)(v:V):(bif GB eq l k then l.length else l.length+1)=(J7 eq l k v).length:=by
 unfold J7;cases GB eq l k<;>simp
theorem Yg{eq:K->K->Bool}{l:List (K×V)}{k:K}{v:V}(j:Nat)(hj:j<(J7 eq l k v).length):(J7 eq l k v).getD j default=bif Nat.beq j (bif GB eq l k then Ec eq l k else l.length)then(k,v)else l.getD j default:=by
 rw[<- Yf]at hj;unfold J7;cases h:GB eq l k with
 |true =>
  rw[h]at hj;simp only[mi]at *;have hlt:=(Yk h).1;rw[aE,List.getElem?_set,Cb]
  by_cases e:Ec eq l k=j
  ·subst e;simp[hlt]
  rw[if_neg e,lk (Ne.symm e),mj,aE]
 |false =>
  rw[h]at hj;simp only[mj]at *;rw[aE,Cb]
  by_cases e:j=l.length
  ·subst e;rw[lj rfl,mi,kz (lu _),mu];rfl
  rw[lk e,mj,la mz,aE]
theorem wE{ck:K->Value}{cv:V->List Cl}{eq:K->K->Bool}{agg:Bool}{nv:Nat}(l:List (K×V))(k:K)(v:V)(cells:List Cl)(hc:cells=cv v) :
  Ic (.omap agg nv (bif GB eq l k then l.length else l.length+1) (fun j=>bif Nat.beq j (bif GB eq l k then Ec eq l k else l.length)then ck k else kfG ck l j) (fun j c=>bif Nat.beq j (bif GB eq l k then Ec eq l k else l.length)then cells.getD c default else vfG cv l j c))
   (.omap agg nv (J7 eq l k v).length (kfG ck (J7 eq l k v)) (vfG cv (J7 eq l k v))):=by
 subst hc;refine .omap agg nv (Yf eq l k v) (fun j hj=>?_) (fun j c hj _=>?_)
 ·unfold kfG;rw[Yg j hj];cases Nat.beq j (bif GB eq l k then Ec eq l k else l.length)<;>rfl
 have:(bif Nat.beq j (bif GB eq l k then Ec eq l k else l.length)then(cv v).getD c default else vfG cv l j c)=vfG cv (J7 eq l k v) j c:=by
  unfold vfG;rw[Yg j hj];cases Nat.beq j (bif GB eq l k then Ec eq l k else l.length)<;>rfl
 rw[this];exact .refl _
theorem wF{ck:K->Value}{cv:V->List Cl}{agg:Bool}{nv:Nat}:Ic (.omap agg nv 0 (fun _=>undef) m8) (.omap agg nv ([]:List (K×V)).length (kfG ck ([]:List (K×V))) (vfG cv ([]:List (K×V)))) :=
 .omap agg nv rfl (fun j hj=>absurd hj (lw _)) (fun j c hj _=>absurd hj (lw _))
end
def eqS(a b:my):Bool:=a.toList==b.toList
theorem dH(a b:my):eqS a b=true↔Value.string a=Value.string b:=by
 unfold eqS;rw[beq_iff_eq,Value.string.injEq];exact⟨wJ,fun h=>by rw[h]⟩
end
section
open Go.RowKit Go.MapKept
section
variable {P:Program}
def Wr2(P:Program)(f:FuncId)(K L:Nat)(xs:List Av)(b0 d0:Blk)(r:Tv)(b1 d1:Blk):Prop:=∀(M:m5) (σ:Nat->Loc) (w:World) (args:List Value),(∀b o,M b=some o->w.heap[b]? = some o) ->
 (Bl M σ w (σ K) b0/\(σ K).nil=false/\M (σ K).b=none)->(Bl M σ w (σ L) d0/\(σ L).nil=false/\M (σ L).b=none)->(σ K).b≠(σ L).b->L2 (RA M σ) xs args ->
 Calls P f args.toArray w fun en w'=>∃U,en=.returned U/\∃M',Gk w w' M M' (fun b=>only (σ K) b\/only (σ L) b)/\(∀σ',RT M' σ' r U)/\(∀σ',Bl M' σ' w' (σ K) b1)/\∀σ',Bl M' σ' w' (σ L) d1
theorem SU{f:FuncId}{fn:Func}{c:Code}(hf:P.funcs[f]? = some fn)(hb:fn.body=some c){K L:Nat}{xs:List Av}{b0 d0 b1 d1:Blk}{r:Tv}(hN:Nat.ble xs.length fn.ntmps=true)(hK:Nat.ble fn.ntmps K=true)(hL:Nat.ble fn.ntmps L=true)(hKL:Nat.beq K L=false)(hd:r.dv=true)(hd1:MF b1=true)(hd2:MF d1=true)
 (h:∀(W0:World) (M0:m5) (X:m6),DJ X W0 [K,L]->AWp P none fn.ntmps W0 X M0 c (My P fn.ntmps W0 X M0 fn fun r' s'=>TvE r' r/\(∃b,get s'.h K=some b/\Ic b b1)/\∃b,get s'.h L=some b/\Ic b d1) ⟨FP 0 xs,[(K,b0),(L,d0)]⟩):Wr2 P f K L xs b0 d0 r b1 d1:=by
 intro M σ w args himm ⟨hblk,hnil,hM⟩ ⟨hblk2,hnil2,hM2⟩ hbne hargs;have hne:K≠L:=fun e=>by rw[e,Nat.beq_refl]at hKL;cases hKL
 let X:m6:=upd (upd noX K (some (σ K))) L (some (σ L))
 have hXL:X L=some (σ L):=BH _ _ _;have hXK:X K=some (σ K):=by
  show upd _ L _ K=_;rw[CW _ _ hne];exact BH _ _ _
 have one:∀n b,get [(K,b0),(L,d0)] n=some b->(n=K/\b=b0)\/(n=L/\b=d0):=fun n b hn=>by
  simp only[get,Cb]at hn
  by_cases hk:K=n
  ·simp[hk]at hn;exact .inl ⟨hk.symm,hn.symm⟩
  by_cases hl:L=n
  ·simp[hk,hl]at hn;exact .inr ⟨hl.symm,hn.symm⟩
  simp[hk,hl]at hn
 have pins:∀n x,X n=some x->(n=K/\x=σ K)\/(n=L/\x=σ L):=fun n x hx=>by
  by_cases hl:n=L
  ·subst hl;rw[hXL]at hx;injection hx with hx;exact .inr ⟨rfl,hx.symm⟩
  by_cases hk:n=K
  ·subst hk;rw[hXK]at hx;injection hx with hx;exact .inl ⟨rfl,hx.symm⟩
  simp only[X]at hx;rw[CW _ _ hl,CW _ _ hk]at hx;cases hx
 have hXm:∀k x,X k=some x->A6 [K,L] k=true:=fun k x hk=>by
  rcases pins k x hk with ⟨rfl,_⟩|⟨rfl,_⟩
  ·unfold A6;rw[Nat.beq_refl];rfl
  unfold A6;rw[hKL];exact OU _
 refine Ew (X:=X) (σ:=σ) (h0:=[(K,b0),(L,d0)]) hf hb (mr hN) himm hargs (fun n b hn=>?_) (fun n b hn=>?_) (fun n x hx=>?_) (fun n m b c hn hm hnm=>?_) (EG (h w M X fun k x hk=>.inl (hXm k x hk))) ?_
 ·rcases one n b hn with ⟨rfl,rfl⟩|⟨rfl,rfl⟩
  ·exact hblk
  exact hblk2
 ·rcases one n b hn with ⟨rfl,rfl⟩|⟨rfl,rfl⟩
  ·exact .inr ⟨hM,n,σ n,hXK,rfl⟩
  exact .inr ⟨hM2,n,σ n,hXL,rfl⟩
 ·rcases pins n x hx with ⟨rfl,rfl⟩|⟨rfl,rfl⟩
  ·exact⟨mr hK,rfl⟩
  exact⟨mr hL,rfl⟩
 ·rcases one n b hn with ⟨rfl,rfl⟩|⟨rfl,rfl⟩<;>rcases one m c hm with ⟨rfl,rfl⟩|⟨rfl,rfl⟩
  ·exact absurd rfl hnm
  ·exact .inr (.inr hbne)
  ·exact .inr (.inr fun e=>hbne e.symm)
  exact absurd rfl hnm
 rintro r' s' M' σ' a' w' U ⟨he,⟨b,hb1,hbe⟩,e,he1,hee⟩ hs hR;have hpin:=(hs.pin K _ hXK).2;have hbk:=hs.blk K _ hb1;rw[hpin]at hbk;have hpin2:=(hs.pin L _ hXL).2;have hbk2:=hs.blk L _ he1;rw[hpin2]at hbk2;refine⟨U,rfl,M',⟨hs.os,hs.tape,hs.output,hs.size,fun b hb hne=>hs.old b hb ?_,hs.sub,hs.new,hs.imm⟩,fun σ''=>IL hd (ML he hR),fun σ''=>Hd hd1 (JR hbe hbk),fun σ''=>Hd hd2 (JR hee hbk2)⟩;rintro⟨n,x,hx,rfl⟩;rcases pins n x hx with ⟨rfl,rfl⟩|⟨rfl,rfl⟩
 ·exact hne (.inl ⟨hnil,rfl⟩)
 exact hne (.inr ⟨hnil2,rfl⟩)
def G7(K n L m:Nat):Av->Av
 |.one (.ptr q off)=>.one (.ptr (bif Nat.beq q K then n else bif Nat.beq q L then m else q) off)
 |x=>x
def Si(K L:Nat):Av->Bool
 |.one (.ptr q _)=>bif Nat.beq q K then true else Nat.beq q L
 |x=>x.dv
def et(n m:Nat)(b0 d0:Blk)(r:Tv)(b1 d1:Blk):Ef:=.wrs [n,m] [] fun bs _=>some ([bs=[b0,d0]],r,[b1,d1])
theorem Un{w w':World}{M M':m5}{p q:Nat->Prop}(h:Gk w w' M M' p)(hp:∀b,p b->q b):Gk w w' M M' q :=
 ⟨h.os,h.tape,h.output,h.size,fun b hb hn=>h.old b hb fun h1=>hn (hp b h1),h.sub,h.new,h.imm⟩
theorem dQ{f:FuncId}{K L n m:Nat}{xs:List Av}{b0 d0 b1 d1:Blk}{r:Tv}(h1:∀args w,(callFunc f args).run P w=.ok (.enter f args) w)(hx:xs.all (Si K L)=true)(hKL:Nat.beq K L=false)(hnm:Nat.beq n m=false)(hd0:MF b0=true)(hd2:MF d0=true)(h:Wr2 P f K L xs b0 d0 r b1 d1):EI P f (xs.map (G7 K n L m)) (et n m b0 d0 r b1 d1):=by
 have hne:K≠L:=fun e=>by rw[e,Nat.beq_refl]at hKL;cases hKL
 have hnm':n≠m:=fun e=>by rw[e,Nat.beq_refl]at hnm;cases hnm
 refine .inl ⟨h1,fun M σ w hh args cs' g hs hargs hres hc=>?_⟩;simp only[et,res,G3]at hres;cases hn:hh n with
 |none=>rw[hn]at hres;cases hres
 |some b =>
  cases hm:hh m with
  |none=>rw[hn,hm]at hres;cases hres
  |some d =>
   rw[hn,hm]at hres;simp only[j8,j9,Nat.beq_refl,l7,l8]at hres;obtain⟨rfl,rfl⟩:=hres;have hbd:=hc.head;injection hbd with e1 e2
   injection e2 with e2 _
   subst e1;subst e2;have hblk:=hs.blk n _ hn;have hblk2:=hs.blk m _ hm;have nilOf:∀ {q:Nat} {bq:Blk},MF bq=true->Bl M σ w (σ q) bq->(σ q).nil=false:=fun {q bq} hd hb=>by
    cases bq with
    |row=>cases hd
    |omap=>cases hd
    |rowx=>cases hd
    |cells l ty=>exact hb.1
   have hnil:=nilOf hd0 hblk;have hnil2:=nilOf hd2 hblk2;have hM:M (σ n).b=none:=by
    rcases hs.loc n _ hn with h|h
    ·rw[hnil]at h;cases h
    exact h
   have hM2:M (σ m).b=none:=by
    rcases hs.loc m _ hm with h|h
    ·rw[hnil2]at h;cases h
    exact h
   have hbne:(σ n).b≠(σ m).b:=by
    rcases hs.inj n m _ _ hn hm hnm' with h|h|h
    ·rw[hnil]at h;cases h
    ·rw[hnil2]at h;cases h
    exact h
   let σ2:Nat->Loc:=upd (upd σ K (σ n)) L (σ m)
   have hL:σ2 L=σ m:=BH _ _ _;have hK:σ2 K=σ n:=by
    show upd _ L _ K=_;rw[CW _ _ hne];exact BH _ _ _
   have hargs2:L2 (RA M σ2) xs args:=by
    refine L2.of (by have:=hargs.length;simpa using this) fun i x V hxi hV=>?_;obtain⟨V',hV',hR⟩:=hargs.get i (G7 K n L m x) (by rw[ld,hxi];rfl);rw[hV]at hV';injection hV' with hV';subst hV'
    have hok:=(List.all_eq_true.1 hx) x (mo hxi);unfold Si at hok;split at hok
    ·rename_i q off
     by_cases hq:q=K
     ·subst hq;simp only[G7,Nat.beq_refl,mi]at hR;have hR':V=.pointer (some ⟨(σ n).b,off,none⟩):=hR;show V=.pointer (some ⟨(σ2 q).b,off,none⟩);rw[hK];exact hR'
     have hqb:Nat.beq q K=false:=by
      cases hb:Nat.beq q K with
      |false=>rfl
      |true=>exact absurd (lx hb) hq
     rw[hqb]at hok;have:=lx hok;subst this;simp only[G7,hqb,Nat.beq_refl,mi,mj]at hR;have hR':V=.pointer (some ⟨(σ m).b,off,none⟩):=hR;show V=.pointer (some ⟨(σ2 q).b,off,none⟩);rw[hL];exact hR'
    rename_i hnp;have:G7 K n L m x=x:=by
     unfold G7;split
     ·rename_i q off;exact(hnp q off rfl).elim
     rfl
    rw[this]at hR;exact IL (σ':=σ2) (r:=.av x) hok hR
   refine(h M σ2 w args hs.imm (by rw[hK];exact⟨Hd hd0 hblk,hnil,hM⟩) (by rw[hL];exact⟨Hd hd2 hblk2,hnil2,hM2⟩) (by rw[hK,hL];exact hbne) hargs2).mono ?_;rintro en w' ⟨U,hU,M',hk,hR,hb,hb2⟩;rw[hK,hL]at hk;have g1:get ([n,m].zip [b1,d1]) n=some b1:=by simp[get,Cb]
   have g2:get ([n,m].zip [b1,d1]) m=some d1:=by simp[get,Cb,hnm']
   refine⟨U,hU,fun dst _=>⟨M',σ,Un hk fun b hb=>?_,rfl,hR σ,fun q bq hq=>?_⟩⟩
   ·rcases hb with h|h
    ·exact⟨n,by rw[g1];rfl,h⟩
    exact⟨m,by rw[g2];rfl,h⟩
   have h1:=hb σ;have h2:=hb2 σ;rw[hK]at h1;rw[hL]at h2
   by_cases e:q=n
   ·subst e;rw[g1]at hq;injection hq with hq;subst hq;exact h1
   by_cases e2:q=m
   ·subst e2;rw[g2]at hq;injection hq with hq;subst hq;exact h2
   simp[get,Cb,Ne.symm e,Ne.symm e2]at hq
end
end
section
open Go.RowKit Go.MapKept
section
variable {P:Program}{rd:Option Nat}{N:Nat}{W0:World}{X:m6}{M0:m5}{Q:Exit→AS→Prop}{s:AS}
theorem Qj{c:Code}(b:Bool)(h1:b=true->AWp P rd N W0 X M0 c Q s)(h2:b=false->AWp P rd N W0 X M0 c Q s):AWp P rd N W0 X M0 c Q s:=by
 cases hb:b with
 |true=>exact h1 hb
 |false=>exact h2 hb
def AWL(P:Program)(rd:Option Nat)(N:Nat)(W0:World)(X:m6)(M0:m5)(ops:Array Oper)(l:List Oper)(K:AS->Prop)(s:AS):Prop :=
 ∀M σ a w,Sim N W0 X M0 M σ (get s.t) (get s.h) a w->∀Q':Exit->Act->World->Prop,(∀s' M' σ' a' w',K s'->Sim N W0 X M0 M' σ' (get s'.t) (get s'.h) a' w'->Q' .normal a' w')->wpListIn (FW rd) 0 P ops Q' l a w
theorem DZ{id:Nat}{l:List Oper}(h:AWL P rd N W0 X M0 l.toArray l (Q .normal) s):AWp P rd N W0 X M0 (.region id l.toArray false) Q s:=by
 intro M σ a w hs;exact wpIn_region_lit (h M σ a w hs _ fun s' M' σ' a' w' hk hs'=>⟨s',M',σ',hk,hs'⟩)
theorem Sf{V:Env P}(hV:MQ P V){ops:Array Oper}{Q':Exit->Act->World->Prop}(l2:List Oper):∀(l:List Oper) (s s1:AS) (cs:List Prop),Nl P V N ops l s=some (cs,s1)->CI cs->∀M σ a w,Sim N W0 X M0 M σ (get s.t) (get s.h) a w->(∀M' σ' a' w',Sim N W0 X M0 M' σ' (get s1.t) (get s1.h) a' w'->wpListIn (FW rd) 0 P ops Q' l2 a' w')->wpListIn (FW rd) 0 P ops Q' (l++l2) a w
 |[],s,s1,cs,hr,hc,M,σ,a,w,hs,hK=>by
  simp only[Nl,l7,l8]at hr;obtain⟨_,rfl⟩:=hr;exact hK M σ a w hs
 |o::l,s,s1,cs,hr,hc,M,σ,a,w,hs,hK=>by
  simp only[Nl]at hr;split at hr
  ·rename_i cs1 s2 h1;split at hr
   ·rename_i ds s3 h2;simp only[l7,l8]at hr;obtain⟨rfl,rfl⟩:=hr;obtain⟨hc1,hc2⟩:=hc.append;refine wpListIn_step fun K hK' => ?_;refine SY hV h1 hc1 hs (fun _ _=>rfl) (fun _ _=>rfl) (fun hn d hd=>SW h1 hn hd) fun M' σ' a' w' hs'=>hK' _ _ (Sf hV l2 l s2 s3 ds h2 hc2 M' σ' a' w' ?_ hK);rw[(FV h1).1,(FV h1).2];exact hs'
   cases hr
  cases hr
def UV(P:Program)(V:Env P)(N:Nat)(ops:Array Oper)(l:List Oper)(ts hs:List Nat)(s:AS):Option (List Prop×AS):=match Nl P V N ops l s with
 |some (cs,s1)=>some (cs,L6 ts hs s1)
 |none=>none
theorem Fk{E:TypeId->Option (List Kd)}(hE:LS P ⟨fun _=>none,E,fun _=>false,fun _=>none⟩){ops:Array Oper}{l:List Oper}{K:AS->Prop}(k:Nat)(ow:List Nat)(qs:List (Nat×(Bool×Nat)))(tbl:List (Nat×FuncId×List Av×Ef))(ts ns:List Nat)(cs:List Prop)(S:AS)(htbl:FR P tbl)
 (hr:UV P ⟨EE tbl,E,A6 ow,get qs⟩ N ops (l.take k) ts ns s=some (cs,S))(hc:CI cs)(h:AWL P rd N W0 X M0 ops (l.drop k) K S):AWL P rd N W0 X M0 ops l K s:=by
 have hV:=htbl.env (O:=A6 ow) (q:=get qs) hE;intro M σ a w hs Q' hQ';unfold UV at hr;split at hr
 ·rename_i cs1 s1 h1;simp only[l7,l8]at hr;obtain⟨rfl,rfl⟩:=hr;have key:=Sf (Q':=Q') (rd:=rd) hV (l.drop k) (l.take k) s s1 cs1 h1 hc M σ a w hs fun M' σ' a' w' hs'=>h M' σ' a' w' (Gs hs' ts ns) Q' hQ';rw[List.take_append_drop]at key;exact key
 cases hr
theorem Er{E:TypeId->Option (List Kd)}(hE:LS P ⟨fun _=>none,E,fun _=>false,fun _=>none⟩){ops:Array Oper}{l:List Oper}{K:AS->Prop}(ow:List Nat)(qs:List (Nat×(Bool×Nat)))(tbl:List (Nat×FuncId×List Av×Ef))(ts ns:List Nat)(cs:List Prop)(S:AS)(htbl:FR P tbl)
 (hr:UV P ⟨EE tbl,E,A6 ow,get qs⟩ N ops l ts ns s=some (cs,S))(hc:CI cs)(h:K S):AWL P rd N W0 X M0 ops l K s:=by
 have hV:=htbl.env (O:=A6 ow) (q:=get qs) hE;intro M σ a w hs Q' hQ';unfold UV at hr;split at hr
 ·rename_i cs1 s1 h1;simp only[l7,l8]at hr;obtain⟨rfl,rfl⟩:=hr;exact Q6 (Q':=Q') (rd:=rd) hV l s s1 cs1 h1 hc M σ a w hs fun M' σ' a' w' hs'=>hQ' _ M' σ' a' w' h (Gs hs' ts ns)
 cases hr
theorem vE(n:Nat)(b b':Blk)(hn:get s.h n=some b)(hb:∀M σ w x,Bl M σ w x b->Bl M σ w x b'):Cv N W0 X M0 s ⟨s.t,put s.h n b'⟩:=by
 intro M σ a w hs;have hk:∀m c,get (put s.h n b') m=some c->∃b0,get s.h m=some b0/\(Bl M σ w (σ m) b0->Bl M σ w (σ m) c):=fun m c hm=>by
  rw[JK]at hm;split at hm
  ·rename_i e;subst e;injection hm with hm
   subst hm;exact⟨b,hn,hb M σ w _⟩
  exact⟨c,hm,id⟩
 refine⟨M,σ,hs.os,hs.tape,hs.output,hs.size,hs.old,hs.sub,hs.new,hs.pin,hs.defers,hs.room,hs.tmps,hs.imm,fun m c hm=>?_,fun m c hm=>?_,fun m k c c' hm hk' hne=>?_⟩
 ·obtain⟨b0,e1,e2⟩:=hk m c hm;exact e2 (hs.blk m b0 e1)
 ·obtain⟨b0,e1,_⟩:=hk m c hm;exact hs.loc m b0 e1
 obtain⟨b0,e1,_⟩:=hk m c hm;obtain⟨b0',e1',_⟩:=hk k c' hk';exact hs.inj m k b0 b0' e1 e1' hne
def U5:Nat->List (List Cl)->List (Nat×List Cl)
 |_,[]=>[]
 |k,l::r=>(k,l)::U5 (k+1) r
theorem Mh:∀(ls:List (List Cl)) (k i:Nat),get (U5 k ls) i=if k<=i then ls[i-k]? else none
 |[],k,i=>by simp[U5,get]
 |l::r,k,i=>by
  simp only[U5,get,Cb]
  by_cases h:k=i
  ·subst h;simp
  simp only[h,mm,mj];rw[Mh r (k+1) i]
  by_cases h2:k<=i
  ·rw[if_pos mz,if_pos h2,show i-k=(i-(k+1))+1 by omega,List.getElem?_cons_succ]
  rw[if_neg mz,if_neg h2]
theorem vD{s:AS}(S:AS)(n sz len:Nat)(f:Nat->Nat->Cl)(ty:TypeId)(hn:get s.h n=some (.row sz len f ty))(hl:Nat.blt 0 len=true)(hS:(⟨s.t,put s.h n (.rowx sz len m8 ty (U5 0 ((List.range len).map fun i=>IJ f i 0 sz)))⟩:AS)=S):Cv N W0 X M0 s S:=by
 subst hS;have h0:0<len:=by
  have h1:Nat.ble (0+1) len=true:=hl;exact mr h1
 refine vE n _ _ hn fun M σ w x hb=>?_;rcases hb with ⟨_,h⟩|⟨e0,c,e1,e2,e3,e4,g,e5⟩
 ·omega
 refine⟨e0,c,e1,e2,e3,e4,g,fun i j hi hj=>⟨(e5 i j hi hj).1,fun hno=>?_⟩,fun i l hl=>?_⟩
 ·rw[Mh]at hno;simp[hi]at hno
 rw[Mh,if_pos (lv _),Nat.sub_zero,ld]at hl
 by_cases hi:i<len
 ·rw[lc hi]at hl;simp only[Option.map_some,l7]at hl;subst hl;refine⟨hi,L2.of (by simp[EY]) fun j a b ha hb=>?_⟩;have hj:j<sz:=by have:=(List.getElem?_eq_some_iff.1 ha).1;rwa [EY]at this
  rw[Ku _ _ _ _ _ hj,mw]at ha;injection ha with ha
  subst ha;rw[ld,lc hj]at hb;simp only[Option.map_some,l7]at hb;subst hb;exact QC (e5 i j hi hj).2
 rw[cw (by simp;omega)]at hl;cases hl
theorem I2{s:AS}(S:AS)(n sz len:Nat)(f:Nat->Nat->Cl)(ty:TypeId)(ls:List (List Cl))(hn:get s.h n=some (.rowx sz len f ty (U5 0 ls)))(hlen:Nat.beq ls.length len=true)(hsz:ls.all (fun l=>Nat.beq l.length sz&&l.all Cl.dv)=true)(hS:(⟨s.t,put s.h n (.row sz len (A9 sz len ls.flatten) ty)⟩:AS)=S):Cv N W0 X M0 s S:=by
 subst hS;have hlen:=lx hlen;refine vE n _ _ hn fun M σ w x hb=>?_;obtain⟨e0,c,e1,e2,e3,e4,g,e5,e6⟩:=hb;refine .inr ⟨e0,c,e1,e2,e3,e4,g,fun i j hi hj=>⟨(e5 i j hi hj).1,?_⟩⟩;have hil:i<ls.length:=by omega
 have hmem:=List.getElem_mem hil;have hall:=(List.all_eq_true.1 hsz) _ hmem;simp only[me]at hall;have hli:=lx hall.1;obtain⟨_,hL⟩:=e6 i ls[i] (by rw[Mh,if_pos (lv _),Nat.sub_zero,ea hil]);have hflat:∀(q:List (List Cl)) (i j:Nat) (hi:i<q.length),(∀l∈q,l.length=sz)->j<sz->q.flatten[i*sz+j]? = q[i][j]? := by
  intro q;induction q with
  |nil=>intro i j hi;simp at hi
  |cons l r ih =>
   intro i j hi hall hj;have h1:=hall l m3;cases i with
   |zero=>simp[List.getElem?_append,h1,hj]
   |succ i =>
    rw[List.flatten_cons,kz (by rw[h1,Nat.add_mul];omega),h1,show(i+1)*sz+j-sz=i*sz+j by rw[Nat.add_mul];omega];simpa using ih i j (by simpa using hi) (fun l hl=>hall l (by simp[hl])) hj
 have hjl:j<ls[i].length:=by omega
 rw[ZM _ _ _ _ _ hi,aE,hflat ls i j hil (fun l hl=>by
  have h:=(List.all_eq_true.1 hsz) l hl;simp only[me]at h;exact lx h.1) hj,ea hjl,Option.getD_some]
 obtain⟨v,hv,hR⟩:=hL.get j _ (ea hjl);rw[ld,lc hj]at hv;simp only[Option.map_some,l7]at hv;subst hv;exact Ol ((List.all_eq_true.1 hall.2) _ (List.getElem_mem hjl)) hR
end
end
section
open Go.RowKit Go.MapKept
def UB(is:List Nat):Nat->List Cl->List Cl->List Cl
 |k,x::a,y::b=>(bif A6 is k then x else y)::UB is (k+1) a b
 |_,_,_=>[]
def bI(is:List Nat)(vs:Nat->Value):Nat->List Cl->List Cl
 |k,y::b=>(bif A6 is k then .val (vs k)else y)::bI is vs (k+1) b
 |_,[]=>[]
section
variable {P:Program}{M M':m5}{σ σ':Nat→Loc}{w w':World}
theorem fG(is:List Nat)(vs:Nat->Value):∀(k:Nat) (l l0:List Cl) (c:List Value),l=UB is k l l0->l.length=l0.length->(∀j,j<c.length->vs (k+j)=c.getD j undef)->(∀x∈l0,x.dv=true\/True)->L2 (R M σ) l c->L2 (R M σ) (bI is vs k l0) c
 |k,[],[],c,_,_,_,_,h=>by cases h;exact .nil
 |k,[],_::_,c,_,hl,_,_,h=>by simp at hl
 |k,_::_,[],c,_,hl,_,_,h=>by simp at hl
 |k,x::l,y::l0,c,he,hl,hv,hd,h=>by
  cases h with
  |cons h1 h2 =>
   rename_i v c;simp only[UB,List.cons.injEq]at he;refine .cons ?_ (fG is vs (k+1) l l0 c he.2 (by simpa using hl) (fun j hj=>by
    have:=hv (j+1) (by simp;omega);rw[show k+1+j=k+(j+1)by omega,this];rfl) (fun x hx=>.inr trivial) h2)
   cases hm:A6 is k with
   |true =>
    have:=hv 0 m3;simp only[mi];exact⟨by rw[show k=k+0 from rfl,this];rfl,by rw[show k=k+0 from rfl,this];exact MK h1⟩
   |false =>
    rw[hm]at he;simp only[mj]at he ⊢;rw[<- he.1];exact h1
theorem X5(is:List Nat)(vs:Nat->Value)(hM:∀b o,M b=some o->M' b=some o):∀(k:Nat) (l l1:List Cl) (c c':List Value),l.length=l1.length->(∀j,j<c.length->vs (k+j)=c.getD j undef)->L2 (R M σ) l c->L2 (R M' σ) (bI is vs k l1) c'->L2 (R M' σ) (UB is k l l1) c'
 |k,[],[],c,c',_,_,_,h=>by cases h;exact .nil
 |k,[],_::_,c,c',hl,_,_,h=>by simp at hl
 |k,_::_,[],c,c',hl,_,_,h=>by simp at hl
 |k,x::l,y::l1,c,c',hl,hv,h0,h=>by
  cases h0 with
  |cons h1 h2 =>
   rename_i v c;simp only[bI]at h;cases h with
   |cons h3 h4 =>
    simp only[UB];refine .cons ?_ (X5 is vs hM (k+1) l l1 c _ (by simpa using hl) (fun j hj=>by
     have:=hv (j+1) (by simp;omega);rw[show k+1+j=k+(j+1)by omega,this];rfl) h2 h4)
    cases hm:A6 is k with
    |true =>
     rw[hm]at h3;have h5:=h3.1;have h6:=hv 0 m3;rw[h5,show k=k+0 from rfl,h6];exact DO hM (fun _ _=>rfl) h1
    |false=>rw[hm]at h3;exact h3
theorem xG{hh:Nat->Option Blk}{f:FuncId}{K L n m:Nat}{xs:List Av}{args:List Value}{b d b0 d0 b1 d1:Blk}{r:Tv}(hx:xs.all (Si K L)=true)(hKL:Nat.beq K L=false)(hnm':n≠m)(hs:Std M σ w hh)(hn:hh n=some b)(hm:hh m=some d)(hnil:(σ n).nil=false)(hnil2:(σ m).nil=false)(hblk:∀σ',(∀q,q≠K->q≠L->σ' q=σ q)->Bl M σ' w (σ n) b0)(hblk2:∀σ',Bl M σ' w (σ m) d0)
 (hargs:L2 (RA M σ) (xs.map (G7 K n L m)) args)(h:Wr2 P f K L xs b0 d0 r b1 d1):Calls P f args.toArray w (fun en w'=>∃U,en=.returned U/\∃M',Gk w w' M M' (fun b=>only (σ n) b\/only (σ m) b)/\(∀σ',RT M' σ' r U)/\(∀σ',Bl M' σ' w' (σ n) b1)/\∀σ',Bl M' σ' w' (σ m) d1):=by
 have hne:K≠L:=fun e=>by rw[e,Nat.beq_refl]at hKL;cases hKL
 have hM:M (σ n).b=none:=by
  rcases hs.loc n _ hn with h|h
  ·rw[hnil]at h;cases h
  exact h
 have hM2:M (σ m).b=none:=by
  rcases hs.loc m _ hm with h|h
  ·rw[hnil2]at h;cases h
  exact h
 have hbne:(σ n).b≠(σ m).b:=by
  rcases hs.inj n m _ _ hn hm hnm' with h|h|h
  ·rw[hnil]at h;cases h
  ·rw[hnil2]at h;cases h
  exact h
 let σ2:Nat->Loc:=upd (upd σ K (σ n)) L (σ m)
 have hL:σ2 L=σ m:=BH _ _ _;have hK:σ2 K=σ n:=by
  show upd _ L _ K=_;rw[CW _ _ hne];exact BH _ _ _
 have hrest:∀q,q≠K->q≠L->σ2 q=σ q:=fun q h1 h2=>by
  show upd _ L _ q=_;rw[CW _ _ h2,CW _ _ h1]
 have hargs2:L2 (RA M σ2) xs args:=by
  refine L2.of (by have:=hargs.length;simpa using this) fun i x V hxi hV=>?_;obtain⟨V',hV',hR⟩:=hargs.get i (G7 K n L m x) (by rw[ld,hxi];rfl);rw[hV]at hV';injection hV' with hV';subst hV'
  have hok:=(List.all_eq_true.1 hx) x (mo hxi);unfold Si at hok;split at hok
  ·rename_i q off
   by_cases hq:q=K
   ·subst hq;simp only[G7,Nat.beq_refl,mi]at hR;have hR':V=.pointer (some ⟨(σ n).b,off,none⟩):=hR;show V=.pointer (some ⟨(σ2 q).b,off,none⟩);rw[hK];exact hR'
   have hqb:Nat.beq q K=false:=by
    cases hb:Nat.beq q K with
    |false=>rfl
    |true=>exact absurd (lx hb) hq
   rw[hqb]at hok;have:=lx hok;subst this;simp only[G7,hqb,Nat.beq_refl,mi,mj]at hR;have hR':V=.pointer (some ⟨(σ m).b,off,none⟩):=hR;show V=.pointer (some ⟨(σ2 q).b,off,none⟩);rw[hL];exact hR'
  rename_i hnp;have:G7 K n L m x=x:=by
   unfold G7;split
   ·rename_i q off;exact(hnp q off rfl).elim
   rfl
  rw[this]at hR;exact IL (σ':=σ2) (r:=.av x) hok hR
 refine(h M σ2 w args hs.imm (by rw[hK];exact⟨hblk σ2 hrest,hnil,hM⟩) (by rw[hL];exact⟨hblk2 σ2,hnil2,hM2⟩) (by rw[hK,hL];exact hbne) hargs2).mono ?_;rintro en w' ⟨U,hU,M',hk,hR,hb,hb2⟩;rw[hK,hL]at hk;refine⟨U,hU,M',hk,hR,fun σ' => ?_,fun σ' => ?_⟩
 ·have:=hb σ';rw[hK]at this;exact this
 have:=hb2 σ';rw[hL]at this;exact this
def wqV(n m:Nat)(is:List Nat)(l0:List Cl)(ty:TypeId)(d0:Blk)(r:Tv)(d1:Blk):Ef:=.wq m n fun y x=>match x with
 |.cells l ty'=>bif Nat.beq l.length l0.length then some ([Blk.cells l ty'=.cells (UB is 0 l l0) ty,y=d0],r,d1)else none
 |_=>none
theorem K9{f:FuncId}{K L n m:Nat}{xs:List Av}{is:List Nat}{l0:List Cl}{ty:TypeId}{d0 d1:Blk}{r:Tv}{B0:(Nat->Value)->List Cl}(h1:∀args w,(callFunc f args).run P w=.ok (.enter f args) w)(hx:xs.all (Si K L)=true)(hKL:Nat.beq K L=false)(hnm:Nat.beq n m=false)(hd2:MF d0=true)(hdl:∀vs,(bI is vs 0 l0).all Cl.dv=true)
 (e0:∀vs,bI is vs 0 l0=B0 vs)(h:∀vs,Wr2 P f K L xs (.cells (B0 vs) ty) d0 r (.cells (B0 vs) ty) d1):EI P f (xs.map (G7 K n L m)) (wqV n m is l0 ty d0 r d1):=by
 have hnm':n≠m:=fun e=>by rw[e,Nat.beq_refl]at hnm;cases hnm
 refine .inl ⟨h1,fun M σ w hh args cs' g hs hargs hres hc=>?_⟩;simp only[wqV,res]at hres;cases hm:hh m with
 |none=>rw[hm]at hres;cases hres
 |some d =>
  cases hn:hh n with
  |none=>rw[hn,hm]at hres;cases hres
  |some b =>
   rw[hn,hm]at hres;cases b with
   |row=>simp at hres
   |omap=>simp at hres
   |rowx=>simp at hres
   |cells l ty' =>
    simp only at hres;cases hlen:Nat.beq l.length l0.length with
    |false=>rw[hlen]at hres;simp at hres
    |true =>
     have hmn:Nat.beq m n=false:=by
      cases hb:Nat.beq m n with
      |false=>rfl
      |true=>exact absurd (lx hb).symm hnm'
     rw[hlen,hmn]at hres;simp only[mi,l7,l8]at hres;obtain⟨rfl,rfl⟩:=hres;have hlen0:=lx hlen;have hbd:=hc.head;have hdd:=hc.tail.head;subst hdd;injection hbd with hl hty
     subst hty;obtain⟨hnil,c,hheap,hL⟩:=hs.blk n _ hn;have hblk2:=hs.blk m _ hm;have hnil2:(σ m).nil=false:=by
      cases d with
      |row=>cases hd2
      |omap=>cases hd2
      |rowx=>cases hd2
      |cells l ty=>exact hblk2.1
     let vs:Nat->Value:=fun k=>c.getD k undef
     have hvs:∀j,j<c.length->vs (0+j)=c.getD j undef:=fun j _=>by simp only[vs,mw]
     have hin:L2 (R M σ) (bI is vs 0 l0) c:=fG is vs 0 l l0 c hl hlen0 hvs (fun _ _=>.inr trivial) hL;have hcall:=xG (b0:=Blk.cells (B0 vs) ty') (b1:=Blk.cells (B0 vs) ty') hx hKL hnm' hs hn hm hnil hnil2 (fun σ' _=>⟨hnil,c,hheap,by rw[<- e0 vs];exact hin.mono fun a ha v hv=>(Mx ((List.all_eq_true.1 (hdl vs)) a ha)).2 ((Mx ((List.all_eq_true.1 (hdl vs)) a ha)).1 hv)⟩) (fun σ'=>Hd hd2 hblk2) hargs (h vs);refine hcall.mono ?_;rintro en w' ⟨U,hU,M',hk,hR,hb,hb2⟩;refine⟨U,hU,fun dst _=>⟨M',σ,Un hk fun b hb=>hb.symm,rfl,hR σ,hb2 σ,?_⟩⟩;obtain⟨k1,c',k2,k3⟩:=hb σ;refine⟨k1,c',k2,?_⟩;rw[<- e0 vs]at k3;have k4:=X5 is vs hk.sub 0 l l0 c c' hlen0 hvs hL k3;rw[<- hl]at k4;exact k4
end
end
section
open Go.RowKit Go.MapKept
def fE(P:Program)(V:Env P)(N:Nat)(o:Oper)(G:Prop)(s:AS):Option (List Prop×AS):=match eff P V o.dst o.op (evG (get s.t) (Iq o.op))with
 |some e=>match res (get s.h) e with
  |some (cs,g)=>bif KA N s o.dst g then some (M9 (get s.t) G (Iq o.op)++cs,Y5 s o.dst g)else none
  |none=>none
 |none=>none
section
variable {P:Program}{rd:Option Nat}{N:Nat}{W0:World}{X:m6}{M0:m5}{s:AS}
theorem Ti{E:TypeId->Option (List Kd)}(hE:LS P ⟨fun _=>none,E,fun _=>false,fun _=>none⟩){ops:Array Oper}{o:Oper}{l:List Oper}{K:AS->Prop}(j:Nat)(want:Bool)(G:Prop)(qs:List (Nat×(Bool×Nat)))(tbl:List (Nat×FuncId×List Av×Ef))(cs:List Prop)(S:AS)(hg:o.guard=some (j,want))(hG:IH (get s.t) ops j want=some G)(hGp:G)(htbl:FR P tbl)
 (hst:fE P ⟨EE tbl,E,A6 [],get qs⟩ N o G s=some (cs,S))(hc:CI cs)(h:AWL P rd N W0 X M0 ops l K S):AWL P rd N W0 X M0 ops (o::l) K s:=by
 have hV:=htbl.env (O:=A6 []) (q:=get qs) hE;intro M σ a w hs Q' hQ';refine wpListIn_step fun K0 hK' => ?_;rw[if_pos ((Fh hs.tmps hs.room hg hG).2 hGp)];unfold fE at hst;split at hst
 ·rename_i e he;split at hst
  ·rename_i cs' g hr;cases hok:KA N s o.dst g with
   |false=>rw[hok]at hst;cases hst
   |true =>
    rw[hok]at hst;simp only[mi,l7,l8]at hst;obtain⟨rfl,rfl⟩:=hst;obtain⟨hc1,hc2⟩:=hc.append;have hgo0:=Mg hok (fun n v b hg=>by subst hg;exact Wa hr) (fun l v hg=>by subst hg;exact Q7 hr) (fun n q v b bq hg=>by subst hg;exact Wb hr) (fun n b v hg=>by subst hg;exact Q8 hr);refine(XM hV (fun x v hv=>dE hGp hc1 hs.tmps hv) he hs.std hr hc2 (XE hgo0)).wp ?_ (fun c hc=>by rw[hc]at he;cases he);rintro U w' ⟨M',σ',ho⟩;have hsim:=Pl hs ho hgo0;rw[<- (Gv s o.dst g).1,<- (Gv s o.dst g).2]at hsim;exact hK' _ _ (h M' σ' _ w' hsim Q' hQ')
  cases hst
 cases hst
theorem I6{ops:Array Oper}{o:Oper}{l:List Oper}{K:AS->Prop}(j:Nat)(want:Bool)(G:Prop)(S:AS)(hg:o.guard=some (j,want))(hG:IH (get s.t) ops j want=some G)(hGn:¬ G)(hok:KA N s o.dst (.val (.av (.one (.val (.bool false)))))=true)(hS:Qy s o.dst (.grd G (.one (.val (.bool false))))=S)
 (h:AWL P rd N W0 X M0 ops l K S):AWL P rd N W0 X M0 ops (o::l) K s:=by
 subst hS;intro M σ a w hs Q' hQ';refine wpListIn_step fun K0 hK' => ?_;rw[if_neg (fun h=>hGn ((Fh hs.tmps hs.room hg hG).1 h))];refine⟨fun _ _=>trivial,?_⟩;have hgo0:=Mg hok (fun n v b hg=>by cases hg) (fun l v hg=>by cases hg) (fun n q v b bq hg=>by cases hg) (fun n b v hg=>by cases hg);have hsim:=Pl hs (g:=.val (.grd G (.one (.val (.bool false))))) (V:=undef) (w':=w) (M':=M) (σ':=σ) ⟨Gk.refl hs.imm _,rfl,fun h=>absurd h hGn,fun _=>rfl⟩ ⟨hgo0.1,trivial⟩;rw[<- (Gv s o.dst _).1,<- (Gv s o.dst _).2]at hsim;exact hK' _ _ (h M σ _ w hsim Q' hQ')
end
end
section
open Go.RowKit
def BkN:Blk->Prop
 |.cells l _=>∀c∈l,NM c
 |.row _ _ f _=>∀i j,NM (f i j)
 |.omap _ _ _ _ vf=>∀i j,NM (vf i j)
 |.rowx .. => False
theorem eJ{M M':m5}(h:∀b c t f,M b=some (.cells c t f)->M' b=some (.cells c t f)){σ:Nat->Loc}{w:World}{x:Loc}{b:Blk}(hr:Bl M σ w x b)(hn:BkN b):Bl M' σ w x b:=by
 cases b with
 |cells l ty =>
  obtain⟨h0,c,hc,hl⟩:=hr;exact⟨h0,c,hc,hl.mono fun a ha b hb=>iU h hb (hn a ha)⟩
 |row sz len f ty =>
  rcases hr with hr|⟨h0,c,hc,h1,h2,h3,g,hg⟩
  ·exact .inl hr
  exact .inr ⟨h0,c,hc,h1,h2,h3,g,fun i j hi hj=>⟨(hg i j hi hj).1,XY h (hg i j hi hj).2 (hn i j)⟩⟩
 |omap agg nv len kf vf =>
  obtain⟨h0,es,ck,g,hc,h1,h2,h3⟩:=hr;exact⟨h0,es,ck,g,hc,h1,h2,fun i j hi hj=>XY h (h3 i j hi hj) (hn i j)⟩
 |rowx=>exact hn.elim
def Blk.isP:Blk->Bool
 |.cells .. => true
 |.omap .. => true
 |_=>false
def Blk.isR:Blk->Bool
 |.row .. => true
 |_=>false
def slV:Value->Bool
 |.slice (some _) _ _=>true
 |_=>false
def Wq(o:Obj)(k:Nat):Option Value:=match o with
 |.cells c _ _=>c[k]?
 |_=>none
def LN(bq off:Nat)(W:World)(b:Nat):Prop:=∃o len cap,W.heap[bq]? = some o/\Wq o off=some (.slice (some ⟨b,0,none⟩) len cap)
def TH(q off r:Nat)(h:List (Nat×Blk)):Bool:=match get h q with
 |some (.cells l _)=>(match get h r with
  |some (.row ..)=>(match l[off]? with
   |some (.own r' _ _)=>Nat.beq r' r
   |_=>false)
  |none=>(match l[off]? with
   |none=>true
   |some (.val v)=>!slV v
   |some (.ptr ..)=>true
   |_=>false)
  |_=>false)
 |_=>false
def PXr(pids:List Nat)(r:Nat)(G:Prop)(X:m6):Prop:=∀m x,X m=some x->(∃q,A6 pids q=true/\∃y,X q=some y/\y.b=x.b)\/(m=r/\G/\x.nil=false)
section
variable {N:Nat}{W0 W W':World}{X XA:m6}{M0 M M' M3:m5}{σ σ' σ3:Nat→Loc}{T T':Nat→Option Tv}{H H':Nat→Option Blk}{a a':Act}{h:List (Nat×Blk)}{q off r:Nat}
theorem XC(hs:Sim N W0 X M0 M σ T (get h) a W)(hb:TH q off r h=true){b:Nat}(hh:LN (σ q).b off W b):(∃x,get h r=some x)/\(σ r).nil=false/\(σ r).b=b:=by
 unfold TH at hb;cases hq:get h q with
 |none=>rw[hq]at hb;cases hb
 |some bq =>
  rw[hq]at hb;cases bq with
  |cells l ty =>
   obtain⟨hn,c,hc,hl⟩:=hs.blk q _ hq;obtain⟨o,len,cap,ho,hcell⟩:=hh;rw[hc]at ho;injection ho with ho;subst ho
   have hcl:c[off]? = some (.slice (some ⟨b,0,none⟩) len cap):=by simpa [Wq]using hcell
   have hoff:off<l.length:=by rw[hl.length];exact(List.getElem?_eq_some_iff.1 hcl).1
   have hcl2:l[off]? = some l[off]:=ea hoff;obtain⟨v,hv,hR⟩:=hl.get off _ hcl2;rw[hcl]at hv;injection hv with hv;subst hv
   generalize l[off]=cl at hcl2 hR;cases hr:get h r with
   |none =>
    simp only[hr,hcl2]at hb;exfalso;cases cl with
    |val u =>
     obtain⟨h1,_⟩:=hR;subst h1;simp[slV]at hb
    |ptr n o=>cases hR
    |_=>cases hb
   |some br =>
    simp only[hr,hcl2]at hb;cases br with
    |row sz len' f ty' =>
     cases cl with
     |own r' sz' len'' =>
      have:=lx hb;subst this;unfold R at hR;split at hR
      ·cases hR.2
      rename_i hnil;injection hR with h1
      injection h1 with h1
      injection h1 with h1
      exact⟨⟨_,rfl⟩,by simpa using hnil,h1.symm⟩
     |_=>cases hb
    |_=>cases hb
  |_=>cases hb
theorem Y4(hs:Sim N W0 X M0 M σ T (get h) a W)(hb:TH q off r h=true){x:Blk}(hr:get h r=some x)(hn:(σ r).nil=false):LN (σ q).b off W (σ r).b:=by
 unfold TH at hb;cases hq:get h q with
 |none=>rw[hq]at hb;cases hb
 |some bq =>
  rw[hq]at hb;cases bq with
  |cells l ty =>
   obtain⟨_,c,hc,hl⟩:=hs.blk q _ hq;simp only[hr]at hb;cases x with
   |row sz len' f ty' =>
    cases hcl:l[off]? with
    |none=>simp only[hcl]at hb;cases hb
    |some cl =>
     simp only[hcl]at hb;cases cl with
     |own r' sz' len'' =>
      have:=lx hb;subst this;obtain⟨v,hv,hR⟩:=hl.get off _ hcl;unfold R at hR;rw[hn]at hR;exact⟨_,len'',(σ r').cap,hc,by simp only[Wq,List.getElem?_toArray];rw[hv];exact congrArg some hR⟩
     |_=>cases hb
   |_=>cases hb
  |_=>cases hb
theorem qJ{Xr X2:m6}(hs:Sim N W0 XA M0 M' σ' T H a W)(hr:Sim N W Xr M' M3 σ3 T' H' a' W')(hin:∀b,inX Xr b->inX XA b\/W0.heap.size<=b)
 {H2:Nat->Option Blk}(hH2:∀n b,H2 n=some b->H' n=some b)(hH:∀n b,H2 n=some b->BkN b){a2:Act}{T2:Nat->Option Tv}(hsz:a2.tmps.size=N)(hT2:∀i v,T2 i=some v->RT (Mw M' M3) σ3 v (a2.tmps.getD i undef))(hX2:∀n x,X2 n=some x->N<=n/\σ3 n=x)(hX3:∀b,inX XA b↔inX X2 b)(hd:KM X2 M0 (Mw M' M3) a2.defers) :
  Sim N W0 X2 M0 (Mw M' M3) σ3 T2 H2 a2 W':=by
 have hsub:∀b o,M' b=some o->M3 b=some o:=hr.sub;refine⟨hr.os.trans hs.os,hr.tape.trans hs.tape,hr.output.trans hs.output,ln hs.size hr.size,fun b hb hx=>?_,fun b o h=>U9 (hs.sub b o h),fun b o h h' => ?_,hX2,hd,hsz,hT2,fun b o h=>hr.imm b o (KE hsub h),fun n b h=>eJ (TW hsub) (hr.blk n b (hH2 n b h)) (hH n b h),fun n b h=>?_,fun n m b c hb hc hne=>hr.inj n m b c (hH2 n b hb) (hH2 m c hc) hne⟩
 ·have h1:¬ inX XA b:=fun h=>hx ((hX3 b).1 h);refine(hr.old b (lp hb hs.size) fun h=>?_).trans (hs.old b hb h1);rcases hin b h with h|h
  ·exact h1 h
  omega
 ·cases h1:M' b with
  |some o'=>exact hs.new b o' h1 h'
  |none=>exact ln hs.size (hr.new b o (KE hsub h) h1)
 refine(hr.loc n b (hH2 n b h)).imp id fun h=>⟨?_,?_⟩
 ·cases hc:Mw M' M3 (σ3 n).b with
  |none=>rfl
  |some o=>have:=KE hsub hc;rw[h.1]at this;cases this
 rcases h.2 with h|h
 ·exact .inl (ln hs.size h)
 rcases hin _ h with h|h
 ·exact .inr ((hX3 _).1 h)
 exact .inl h
theorem bF(hs:Sim N W0 X M0 M σ T H a W){row:Option Nat}(hH:∀n b,H n=some b->b.isM=true->∀r,row=some r->(σ n).b<r)(hg:W.grownBy W' row)(hr:∀r,row=some r->W0.heap.size<=r/\(∃o:Obj,W.heap[r]? = some o/\o.isCells=false)/\M r=none):Sim N W0 X M0 M σ T H a W':=by
 have hsame:∀b (o:Obj),W.heap[b]? = some o->(o.isCells=true\/M b=some o\/b<W0.heap.size)->W'.heap[b]? = some o:=fun b o hb hc=>by
  refine(hg.block b (Array.getElem?_eq_some_iff.1 hb).1 fun e=>?_).trans hb;obtain⟨h1,⟨o',h2,h3⟩,h4⟩:=hr b e.symm;rw[hb]at h2;injection h2 with h2;subst h2
  rcases hc with h|h|h
  ·rw[h3]at h;cases h
  ·rw[h4]at h;cases h
  omega
 refine⟨hg.os.trans hs.os,hg.tape.trans hs.tape,hg.output.trans hs.output,ln hs.size hg.size,fun b hb hx=>?_,hs.sub,hs.new,hs.pin,hs.defers,hs.room,hs.tmps,fun b o h=>hsame b o (hs.imm b o h) (.inr (.inl h)),fun n b h=>?_,hs.loc,hs.inj⟩
 ·have h1:=hs.old b hb hx;have h2:W0.heap[b]? = some W0.heap[b]:=l4 hb;rw[h2]at h1 ⊢;exact hsame b _ h1 (.inr (.inr hb))
 refine(hs.blk n b h).mono (fun _ _ h=>h) (fun _ _=>rfl) fun hn=>?_;have hb:=hs.blk n b h;cases b with
 |cells l ty=>obtain⟨_,c,hc,_⟩:=hb;rw[hc];exact hsame _ _ hc (.inl rfl)
 |row sz len f ty =>
  rcases hb with ⟨h0,_⟩|⟨_,c,hc,_⟩
  ·rw[hn]at h0;cases h0
  rw[hc];exact hsame _ _ hc (.inl rfl)
 |omap =>
  obtain⟨_,es,ck,g,hc,_⟩:=hb;exact hg.block _ (Array.getElem?_eq_some_iff.1 hc).1 fun e=>by have:=hH n _ h rfl _ e.symm;omega
 |rowx sz len f ty hh=>obtain⟨_,c,hc,_⟩:=hb;rw[hc];exact hsame _ _ hc (.inl rfl)
theorem US{fid:Nat}{XB:m6}{σ2:Nat->Loc}(hs:Sim N W0 XA M0 M' σ' T H a W){a2:Act}(hd:a2.defers=[])(hr:a2.tmps.size=N)(hpin:∀n x,XB n=some x->N<=n/\σ2 n=x)(hσ:∀n,n≠fid->σ2 n=σ' n)
 (hT:∀i v,T' i=some v->RT M' σ' v (a2.tmps.getD i undef)/\v.no fid=true)(hHf:∀n b,H n=some b->n≠fid/\b.no fid=true/\((σ' n).nil=true\/inX XB (σ' n).b)):Sim N W XB M' M' σ2 T' H a2 W:=by
 refine⟨rfl,rfl,rfl,lu _,fun _ _ _=>rfl,fun _ _ h=>h,fun b o h h'=>by(rw[h]at h';cases h'),hpin,⟨by rw[hd];trivial,fun _=>hd⟩,hr,fun i v hv=>D6 (fun _ _ h=>h) (fun d hd=>hσ d fun e=>?_) (hT i v hv).1,hs.imm,fun n b hb=>?_,fun n b hb=>?_,fun n m b c hb hc hne=>?_⟩
 ·subst e;rw[(hT i v hv).2]at hd;cases hd
 ·obtain⟨h1,h2,h3⟩:=hHf n b hb;rw[hσ n h1];exact(hs.blk n b hb).mono (fun _ _ h=>h) (fun d hd=>hσ d fun e=>by subst e;rw[h2]at hd;cases hd) (fun _=>rfl)
 ·obtain⟨h1,h2,h3⟩:=hHf n b hb;rw[hσ n h1];rcases hs.loc n b hb with h4|h4
  ·exact .inl h4
  exact h3.imp id fun h=>⟨h4.1,.inr h⟩
 rw[hσ n (hHf n b hb).1,hσ m (hHf m c hc).1];exact hs.inj n m b c hb hc hne
end
end
section
open Go.RowKit
def fL(N:Nat)(pids:List Nat)(fid q r:Nat)(t0:List (Nat×Tv))(ps:Array Tmp):Bool :=
 t0.all (fun p=>pvT pids p.2)&&(pids.all (fun m=>Nat.ble N m)&&(!A6 pids fid&&(!A6 pids r&&(!Nat.beq r fid&&(Nat.ble N fid&&(Nat.ble N r&&(A6 pids q&&ps.toList.all (fun p=>Nat.blt p N))))))))
def famB(pids:List Nat)(fid q off r:Nat)(h:List (Nat×Blk)):Bool :=
 h.all (fun p=>(A6 pids p.1&&p.2.isP||Nat.beq p.1 r&&p.2.isR)&&p.2.no fid)&&(pids.all (fun m=>(get h m).isSome)&&TH q off r h)
def HsN(h:List (Nat×Blk)):Prop:=∀n b,get h n=some b->BkN b
theorem VL{l:List Cl}{ty:TypeId}(h:∀c∈l,NM c):BkN (.cells l ty):=h
theorem d4{α:Type}[Inhabited α]{sz len:Nat}{c:α->List Cl}{xs:List α}{ty:TypeId}(h:∀x,∀y∈c x,NM y):BkN (.row sz len (AL c xs) ty):=fun i j=>by
 unfold AL;rw[aE];cases hj:(c (xs.getD i default))[j]? with
 |none=>exact .val _
 |some y=>exact h _ y (mo hj)
theorem d5{κ α:Type}[Inhabited κ][Inhabited α]{agg:Bool}{nv len:Nat}{kf:Nat->Value}{c:α->List Cl}{xs:List (κ×α)}(h:∀x,∀y∈c x,NM y):BkN (.omap agg nv len kf (vfG c xs)):=fun i j=>by
 unfold vfG;rw[aE];cases hj:(c (xs.getD i default).2)[j]? with
 |none=>exact .val _
 |some y=>exact h _ y (mo hj)
def wP(pids:List Nat)(n r:Nat)(s:AS):Bool:=!Nat.beq r n&&pids.all fun q=>!Nat.beq q n&&match get s.h q with|some (.cells ..)=>true|some (.omap ..)=>true|_=>false
section
variable {P:Program}{N:Nat}{W0:World}{X:m6}{M0:m5}{s:AS}
theorem TV(S:AS)(n:Nat)(l:List Cl)(ty:TypeId)(pids:List Nat)(r:Nat){G:Prop}(hX:PXr pids r G X)(hK:wP pids n r s=true)(hG:G->∃b,get s.h r=some b)(hn:get s.h n=some (.cells l ty))(hdv:l.all Cl.dv=true)(hS:fxS n l s=S):Cv N W0 X M0 s S:=by
 subst hS;intro M σ a w hs;simp only[wP,me,Bool.not_eq_true']at hK;obtain⟨hrn,hK⟩:=hK;obtain⟨M',h1⟩:=fF n l ty (fun hnil=>by
  rintro⟨m,x,h1,h2⟩;exfalso;have key:∀q y bk,q≠n->X q=some y->y.b=x.b->(σ q).nil=false->get s.h q=some bk->False:=fun q y bk hqn hy hyx h4 hb=>by
   have h5:=(hs.pin q y hy).2;rcases hs.inj q n _ _ hb hn hqn with h6|h6|h6
   ·rw[h4]at h6;cases h6
   ·rw[hnil]at h6;cases h6
   exact h6 (by rw[h5,hyx,h2])
  rcases hX m x h1 with ⟨q,hq,y,hy,hyx⟩|⟨rfl,hg,hxn⟩
  ·have h3:=List.all_eq_true.1 hK q (Ma hq);simp only[me,Bool.not_eq_true']at h3;have hqn:q≠n:=fun e=>by have:=h3.1;rw[e,Nat.beq_refl]at this;cases this
   cases hb:get s.h q with
   |none=>rw[hb]at h3;cases h3.2
   |some bk =>
    rw[hb]at h3;refine key q y bk hqn hy hyx ?_ hb;have h4:=hs.blk q _ hb;cases bk with
    |row=>cases h3.2
    |rowx=>cases h3.2
    |omap=>exact h4.1
    |cells lq tq=>exact h4.1
  obtain⟨bk,hb⟩:=hG hg;refine key m x bk (fun e=>by rw[e,Nat.beq_refl]at hrn;cases hrn) h1 rfl ?_ hb;rw[(hs.pin m x h1).2];exact hxn) hn hdv hs
 exact⟨M',σ,h1⟩
end
end
section
open Go.RowKit
theorem NA:Tryz.prog.follows .mixedOrders=true:=by kernel_rfl
structure AG where
 X:Int
 Y:Int
 deriving Inhabited
def AG.c(x:AG):List Cl:=[.i x.X,.i x.Y]
structure Am where
 At:AG
 Turn:Int
 Mirror:Bool
 deriving Inhabited
def Am.c(x:Am):List Cl:=[.i x.At.X,.i x.At.Y,.i x.Turn,.b x.Mirror]
structure AK where
 Kind:Int
 A:AG
 B:AG
 C:AG
 deriving Inhabited
def AK.c(x:AK):List Cl:=[.i x.Kind,.i x.A.X,.i x.A.Y,.i x.B.X,.i x.B.Y,.i x.C.X,.i x.C.Y]
structure Al where
 X0:Int
 Y0:Int
 X1:Int
 Y1:Int
 deriving Inhabited
def Al.c(x:Al):List Cl:=[.i x.X0,.i x.Y0,.i x.X1,.i x.Y1]
structure AF where
 L:(List Int)
 At:Int
 deriving Inhabited
def AF.c(x:AF):List Cl:=[lst 1 (fun x=>[.i x]) x.L,.i x.At]
structure OpL where
 len:Nat
 f:Nat->Nat->Cl
 deriving Inhabited
abbrev opL(x:OpL):Cl:=.list false 8 x.len x.f
structure Ab where
 Ref:ByteArray
 Pad:ByteArray
 deriving Inhabited
def Ab.c(x:Ab):List Cl:=[.s x.Ref,.s x.Pad]
structure A7 where
 Name:ByteArray
 Pins:(List Ab)
 deriving Inhabited
def A7.c(x:A7):List Cl:=[.s x.Name,lst 2 Ab.c x.Pins]
structure AD where
 Id:Int
 Ref:ByteArray
 Type':ByteArray
 At:AG
 Turn:Int
 Under:Bool
 deriving Inhabited
def AD.c(x:AD):List Cl:=[.i x.Id,.s x.Ref,.s x.Type',.i x.At.X,.i x.At.Y,.i x.Turn,.b x.Under]
structure AQ where
 Kind:Int
 Edges:(List AK)
 R:Int
 deriving Inhabited
def AQ.c(x:AQ):List Cl:=[.i x.Kind,lst 7 AK.c x.Edges,.i x.R]
structure Bc where
 Name:ByteArray
 Shape:AQ
 At:AG
 Drill:Int
 deriving Inhabited
def Bc.c(x:Bc):List Cl:=[.s x.Name,.i x.Shape.Kind,lst 7 AK.c x.Shape.Edges,.i x.Shape.R,.i x.At.X,.i x.At.Y,.i x.Drill]
structure CF where
 Pad:ByteArray
 Group:Int
 deriving Inhabited
def CF.c(x:CF):List Cl:=[.s x.Pad,.i x.Group]
structure BU where
 Kind:Int
 Legs:(List CF)
 deriving Inhabited
def BU.c(x:BU):List Cl:=[.i x.Kind,lst 2 CF.c x.Legs]
structure AN where
 Name:ByteArray
 Pads:(List Bc)
 Gates:(List BU)
 deriving Inhabited
def AN.c(x:AN):List Cl:=[.s x.Name,lst 7 Bc.c x.Pads,lst 2 BU.c x.Gates]
structure AM where
 Id:Int
 Net:ByteArray
 Layer:Int
 Shape:AQ
 deriving Inhabited
def AM.c(x:AM):List Cl:=[.i x.Id,.s x.Net,.i x.Layer,.i x.Shape.Kind,lst 7 AK.c x.Shape.Edges,.i x.Shape.R]
structure Ak where
 Id:Int
 Net:ByteArray
 At:AG
 R:Int
 Drill:Int
 From:Int
 To:Int
 deriving Inhabited
def Ak.c(x:Ak):List Cl:=[.i x.Id,.s x.Net,.i x.At.X,.i x.At.Y,.i x.R,.i x.Drill,.i x.From,.i x.To]
structure A8 where
 Id:Int
 Net:ByteArray
 Layer:Int
 Pitch:Int
 Priority:Int
 Relief:Int
 Spoke:Int
 Rects:(List Al)
 deriving Inhabited
def A8.c(x:A8):List Cl:=[.i x.Id,.s x.Net,.i x.Layer,.i x.Pitch,.i x.Priority,.i x.Relief,.i x.Spoke,lst 4 Al.c x.Rects]
structure BA where
 Id:Int
 Layer:Int
 Shape:AQ
 deriving Inhabited
def BA.c(x:BA):List Cl:=[.i x.Id,.i x.Layer,.i x.Shape.Kind,lst 7 AK.c x.Shape.Edges,.i x.Shape.R]
structure AX where
 Id:Int
 Shape:AQ
 deriving Inhabited
def AX.c(x:AX):List Cl:=[.i x.Id,.i x.Shape.Kind,lst 7 AK.c x.Shape.Edges,.i x.Shape.R]
structure BG where
 Name:ByteArray
 Nets:(List ByteArray)
 deriving Inhabited
def BG.c(x:BG):List Cl:=[.s x.Name,lst 1 (fun x=>[.s x]) x.Nets]
structure Bu where
 Op:Int
 Text:ByteArray
 N:Int
 Box:Al
 L:OpL
 deriving Inhabited
def Bu.c(x:Bu):List Cl:=[.i x.Op,.s x.Text,.i x.N,.i x.Box.X0,.i x.Box.Y0,.i x.Box.X1,.i x.Box.Y1,opL x.L]
structure A5 where
 Name:ByteArray
 Priority:Int
 What:Int
 A:Bu
 B:Bu
 Value:Int
 deriving Inhabited
def A5.c(x:A5):List Cl:=[.s x.Name,.i x.Priority,.i x.What,.i x.A.Op,.s x.A.Text,.i x.A.N,.i x.A.Box.X0,.i x.A.Box.Y0,.i x.A.Box.X1,.i x.A.Box.Y1,opL x.A.L,.i x.B.Op,.s x.B.Text,.i x.B.N,.i x.B.Box.X0,.i x.B.Box.Y0,.i x.B.Box.X1,.i x.B.Box.Y1,opL x.B.L,.i x.Value]
structure As where
 A:Int
 B:Int
 Rule:ByteArray
 deriving Inhabited
def As.c(x:As):List Cl:=[.i x.A,.i x.B,.s x.Rule]
structure BI where
 Name:ByteArray
 Nets:(List ByteArray)
 Within:Int
 deriving Inhabited
def BI.c(x:BI):List Cl:=[.s x.Name,lst 1 (fun x=>[.s x]) x.Nets,.i x.Within]
structure AC where
 Layers:Int
 Outline:AQ
 Parts:(List AD)
 Nets:(List A7)
 Tracks:(List AM)
 Vias:(List Ak)
 Pours:(List A8)
 Keeps:(List BA)
 Slots:(List AX)
 Classes:(List BG)
 Rules:(List A5)
 Waivers:(List As)
 Matches:(List BI)
 deriving Inhabited
def AC.c(x:AC):List Cl:=[.i x.Layers,.i x.Outline.Kind,lst 7 AK.c x.Outline.Edges,.i x.Outline.R,lst 7 AD.c x.Parts,lst 2 A7.c x.Nets,lst 6 AM.c x.Tracks,lst 8 Ak.c x.Vias,lst 8 A8.c x.Pours,lst 5 BA.c x.Keeps,lst 4 AX.c x.Slots,lst 2 BG.c x.Classes,lst 20 A5.c x.Rules,lst 3 As.c x.Waivers,lst 3 BI.c x.Matches]
structure AV where
 Id:Int
 Pad:ByteArray
 Kind:Int
 Net:ByteArray
 From:Int
 To:Int
 Shape:AQ
 deriving Inhabited
def AV.c(x:AV):List Cl:=[.i x.Id,.s x.Pad,.i x.Kind,.s x.Net,.i x.From,.i x.To,.i x.Shape.Kind,lst 7 AK.c x.Shape.Edges,.i x.Shape.R]
structure Ee where
 e0:Int
 e1:Int
 e2:Int
 deriving Inhabited
def Ee.c(x:Ee):List Cl:=[.i x.e0,.i x.e1,.i x.e2]
structure d6 where
 deriving Inhabited
def d6.c(x:d6):List Cl:=[]
structure Ad where
 Shape:AQ
 From:Int
 To:Int
 Plated:Bool
 deriving Inhabited
def Ad.c(x:Ad):List Cl:=[.i x.Shape.Kind,lst 7 AK.c x.Shape.Edges,.i x.Shape.R,.i x.From,.i x.To,.b x.Plated]
structure TA91 where
 e0:AV
 e1:AV
 deriving Inhabited
def TA91.c(x:TA91):List Cl:=[.i x.e0.Id,.s x.e0.Pad,.i x.e0.Kind,.s x.e0.Net,.i x.e0.From,.i x.e0.To,.i x.e0.Shape.Kind,lst 7 AK.c x.e0.Shape.Edges,.i x.e0.Shape.R,.i x.e1.Id,.s x.e1.Pad,.i x.e1.Kind,.s x.e1.Net,.i x.e1.From,.i x.e1.To,.i x.e1.Shape.Kind,lst 7 AK.c x.e1.Shape.Edges,.i x.e1.Shape.R]
structure KI where
 Board:(List (List Int))
 Odd:Ee
 deriving Inhabited
def KI.c(x:KI):List Cl:=[lst 1 (fun x=>[lst 1 (fun x=>[.i x]) x]) x.Board,.i x.Odd.e0,.i x.Odd.e1,.i x.Odd.e2]
def eqE:TypeId->Option (List Kd):=fun T=>get [(66,[.int .i64,.int .i64]),(68,[.int .i64,.int .i64,.int .i64,.int .i64,.int .i64,.int .i64,.int .i64]),(90,[.int .i64,.int .i64,.int .i64,.int .i64]),(106,[.str,.str])] T
theorem C8:LS Tryz.prog ⟨fun _=>none,eqE,fun _=>false,fun _=>none⟩:=by
 intro T ks h;have hm:(T,ks)∈_:=DH h;simp only[kg,l8,lg,or_false]at hm;rcases hm with ⟨rfl,rfl⟩|⟨rfl,rfl⟩|⟨rfl,rfl⟩|⟨rfl,rfl⟩
 all_goals exact⟨by kernel_rfl,by kernel_rfl,_,rfl,rfl⟩
theorem rg{rd:Option Nat}{N:Nat}{W0:World}{X:m6}{M0:m5}{Q:Exit→AS→Prop}{s:AS}{id:Nat}{l:List Oper}(S:AS)(h:Q .normal S)(hr:Nm Tryz.prog ⟨EE [],eqE,A6 [],get []⟩ N l (S.t.map Prod.fst) (S.h.map Prod.fst) s=some ([],S):=by kernel_rfl):AWp Tryz.prog rd N W0 X M0 (.region id l.toArray false) Q s:=DE C8 [] [] [] _ _ [] S .nil hr .nil h
theorem rn{rd:Option Nat}{N:Nat}{W0:World}{X:m6}{M0:m5}{K:AS→Prop}{Q:Exit→AS→Prop}{s:AS}{id:Nat}{l:List Oper}(S:AS)(h:K S)(hr:Nm Tryz.prog ⟨EE [],eqE,A6 [],get []⟩ N l (S.t.map Prod.fst) (S.h.map Prod.fst) s=some ([],S):=by kernel_rfl):AWp Tryz.prog rd N W0 X M0 (.region id l.toArray false) (ATh K Q) s:=rg S (AE h) hr
theorem rc{rd:Option Nat}{N:Nat}{W0:World}{X:m6}{M0:m5}{Q:Exit→AS→Prop}{s:AS}{id:Nat}{l:List Oper}(tbl:List (Nat×FuncId×List Av×Ef))(cs:List Prop)(S:AS)(htbl:FR Tryz.prog tbl)(hc:CI cs)(h:Q .normal S)(hr:Nm Tryz.prog ⟨EE tbl,eqE,A6 [],get []⟩ N l (S.t.map Prod.fst) (S.h.map Prod.fst) s=some (cs,S):=by kernel_rfl):AWp Tryz.prog rd N W0 X M0 (.region id l.toArray false) Q s:=DE C8 [] [] tbl _ _ cs S htbl hr hc h
abbrev gi(c:Bool):Prop:=c=false→c=false
abbrev gt(c:Bool):Prop:=c=true→c=true
abbrev gj(c:Bool)(p:Prop):Prop:=c=false→p
abbrev gk(c:Bool)(p:Prop):Prop:=c=true→p
theorem ci{p:Prop}{l:List Prop}(h:CI l):CI ((p→p)::l):=.cons id h
abbrev tO(c:Cl):Tv:=.av (.one c)
abbrev gD(l:List Cl):Nat→Nat→Cl:=fun _ j_=>l.getD j_ default
theorem rr{a:Cl}{x y:List Cl}(h:L2 ClE x y):L2 ClE (a::x) (a::y):=.cons (.refl _) h
theorem oT{p:Prop}[Decidable p](h:decide p=true):p:=of_decide_eq_true h
theorem oF{p:Prop}[Decidable p](h:decide p=false):¬ p:=of_decide_eq_false h
theorem vk{N:Nat}{W0:World}{X:m6}{M0:m5}{s:AS}(ts ns:List Nat):Cv N W0 X M0 s (L6 ts ns s):=CK ts ns _ rfl
theorem ck{N:Nat}{W0:World}{X:m6}{M0:m5}{s:AS}(S:AS)(h:L6 (S.t.map Prod.fst) (S.h.map Prod.fst) s=S:=by kernel_rfl):Cv N W0 X M0 s S:=CK _ _ S h
theorem wr{N:Nat}{W0:World}{X:m6}{M0:m5}{s:AS}{K:List Nat}(S:AS)(q d:Nat)(hX:DJ X W0 K)(h1:LR K q=true:=by kernel_rfl)(h2:LR K d=true:=by kernel_rfl)(hd:noD d s=true:=by kernel_rfl)(hS:xY q d s=S:=by kernel_rfl):Cv N W0 X M0 s S:=CR S q d hX h1 h2 hd hS
theorem vr{N:Nat}{W0:World}{X:m6}{M0:m5}{s:AS}{K:List Nat}(q d:Nat)(hX:DJ X W0 K)(h1:LR K q=true:=by kernel_rfl)(h2:LR K d=true:=by kernel_rfl)(hd:noD d s=true:=by kernel_rfl):Cv N W0 X M0 s (xY q d s):=wr _ q d hX h1 h2 hd rfl
theorem vf{N:Nat}{W0:World}{X:m6}{M0:m5}{s:AS}{K:List Nat}(n:Nat)(hX:DJ X W0 K)(hk:fzK K n s=true:=by kernel_rfl)(he:prS n s=fzE n s:=by kernel_rfl):Cv N W0 X M0 s (fzN n s):=dK n hX hk he
theorem wg{N:Nat}{W0:World}{X:m6}{M0:m5}{s:AS}{K:List Nat}(S:AS)(d sz:Nat)(f:Nat→Nat→Cl)(ty:TypeId)(it ih:List (Nat×List Nat))(hX:DJ X W0 K)(h2:LR K d=true:=by kernel_rfl)(hd:noD d s=true:=by kernel_rfl)(hS:ghS d sz f ty it ih s=S:=by kernel_rfl):Cv N W0 X M0 s S:=Gw S d sz f ty it ih hX h2 hd hS
theorem vg{N:Nat}{W0:World}{X:m6}{M0:m5}{s:AS}{K:List Nat}(d sz:Nat)(f:Nat→Nat→Cl)(ty:TypeId)(it ih:List (Nat×List Nat))(hX:DJ X W0 K)(h2:LR K d=true:=by kernel_rfl)(hd:noD d s=true:=by kernel_rfl):Cv N W0 X M0 s (ghS d sz f ty it ih s):=wg _ d sz f ty it ih hX h2 hd rfl
theorem rs{rd:Option Nat}{N:Nat}{W0:World}{X:m6}{M0:m5}{Q:Exit→AS→Prop}{s:AS}{id:Nat}{l:List Oper}(d:Nat)(c:FuncId×List Av×Ef)(S:AS)(hx:EI Tryz.prog c.1 c.2.1 c.2.2)(h:Q .normal S)(hr:Nm Tryz.prog ⟨EE [(d,c)],eqE,A6 [],get []⟩ N l (S.t.map Prod.fst) (S.h.map Prod.fst) s=some ([Cp c.2.1],S):=by kernel_rfl):AWp Tryz.prog rd N W0 X M0 (.region id l.toArray false) Q s:=rc _ _ S (.cons hx .nil) (.cons rfl .nil) h hr
theorem rb{rd:Option Nat}{N:Nat}{W0:World}{X:m6}{M0:m5}{Q:Exit→AS→Prop}{s:AS}{id:Nat}{l:List Oper}(d:Nat)(c:FuncId×List Av×Ef)(b:Blk)(S:AS)(hx:EI Tryz.prog c.1 c.2.1 c.2.2)(h:Q .normal S)(hr:Nm Tryz.prog ⟨EE [(d,c)],eqE,A6 [],get []⟩ N l (S.t.map Prod.fst) (S.h.map Prod.fst) s=some ([Cp c.2.1,CQ b],S):=by kernel_rfl):AWp Tryz.prog rd N W0 X M0 (.region id l.toArray false) Q s:=rc _ _ S (.cons hx .nil) (.cons rfl (.cons rfl .nil)) h hr
theorem nz{a:Nat}{p:Prop}(h:a<0):p:=absurd h (lw _)
abbrev gp(p:Prop):Prop:=p→p
abbrev t2(c:Bool)(l:List Prop):List Prop:=gt c::gt c::l
abbrev i2(c:Bool)(l:List Prop):List Prop:=gi c::gi c::l
theorem c2{p:Prop}{l:List Prop}(h:CI l):CI ((p→p)::(p→p)::l):=ci (ci h)
abbrev t3(c:Bool)(l:List Prop):List Prop:=gt c::gt c::gt c::l
abbrev i3(c:Bool)(l:List Prop):List Prop:=gi c::gi c::gi c::l
theorem c3{p:Prop}{l:List Prop}(h:CI l):CI ((p→p)::(p→p)::(p→p)::l):=ci (ci (ci h))
abbrev t4(c:Bool)(l:List Prop):List Prop:=gt c::gt c::gt c::gt c::l
abbrev i4(c:Bool)(l:List Prop):List Prop:=gi c::gi c::gi c::gi c::l
theorem c4{p:Prop}{l:List Prop}(h:CI l):CI ((p→p)::(p→p)::(p→p)::(p→p)::l):=ci (ci (ci (ci h)))
abbrev t5(c:Bool)(l:List Prop):List Prop:=gt c::gt c::gt c::gt c::gt c::l
abbrev i5(c:Bool)(l:List Prop):List Prop:=gi c::gi c::gi c::gi c::gi c::l
theorem c5{p:Prop}{l:List Prop}(h:CI l):CI ((p→p)::(p→p)::(p→p)::(p→p)::(p→p)::l):=ci (ci (ci (ci (ci h))))
theorem xl{P:Program}{N:Nat}{W0:World}{X:m6}{M0:m5}{fn:Func}{φ:Tv→AS→Prop}{s:AS}(V:Tv)(h:φ V s)(hr:Sh P s fn.results.toList=some V:=by kernel_rfl):My P N W0 X M0 fn φ .ret s:=⟨_,Cv.refl _,.inl rfl,V,hr,h⟩
theorem xn{P:Program}{N:Nat}{W0:World}{X:m6}{M0:m5}{fn:Func}{φ:Tv→AS→Prop}{s:AS}(V:Tv)(h:φ V s)(hr:Sh P s fn.results.toList=some V:=by kernel_rfl):My P N W0 X M0 fn φ .normal s:=⟨_,Cv.refl _,.inr rfl,V,hr,h⟩
theorem yl{P:Program}{N:Nat}{W0:World}{X:m6}{M0:m5}{fn:Func}{φ:Tv→AS→Prop}{s t:AS}(cv:Cv N W0 X M0 s t)(V:Tv)(h:φ V t)(hr:Sh P t fn.results.toList=some V:=by kernel_rfl):My P N W0 X M0 fn φ .ret s:=⟨_,cv,.inl rfl,V,hr,h⟩
theorem yn{P:Program}{N:Nat}{W0:World}{X:m6}{M0:m5}{fn:Func}{φ:Tv→AS→Prop}{s t:AS}(cv:Cv N W0 X M0 s t)(V:Tv)(h:φ V t)(hr:Sh P t fn.results.toList=some V:=by kernel_rfl):My P N W0 X M0 fn φ .normal s:=⟨_,cv,.inr rfl,V,hr,h⟩
theorem dw{rd:Option Nat}{N:Nat}{W0:World}{X:m6}{M0:m5}{Q:Exit→AS→Prop}{s:AS}{id:Nat}{l:List Oper}(ow:List Nat)(tbl:List (Nat×FuncId×List Av×Ef))(cs:List Prop)(S:AS)(htbl:FR Tryz.prog tbl)(hc:CI cs)(h:Q .normal S)(hr:Nm Tryz.prog ⟨EE tbl,eqE,A6 ow,get []⟩ N l (S.t.map Prod.fst) (S.h.map Prod.fst) s=some (cs,S):=by kernel_rfl)(hd:Qf Tryz.prog ⟨EE tbl,eqE,A6 ow,get []⟩ N l s=true:=by kernel_rfl):AWp Tryz.prog rd N W0 X M0 (.region id l.toArray true) Q s:=XT NA C8 ow [] tbl _ _ cs S htbl hr hd hc h
def runW(P:Program)(V:Env P)(N:Nat)(l:List Oper)(s:AS):AS:=match Nl P V N l.toArray l s with
  |some (_,t)=>t
  |none=>s
def runC(P:Program)(V:Env P)(N:Nat)(l:List Oper)(s:AS):Option (List Prop):=match Nl P V N l.toArray l s with
  |some (c,_)=>some c
  |none=>none
theorem runWC{P:Program}{V:Env P}{N:Nat}{l:List Oper}{s:AS}{c:List Prop}(h:runC P V N l s=some c):Nl P V N l.toArray l s=some (c,runW P V N l s):=by
  unfold runC at h;unfold runW;split at h
  · rename_i h1;rw[h1];injection h with h
    subst h;rfl
  · cases h
theorem oc{rd:Option Nat}{N:Nat}{W0:World}{X:m6}{M0:m5}{Q:Exit→AS→Prop}{s:AS}{id:Nat}{l:List Oper}(tbl:List (Nat×FuncId×List Av×Ef))(cs:List Prop)(htbl:FR Tryz.prog tbl)(hc:CI cs)(h:Q .normal (runW Tryz.prog ⟨EE tbl,eqE,A6 [],get []⟩ N l s))(hr:runC Tryz.prog ⟨EE tbl,eqE,A6 [],get []⟩ N l s=some cs:=by kernel_rfl):AWp Tryz.prog rd N W0 X M0 (.region id l.toArray false) Q s:=by
  have hV:=htbl.env (O:=A6 []) (q:=get []) C8;intro M σ a w hs;exact wpIn_region_lit (Q6 hV l s _ cs (runWC hr) hc M σ a w hs fun M' σ' a' w' hs'=>⟨_,M',σ',h,hs'⟩)
theorem og{rd:Option Nat}{N:Nat}{W0:World}{X:m6}{M0:m5}{Q:Exit→AS→Prop}{s:AS}{id:Nat}{l:List Oper}(h:Q .normal (runW Tryz.prog ⟨EE [],eqE,A6 [],get []⟩ N l s))(hr:runC Tryz.prog ⟨EE [],eqE,A6 [],get []⟩ N l s=some []:=by kernel_rfl):AWp Tryz.prog rd N W0 X M0 (.region id l.toArray false) Q s:=oc [] [] .nil .nil h hr
theorem on{rd:Option Nat}{N:Nat}{W0:World}{X:m6}{M0:m5}{K:AS→Prop}{Q:Exit→AS→Prop}{s:AS}{id:Nat}{l:List Oper}(h:K (runW Tryz.prog ⟨EE [],eqE,A6 [],get []⟩ N l s))(hr:runC Tryz.prog ⟨EE [],eqE,A6 [],get []⟩ N l s=some []:=by kernel_rfl):AWp Tryz.prog rd N W0 X M0 (.region id l.toArray false) (ATh K Q) s:=og (AE h) hr
theorem oq{rd:Option Nat}{N:Nat}{W0:World}{X:m6}{M0:m5}{Q:Exit→AS→Prop}{s:AS}{id:Nat}{l:List Oper}(d:Nat)(c:FuncId×List Av×Ef)(hx:EI Tryz.prog c.1 c.2.1 c.2.2)(h:Q .normal (runW Tryz.prog ⟨EE [(d,c)],eqE,A6 [],get []⟩ N l s))(hr:runC Tryz.prog ⟨EE [(d,c)],eqE,A6 [],get []⟩ N l s=some [Cp c.2.1]:=by kernel_rfl):AWp Tryz.prog rd N W0 X M0 (.region id l.toArray false) Q s:=oc [(d,c)] [Cp c.2.1] (.cons hx .nil) (.cons rfl .nil) h hr
theorem od{rd:Option Nat}{N:Nat}{W0:World}{X:m6}{M0:m5}{Q:Exit→AS→Prop}{s:AS}{id:Nat}{l:List Oper}(ow:List Nat)(tbl:List (Nat×FuncId×List Av×Ef))(cs:List Prop)(htbl:FR Tryz.prog tbl)(hc:CI cs)(h:Q .normal (L6 (runW Tryz.prog ⟨EE tbl,eqE,A6 ow,get []⟩ N l s |>.t.map Prod.fst) (runW Tryz.prog ⟨EE tbl,eqE,A6 ow,get []⟩ N l s |>.h.map Prod.fst) (runW Tryz.prog ⟨EE tbl,eqE,A6 ow,get []⟩ N l s)))(hr:runC Tryz.prog ⟨EE tbl,eqE,A6 ow,get []⟩ N l s=some cs:=by kernel_rfl)(hd:Qf Tryz.prog ⟨EE tbl,eqE,A6 ow,get []⟩ N l s=true:=by kernel_rfl):AWp Tryz.prog rd N W0 X M0 (.region id l.toArray true) Q s:=XT NA C8 ow [] tbl _ _ cs _ htbl (by unfold Nm;rw[runWC hr]) hd hc h
theorem zl{P:Program}{N:Nat}{W0:World}{X:m6}{M0:m5}{fn:Func}{s:AS}{r:Tv}(hr:Sh P s fn.results.toList=some r:=by kernel_rfl):My P N W0 X M0 fn (fun r' _=>TvE r' r) .ret s:=xl r (.refl r) hr
theorem zn{P:Program}{N:Nat}{W0:World}{X:m6}{M0:m5}{fn:Func}{s:AS}{r:Tv}(hr:Sh P s fn.results.toList=some r:=by kernel_rfl):My P N W0 X M0 fn (fun r' _=>TvE r' r) .normal s:=xn r (.refl r) hr
theorem zy{P:Program}{N:Nat}{W0:World}{X:m6}{M0:m5}{fn:Func}{s t:AS}{r:Tv}(cv:Cv N W0 X M0 s t)(hr:Sh P t fn.results.toList=some r:=by kernel_rfl):My P N W0 X M0 fn (fun r' _=>TvE r' r) .ret s:=yl cv r (.refl r) hr
theorem zx{P:Program}{N:Nat}{W0:World}{X:m6}{M0:m5}{fn:Func}{s t:AS}{r:Tv}(cv:Cv N W0 X M0 s t)(hr:Sh P t fn.results.toList=some r:=by kernel_rfl):My P N W0 X M0 fn (fun r' _=>TvE r' r) .normal s:=yn cv r (.refl r) hr
theorem kb{P:Program}{rd:Option Nat}{N:Nat}{W0:World}{X:m6}{M0:m5}{Q:Exit→AS→Prop}{s:AS}{c:Operand}{x y:Code}(b:Bool)(h1:b=true→AWp P rd N W0 X M0 x Q s)(h2:b=false→AWp P rd N W0 X M0 y Q s)(hc:evT (get s.t) c=some (.av (.one (.val (.bool b)))):=by kernel_rfl):AWp P rd N W0 X M0 (.cond c x y) Q s:=BC b hc h1 h2
theorem H1{p:Prop}(a:p):CI [p]:=.cons a .nil
theorem H2{p q:Prop}(a:p)(b:q):CI [p,q]:=.cons a (H1 b)
theorem H3{p q r:Prop}(a:p)(b:q)(c:r):CI [p,q,r]:=.cons a (H2 b c)
theorem H4{p q r s:Prop}(a:p)(b:q)(c:r)(d:s):CI [p,q,r,s]:=.cons a (H3 b c d)
theorem H5{p q r s t:Prop}(a:p)(b:q)(c:r)(d:s)(e:t):CI [p,q,r,s,t]:=.cons a (H4 b c d e)
theorem H6{p q r s t u:Prop}(a:p)(b:q)(c:r)(d:s)(e:t)(f:u):CI [p,q,r,s,t,u]:=.cons a (H5 b c d e f)
theorem H7{p q r s t u v:Prop}(a:p)(b:q)(c:r)(d:s)(e:t)(f:u)(g:v):CI [p,q,r,s,t,u,v]:=.cons a (H6 b c d e f g)
theorem H8{p q r s t u v w:Prop}(a:p)(b:q)(c:r)(d:s)(e:t)(f:u)(g:v)(h:w):CI [p,q,r,s,t,u,v,w]:=.cons a (H7 b c d e f g h)
theorem J1(d:Nat){c:FuncId×List Av×Ef}(h:EI Tryz.prog c.1 c.2.1 c.2.2):FR Tryz.prog [(d,c)]:=.cons h .nil
theorem J2(d e:Nat){c x:FuncId×List Av×Ef}(h:EI Tryz.prog c.1 c.2.1 c.2.2)(k:EI Tryz.prog x.1 x.2.1 x.2.2):FR Tryz.prog [(d,c),(e,x)]:=.cons h (J1 e k)
theorem J3(d e f:Nat){c x y:FuncId×List Av×Ef}(h:EI Tryz.prog c.1 c.2.1 c.2.2)(k:EI Tryz.prog x.1 x.2.1 x.2.2)(l:EI Tryz.prog y.1 y.2.1 y.2.2):FR Tryz.prog [(d,c),(e,x),(f,y)]:=.cons h (J2 e f k l)
def fO:List (Nat×FuncId×List Av×Ef)→List (Option Prop)→List Prop
  |t,some p::l=>p::fO t l
  |(_,c)::t,none::l=>Cp c.2.1::fO t l
  |_,_=>[]
def fS:List (Option Prop)→List Prop
  |some p::l=>p::fS l
  |none::l=>fS l
  |[]=>[]
theorem fO_ok:∀(l:List (Option Prop)) (t:List (Nat×FuncId×List Av×Ef)),CI (fS l)→CI (fO t l)
  |[],[],_=>.nil
  |[],_::_,_=>.nil
  |some _::l,[],h=>.cons h.head (fO_ok l [] h.tail)
  |some _::l,x::t,h=>.cons h.head (fO_ok l (x::t) h.tail)
  |none::l,[],h=>.nil
  |none::l,(_,c)::t,h=>.cons rfl (fO_ok l t h)
theorem oo{rd:Option Nat}{N:Nat}{W0:World}{X:m6}{M0:m5}{Q:Exit→AS→Prop}{s:AS}{id:Nat}{l:List Oper}(tbl:List (Nat×FuncId×List Av×Ef))(cs:List (Option Prop))(htbl:FR Tryz.prog tbl)(hc:CI (fS cs))(h:Q .normal (runW Tryz.prog ⟨EE tbl,eqE,A6 [],get []⟩ N l s))(hr:runC Tryz.prog ⟨EE tbl,eqE,A6 [],get []⟩ N l s=some (fO tbl cs):=by kernel_rfl):AWp Tryz.prog rd N W0 X M0 (.region id l.toArray false) Q s:=oc tbl (fO tbl cs) htbl (fO_ok cs tbl hc) h hr
theorem oe{rd:Option Nat}{N:Nat}{W0:World}{X:m6}{M0:m5}{Q:Exit→AS→Prop}{s:AS}{id:Nat}{l:List Oper}(ow:List Nat)(tbl:List (Nat×FuncId×List Av×Ef))(cs:List (Option Prop))(htbl:FR Tryz.prog tbl)(hc:CI (fS cs))(h:Q .normal (L6 (runW Tryz.prog ⟨EE tbl,eqE,A6 ow,get []⟩ N l s |>.t.map Prod.fst) (runW Tryz.prog ⟨EE tbl,eqE,A6 ow,get []⟩ N l s |>.h.map Prod.fst) (runW Tryz.prog ⟨EE tbl,eqE,A6 ow,get []⟩ N l s)))(hr:runC Tryz.prog ⟨EE tbl,eqE,A6 ow,get []⟩ N l s=some (fO tbl cs):=by kernel_rfl)(hd:Qf Tryz.prog ⟨EE tbl,eqE,A6 ow,get []⟩ N l s=true:=by kernel_rfl):AWp Tryz.prog rd N W0 X M0 (.region id l.toArray true) Q s:=od ow tbl (fO tbl cs) htbl (fO_ok cs tbl hc) h hr hd
theorem ro{rd:Option Nat}{N:Nat}{W0:World}{X:m6}{M0:m5}{Q:Exit→AS→Prop}{s:AS}{id:Nat}{l:List Oper}(tbl:List (Nat×FuncId×List Av×Ef))(cs:List (Option Prop))(S:AS)(htbl:FR Tryz.prog tbl)(hc:CI (fS cs))(h:Q .normal S)(hr:Nm Tryz.prog ⟨EE tbl,eqE,A6 [],get []⟩ N l (S.t.map Prod.fst) (S.h.map Prod.fst) s=some (fO tbl cs,S):=by kernel_rfl):AWp Tryz.prog rd N W0 X M0 (.region id l.toArray false) Q s:=rc tbl (fO tbl cs) S htbl (fO_ok cs tbl hc) h hr
theorem dO{rd:Option Nat}{N:Nat}{W0:World}{X:m6}{M0:m5}{Q:Exit→AS→Prop}{s:AS}{id:Nat}{l:List Oper}(ow:List Nat)(tbl:List (Nat×FuncId×List Av×Ef))(cs:List (Option Prop))(S:AS)(htbl:FR Tryz.prog tbl)(hc:CI (fS cs))(h:Q .normal S)(hr:Nm Tryz.prog ⟨EE tbl,eqE,A6 ow,get []⟩ N l (S.t.map Prod.fst) (S.h.map Prod.fst) s=some (fO tbl cs,S):=by kernel_rfl)(hd:Qf Tryz.prog ⟨EE tbl,eqE,A6 ow,get []⟩ N l s=true:=by kernel_rfl):AWp Tryz.prog rd N W0 X M0 (.region id l.toArray true) Q s:=dw ow tbl (fO tbl cs) S htbl (fO_ok cs tbl hc) h hr hd
theorem lpC{P:Program}{rd:Option Nat}{N:Nat}{W0:World}{X:m6}{M0:m5}{Q:Exit→AS→Prop}{κ:Type}{c:Code}(S:Nat×κ→AS)(m:Nat×κ→Nat)(J:Nat×κ→Prop)(h:∀n y,m (n+1,y)<n+1→J (n+1,y)→AWp P rd N W0 X M0 c (ATh (fun s'=>∃y,(m y<y.1∧J y)∧y.1<n+1∧Cv N W0 X M0 s' (S y)) Q) (S (n+1,y)))(x:Nat×κ)(hx:m x<x.1∧J x):AWp P rd N W0 X M0 (.loop c) Q (S x):=wL S (fun x=>m x<x.1∧J x) (fun x=>x.1) (fun⟨n,y⟩ ⟨a,b⟩=>by
  cases n with
  |zero=>exact nz a
  |succ n=>exact h n y a b) x hx
theorem rz{α β:Type}{r:α→β→Prop}{a:α}{b:β}{x:List α}{y:List β}(h:L2 r x y)(k:r a b:=by exact⟨rfl,.refl _⟩):L2 r (a::x) (b::y):=.cons k h
theorem rA{a:Cl}{x y:List Cl}(h:L2 ClE x y):L2 ClE (a::x) (.any::y):=.cons (.any _) h
abbrev CT:=FuncId×List Av×Ef
theorem hk1:∀k x,noX k=some x→A6 [] k=true:=fun k x h=>by cases h
theorem hk0{W0:World}:DJ noX W0 []:=fun k x h=>by cases h
abbrev OKc(c:CT):Prop:=EI Tryz.prog c.1 c.2.1 c.2.2
abbrev dfc:Nat→Cl:=fun _=>default
abbrev eIn:Int→List Cl:=fun x=>[.i x]
theorem oM{p:Prop}(h:p:=by omega):p:=h
abbrev PuP(f:FuncId)(xs:List Av)(r:Tv):Prop:=G4 Tryz.prog f xs r
theorem pwf{f:FuncId}{fn:Func}{c:Code}(hf:Tryz.prog.funcs[f]? = some fn){xs:List Av}{r:Tv}
   (h:∀(W0:World) (M0:m5),AWp Tryz.prog none fn.ntmps W0 noX M0 c (My Tryz.prog fn.ntmps W0 noX M0 fn fun r' _=>TvE r' r) ⟨FP 0 xs,[]⟩)(hb:fn.body=some c:=by rfl)(hN:Nat.ble xs.length fn.ntmps=true:=by kernel_rfl)(hd:r.dv=true:=by kernel_rfl):PuP f xs r:=YF hf hb hN hd h
theorem cWr{f:FuncId}{K n:Nat}{xs:List Av}{b0 b1:Blk}{r:Tv}(h:Wr Tryz.prog f K xs b0 r b1)(h1:∀args w,(callFunc f args).run Tryz.prog w=.ok (.enter f args) w:=by intros;kernel_rfl)(hx:xs.all (qP K)=true:=by kernel_rfl)(hd0:MF b0=true:=by kernel_rfl):EI Tryz.prog f (xs.map (CH K n)) (wrI n b0 r b1):=lK h1 hx hd0 h
theorem cPu{f:FuncId}{xs:List Av}{cs:List Prop}{r:Tv}(h:G4 Tryz.prog f xs r)(h1:∀args w,(callFunc f args).run Tryz.prog w=.ok (.enter f args) w:=by intros;kernel_rfl):EI Tryz.prog f xs (.val cs r):=ZO h1 fun _=>h
theorem rr2{a b:Cl}{x y:List Cl}(q:L2 ClE x y):L2 ClE (a::b::x) (a::b::y):=rr (rr q)
theorem rr3{a b c:Cl}{x y:List Cl}(q:L2 ClE x y):L2 ClE (a::b::c::x) (a::b::c::y):=rr (rr (rr q))
theorem rr4{a b c d:Cl}{x y:List Cl}(q:L2 ClE x y):L2 ClE (a::b::c::d::x) (a::b::c::d::y):=rr (rr (rr (rr q)))
theorem rr5{a b c d e:Cl}{x y:List Cl}(q:L2 ClE x y):L2 ClE (a::b::c::d::e::x) (a::b::c::d::e::y):=rr (rr (rr (rr (rr q))))
theorem rr9{a b c d e f g h i:Cl}{x y:List Cl}(q:L2 ClE x y):L2 ClE (a::b::c::d::e::f::g::h::i::x) (a::b::c::d::e::f::g::h::i::y):=rr (rr (rr (rr (rr (rr (rr (rr (rr q))))))))

def Dr(x0:AG):Bool:=bif decide (((max x0.X x0.Y):Int)<=67108864)then decide ((((-67108864)):Int)<=(min x0.X x0.Y))else false
def Ep(x0:AG):CT:=(131,[.agg (AG.c x0)],.val [] (.av (.one (.b (Dr x0)))))
theorem jK(x0:AG):PuP 131 (Ep x0).2.1 (tO (.b (Dr x0))):=by
 refine pwf Tryz.func131 fun W0 M0=>?_;exact AA<|on<|AA<|oc [] ((gt (decide (((max x0.X x0.Y):Int)<=67108864)))::(t5 (decide (((max x0.X x0.Y):Int)<=67108864)) [])) .nil (ci (c5 .nil))<|AE<|AO<|zl
theorem HK(x0:AG):OKc (Ep x0):=cPu<|jK x0
def Fo(x0:AG)(x1:AG):AG:=AG.mk (W64 (x0.X-x1.X)) (W64 (x0.Y-x1.Y))
def RM(x0:AG)(x1:AG):CT:=(137,[.agg (AG.c x0),.agg (AG.c x1)],.val [] (.av (.agg (AG.c (Fo x0 x1)))))
theorem yG(x0:AG)(x1:AG):PuP 137 (RM x0 x1).2.1 (.av (.agg (AG.c (Fo x0 x1)))):=by
 refine pwf Tryz.func137 fun W0 M0=>?_;exact AA<|on<|AA<|on<|AO<|zl
theorem YP(x0:AG)(x1:AG):OKc (RM x0 x1):=cPu<|yG x0 x1
def LC(x0:AG)(x1:AG):AG:=AG.mk (W64 (x0.X+x1.X)) (W64 (x0.Y+x1.Y))
def iB(x0:AG)(x1:AG):CT:=(119,[.agg (AG.c x0),.agg (AG.c x1)],.val [] (.av (.agg (AG.c (LC x0 x1)))))
theorem yH(x0:AG)(x1:AG):PuP 119 (iB x0 x1).2.1 (.av (.agg (AG.c (LC x0 x1)))):=by
 refine pwf Tryz.func119 fun W0 M0=>?_;exact AA<|on<|AA<|on<|AO<|zl
theorem rT(x0:AG)(x1:AG):OKc (iB x0 x1):=cPu<|yH x0 x1
def Da(m:Am):Int:=A64 m.Turn 3
variable (a0 a1 a2:AG)(e:AK)(m:Am)(k:Int)(p:AG)(x0:AK)
def U8:CT:=(118,[.agg (Am.c m)],.val [] (.av (.one (.i (Da m)))))
theorem jJ(m:Am):PuP 118 (U8 m).2.1 (tO (.i (Da m))):=by
 refine pwf Tryz.func118 fun W0 M0=>?_;exact AA<|on<|AA<|on<|AO<|zl
theorem cH(m:Am):OKc (U8 m):=cPu<|jJ m
theorem A64_3(t:Int):0<=A64 t 3/\A64 t 3<=3:=by
 unfold A64;rw[IntKind.wrap_i64];have h:((BitVec.ofInt 64 t &&& BitVec.ofInt 64 3).toNat)<=3:=by
  rw[BitVec.toNat_and];exact ln Nat.and_le_right m4
 generalize (BitVec.ofInt 64 t &&& BitVec.ofInt 64 3).toNat=n at *;omega
theorem eY(m:Am):0<=Da m/\Da m<=3:=A64_3 m.Turn
def Cr(m:Am)(p:AG):Nat->AG->Int->AG
 |0,_,_=>default
 |n0+1,p',nb=>bif decide ((nb:Int)<(Da m))then((Cr m p n0) (AG.mk (W64 (0-p'.Y)) p'.X) (nb+1))else(LC p' m.At)
def BV(m:Am)(p:AG):AG:=Cr m p ((((Da m))-0).toNat+1) (AG.mk (bif m.Mirror then(W64 (0-p.X))else p.X) p.Y) 0
def Ig:CT:=(62,[.agg (Am.c m),.agg (AG.c p)],.val [] (.av (.agg (AG.c (BV m p)))))
abbrev Dd(t_:List (Nat×Tv)):List (Nat×Tv):=(2,tP 2 0)::(3,tP 3 0)::(4,tP 4 0)::t_
abbrev Hk:List (Nat×Tv):=(Dd [])
abbrev Ip:Nat×Blk:=(4,.cells [.i 0,.i 0] 66)
abbrev NR:Nat×Blk:=(2,.cells (Am.c m) 74)
theorem kr{p:Prop}(h:p:=by kernel_rfl):p:=h
theorem at0{p:Prop}(h:p:=by simp only[d9,j8,j9];omega):p:=h
theorem at1{p:Prop}(h:p:=by simp only[kj,d9,j8,j9];omega):p:=h
theorem at2{p:Prop}(h:p:=by simp only[Bz];omega):p:=h
theorem ax0{p:Prop}(h:p:=by first|omega|(dsimp only<;>first|trivial|omega|exact at0|exact at1|exact at2|(simp;omega)|simp)|(first|trivial|omega|exact at0|exact at1|exact at2|(simp;omega)|simp)):p:=h
theorem jL(m:Am)(p:AG):PuP 62 (Ig m p).2.1 (.av (.agg (AG.c (BV m p)))):=by
 refine pwf Tryz.func62 fun W0 M0=>?_;refine AA<|on<|AA<|AA<|rn ⟨(Dd [(6,tB m.Mirror)]),[(NR m),(3,.cells (AG.c p) 66),Ip]⟩<|B4 (⟨Hk,[(NR m),(3,.cells [.i (bif m.Mirror then(W64 (0-p.X))else p.X),.i p.Y] 66),Ip]⟩) ?_ ?_
 ·refine BC _ rfl (fun h1=>?_) (fun h1=>?_)
  ·refine rn ⟨Hk,[(NR m),(3,.cells [.i (W64 (0-p.X)),.i p.Y] 66),Ip]⟩<|Az ?_
   first|rfl|(simp only[h1,mi,mj]<;>rfl)
  refine AP<|AE<|Cv.trans (ck (⟨Hk,[(NR m),(3,.cells (AG.c p) 66),Ip]⟩)) (Az ?_)
  first|rfl|(simp only[h1,mi,mj]<;>rfl)
 refine AA<|AA<|rs 12 _ ⟨(Dd [(12,tI (Da m)),(13,tI 0)]),[(NR m),(3,.cells [.i (bif m.Mirror then(W64 (0-p.X))else p.X),.i p.Y] 66),Ip]⟩ (cH m)<|AE<|AJ<|lpC (κ:=AG×Int) (fun x=>⟨(Dd [(12,tI (Da m)),(13,tI x.2.2)]),[(NR m),(3,.cells (AG.c x.2.1) 66),Ip]⟩) (fun x=>(((Da m))-x.2.2).toNat) (fun x=>(0<=x.2.2/\x.2.2<=Da m)/\Cr m p x.1 x.2.1 x.2.2=BV m p) ?_ ((((Da m))-0).toNat+1,AG.mk (bif m.Mirror then(W64 (0-p.X))else p.X) p.Y,0) ⟨lz _,(by show 0<=0/\0<=Da m;(have:=eY m;omega)),(by simp only[BV,mi,mj])⟩;rintro n0 ⟨p',nb⟩ nq ⟨nm,ng⟩
 try dsimp only at nq nm ng
 have ht:=eY m;have e1:W64 (nb+1)=nb+1:=Ae oM oM;refine AA<|on<|AA<|kb (decide ((nb:Int)<(Da m))) (fun h1=>?_) (fun h1=>?_)
 ·have g1:=oT h1;refine AP<|AE<|AA<|AJ<|og<|Ao<|AE<|rg ⟨(Dd [(12,tI (Da m)),(13,tI (W64 (nb+1)))]),[(NR m),(3,.cells [.i (W64 (0-p'.Y)),.i p'.X] 66),Ip]⟩ ?_
  (try rw[e1])
  refine AE ?_;refine⟨(n0,AG.mk (W64 (0-p'.Y)) p'.X,nb+1),⟨?_,?_,(by rw[<- ng];simp only[Cr,h1,mi,mj])⟩,lz _,Az kr⟩
  ·dsimp only;omega
  exact ax0
 exact Aw<|Aj<|Aj<|Ay<|AE<|AA<|oq 25 _ (rT p' m.At)<|AE<|AO<|zl (by rw[<- ng];simp only[Cr,h1,mi,mj]<;>kernel_rfl)
theorem EW(m:Am)(p:AG):OKc (Ig m p):=cPu<|jL m p
def Ia(x0:AK)(x1:Int):Bool:=bif !((decide ((((Fo x0.A x0.C).X):Int)=0))==(decide ((((Fo x0.A x0.C).Y):Int)=0)))then(decide (((Fo x0.B x0.C).X)=((BV (Am.mk (AG.mk 0 0) x1 false) (Fo x0.A x0.C)).X))&&(decide (((Fo x0.B x0.C).Y)=((BV (Am.mk (AG.mk 0 0) x1 false) (Fo x0.A x0.C)).Y))&&true))else false
def Oh(x1:Int):CT:=(190,[.agg (AK.c x0),.one (.i x1)],.val [] (.av (.one (.b (Ia x0 x1)))))
abbrev SH:Bool:=(!((decide ((((Fo x0.A x0.C).X):Int)=0))==(decide ((((Fo x0.A x0.C).Y):Int)=0))))
theorem Wi(x0:AK)(x1:Int):PuP 190 (Oh x0 x1).2.1 (tO (.b (Ia x0 x1))):=by
 refine pwf Tryz.func190 fun W0 M0=>?_;exact AA<|on<|AA<|oq 10 _ (YP x0.A x0.C)<|AE<|AA<|od [] [(23,RM x0.B x0.C),(27,Ig (Am.mk (AG.mk 0 0) x1 false) (Fo x0.A x0.C))] (t4 (SH x0) ((gk (SH x0) (Cp (RM x0.B x0.C).2.1))::(t3 (SH x0) ((gk (SH x0) (Cp (Ig (Am.mk (AG.mk 0 0) x1 false) (Fo x0.A x0.C)).2.1))::(t3 (SH x0) []))))) (.cons (YP x0.B x0.C) (.cons (EW (Am.mk (AG.mk 0 0) x1 false) (Fo x0.A x0.C)) .nil)) (c4 (.cons (fun _=>rfl) (c3 (.cons (fun _=>rfl) (c3 .nil)))))<|AE<|AO<|zl
theorem M6(x0:AK)(x1:Int):OKc (Oh x0 x1):=cPu<|Wi x0 x1
def Ms(x0:AK):Bool:=(decide (x0.C.X=0)&&(decide (x0.C.Y=0)&&true))
def P5:CT:=(172,[.agg (AK.c x0)],.val [] (.av (.one (.b (Ms x0)))))
theorem jQ(x0:AK):PuP 172 (P5 x0).2.1 (tO (.b (Ms x0))):=by
 refine pwf Tryz.func172 fun W0 M0=>?_;exact AA<|on<|AA<|on<|AO<|zl
theorem cJ(x0:AK):OKc (P5 x0):=cPu<|jQ x0
def Gz(x0:AK):Bool:=Ia x0 1
def I3:CT:=(175,[.agg (AK.c x0)],.val [] (.av (.one (.b (Gz x0)))))
theorem So(x0:AK):PuP 175 (I3 x0).2.1 (tO (.b (Gz x0))):=by
 refine pwf Tryz.func175 fun W0 M0=>?_;exact AA<|on<|AA<|oq 4 _ (M6 x0 1)<|AE<|AO<|zl
theorem Q1(x0:AK):OKc (I3 x0):=cPu<|So x0
def GK(x0:AK):Bool:=Ia x0 3
def IK:CT:=(178,[.agg (AK.c x0)],.val [] (.av (.one (.b (GK x0)))))
theorem Qz(x0:AK):PuP 178 (IK x0).2.1 (tO (.b (GK x0))):=by
 refine pwf Tryz.func178 fun W0 M0=>?_;exact AA<|on<|AA<|oq 4 _ (M6 x0 3)<|AE<|AO<|zl
theorem Pm(x0:AK):OKc (IK x0):=cPu<|Qz x0
def Tc:CT:=(164,[.one (.i 1)],.val [] (.tup [.agg [.clo 172 0 dfc,.clo 173 0 dfc,.clo 174 0 dfc,.i 1],.one (.b true)]))
theorem bZ  : G4 Tryz.prog 164 (Tc ).2.1 (.tup [.agg [.clo 172 0 dfc,.clo 173 0 dfc,.clo 174 0 dfc,.i 1],.one (.b true)]):=by
 refine pwf Tryz.func164 fun W0 M0=>?_;exact AA<|on<|AA<|AA<|on<|AJ<|AA<|on<|CN kr<|AA<|on<|AO<|Cm<|Bf<|zl
theorem YV  : OKc (Tc ):=cPu<|bZ
def Tb:CT:=(164,[.one (.i 2)],.val [] (.tup [.agg [.clo 175 0 dfc,.clo 176 0 dfc,.clo 177 0 dfc,.i 3],.one (.b true)]))
theorem bY  : G4 Tryz.prog 164 (Tb ).2.1 (.tup [.agg [.clo 175 0 dfc,.clo 176 0 dfc,.clo 177 0 dfc,.i 3],.one (.b true)]):=by
 refine pwf Tryz.func164 fun W0 M0=>?_;exact AA<|on<|AA<|AA<|on<|AJ<|AA<|on<|An kr<|AA<|on<|CN kr<|AA<|on<|AO<|Cm<|Bf<|zl
theorem YU  : OKc (Tb ):=cPu<|bY
def Ta:CT:=(164,[.one (.i 3)],.val [] (.tup [.agg [.clo 178 0 dfc,.clo 176 0 dfc,.clo 177 0 dfc,.i 2],.one (.b true)]))
theorem bX  : G4 Tryz.prog 164 (Ta ).2.1 (.tup [.agg [.clo 178 0 dfc,.clo 176 0 dfc,.clo 177 0 dfc,.i 2],.one (.b true)]):=by
 refine pwf Tryz.func164 fun W0 M0=>?_;exact AA<|on<|AA<|AA<|on<|AJ<|AA<|on<|An kr<|AA<|on<|An kr<|AA<|on<|CN kr<|AA<|on<|AO<|Cm<|Bf<|zl
theorem YT  : OKc (Ta ):=cPu<|bX
def TZ:CT:=(164,[.one (.i k)],.val [] (.tup [.agg [.val .nilFunc,.val .nilFunc,.val .nilFunc,.i k],.one (.b false)]))
theorem bW(k:Int)(k1:¬ k=1)(k2:¬ k=2)(k3:¬ k=3):PuP 164 (TZ k).2.1 (.tup [.agg [.val .nilFunc,.val .nilFunc,.val .nilFunc,.i k],.one (.b false)]):=by
 refine pwf Tryz.func164 fun W0 M0=>?_;refine AA<|on<|AA<|AA<|on<|AJ<|AA<|on<|kb (decide ((k:Int)=1)) (fun h=>absurd ((lk k1).symm.trans h) m4) (fun _=>?_);refine AA<|on<|kb (decide ((k:Int)=2)) (fun h=>absurd ((lk k2).symm.trans h) m4) (fun _=>?_);refine AA<|on<|kb (decide ((k:Int)=3)) (fun h=>absurd ((lk k3).symm.trans h) m4) (fun _=>?_);exact AP<|Ao<|AE<|AA<|on<|AO<|zl
theorem YS(k:Int)(k1:¬ k=1)(k2:¬ k=2)(k3:¬ k=3):OKc (TZ k):=cPu<|bW k k1 k2 k3
def Z00:Bool:=bif Dr a0 then Dr a1 else false
def Z01:Bool:=bif Z00 a0 a1 then Dr a2 else false
def cof1:CT:=(130,[.agg [.i 1,.i a0.X,.i a0.Y,.i a1.X,.i a1.Y,.i a2.X,.i a2.Y]],.val [] (.tup [.agg [.clo 172 0 dfc,.clo 173 0 dfc,.clo 174 0 dfc,.i 1],.one (.b (bif Z01 a0 a1 a2 then Ms (AK.mk 1 a0 a1 a2)else false))]))
theorem i7{p:Prop}(h:p:=by
 refine pwf Tryz.func130 fun W0 M0=>?_;exact AA<|on<|AA<|oq 9 _ (mp0)<|AE<|AA<|od [] [(17,Ep a0),(22,Ep a1),(27,Ep a2),(33,mp1 (AK.mk mp2 a0 a1 a2))] ((((true)=true)->((true)=true))::(((true)=true)->((true)=true))::(((true)=true)->(Cp (Ep a0).2.1))::((true)=true->((true)=true))::(t2 (Dr a0) ((gk (Dr a0) (Cp (Ep a1).2.1))::(gt (Dr a0))::(gp ((mp3 a0 a1)=true))::(gp ((mp3 a0 a1)=true))::(((mp3 a0 a1)=true)->(Cp (Ep a2).2.1))::(gp ((mp3 a0 a1)=true))::(t3 (mp4 a0 a1 a2) [gk (mp4 a0 a1 a2) (Cp (mp1 (AK.mk mp2 a0 a1 a2)).2.1),gt (mp4 a0 a1 a2)])))) (.cons (HK a0) (.cons (HK a1) (.cons (HK a2) (.cons (mp5 (AK.mk mp2 a0 a1 a2)) .nil)))) (ci (ci (.cons (fun _=>rfl) (ci (c2 (.cons (fun _=>rfl) (ci (ci (ci (.cons (fun _=>rfl) (ci (c3 (.cons (fun _=>rfl) (ci .nil))))))))))))))<|AE<|AO<|zl):p:=h
section
 open Go.Proofs.YtheobjkgllmnmaaGreat renaming YV→mp0,P5→mp1,ni1→mp2,Z00→mp3,Z01→mp4,cJ→mp5
theorem pof1(a0:AG)(a1:AG)(a2:AG):PuP 130 (cof1 a0 a1 a2).2.1 (.tup [.agg [.clo 172 0 dfc,.clo 173 0 dfc,.clo 174 0 dfc,.i 1],.one (.b (bif Z01 a0 a1 a2 then Ms (AK.mk 1 a0 a1 a2)else false))]):=i7
end
theorem okof1(a0:AG)(a1:AG)(a2:AG):OKc (cof1 a0 a1 a2):=cPu<|pof1 a0 a1 a2
def Z03:Bool:=bif Dr a0 then Dr a1 else false
def Z04:Bool:=bif Z03 a0 a1 then Dr a2 else false
def cof2:CT:=(130,[.agg [.i 2,.i a0.X,.i a0.Y,.i a1.X,.i a1.Y,.i a2.X,.i a2.Y]],.val [] (.tup [.agg [.clo 175 0 dfc,.clo 176 0 dfc,.clo 177 0 dfc,.i 3],.one (.b (bif Z04 a0 a1 a2 then Gz (AK.mk 2 a0 a1 a2)else false))]))
section
 open Go.Proofs.YtheobjkgllmnmaaGreat renaming YU→mp0,I3→mp1,ni2→mp2,Z03→mp3,Z04→mp4,Q1→mp5
theorem pof2(a0:AG)(a1:AG)(a2:AG):PuP 130 (cof2 a0 a1 a2).2.1 (.tup [.agg [.clo 175 0 dfc,.clo 176 0 dfc,.clo 177 0 dfc,.i 3],.one (.b (bif Z04 a0 a1 a2 then Gz (AK.mk 2 a0 a1 a2)else false))]):=i7
end
theorem okof2(a0:AG)(a1:AG)(a2:AG):OKc (cof2 a0 a1 a2):=cPu<|pof2 a0 a1 a2
def Z06:Bool:=bif Dr a0 then Dr a1 else false
def Z07:Bool:=bif Z06 a0 a1 then Dr a2 else false
def cof3:CT:=(130,[.agg [.i 3,.i a0.X,.i a0.Y,.i a1.X,.i a1.Y,.i a2.X,.i a2.Y]],.val [] (.tup [.agg [.clo 178 0 dfc,.clo 176 0 dfc,.clo 177 0 dfc,.i 2],.one (.b (bif Z07 a0 a1 a2 then GK (AK.mk 3 a0 a1 a2)else false))]))
section
 open Go.Proofs.YtheobjkgllmnmaaGreat renaming YT→mp0,IK→mp1,ni3→mp2,Z06→mp3,Z07→mp4,Pm→mp5
theorem pof3(a0:AG)(a1:AG)(a2:AG):PuP 130 (cof3 a0 a1 a2).2.1 (.tup [.agg [.clo 178 0 dfc,.clo 176 0 dfc,.clo 177 0 dfc,.i 2],.one (.b (bif Z07 a0 a1 a2 then GK (AK.mk 3 a0 a1 a2)else false))]):=i7
end
theorem okof3(a0:AG)(a1:AG)(a2:AG):OKc (cof3 a0 a1 a2):=cPu<|pof3 a0 a1 a2
def cofN:CT:=(130,[.agg (AK.c e)],.val [] (.tup [.agg [.val .nilFunc,.val .nilFunc,.val .nilFunc,.i e.Kind],.one (.b false)]))
theorem pofN(e:AK)(k1:¬ e.Kind=1)(k2:¬ e.Kind=2)(k3:¬ e.Kind=3):PuP 130 (cofN e).2.1 (.tup [.agg [.val .nilFunc,.val .nilFunc,.val .nilFunc,.i e.Kind],.one (.b false)]):=by
 refine pwf Tryz.func130 fun W0 M0=>?_;exact AA<|on<|AA<|oq 9 _ (YS e.Kind k1 k2 k3)<|AE<|AA<|od [] _ [((false)=true)->((false)=true),((false)=true)->((false)=true),((false)=true)->(Cp (Ep e.A).2.1),(false)=true->((false)=true),((false)=true)->((false)=true),((false)=true)->((false)=true),((false)=true)->(Cp (Ep e.B).2.1),(false)=true->((false)=true),((false)=true)->((false)=true),((false)=true)->((false)=true),((false)=true)->(Cp (Ep e.C).2.1),(false)=true->((false)=true),((false)=true)->((false)=true),¬ ((false)=true),(false)=true->((false)=true)] (J3 17 22 27 (HK e.A) (HK e.B) (HK e.C)) (ci (ci (.cons (fun _=>rfl) (ci (ci (ci (.cons (fun _=>rfl) (ci (ci (ci (.cons (fun _=>rfl) (ci (ci (.cons m3 (ci .nil)))))))))))))))<|AE<|AO<|zl
theorem okofN(e:AK)(k1:¬ e.Kind=1)(k2:¬ e.Kind=2)(k3:¬ e.Kind=3):OKc (cofN e):=cPu<|pofN e k1 k2 k3
def T9(a0:AG)(a1:AG)(a2:AG)(m:Am):AK:=AK.mk 1 (BV m a0) (BV m a1) a2
def ju:CT:=(152,[.agg [.i 1,.i a0.X,.i a0.Y,.i a1.X,.i a1.Y,.i a2.X,.i a2.Y],.agg (Am.c m)],.val [] (.av (.agg (AK.c (T9 a0 a1 a2 m)))))
abbrev j6:List Cl:=[.i 0,.i 0,.i 0,.i 0,.i 0,.i 0,.i 0]
abbrev Il:Nat×Blk:=(4,.cells j6 68)
abbrev GN:Nat×Blk:=(3,.cells (Am.c m) 74)
abbrev V5:Nat×Blk:=(2,.cells [.i 1,.i a0.X,.i a0.Y,.i a1.X,.i a1.Y,.i a2.X,.i a2.Y] 68)
theorem fy(a0:AG)(a1:AG)(a2:AG)(m:Am):PuP 152 (ju a0 a1 a2 m).2.1 (.av (.agg (AK.c (T9 a0 a1 a2 m)))):=by
 refine pwf Tryz.func152 fun W0 M0=>?_;refine AA<|on<|AA<|AA<|oq 9 _ (okof1 a0 a1 a2)<|AE<|AA<|rn ⟨(Dd [(5,tP 5 0),(13,tB m.Mirror)]),[(V5 a0 a1 a2),(GN m),Il,(5,.cells [.clo 172 0 dfc,.clo 173 0 dfc,.clo 174 0 dfc,.i 1] 241)]⟩<|B4 (⟨Hk,[(V5 a0 a1 a2),(GN m),Il]⟩) ?_ ?_
 ·refine BC _ rfl (fun h1=>?_) (fun h1=>?_)
  ·refine rn ⟨Hk,[(V5 a0 a1 a2),(GN m),Il]⟩<|Az ?_
   first|rfl|(simp only[h1,mi,mj]<;>rfl)
  refine AP<|AE<|Cv.trans (ck (⟨Hk,[(V5 a0 a1 a2),(GN m),Il]⟩)) (Az ?_)
  first|rfl|(simp only[h1,mi,mj]<;>rfl)
 exact AA<|AA<|on<|An kr<|AP<|AE<|AA<|oe [] _ [none,none] (J2 28 32 (EW m a0) (EW m a1)) .nil<|AE<|AA<|on<|AO<|zl
def T8(a0:AG)(a1:AG)(a2:AG)(m:Am):AK:=AK.mk (bif m.Mirror then 3 else 2) (BV m a0) (BV m a1) (AG.mk (bif !decide (((bif m.Mirror then 3 else 2):Int)=1)then((BV m a2).X)else a2.X) (bif !decide (((bif m.Mirror then 3 else 2):Int)=1)then((BV m a2).Y)else a2.Y))
def jt:CT:=(152,[.agg [.i 2,.i a0.X,.i a0.Y,.i a1.X,.i a1.Y,.i a2.X,.i a2.Y],.agg (Am.c m)],.val [] (.av (.agg (AK.c (T8 a0 a1 a2 m)))))
theorem mac1{p:Prop}(h:p:=by
 refine pwf Tryz.func152 fun W0 M0=>?_;refine AA<|on<|AA<|AA<|oq 9 _ (mp0 a0 a1 a2)<|AE<|AA<|rn ⟨[(2,tP 2 0),(3,tP 3 0),(4,tP 4 0),(5,tP 5 0),(13,tB m.Mirror)],[(2,.cells [.i mp1,.i a0.X,.i a0.Y,.i a1.X,.i a1.Y,.i a2.X,.i a2.Y] 68),(3,.cells (Am.c m) 74),(4,.cells [.i 0,.i 0,.i 0,.i 0,.i 0,.i 0,.i 0] 68),(5,.cells [.clo mp2 0 (fun _=>default),.clo 176 0 dfc,.clo 177 0 dfc,.i mp3] 241)]⟩<|B4 (⟨[(2,tP 2 0),(3,tP 3 0),(4,tP 4 0)],[(2,.cells [.i (bif m.Mirror then mp4 else mp5),.i a0.X,.i a0.Y,.i a1.X,.i a1.Y,.i a2.X,.i a2.Y] 68),(3,.cells (Am.c m) 74),(4,.cells [.i 0,.i 0,.i 0,.i 0,.i 0,.i 0,.i 0] 68)]⟩) ?_ ?_
 ·refine BC _ rfl (fun h1=>?_) (fun h1=>?_)
  ·refine rn ⟨[(2,tP 2 0),(3,tP 3 0),(4,tP 4 0)],[(2,.cells [.i mp3,.i a0.X,.i a0.Y,.i a1.X,.i a1.Y,.i a2.X,.i a2.Y] 68),(3,.cells (Am.c m) 74),(4,.cells [.i 0,.i 0,.i 0,.i 0,.i 0,.i 0,.i 0] 68)]⟩<|Az ?_
   first|rfl|(simp only[h1,mi,mj]<;>rfl)
  refine AP<|AE<|Cv.trans (ck (⟨[(2,tP 2 0),(3,tP 3 0),(4,tP 4 0)],[(2,.cells [.i mp1,.i a0.X,.i a0.Y,.i a1.X,.i a1.Y,.i a2.X,.i a2.Y] 68),(3,.cells (Am.c m) 74),(4,.cells [.i 0,.i 0,.i 0,.i 0,.i 0,.i 0,.i 0] 68)]⟩)) (Az ?_)
  first|rfl|(simp only[h1,mi,mj]<;>rfl)
 refine AA<|AA<|rn ⟨[(2,tP 2 0),(3,tP 3 0),(4,tP 4 0),(19,tB (!decide (((bif m.Mirror then mp4 else mp5):Int)=1)))],[(2,.cells [.i (bif m.Mirror then mp4 else mp5),.i a0.X,.i a0.Y,.i a1.X,.i a1.Y,.i a2.X,.i a2.Y] 68),(3,.cells (Am.c m) 74),(4,.cells [.i 0,.i 0,.i 0,.i 0,.i 0,.i 0,.i 0] 68)]⟩<|B4 (⟨[(2,tP 2 0),(3,tP 3 0),(4,tP 4 0)],[(2,.cells [.i (bif m.Mirror then mp4 else mp5),.i a0.X,.i a0.Y,.i a1.X,.i a1.Y,.i (bif !decide (((bif m.Mirror then mp4 else mp5):Int)=1)then((BV m a2).X)else a2.X),.i (bif !decide (((bif m.Mirror then mp4 else mp5):Int)=1)then((BV m a2).Y)else a2.Y)] 68),(3,.cells (Am.c m) 74),(4,.cells [.i 0,.i 0,.i 0,.i 0,.i 0,.i 0,.i 0] 68)]⟩) ?_ ?_
 ·refine BC _ rfl (fun h1=>?_) (fun h1=>?_)
  ·have g1:=B8 h1;refine rs 23 _ ⟨[(2,tP 2 0),(3,tP 3 0),(4,tP 4 0)],[(2,.cells [.i (bif m.Mirror then mp4 else mp5),.i a0.X,.i a0.Y,.i a1.X,.i a1.Y,.i ((BV m a2).X),.i ((BV m a2).Y)] 68),(3,.cells (Am.c m) 74),(4,.cells [.i 0,.i 0,.i 0,.i 0,.i 0,.i 0,.i 0] 68)]⟩ (EW m a2)<|AE<|Az ?_
   first|rfl|(simp only[h1,mi,mj]<;>rfl)
  have g1:=B3 h1;refine AP<|AE<|Cv.trans (ck (⟨[(2,tP 2 0),(3,tP 3 0),(4,tP 4 0)],[(2,.cells [.i (bif m.Mirror then mp4 else mp5),.i a0.X,.i a0.Y,.i a1.X,.i a1.Y,.i a2.X,.i a2.Y] 68),(3,.cells (Am.c m) 74),(4,.cells [.i 0,.i 0,.i 0,.i 0,.i 0,.i 0,.i 0] 68)]⟩)) (Az ?_)
  first|rfl|(simp only[h1,mi,mj]<;>rfl)
 exact AA<|oe [] _ [none,none] (J2 28 32 (EW m a0) (EW m a1)) .nil<|AE<|AA<|on<|AO<|zl):p:=h
section
 open Go.Proofs.YtheobjkgllmnmaaGreat renaming okof2→mp0,ni2→mp1,nn175→mp2,ni3→mp3,nn3→mp4,nn2→mp5
theorem fx(a0:AG)(a1:AG)(a2:AG)(m:Am):PuP 152 (jt a0 a1 a2 m).2.1 (.av (.agg (AK.c (T8 a0 a1 a2 m)))):=mac1
end
def T7(a0:AG)(a1:AG)(a2:AG)(m:Am):AK:=AK.mk (bif m.Mirror then 2 else 3) (BV m a0) (BV m a1) (AG.mk (bif !decide (((bif m.Mirror then 2 else 3):Int)=1)then((BV m a2).X)else a2.X) (bif !decide (((bif m.Mirror then 2 else 3):Int)=1)then((BV m a2).Y)else a2.Y))
def js:CT:=(152,[.agg [.i 3,.i a0.X,.i a0.Y,.i a1.X,.i a1.Y,.i a2.X,.i a2.Y],.agg (Am.c m)],.val [] (.av (.agg (AK.c (T7 a0 a1 a2 m)))))
section
 open Go.Proofs.YtheobjkgllmnmaaGreat renaming okof3→mp0,ni3→mp1,nn178→mp2,ni2→mp3,nn2→mp4,nn3→mp5
theorem fw(a0:AG)(a1:AG)(a2:AG)(m:Am):PuP 152 (js a0 a1 a2 m).2.1 (.av (.agg (AK.c (T7 a0 a1 a2 m)))):=mac1
end
def T6(e:AK)(m:Am):AK:=AK.mk e.Kind (BV m e.A) (BV m e.B) (AG.mk (bif !decide ((e.Kind:Int)=1)then((BV m e.C).X)else e.C.X) (bif !decide ((e.Kind:Int)=1)then((BV m e.C).Y)else e.C.Y))
def jr:CT:=(152,[.agg (AK.c e),.agg (Am.c m)],.val [] (.av (.agg (AK.c (T6 e m)))))
abbrev Ro:List (Nat×Blk):=[(2,.cells (AK.c e) 68),(GN m),Il]
theorem fv(e:AK)(m:Am)(k1:¬ e.Kind=1)(k2:¬ e.Kind=2)(k3:¬ e.Kind=3):PuP 152 (jr e m).2.1 (.av (.agg (AK.c (T6 e m)))):=by
 refine pwf Tryz.func152 fun W0 M0=>?_;refine AA<|on<|AA<|AA<|oq 9 _ (okofN e k1 k2 k3)<|AE<|AA<|rn ⟨(Dd [(5,tP 5 0),(13,tB m.Mirror)]),[(2,.cells (AK.c e) 68),(GN m),Il,(5,.cells [.val .nilFunc,.val .nilFunc,.val .nilFunc,.i e.Kind] 241)]⟩<|B4 (⟨Hk,(Ro e m)⟩) ?_ ?_
 ·refine BC _ rfl (fun h4=>?_) (fun h4=>?_)
  ·refine rn ⟨Hk,(Ro e m)⟩<|Az ?_
   first|rfl|(simp only[h4,mi,mj]<;>rfl)
  refine AP<|AE<|Cv.trans (ck (⟨Hk,(Ro e m)⟩)) (Az ?_)
  first|rfl|(simp only[h4,mi,mj]<;>rfl)
 refine AA<|AA<|rn ⟨(Dd [(19,tB (!decide ((e.Kind:Int)=1)))]),(Ro e m)⟩<|B4 (⟨Hk,[(2,.cells [.i e.Kind,.i e.A.X,.i e.A.Y,.i e.B.X,.i e.B.Y,.i (bif !decide ((e.Kind:Int)=1)then((BV m e.C).X)else e.C.X),.i (bif !decide ((e.Kind:Int)=1)then((BV m e.C).Y)else e.C.Y)] 68),(GN m),Il]⟩) ?_ ?_
 ·refine BC _ rfl (fun h4=>?_) (fun h4=>?_)
  ·have g4:=B8 h4;refine rs 23 _ ⟨Hk,[(2,.cells [.i e.Kind,.i e.A.X,.i e.A.Y,.i e.B.X,.i e.B.Y,.i ((BV m e.C).X),.i ((BV m e.C).Y)] 68),(GN m),Il]⟩ (EW m e.C)<|AE<|Az ?_
   first|rfl|(simp only[h4,mi,mj]<;>rfl)
  have g4:=B3 h4;refine AP<|AE<|Cv.trans (ck (⟨Hk,(Ro e m)⟩)) (Az ?_)
  first|rfl|(simp only[h4,mi,mj]<;>rfl)
 exact AA<|oe [] _ [none,none] (J2 28 32 (EW m e.A) (EW m e.B)) .nil<|AE<|AA<|on<|AO<|zl
def FD(e:AK)(m:Am):AK:=if e.Kind=1 then T9 e.A e.B e.C m else if e.Kind=2 then T8 e.A e.B e.C m else if e.Kind=3 then T7 e.A e.B e.C m else T6 e m
def dz:CT:=(152,[.agg (AK.c e),.agg (Am.c m)],.val [] (.av (.agg (AK.c (FD e m)))))
theorem pMove(e:AK)(m:Am):PuP 152 (dz e m).2.1 (.av (.agg (AK.c (FD e m)))):=by
 by_cases k1:e.Kind=1
 ·have hF:FD e m=T9 e.A e.B e.C m:=by unfold FD;rw[if_pos k1]
  rw[hF];obtain⟨k,a0,a1,a2⟩:=e;simp only at k1;subst k1;exact fy a0 a1 a2 m
 by_cases k2:e.Kind=2
 ·have hF:FD e m=T8 e.A e.B e.C m:=by unfold FD;rw[if_neg k1];rw[if_pos k2]
  rw[hF];obtain⟨k,a0,a1,a2⟩:=e;simp only at k2;subst k2;exact fx a0 a1 a2 m
 by_cases k3:e.Kind=3
 ·have hF:FD e m=T7 e.A e.B e.C m:=by unfold FD;rw[if_neg k1];rw[if_neg k2];rw[if_pos k3]
  rw[hF];obtain⟨k,a0,a1,a2⟩:=e;simp only at k3;subst k3;exact fw a0 a1 a2 m
 have hF:FD e m=T6 e m:=by unfold FD;rw[if_neg k1,if_neg k2,if_neg k3]
 rw[hF];exact fv e m k1 k2 k3
theorem im(e:AK)(m:Am):OKc (dz e m):=cPu<|pMove e m
end
section
open Go.ChangeShapes Go.WideShapes Go.ChangeAt Go.RowKit
theorem own:ownKnob Tryz.prog.godebug=none:=by kernel_rfl
theorem au:laidOutB Tryz.prog=true:=by kernel_rfl
theorem opT57:Cn Tryz.prog 57 (fun xs:List Int=>[lst 1 eIn xs]) (fun xs=>xs.length<=maxLen/\∀x∈xs,WF .i64 x):=CV 1 Tryz.underlying57 kr m4 (Be Tryz.underlying3)
theorem opT22:Cn Tryz.prog 22 (fun xs:List (List Int)=>[lst 1 (fun x=>[lst 1 eIn x]) xs]) (fun xs=>xs.length<=maxLen/\∀x∈xs,(x.length<=maxLen/\∀y∈x,WF .i64 y)):=CV 1 Tryz.underlying22 kr m4 opT57
def Ee.ok(x:Ee):Prop:=WF .i64 x.e0/\WF .i64 x.e1/\WF .i64 x.e2/\True
theorem opT23:Cn Tryz.prog 23 Ee.c Ee.ok:=by
 refine Cy (YK Tryz.underlying23 kr (Be Tryz.underlying3)) ?_;rintro xs ⟨hl,hx⟩
 match xs,hl with
 |[a0,a1,a2],_=>exact⟨⟨a0,a1,a2⟩,⟨hx _ m3,hx _ m3,hx _ m3,trivial⟩,rfl⟩
def KI.ok(x:KI):Prop:=(x.Board.length<=maxLen/\∀y∈x.Board,(y.length<=maxLen/\∀z∈y,WF .i64 z))/\Ee.ok x.Odd/\True
theorem opT25:Cn Tryz.prog 25 KI.c KI.ok:=by
 refine Cy (B6 Tryz.underlying25 kr (Aa 1 kr rfl opT22 (Aa 3 kr rfl opT23 Cj))) ?_;rintro⟨a0,a1,_⟩ ⟨h0,h1,_⟩;exact⟨⟨a0,a1⟩,⟨h0,h1,trivial⟩,rfl⟩
def AG.ok(x:AG):Prop:=WF .i64 x.X/\WF .i64 x.Y/\True
theorem YM:Cn Tryz.prog 66 AG.c AG.ok:=by
 refine Cy (B6 Tryz.underlying66 kr (Aa 1 kr rfl (Be Tryz.underlying3) (Aa 1 kr rfl (Be Tryz.underlying3) Cj))) ?_;rintro⟨a0,a1,_⟩ ⟨h0,h1,_⟩;exact⟨⟨a0,a1⟩,⟨h0,h1,trivial⟩,rfl⟩
def AK.ok(x:AK):Prop:=WF .i64 x.Kind/\AG.ok x.A/\AG.ok x.B/\AG.ok x.C/\True
theorem opT68:Cn Tryz.prog 68 AK.c AK.ok:=by
 refine Cy (B6 Tryz.underlying68 kr (Aa 1 kr rfl (Be Tryz.underlying3) (Aa 2 kr rfl YM (Aa 2 kr rfl YM (Aa 2 kr rfl YM Cj))))) ?_;rintro⟨a0,a1,a2,a3,_⟩ ⟨h0,h1,h2,h3,_⟩;exact⟨⟨a0,a1,a2,a3⟩,⟨h0,h1,h2,h3,trivial⟩,rfl⟩
theorem opT26:Cn Tryz.prog 26 (fun xs:List AK=>[lst 7 AK.c xs]) (fun xs=>xs.length<=maxLen/\∀x∈xs,AK.ok x):=CV 7 Tryz.underlying26 kr m4 opT68
def AQ.ok(x:AQ):Prop:=WF .i64 x.Kind/\(x.Edges.length<=maxLen/\∀y∈x.Edges,AK.ok y)/\WF .i64 x.R/\True
theorem fU:Cn Tryz.prog 28 AQ.c AQ.ok:=by
 refine Cy (B6 Tryz.underlying28 kr (Aa 1 kr rfl (Be Tryz.underlying3) (Aa 1 kr rfl opT26 (Aa 1 kr rfl (Be Tryz.underlying3) Cj)))) ?_;rintro⟨a0,a1,a2,_⟩ ⟨h0,h1,h2,_⟩;exact⟨⟨a0,a1,a2⟩,⟨h0,h1,h2,trivial⟩,rfl⟩
def AD.ok(x:AD):Prop:=WF .i64 x.Id/\x.Ref.size<=maxLen/\x.Type'.size<=maxLen/\AG.ok x.At/\WF .i64 x.Turn/\True/\True
theorem opT78:Cn Tryz.prog 78 AD.c AD.ok:=by
 refine Cy (B6 Tryz.underlying78 kr (Aa 1 kr rfl (Be Tryz.underlying3) (Aa 1 kr rfl (C3 Tryz.underlying9) (Aa 1 kr rfl (C3 Tryz.underlying9) (Aa 2 kr rfl YM (Aa 1 kr rfl (Be Tryz.underlying3) (Aa 1 kr rfl (cG Tryz.underlying4) Cj))))))) ?_;rintro⟨a0,a1,a2,a3,a4,a5,_⟩ ⟨h0,h1,h2,h3,h4,h5,_⟩;exact⟨⟨a0,a1,a2,a3,a4,a5⟩,⟨h0,h1,h2,h3,h4,h5,trivial⟩,rfl⟩
theorem opT29:Cn Tryz.prog 29 (fun xs:List AD=>[lst 7 AD.c xs]) (fun xs=>xs.length<=maxLen/\∀x∈xs,AD.ok x):=CV 7 Tryz.underlying29 kr m4 opT78
def Ab.ok(x:Ab):Prop:=x.Ref.size<=maxLen/\x.Pad.size<=maxLen/\True
theorem ig:Cn Tryz.prog 106 Ab.c Ab.ok:=by
 refine Cy (B6 Tryz.underlying106 kr (Aa 1 kr rfl (C3 Tryz.underlying9) (Aa 1 kr rfl (C3 Tryz.underlying9) Cj))) ?_;rintro⟨a0,a1,_⟩ ⟨h0,h1,_⟩;exact⟨⟨a0,a1⟩,⟨h0,h1,trivial⟩,rfl⟩
theorem ic:Cn Tryz.prog 118 (fun xs:List Ab=>[lst 2 Ab.c xs]) (fun xs=>xs.length<=maxLen/\∀x∈xs,Ab.ok x):=CV 2 Tryz.underlying118 kr m4 ig
def A7.ok(x:A7):Prop:=x.Name.size<=maxLen/\(x.Pins.length<=maxLen/\∀y∈x.Pins,Ab.ok y)/\True
theorem ib:Cn Tryz.prog 120 A7.c A7.ok:=by
 refine Cy (B6 Tryz.underlying120 kr (Aa 1 kr rfl (C3 Tryz.underlying9) (Aa 1 kr rfl ic Cj))) ?_;rintro⟨a0,a1,_⟩ ⟨h0,h1,_⟩;exact⟨⟨a0,a1⟩,⟨h0,h1,trivial⟩,rfl⟩
theorem opT30:Cn Tryz.prog 30 (fun xs:List A7=>[lst 2 A7.c xs]) (fun xs=>xs.length<=maxLen/\∀x∈xs,A7.ok x):=CV 2 Tryz.underlying30 kr m4 ib
def AM.ok(x:AM):Prop:=WF .i64 x.Id/\x.Net.size<=maxLen/\WF .i64 x.Layer/\AQ.ok x.Shape/\True
theorem ia:Cn Tryz.prog 131 AM.c AM.ok:=by
 refine Cy (B6 Tryz.underlying131 kr (Aa 1 kr rfl (Be Tryz.underlying3) (Aa 1 kr rfl (C3 Tryz.underlying9) (Aa 1 kr rfl (Be Tryz.underlying3) (Aa 3 kr rfl fU Cj))))) ?_;rintro⟨a0,a1,a2,a3,_⟩ ⟨h0,h1,h2,h3,_⟩;exact⟨⟨a0,a1,a2,a3⟩,⟨h0,h1,h2,h3,trivial⟩,rfl⟩
theorem opT31:Cn Tryz.prog 31 (fun xs:List AM=>[lst 6 AM.c xs]) (fun xs=>xs.length<=maxLen/\∀x∈xs,AM.ok x):=CV 6 Tryz.underlying31 kr m4 ia
def Ak.ok(x:Ak):Prop:=WF .i64 x.Id/\x.Net.size<=maxLen/\AG.ok x.At/\WF .i64 x.R/\WF .i64 x.Drill/\WF .i64 x.From/\WF .i64 x.To/\True
theorem gz:Cn Tryz.prog 133 Ak.c Ak.ok:=by
 refine Cy (B6 Tryz.underlying133 kr (Aa 1 kr rfl (Be Tryz.underlying3) (Aa 1 kr rfl (C3 Tryz.underlying9) (Aa 2 kr rfl YM (Aa 1 kr rfl (Be Tryz.underlying3) (Aa 1 kr rfl (Be Tryz.underlying3) (Aa 1 kr rfl (Be Tryz.underlying3) (Aa 1 kr rfl (Be Tryz.underlying3) Cj)))))))) ?_;rintro⟨a0,a1,a2,a3,a4,a5,a6,_⟩ ⟨h0,h1,h2,h3,h4,h5,h6,_⟩;exact⟨⟨a0,a1,a2,a3,a4,a5,a6⟩,⟨h0,h1,h2,h3,h4,h5,h6,trivial⟩,rfl⟩
theorem opT32:Cn Tryz.prog 32 (fun xs:List Ak=>[lst 8 Ak.c xs]) (fun xs=>xs.length<=maxLen/\∀x∈xs,Ak.ok x):=CV 8 Tryz.underlying32 kr m4 gz
def Al.ok(x:Al):Prop:=WF .i64 x.X0/\WF .i64 x.Y0/\WF .i64 x.X1/\WF .i64 x.Y1/\True
theorem opT90:Cn Tryz.prog 90 Al.c Al.ok:=by
 refine Cy (B6 Tryz.underlying90 kr (Aa 1 kr rfl (Be Tryz.underlying3) (Aa 1 kr rfl (Be Tryz.underlying3) (Aa 1 kr rfl (Be Tryz.underlying3) (Aa 1 kr rfl (Be Tryz.underlying3) Cj))))) ?_;rintro⟨a0,a1,a2,a3,_⟩ ⟨h0,h1,h2,h3,_⟩;exact⟨⟨a0,a1,a2,a3⟩,⟨h0,h1,h2,h3,trivial⟩,rfl⟩
theorem opT95:Cn Tryz.prog 95 (fun xs:List Al=>[lst 4 Al.c xs]) (fun xs=>xs.length<=maxLen/\∀x∈xs,Al.ok x):=CV 4 Tryz.underlying95 kr m4 opT90
def A8.ok(x:A8):Prop:=WF .i64 x.Id/\x.Net.size<=maxLen/\WF .i64 x.Layer/\WF .i64 x.Pitch/\WF .i64 x.Priority/\WF .i64 x.Relief/\WF .i64 x.Spoke/\(x.Rects.length<=maxLen/\∀y∈x.Rects,Al.ok y)/\True
theorem opT97:Cn Tryz.prog 97 A8.c A8.ok:=by
 refine Cy (B6 Tryz.underlying97 kr (Aa 1 kr rfl (Be Tryz.underlying3) (Aa 1 kr rfl (C3 Tryz.underlying9) (Aa 1 kr rfl (Be Tryz.underlying3) (Aa 1 kr rfl (Be Tryz.underlying3) (Aa 1 kr rfl (Be Tryz.underlying3) (Aa 1 kr rfl (Be Tryz.underlying3) (Aa 1 kr rfl (Be Tryz.underlying3) (Aa 1 kr rfl opT95 Cj))))))))) ?_;rintro⟨a0,a1,a2,a3,a4,a5,a6,a7,_⟩ ⟨h0,h1,h2,h3,h4,h5,h6,h7,_⟩;exact⟨⟨a0,a1,a2,a3,a4,a5,a6,a7⟩,⟨h0,h1,h2,h3,h4,h5,h6,h7,trivial⟩,rfl⟩
theorem opT33:Cn Tryz.prog 33 (fun xs:List A8=>[lst 8 A8.c xs]) (fun xs=>xs.length<=maxLen/\∀x∈xs,A8.ok x):=CV 8 Tryz.underlying33 kr m4 opT97
def BA.ok(x:BA):Prop:=WF .i64 x.Id/\WF .i64 x.Layer/\AQ.ok x.Shape/\True
theorem gw:Cn Tryz.prog 136 BA.c BA.ok:=by
 refine Cy (B6 Tryz.underlying136 kr (Aa 1 kr rfl (Be Tryz.underlying3) (Aa 1 kr rfl (Be Tryz.underlying3) (Aa 3 kr rfl fU Cj)))) ?_;rintro⟨a0,a1,a2,_⟩ ⟨h0,h1,h2,_⟩;exact⟨⟨a0,a1,a2⟩,⟨h0,h1,h2,trivial⟩,rfl⟩
theorem opT34:Cn Tryz.prog 34 (fun xs:List BA=>[lst 5 BA.c xs]) (fun xs=>xs.length<=maxLen/\∀x∈xs,BA.ok x):=CV 5 Tryz.underlying34 kr m4 gw
def AX.ok(x:AX):Prop:=WF .i64 x.Id/\AQ.ok x.Shape/\True
theorem ie:Cn Tryz.prog 112 AX.c AX.ok:=by
 refine Cy (B6 Tryz.underlying112 kr (Aa 1 kr rfl (Be Tryz.underlying3) (Aa 3 kr rfl fU Cj))) ?_;rintro⟨a0,a1,_⟩ ⟨h0,h1,_⟩;exact⟨⟨a0,a1⟩,⟨h0,h1,trivial⟩,rfl⟩
theorem opT35:Cn Tryz.prog 35 (fun xs:List AX=>[lst 4 AX.c xs]) (fun xs=>xs.length<=maxLen/\∀x∈xs,AX.ok x):=CV 4 Tryz.underlying35 kr m4 ie
theorem rR:Cn Tryz.prog 123 (fun xs:List my=>[lst 1 (fun x=>[.s x]) xs]) (fun xs=>xs.length<=maxLen/\∀x∈xs,x.size<=maxLen):=CV 1 Tryz.underlying123 kr m4 (C3 Tryz.underlying9)
def BG.ok(x:BG):Prop:=x.Name.size<=maxLen/\(x.Nets.length<=maxLen/\∀y∈x.Nets,y.size<=maxLen)/\True
theorem gu:Cn Tryz.prog 138 BG.c BG.ok:=by
 refine Cy (B6 Tryz.underlying138 kr (Aa 1 kr rfl (C3 Tryz.underlying9) (Aa 1 kr rfl rR Cj))) ?_;rintro⟨a0,a1,_⟩ ⟨h0,h1,_⟩;exact⟨⟨a0,a1⟩,⟨h0,h1,trivial⟩,rfl⟩
theorem opT36:Cn Tryz.prog 36 (fun xs:List BG=>[lst 2 BG.c xs]) (fun xs=>xs.length<=maxLen/\∀x∈xs,BG.ok x):=CV 2 Tryz.underlying36 kr m4 gu
def As.ok(x:As):Prop:=WF .i64 x.A/\WF .i64 x.B/\x.Rule.size<=maxLen/\True
theorem gq:Cn Tryz.prog 142 As.c As.ok:=by
 refine Cy (B6 Tryz.underlying142 kr (Aa 1 kr rfl (Be Tryz.underlying3) (Aa 1 kr rfl (Be Tryz.underlying3) (Aa 1 kr rfl (C3 Tryz.underlying9) Cj)))) ?_;rintro⟨a0,a1,a2,_⟩ ⟨h0,h1,h2,_⟩;exact⟨⟨a0,a1,a2⟩,⟨h0,h1,h2,trivial⟩,rfl⟩
theorem opT38:Cn Tryz.prog 38 (fun xs:List As=>[lst 3 As.c xs]) (fun xs=>xs.length<=maxLen/\∀x∈xs,As.ok x):=CV 3 Tryz.underlying38 kr m4 gq
def BI.ok(x:BI):Prop:=x.Name.size<=maxLen/\(x.Nets.length<=maxLen/\∀y∈x.Nets,y.size<=maxLen)/\WF .i64 x.Within/\True
theorem gr:Cn Tryz.prog 140 BI.c BI.ok:=by
 refine Cy (B6 Tryz.underlying140 kr (Aa 1 kr rfl (C3 Tryz.underlying9) (Aa 1 kr rfl rR (Aa 1 kr rfl (Be Tryz.underlying3) Cj)))) ?_;rintro⟨a0,a1,a2,_⟩ ⟨h0,h1,h2,_⟩;exact⟨⟨a0,a1,a2⟩,⟨h0,h1,h2,trivial⟩,rfl⟩
theorem opT39:Cn Tryz.prog 39 (fun xs:List BI=>[lst 3 BI.c xs]) (fun xs=>xs.length<=maxLen/\∀x∈xs,BI.ok x):=CV 3 Tryz.underlying39 kr m4 gr
def AC.cA(x:AC):List Cl:=[.i x.Layers,.i x.Outline.Kind,lst 7 AK.c x.Outline.Edges,.i x.Outline.R,lst 7 AD.c x.Parts,lst 2 A7.c x.Nets,lst 6 AM.c x.Tracks,lst 8 Ak.c x.Vias,lst 8 A8.c x.Pours,lst 5 BA.c x.Keeps,lst 4 AX.c x.Slots,lst 2 BG.c x.Classes,.any,lst 3 As.c x.Waivers,lst 3 BI.c x.Matches]
def AC.ok(x:AC):Prop:=WF .i64 x.Layers/\AQ.ok x.Outline/\(x.Parts.length<=maxLen/\∀y∈x.Parts,AD.ok y)/\(x.Nets.length<=maxLen/\∀y∈x.Nets,A7.ok y)/\(x.Tracks.length<=maxLen/\∀y∈x.Tracks,AM.ok y)/\(x.Vias.length<=maxLen/\∀y∈x.Vias,Ak.ok y)/\(x.Pours.length<=maxLen/\∀y∈x.Pours,A8.ok y)/\(x.Keeps.length<=maxLen/\∀y∈x.Keeps,BA.ok y)/\(x.Slots.length<=maxLen/\∀y∈x.Slots,AX.ok y)/\(x.Classes.length<=maxLen/\∀y∈x.Classes,BG.ok y)/\True/\(x.Waivers.length<=maxLen/\∀y∈x.Waivers,As.ok y)/\(x.Matches.length<=maxLen/\∀y∈x.Matches,BI.ok y)/\True
theorem opT41:Cn Tryz.prog 41 AC.cA AC.ok:=by
 refine Cy (B6 Tryz.underlying41 kr (Aa 1 kr rfl (Be Tryz.underlying3) (Aa 3 kr rfl fU (Aa 1 kr rfl opT29 (Aa 1 kr rfl opT30 (Aa 1 kr rfl opT31 (Aa 1 kr rfl opT32 (Aa 1 kr rfl opT33 (Aa 1 kr rfl opT34 (Aa 1 kr rfl opT35 (Aa 1 kr rfl opT36 (Aa 1 kr rfl (jY (α:=(List A5)) Tryz.underlying37) (Aa 1 kr rfl opT38 (Aa 1 kr rfl opT39 Cj)))))))))))))) ?_;rintro⟨a0,a1,a2,a3,a4,a5,a6,a7,a8,a9,a10,a11,a12,_⟩ ⟨h0,h1,h2,h3,h4,h5,h6,h7,h8,h9,h10,h11,h12,_⟩;exact⟨⟨a0,a1,a2,a3,a4,a5,a6,a7,a8,a9,a10,a11,a12⟩,⟨h0,h1,h2,h3,h4,h5,h6,h7,h8,h9,h10,h11,h12,trivial⟩,rfl⟩
end
def Fp(x0:AG)(x1:AG):AG:=AG.mk (W64 (x0.X+x1.X)) (W64 (x0.Y+x1.Y))
def VC(x0:AG)(x1:AG):CT:=(123,[.agg (AG.c x0),.agg (AG.c x1)],.val [] (.av (.agg (AG.c (Fp x0 x1)))))
theorem jP(x0:AG)(x1:AG):PuP 123 (VC x0 x1).2.1 (.av (.agg (AG.c (Fp x0 x1)))):=by
 refine pwf Tryz.func123 fun W0 M0=>?_;exact AA<|on<|AA<|on<|AO<|zl
theorem Np(x0:AG)(x1:AG):OKc (VC x0 x1):=cPu<|jP x0 x1
def DF(x0:Int):Int:=Int.tmod (W64 ((Int.tmod x0 4)+4)) 4
def Qg(x0:Int):CT:=(163,[.one (.i x0)],.val [] (.av (.one (.i (DF x0)))))
theorem au11{p:Prop}(h:p:=by first|assumption|decide|omega):p:=h
theorem YG(x0:Int):PuP 163 (Qg x0).2.1 (tO (.i (DF x0))):=by
 refine pwf Tryz.func163 fun W0 M0=>?_;exact AA<|on<|AA<|oc [] [(4:Int)≠0,(4:Int)≠0] .nil (H2 au11 au11)<|AE<|AO<|zl
theorem Wn(x0:Int):OKc (Qg x0):=cPu<|YG x0
def Cs(x0:AG)(x1:Int):AG:=bif decide (((DF x1):Int)=1)then(AG.mk (W64 (0-x0.Y)) x0.X)else(bif decide (((DF x1):Int)=2)then(AG.mk (W64 (0-x0.X)) (W64 (0-x0.Y)))else(bif decide (((DF x1):Int)=3)then(AG.mk x0.Y (W64 (0-x0.X)))else(x0)))
def Of(x0:AG)(x1:Int):CT:=(124,[.agg (AG.c x0),.one (.i x1)],.val [] (.av (.agg (AG.c (Cs x0 x1)))))
theorem Wc(x0:AG)(x1:Int):PuP 124 (Of x0 x1).2.1 (.av (.agg (AG.c (Cs x0 x1)))):=by
 refine pwf Tryz.func124 fun W0 M0=>?_;refine AA<|on<|AA<|AA<|oq 6 _ (Wn x1)<|AE<|AJ<|AA<|on<|kb (decide (((DF x1):Int)=1)) (fun h1=>?_) (fun h1=>?_)
 ·exact AA<|on<|AO<|Cm<|Bf<|zl (by simp only[Cs,h1,mi,mj]<;>kernel_rfl)
 refine AA<|on<|kb (decide (((DF x1):Int)=2)) (fun h2=>?_) (fun h2=>?_)
 ·exact AA<|on<|AO<|Cm<|Bf<|zl (by simp only[Cs,h1,h2,mi,mj]<;>kernel_rfl)
 refine AA<|on<|kb (decide (((DF x1):Int)=3)) (fun h3=>?_) (fun h3=>?_)
 ·exact AA<|on<|AO<|Cm<|Bf<|zl (by simp only[Cs,h1,h2,h3,mi,mj]<;>kernel_rfl)
 exact AP<|Ao<|AE<|AA<|on<|AO<|zl (by simp only[Cs,h1,h2,h3,mi,mj]<;>kernel_rfl)
theorem UG(x0:AG)(x1:Int):OKc (Of x0 x1):=cPu<|Wc x0 x1
def C1(x0:AG)(x1:Bool):AG:=AG.mk (bif x1 then(W64 (0-x0.X))else x0.X) x0.Y
def ME(x0:AG)(x1:Bool):CT:=(125,[.agg (AG.c x0),.one (.b x1)],.val [] (.av (.agg (AG.c (C1 x0 x1)))))
theorem Sk(x0:AG)(x1:Bool):PuP 125 (ME x0 x1).2.1 (.av (.agg (AG.c (C1 x0 x1)))):=by
 refine pwf Tryz.func125 fun W0 M0=>?_;refine AA<|on<|AA<|AA<|rn ⟨[(2,tP 2 0),(4,tP 4 0),(5,tB x1)],[(2,.cells (AG.c x0) 66),Ip]⟩<|B4 (⟨[(2,tP 2 0),(4,tP 4 0)],[(2,.cells [.i (bif x1 then(W64 (0-x0.X))else x0.X),.i x0.Y] 66),Ip]⟩) ?_ ?_
 ·refine BC _ rfl (fun h1=>?_) (fun h1=>?_)
  ·refine rn ⟨[(2,tP 2 0),(4,tP 4 0)],[(2,.cells [.i (W64 (0-x0.X)),.i x0.Y] 66),Ip]⟩<|Az ?_
   first|rfl|(simp only[h1,mi,mj]<;>rfl)
  refine AP<|AE<|Cv.trans (ck (⟨[(2,tP 2 0),(4,tP 4 0)],[(2,.cells (AG.c x0) 66),Ip]⟩)) (Az ?_)
  first|rfl|(simp only[h1,mi,mj]<;>rfl)
 exact AA<|on<|AO<|zl
theorem Q0(x0:AG)(x1:Bool):OKc (ME x0 x1):=cPu<|Sk x0 x1
def Z09(x1:AG)(x0:Am):AG:=Cs (C1 x1 x0.Mirror) x0.Turn
def BB(x0:Am)(x1:AG):AG:=Fp (Z09 x1 x0) x0.At
def Qh(x0:Am)(x1:AG):CT:=(66,[.agg (Am.c x0),.agg (AG.c x1)],.val [] (.av (.agg (AG.c (BB x0 x1)))))
theorem YH(x0:Am)(x1:AG):PuP 66 (Qh x0 x1).2.1 (.av (.agg (AG.c (BB x0 x1)))):=by
 refine pwf Tryz.func66 fun W0 M0=>?_;exact AA<|on<|AA<|oe [] _ [none,none,none] (J3 8 11 14 (Q0 x1 x0.Mirror) (UG (C1 x1 x0.Mirror) x0.Turn) (Np (Z09 x1 x0) x0.At)) .nil<|AE<|AO<|zl
theorem E1(x0:Am)(x1:AG):OKc (Qh x0 x1):=cPu<|YH x0 x1
def Dt(x0:Int):Int:=bif decide ((x0:Int)=2)then(3)else(bif decide ((x0:Int)=3)then(2)else(x0))
def TX(x0:Int):CT:=(129,[.one (.i x0)],.val [] (.av (.one (.i (Dt x0)))))
theorem bP(x0:Int):PuP 129 (TX x0).2.1 (tO (.i (Dt x0))):=by
 refine pwf Tryz.func129 fun W0 M0=>?_;refine AA<|on<|AA<|AA<|on<|AJ<|AA<|on<|kb (decide ((x0:Int)=2)) (fun h1=>?_) (fun h1=>?_)
 ·exact AA<|on<|AO<|Cm<|Bf<|zl (by simp only[Dt,h1,mi,mj]<;>kernel_rfl)
 refine AA<|rn ⟨[(0,tI x0),(6,tB (decide ((x0:Int)=3)))],[]⟩<|BC _ rfl (fun h2=>?_) (fun h2=>?_)
 ·exact AA<|on<|AO<|Cm<|Bf<|zl (by simp only[Dt,h1,h2,mi,mj]<;>kernel_rfl)
 exact AP<|Ao<|AE<|AA<|on<|AO<|zl (by simp only[Dt,h1,h2,mi,mj]<;>kernel_rfl)
theorem YQ(x0:Int):OKc (TX x0):=cPu<|bP x0
def I7(x0:AK)(x1:Am):AK:=AK.mk (bif x1.Mirror then(Dt x0.Kind)else x0.Kind) (BB x1 x0.A) (BB x1 x0.B) (AG.mk (bif !decide ((x0.Kind:Int)=1)then((BB x1 x0.C).X)else x0.C.X) (bif !decide ((x0.Kind:Int)=1)then((BB x1 x0.C).Y)else x0.C.Y))
def TY(x0:AK)(x1:Am):CT:=(74,[.agg (AK.c x0),.agg (Am.c x1)],.val [] (.av (.agg (AK.c (I7 x0 x1)))))
abbrev E5:List (Nat×Tv):=[(4,tP 4 0),(5,tP 5 0)]
abbrev RZ(x0:AK)(x1:Am)(t_:List Cl):List Cl:=(.i x0.Kind)::(.i ((BB x1 x0.A).X))::(.i ((BB x1 x0.A).Y))::(.i ((BB x1 x0.B).X))::(.i ((BB x1 x0.B).Y))::t_
abbrev oD(x0:AK)(x1:Am):List (Nat×Blk):=[(2,.cells (AK.c x0) 68),(3,.cells (Am.c x1) 74),Il,(5,.cells (RZ x0 x1 [.i x0.C.X,.i x0.C.Y]) 68)]
abbrev Z3:List (Nat×Tv):=(Dd [(5,tP 5 0)])
theorem bQ(x0:AK)(x1:Am):PuP 74 (TY x0 x1).2.1 (.av (.agg (AK.c (I7 x0 x1)))):=by
 refine pwf Tryz.func74 fun W0 M0=>?_;refine AA<|on<|AA<|oe [] _ [none,none] (J2 11 15 (E1 x1 x0.A) (E1 x1 x0.B)) .nil<|AE<|AA<|AA<|rn ⟨(Dd [(5,tP 5 0),(21,tB (!decide ((x0.Kind:Int)=1)))]),(oD x0 x1)⟩<|B4 (⟨Z3,[(2,.cells (AK.c x0) 68),(3,.cells (Am.c x1) 74),Il,(5,.cells (RZ x0 x1 [.i (bif !decide ((x0.Kind:Int)=1)then((BB x1 x0.C).X)else x0.C.X),.i (bif !decide ((x0.Kind:Int)=1)then((BB x1 x0.C).Y)else x0.C.Y)]) 68)]⟩) ?_ ?_
 ·refine BC _ rfl (fun h1=>?_) (fun h1=>?_)
  ·have g1:=B8 h1;refine rs 25 _ ⟨Z3,[(2,.cells (AK.c x0) 68),(3,.cells (Am.c x1) 74),Il,(5,.cells (RZ x0 x1 [.i ((BB x1 x0.C).X),.i ((BB x1 x0.C).Y)]) 68)]⟩ (E1 x1 x0.C)<|AE<|Az ?_
   first|rfl|(simp only[h1,mi,mj]<;>rfl)
  have g1:=B3 h1;refine AP<|AE<|Cv.trans (ck (⟨Z3,(oD x0 x1)⟩)) (Az ?_)
  first|rfl|(simp only[h1,mi,mj]<;>rfl)
 refine AA<|AA<|rn ⟨[(2,tP 2 0),(4,tP 4 0),(5,tP 5 0),(28,tB x1.Mirror)],[(2,.cells (AK.c x0) 68),Il,(5,.cells (RZ x0 x1 [.i (bif !decide ((x0.Kind:Int)=1)then((BB x1 x0.C).X)else x0.C.X),.i (bif !decide ((x0.Kind:Int)=1)then((BB x1 x0.C).Y)else x0.C.Y)]) 68)]⟩<|B4 (⟨E5,[Il,(5,.cells [.i (bif x1.Mirror then(Dt x0.Kind)else x0.Kind),.i ((BB x1 x0.A).X),.i ((BB x1 x0.A).Y),.i ((BB x1 x0.B).X),.i ((BB x1 x0.B).Y),.i (bif !decide ((x0.Kind:Int)=1)then((BB x1 x0.C).X)else x0.C.X),.i (bif !decide ((x0.Kind:Int)=1)then((BB x1 x0.C).Y)else x0.C.Y)] 68)]⟩) ?_ ?_
 ·refine BC _ rfl (fun h1=>?_) (fun h1=>?_)
  ·refine rs 31 _ ⟨E5,[Il,(5,.cells [.i (Dt x0.Kind),.i ((BB x1 x0.A).X),.i ((BB x1 x0.A).Y),.i ((BB x1 x0.B).X),.i ((BB x1 x0.B).Y),.i (bif !decide ((x0.Kind:Int)=1)then((BB x1 x0.C).X)else x0.C.X),.i (bif !decide ((x0.Kind:Int)=1)then((BB x1 x0.C).Y)else x0.C.Y)] 68)]⟩ (YQ x0.Kind)<|AE<|Az ?_
   first|rfl|(simp only[h1,mi,mj]<;>rfl)
  refine AP<|AE<|Cv.trans (ck (⟨E5,[Il,(5,.cells (RZ x0 x1 [.i (bif !decide ((x0.Kind:Int)=1)then((BB x1 x0.C).X)else x0.C.X),.i (bif !decide ((x0.Kind:Int)=1)then((BB x1 x0.C).Y)else x0.C.Y)]) 68)]⟩)) (Az ?_)
  first|rfl|(simp only[h1,mi,mj]<;>rfl)
 exact AA<|on<|AO<|zl
theorem YR(x0:AK)(x1:Am):OKc (TY x0 x1):=cPu<|bQ x0 x1
def Z0a(x2:Int)(x1:Int):AG:=BB (Am.mk (AG.mk 0 0) x2 false) (AG.mk x1 0)
def Z0b(x3:Int)(x2:Int)(x1:Int):AG:=BB (Am.mk (AG.mk 0 0) (bif decide ((x3:Int)=3)then(W64 (x2+3))else(W64 (x2+1))) false) (AG.mk x1 0)
def GZ(x0:AG)(x1:Int)(x2:Int)(x3:Int):AK:=AK.mk x3 (Fp x0 (Z0a x2 x1)) (Fp x0 (Z0b x3 x2 x1)) x0
def VB(x0:AG)(x1:Int)(x2:Int)(x3:Int):CT:=(93,[.agg (AG.c x0),.one (.i x1),.one (.i x2),.one (.i x3)],.val [] (.av (.agg (AK.c (GZ x0 x1 x2 x3)))))
abbrev WC(x0:AG)(x2:Int)(x1:Int):List (Nat×Blk):=[(4,.cells (AG.c x0) 66),(8,.cells j6 68),(9,.cells (AG.c (Z0a x2 x1)) 66)]
theorem jO(x0:AG)(x1:Int)(x2:Int)(x3:Int):PuP 93 (VB x0 x1 x2 x3).2.1 (.av (.agg (AK.c (GZ x0 x1 x2 x3)))):=by
 refine pwf Tryz.func93 fun W0 M0=>?_;refine AA<|on<|AA<|oq 16 _ (E1 (Am.mk (AG.mk 0 0) x2 false) (AG.mk x1 0))<|AE<|AA<|on<|AA<|AA<|rn ⟨[(1,tI x1),(2,tI x2),(3,tI x3),(4,tP 4 0),(8,tP 8 0),(9,tP 9 0),(10,tI (W64 (x2+1))),(20,tB (decide ((x3:Int)=3)))],(WC x0 x2 x1)⟩<|B4 (⟨[(1,tI x1),(3,tI x3),(4,tP 4 0),(8,tP 8 0),(9,tP 9 0),(10,tI (bif decide ((x3:Int)=3)then(W64 (x2+3))else(W64 (x2+1))))],(WC x0 x2 x1)⟩) ?_ ?_
 ·refine BC _ rfl (fun h1=>?_) (fun h1=>?_)
  ·refine rn ⟨[(1,tI x1),(3,tI x3),(4,tP 4 0),(8,tP 8 0),(9,tP 9 0),(10,tI (W64 (x2+3)))],(WC x0 x2 x1)⟩<|Az ?_
   first|rfl|(simp only[h1,mi,mj]<;>rfl)
  refine AP<|AE<|Cv.trans (ck (⟨[(1,tI x1),(3,tI x3),(4,tP 4 0),(8,tP 8 0),(9,tP 9 0),(10,tI (W64 (x2+1)))],(WC x0 x2 x1)⟩)) (Az ?_)
  first|rfl|(simp only[h1,mi,mj]<;>rfl)
 exact AA<|oq 27 _ (E1 (Am.mk (AG.mk 0 0) (bif decide ((x3:Int)=3)then(W64 (x2+3))else(W64 (x2+1))) false) (AG.mk x1 0))<|AE<|AA<|oe [] _ [none,none] (J2 31 34 (Np x0 (Z0a x2 x1)) (Np x0 (Z0b x3 x2 x1))) .nil<|AE<|AO<|zl
theorem E0(x0:AG)(x1:Int)(x2:Int)(x3:Int):OKc (VB x0 x1 x2 x3):=cPu<|jO x0 x1 x2 x3
def Bw(n:Int)(m:Int):Int:=Int.tmod (W64 ((Int.tmod n m)+m)) m
def cMod(n:Int)(m:Int):CT:=(29,[.one (.i n),.one (.i m)],.val [] (.av (.one (.i (Bw n m)))))
theorem pMod(n:Int)(m:Int)(hm:m≠0):PuP 29 (cMod n m).2.1 (tO (.i (Bw n m))):=by
 refine pwf Tryz.func29 fun W0 M0=>?_;exact AA<|on<|AA<|oc [] [(m:Int)≠0,(m:Int)≠0] .nil (H2 au11 au11)<|AE<|AO<|zl
theorem IR(n:Int)(m:Int)(hm:m≠0):OKc (cMod n m):=cPu<|pMod n m hm
def DK(d:AF):Prop:=0<=d.At/\d.At<=d.L.length/\(d.L.length:Int)<=9223372036854775807
def AB(d:AF)(n:Int):(Int×AF):=bif decide ((((d.L.length:Int)):Int)<=d.At)then((0,d))else((Bw (d.L.getD ((W64 ((W64 (d.At+1))-1)).toNat) default) n,AF.mk d.L (W64 (d.At+1))))
theorem au15{p:Prop}(h:p:=by first|with_reducible assumption|omega|decide|(simp only[j8,j9,d9];omega)|assumption):p:=h
theorem au0{p:Prop}(h:p:=by first|decide|omega|exact L8 (by first|omega|(simp only[Bz];omega)) mz|(simp only[Bz];omega)|(constructor<;>omega)|(simp only[d9,j8,j9];omega)|(simp only[d9,j8,j9,List.length_drop,ki]at *;omega)):p:=h
theorem Bp (d:AF)(n:Int)(hd:DK d)(hn:n≠0):Wr Tryz.prog 42 1000 [.one (.ptr 1000 0),.one (.i n)] (.cells (AF.c d) 117) (tO (.i ((AB d n).1))) (.cells (AF.c ((AB d n).2)) 117):=by
 refine Jw Tryz.func42 rfl kr kr kr kr fun W0 M0 X hX=>?_;obtain⟨a1,a2,a3⟩:=hd;refine AA<|on<|AA<|AA<|od [] [] [] .nil .nil<|AE<|kb (decide ((((d.L.length:Int)):Int)<=d.At)) (fun h1=>?_) (fun h1=>?_)
 ·have g1:=oT h1;exact AA<|on<|AO<|Bf<|xl (tO (.i 0)) ⟨F5 (by simp only[AB,h1,mi,mj]<;>rfl),.cells (AF.c d) 117,by kernel_rfl,Ea (by first|(simp only[AB,h1,mi,mj];done)|(simp only[AB,h1,mi,mj];kernel_rfl))⟩
 have g1:=oF h1;exact AP<|AE<|AA<|on<|AA<|oe [] _ [0<=(W64 ((W64 (d.At+1))-1):Int)/\(W64 ((W64 (d.At+1))-1):Int)<(d.L.length:Int),none] (J1 34 (IR (d.L.getD ((W64 ((W64 (d.At+1))-1)).toNat) default) n au15)) (H1 au0)<|AE<|AO<|xl (tO (.i (Bw (d.L.getD ((W64 ((W64 (d.At+1))-1)).toNat) default) n))) ⟨F5 (by simp only[AB,h1,mi,mj]<;>rfl),.cells [lst 1 eIn d.L,.i (W64 (d.At+1))] 117,by kernel_rfl,Ea (by first|(simp only[AB,h1,mi,mj];done)|(simp only[AB,h1,mi,mj];kernel_rfl))⟩
theorem DV{l:List Int}(h:(l.length:Int)<=9223372036854775807):DK (AF.mk l 0):=⟨Int.le_refl _,by show(0:Int)<=(l.length:Int);omega,h⟩
theorem Bm{d:AF}{n:Int}(h:DK d):DK (AB d n).2:=by
 obtain⟨h1,h2,h3⟩:=h;unfold AB
 by_cases hc:(d.L.length:Int)<=d.At
 ·simp only[hc,ml,mi];exact⟨h1,h2,h3⟩
 simp only[hc,mm,mj];rw[Ae mz mz];exact⟨by show 0<=d.At+1;omega,by show d.At+1<=(d.L.length:Int);omega,h3⟩
theorem LJ(n m:Int)(h0:0<m)(h1:m<=4611686018427387904):0<=Bw n m/\Bw n m<m:=by
 have e:Bw n m=n % m:=by
  unfold Bw W64;rcases Int.lt_or_le n 0 with h|h
  ·have b1:=Int.emod_nonneg (-n) (show m≠0 by omega);have b2:=Int.emod_lt_of_pos (-n) h0;rw[show n.tmod m = -((-n) % m)by rw[<- Int.tmod_eq_emod_of_nonneg mz,Int.neg_tmod,Int.neg_neg]];rw[IntKind.wrap_i64];rw[show(-((-n) % m)+m+9223372036854775808) % 18446744073709551616-9223372036854775808 = -((-n) % m)+m by omega];rw[Int.tmod_eq_emod_of_nonneg mz];have e1:=Int.emod_add_mul_ediv (-n) m;have e2 : -((-n) % m)+m=n+m*((-n)/m+1):=by grind
   rw[e2,Int.add_mul_emod_self_left]
  have b1:=Int.emod_nonneg n (show m≠0 by omega);have b2:=Int.emod_lt_of_pos n h0;rw[Int.tmod_eq_emod_of_nonneg h,IntKind.wrap_i64];rw[show(n % m+m+9223372036854775808) % 18446744073709551616-9223372036854775808=n % m+m by omega];rw[Int.tmod_eq_emod_of_nonneg mz,Int.add_emod_right,Int.emod_emod_of_dvd _ (Int.dvd_refl m)]
 rw[e];exact⟨Int.emod_nonneg n mz,Int.emod_lt_of_pos n h0⟩
theorem D5(d:AF)(n:Int)(h0:0<n)(h1:n<=4611686018427387904):0<=(AB d n).1/\(AB d n).1<n:=by
 unfold AB
 by_cases hc:(d.L.length:Int)<=d.At
 ·simp only[hc,ml,mi];omega
 simp only[hc,mm,mj];exact LJ _ n h0 h1
theorem W3{v a:Int}{d:AF}{n:Int}(h:v<W64 (a+(AB d n).1))(h0:0<n)(h1:n<=1000000)(ha:0<=a)(hb:a<=1000000):v<a+n:=by
 have:=D5 d n h0 mz;rw[Ae mz mz]at h;omega
theorem XG{v a:Int}{d:AF}{n:Int}(h:¬ v<W64 (a+(AB d n).1))(h0:0<n)(h1:n<=1000000)(ha:0<=a)(hb:a<=1000000):W64 (a+(AB d n).1)<a+n:=by
 have:=D5 d n h0 mz;rw[Ae mz mz];omega
theorem Fl{p q:Prop}[Decidable p][Decidable q](h:(bif decide p then decide q else false)=true):p/\q:=by
 by_cases hp:p
 ·rw[lj hp]at h;exact⟨hp,of_decide_eq_true h⟩
 rw[lk hp]at h;cases h
theorem Dh{c:Bool}{a b:AF}(ha:DK a)(hb:DK b):DK (bif c then a else b):=by cases c<;>assumption
theorem Me(d:AF)(n k:Int)(h0:0<n)(h1:n<=4611686018427387904)(h2:n<=k):0<=(AB d n).1/\(AB d n).1<k:=⟨(D5 d n h0 h1).1,by have:=(D5 d n h0 h1).2;omega⟩
theorem fe (l:(List AV))(layer:Int):G4 Tryz.prog 69 [.one (lst 9 AV.c l),.one (.i layer)] (.av (.one (.clo 126 2 (BZ [.eptr 1 1 (fun _ j_=>([lst 9 AV.c l]:List Cl).getD j_ default) 0 0,.eptr 1 1 (fun _ j_=>([.i layer]:List Cl).getD j_ default) 0 0])))):=by
 refine pwf Tryz.func69 fun W0 M0=>?_;refine AA<|DE C8 [] [] [] [2,3] [2,3] [] ⟨[(2,tP 2 0),(3,tP 3 0)],[(2,.cells [lst 9 AV.c l] 50),(3,.cells [.i layer] 3)]⟩ .nil kr .nil<|AE<|AA<|DE C8 [] [] [] [4] [2,3] [] ⟨[(4,.av (.one (.clo 126 2 (BZ [.ptr 2 0,.ptr 3 0]))))],[(2,.cells [lst 9 AV.c l] 50),(3,.cells [.i layer] 3)]⟩ .nil kr .nil<|AE<|AO ?_;exact⟨_,Cv.trans (Jq (⟨[(4,.av (.one (.clo 126 2 (BZ [.eptr 1 1 (fun _ j_=>([lst 9 AV.c l]:List Cl).getD j_ default) 0 0,.ptr 3 0]))))],[(3,.cells [.i layer] 3)]⟩) 2 [lst 9 AV.c l] 50 hk0 kr kr kr kr) (Jq (⟨[(4,.av (.one (.clo 126 2 (BZ [.eptr 1 1 (fun _ j_=>([lst 9 AV.c l]:List Cl).getD j_ default) 0 0,.eptr 1 1 (fun _ j_=>([.i layer]:List Cl).getD j_ default) 0 0]))))],[]⟩) 3 [.i layer] 3 hk0 kr kr kr kr),.inl rfl,.av (.one (.clo 126 2 (BZ [.eptr 1 1 (fun _ j_=>([lst 9 AV.c l]:List Cl).getD j_ default) 0 0,.eptr 1 1 (fun _ j_=>([.i layer]:List Cl).getD j_ default) 0 0]))),by kernel_rfl,F5 rfl⟩
section
open Go.RowKit
def IWL(P:Program)(N:Nat)(Ow:World->Nat->Prop)(n0:Nat)(ops:Array Oper)(l:List Oper)(Q:IQ)(s:AS)(J:World->Prop)(al:Bool):Prop :=
 ∀W0 M σ a w,(J W0/\a.defers=[]/\IOk Ow n0 al M W0)->Sim N W0 noX M M σ (get s.t) (get s.h) a w->wpListIn (FW none) 0 P ops (fun e a' w'=>∃s' J' al' W0' M' σ',Q e s' J' al'/\(J' W0'/\a'.defers=[]/\IOk Ow n0 al' M' W0')/\Sim N W0' noX M' M' σ' (get s'.t) (get s'.h) a' w') l a w
section
variable {P:Program}{N:Nat}{Ow:World→Nat→Prop}{n0:Nat}{Q:IQ}{s:AS}{J:World→Prop}{al:Bool}{ops:Array Oper}{l:List Oper}{o:Oper}
theorem Ns{id:Nat}(h:IWL P N Ow n0 l.toArray l Q s J al):IWp P N Ow n0 (.region id l.toArray false) Q s J al:=fun W0 M σ a w hJ hs=>wpIn_region_lit (h W0 M σ a w hJ hs)
theorem JH(hO:OwS Ow n0){E:TypeId->Option (List Kd)}(hE:LS P ⟨fun _=>none,E,fun _=>false,fun _=>none⟩)(k:Nat)(ts:List Nat)(cs:List Prop)(T:List (Nat×Tv))(hr:UV P ⟨EE [],E,A6 [],get []⟩ N ops (l.take k) ts [] s=some (cs,⟨T,[]⟩))(hc:CI cs)
 (hdv:∀i v,get s.t i=some v->v.dv=true)(hh:s.h=[])(h:IWL P N Ow n0 ops (l.drop k) Q ⟨T,[]⟩ J al):IWL P N Ow n0 ops l Q s J al:=by
 have hV:MQ P ⟨EE [],E,A6 [],get []⟩:=(FR.nil (P:=P)).env (O:=A6 []) (q:=get []) hE;intro W0 M σ a w hJ hs;unfold UV at hr;split at hr
 ·rename_i cs1 s1 h1;simp only[l7,l8]at hr;obtain⟨rfl,hS⟩:=hr;have key:=Sf (rd:=none) (ops:=ops) (Q':=fun e a' w'=>∃s' J' al' W0' M' σ',Q e s' J' al'/\(J' W0'/\a'.defers=[]/\IOk Ow n0 al' M' W0')/\Sim N W0' noX M' M' σ' (get s'.t) (get s'.h) a' w') hV (l.drop k) (l.take k) s s1 cs1 h1 hc M _ a w (OL hdv hh hJ.2.1 hs) fun M' σ' a' w' hs'=>by
   have hs2:=Gs hs' ts [];rw[hS]at hs2;obtain⟨hd,hs3⟩:=Kl hs2;exact h W0 M' σ' a' w' ⟨hJ.1,hd,Md hJ.2.2 hO hs2⟩ hs3
  rw[List.take_append_drop]at key;exact key
 cases hr
theorem OY(h:Q .normal s J al):IWL P N Ow n0 ops [] Q s J al:=fun W0 M σ a w hJ hs=>⟨s,J,al,W0,M,σ,h,hJ,hs⟩
theorem L7(ts:List Nat)(S:AS)(hS:L6 ts [] s=S)(h:IWL P N Ow n0 ops l Q S J al):IWL P N Ow n0 ops l Q s J al:=by
 subst hS;exact fun W0 M σ a w hJ hs=>h W0 M σ a w hJ (Gs hs ts [])
theorem OX(hO:OwS Ow n0){E:TypeId->Option (List Kd)}(hE:LS P ⟨fun _=>none,E,fun _=>false,fun _=>none⟩)(j:Nat)(want:Bool)(G:Prop)(cs:List Prop)(T:List (Nat×Tv))(hg:o.guard=some (j,want))(hG:IH (get s.t) ops j want=some G)(hGp:G)
 (hst:fE P ⟨EE [],E,A6 [],get []⟩ N o G s=some (cs,⟨T,[]⟩))(hc:CI cs)(hdv:∀i v,get s.t i=some v->v.dv=true)(hh:s.h=[])(h:IWL P N Ow n0 ops l Q ⟨T,[]⟩ J al):IWL P N Ow n0 ops (o::l) Q s J al:=by
 have hV:MQ P ⟨EE [],E,A6 [],get []⟩:=(FR.nil (P:=P)).env (O:=A6 []) (q:=get []) hE;intro W0 M σ a w hJ hs0;have hs:=OL hdv hh hJ.2.1 hs0;refine wpListIn_step fun K0 hK' => ?_;rw[if_pos ((Fh hs.tmps hs.room hg hG).2 hGp)];unfold fE at hst;split at hst
 ·rename_i e he;split at hst
  ·rename_i cs' g hr;cases hok:KA N s o.dst g with
   |false=>rw[hok]at hst;cases hst
   |true =>
    rw[hok]at hst;simp only[mi,l7,l8]at hst;obtain⟨rfl,hS⟩:=hst;obtain⟨hc1,hc2⟩:=hc.append;have hgo0:=Mg hok (fun n v b hg=>by subst hg;exact Wa hr) (fun l v hg=>by subst hg;exact Q7 hr) (fun n q v b bq hg=>by subst hg;exact Wb hr) (fun n b v hg=>by subst hg;exact Q8 hr);refine(XM hV (fun x v hv=>dE hGp hc1 hs.tmps hv) he hs.std hr hc2 (XE hgo0)).wp ?_ (fun c hc=>by rw[hc]at he;cases he);rintro U w' ⟨M',σ',ho⟩;have hsim:=Pl hs ho hgo0;rw[<- (Gv s o.dst g).1,<- (Gv s o.dst g).2,hS]at hsim;obtain⟨hd,hs3⟩:=Kl hsim;exact hK' _ _ (h W0 M' σ' _ w' ⟨hJ.1,hd,Md hJ.2.2 hO hsim⟩ hs3)
  cases hst
 cases hst
theorem TD(hO:OwS Ow n0)(hwant:∀(M:m5) (σ:Nat->Loc) (a:Act),(∀i v,get s.t i=some v->RT M σ v (a.tmps.getD i undef))->a.tmps.size=N->Region.wanted o (yielded ops a.tmps)=true){c:Call}{f:Operand}{ly d:Nat}(xs:List Av)(ho:o.op=.call c)(hcf:c.callee=.value f)
 (hf:evT (get s.t) f=some (.av (.one (.val (.func (.yield ly) #[] #[])))))(hxs:FQ (evT (get s.t)) c.args.toList=some xs)(hv:xs.all Av.isV=true)(hod:o.dst=some d)(hdN:Nat.blt d N=true)(hT1:∀i v,get s.t i=some v->v.dv=true/\TvM v)
 (hJg:∀A B,J A->A.grownBy B none->J B)(Jt Jf:World->Prop)
 (hY:∀W,J W->YieldAt (FW none) 0 P ly (xs.map Av.toV).toArray W (fun e W'=>(e=.returned (.bool true)/\Jt W'/\KpS Ow W W')\/(e=.returned (.bool false)/\Jf W')))
 (tf:List Nat)(htf:∀i v,get (Fz s.t tf) i=some v->∃u,v=.av (.one (.val u)))(hh:s.h=[])
 (ht:IWL P N Ow n0 ops l Q ⟨(d,tB true)::s.t,[]⟩ Jt true)(hff:IWL P N Ow n0 ops l Q ⟨(d,tB false)::Fz s.t tf,[]⟩ Jf false):IWL P N Ow n0 ops (o::l) Q s J true:=by
 intro W0 M σ a w hJ hs;refine wpListIn_step fun K0 hK' => ?_;rw[if_pos (hwant M σ a hs.tmps hs.room)];have hgrow:W0.grownBy w none:={ os:=hs.os,tape:=hs.tape,output:=hs.output,size:=hs.size,block:=fun b hb _=>hs.old b hb (He b) };have hiok:=hJ.2.2;have hdN':d<N:=by have:=mr hdN;omega
 have hput:∀(b:Bool) (T:List (Nat×Tv)) (M':m5) (σ':Nat->Loc),(∀i v,get T i=some v->RT M' σ' v (a.tmps.getD i undef))->∀i v,get ((d,tB b)::T) i=some v->RT M' σ' v ((a.put o.dst (.bool b)).tmps.getD i undef):=fun b T M' σ' hT i v hv=>by
  have hds:d<a.tmps.size:=by rw[hs.room];exact hdN'
  simp only[get,Cb]at hv;rw[hod]
  by_cases hi:d=i
  ·subst hi;simp at hv;subst hv;have:(a.put (some d) (.bool b)).tmps.getD d undef=.bool b:=by simp[Act.put,l6,hds]
   rw[this];exact⟨rfl,rfl⟩
  simp[hi]at hv;have:(a.put (some d) (.bool b)).tmps.getD i undef=a.tmps.getD i undef:=by simp[Act.put,l6,l5,hi]
  rw[this];exact hT i v hv
 have hsize:∀b:Bool,(a.put o.dst (.bool b)).tmps.size=N:=fun b=>by rw[hod];simpa [Act.put]using hs.room
 have hdef:∀b:Bool,(a.put o.dst (.bool b)).defers=[]:=fun b=>by rw[hod];simpa [Act.put]using hJ.2.1
 have hnew:∀(b:Bool) (w2:World) (T:List (Nat×Tv)) (Mn:m5),(∀i v,get T i=some v->RT Mn σ v (a.tmps.getD i undef))->(∀b o,Mn b=some o->w2.heap[b]? = some o)->Sim N w2 noX Mn Mn σ (get ((d,tB b)::T)) (get []) (a.put o.dst (.bool b)) w2:=fun b w2 T Mn hT himm =>
  ⟨rfl,rfl,rfl,lu _,fun _ _ _=>rfl,fun _ _ h=>h,fun b o h h'=>(by rw[h]at h';cases h'),fun m x hx=>(by cases hx),⟨by rw[hdef b];trivial,fun _=>hdef b⟩,hsize b,hput b T Mn σ hT,himm,fun n b hb=>(by cases hb),fun n b hb=>(by cases hb),fun n m b c hb=>(by cases hb)⟩
 refine pU hs.tmps ho hcf hf hxs hv (hY w (hJg W0 w hJ.1 hgrow)) fun e w2 he=>?_;rcases he with ⟨rfl,h5,h6⟩|⟨rfl,h5⟩
 ·have hst:∀b,Ow w b->Ow W0 b:=hO.st W0 w (hiok rfl).1 fun b hb=>hs.old b hb (He b);refine⟨_,rfl,hK' _ _ (ht w2 (XO M) σ _ w2 ⟨h5,hdef true,fun _=>⟨ln (hiok rfl).1 (ln hs.size h6.1),fun b h=>(h6.2.2 b h).elim (fun h7=>lp ((hiok rfl).2.1 b (hst b h7)) (ln hs.size h6.1)) And.right,fun b o' h hw2=>?_⟩⟩ (hnew true w2 s.t (XO M) (fun i v hv=>eB N0 (hs.tmps i v hv) (hT1 i v hv).2) fun b o' h=>?_))⟩
  ·rcases h6.2.2 b hw2 with h7|h7
   ·exact(hiok rfl).2.2 b o' (Fj h).1 (hst b h7)
   have:=(Array.getElem?_eq_some_iff.1 (hs.imm b o' (Fj h).1)).1;omega
  exact h6.2.1 b o' (hs.imm b o' (Fj h).1) (Fj h).2 fun h7=>(hiok rfl).2.2 b o' (Fj h).1 (hst b h7)
 refine⟨_,rfl,hK' _ _ (hff w2 noM σ _ w2 ⟨h5,hdef false,fun h=>by cases h⟩ (hnew false w2 (Fz s.t tf) noM (fun i v hv=>?_) fun b o' h=>by cases h))⟩;obtain⟨u,rfl⟩:=htf i v hv;exact hs.tmps i _ (HP _ _ _ _ hv)
theorem kZ(hO:OwS Ow n0)(j:Nat)(want:Bool)(G:Prop)(hg:o.guard=some (j,want))(hG:IH (get s.t) ops j want=some G)(hGp:G){c:Call}{f:Operand}{ly d:Nat}(xs:List Av)(ho:o.op=.call c)(hcf:c.callee=.value f)
 (hf:evT (get s.t) f=some (.av (.one (.val (.func (.yield ly) #[] #[])))))(hxs:FQ (evT (get s.t)) c.args.toList=some xs)(hv:xs.all Av.isV=true)(hod:o.dst=some d)(hdN:Nat.blt d N=true)(hT1:∀i v,get s.t i=some v->v.dv=true/\TvM v)
 (hJg:∀A B,J A->A.grownBy B none->J B)(Jt Jf:World->Prop)
 (hY:∀W,J W->YieldAt (FW none) 0 P ly (xs.map Av.toV).toArray W (fun e W'=>(e=.returned (.bool true)/\Jt W'/\KpS Ow W W')\/(e=.returned (.bool false)/\Jf W')))
 (tf:List Nat)(htf:∀i v,get (Fz s.t tf) i=some v->∃u,v=.av (.one (.val u)))(hh:s.h=[])
 (ht:IWL P N Ow n0 ops l Q ⟨(d,tB true)::s.t,[]⟩ Jt true)(hff:IWL P N Ow n0 ops l Q ⟨(d,tB false)::Fz s.t tf,[]⟩ Jf false):IWL P N Ow n0 ops (o::l) Q s J true :=
 TD hO (fun M σ a h1 h2=>(Fh h1 h2 hg hG).2 hGp) xs ho hcf hf hxs hv hod hdN hT1 hJg Jt Jf hY tf htf hh ht hff
theorem cV(hO:OwS Ow n0)(hgn:o.guard=none){c:Call}{f:Operand}{ly d:Nat}(xs:List Av)(ho:o.op=.call c)(hcf:c.callee=.value f)
 (hf:evT (get s.t) f=some (.av (.one (.val (.func (.yield ly) #[] #[])))))(hxs:FQ (evT (get s.t)) c.args.toList=some xs)(hv:xs.all Av.isV=true)(hod:o.dst=some d)(hdN:Nat.blt d N=true)(hT1:∀i v,get s.t i=some v->v.dv=true/\TvM v)
 (hJg:∀A B,J A->A.grownBy B none->J B)(Jt Jf:World->Prop)
 (hY:∀W,J W->YieldAt (FW none) 0 P ly (xs.map Av.toV).toArray W (fun e W'=>(e=.returned (.bool true)/\Jt W'/\KpS Ow W W')\/(e=.returned (.bool false)/\Jf W')))
 (tf:List Nat)(htf:∀i v,get (Fz s.t tf) i=some v->∃u,v=.av (.one (.val u)))(hh:s.h=[])
 (ht:IWL P N Ow n0 ops l Q ⟨(d,tB true)::s.t,[]⟩ Jt true)(hff:IWL P N Ow n0 ops l Q ⟨(d,tB false)::Fz s.t tf,[]⟩ Jf false):IWL P N Ow n0 ops (o::l) Q s J true :=
 TD hO (fun M σ a h1 h2=>by simp[Region.wanted,hgn]) xs ho hcf hf hxs hv hod hdN hT1 hJg Jt Jf hY tf htf hh ht hff
theorem Xz{W0 w:World}{M0 M:m5}{σ:Nat->Loc}{T:Nat->Option Tv}{H:Nat->Option Blk}{a:Act}(h:Sim N W0 noX M0 M σ T H a w)(hd:a.defers=[]):Sim N W0 noX M M σ T H a w :=
 ⟨h.os,h.tape,h.output,h.size,h.old,fun _ _ h=>h,fun b o h h'=>(by rw[h]at h';cases h'),h.pin,⟨by rw[hd];trivial,fun _=>hd⟩,h.room,h.tmps,h.imm,h.blk,h.loc,h.inj⟩
theorem gT{c:Code}{S:AS}(hO:OwS Ow n0)(h:∀W0 M1,Cv N W0 noX M1 s S)(k:IWp P N Ow n0 c Q S J al):IWp P N Ow n0 c Q s J al:=by
 intro W0 M σ a w hJ hs;obtain⟨M',σ',h2⟩:=h W0 M M σ a w hs;exact k W0 M' σ' a w ⟨hJ.1,hJ.2.1,Md hJ.2.2 hO h2⟩ (Xz h2 hJ.2.1)
end
end
theorem wX{M:m5}{c:Cl}{V:Value}(h:RC M c V):V.oneCell'=true:=by
 cases h with
 |val v h=>exact h
 |any V h=>exact h
 |_=>rfl
abbrev wC(t:Bool)(sz len:Nat)(f:Nat->Nat->Cl):Cl:=.eptr 1 1 (fun _ j=>([.list t sz len f]:List Cl).getD j default) 0 0
theorem yA{M:m5}{t:Bool}{sz len:Nat}{f:Nat->Nat->Cl}{v:Value}(h:RC M (.list t sz len f) v):∃g:Nat->Nat->Value,RC M (.list t sz len (fun i j=>.val (g i j))) v/\∀i j,i<len->j<sz->RC M (f i j) (g i j):=by
 cases h with
 |nil _ _ _ h0=>exact⟨fun _ _=>undef,.nil _ _ _ h0,fun i j hi=>by omega⟩
 |mt _ _ _ a cap h5=>exact⟨fun _ _=>undef,.mt _ _ _ a cap h5,fun i j hi=>by omega⟩
 |list _ _ _ _ b off cap g h1 h2 h4 h5=>exact⟨g,.list _ _ _ _ b off cap g h1 (fun i j hi hj=>.val _ (wX (h2 i j hi hj))) h4 h5,h2⟩
theorem bM{M:m5}{t:Bool}{sz len:Nat}{f:Nat->Nat->Cl}{V:Value}(h:RC M (wC t sz len f) V):∃g:Nat->Nat->Value,RC M (wC t sz len (fun i j=>.val (g i j))) V/\∀i j,i<len->j<sz->RC M (f i j) (g i j):=by
 cases h with
 |eptr _ _ _ _ _ b base g0 h1 h2 =>
  obtain⟨g,hg1,hg2⟩:=yA (h2 0 m4);exact⟨g,.eptr _ _ _ _ _ _ _ g0 h1 (fun j hj=>by
   have:j=0:=by omega
   subst this;exact hg1),hg2⟩
section
open Go.RowKit
section
variable {P:Program}
def WrR(P:Program)(f:FuncId)(K:Nat)(xs:List Av)(sz len:Nat)(F0:Nat->Nat->Cl)(ty:TypeId)(r:Tv)(F1:Nat->Nat->Cl):Prop:=∀(M:m5) (σ:Nat->Loc) (w:World) (args:List Value),(∀b o,M b=some o->w.heap[b]? = some o)->Bl M σ w (σ K) (.row sz len F0 ty)->((σ K).nil=true\/M (σ K).b=none)->L2 (RA M σ) xs args ->
 Calls P f args.toArray w fun en w'=>∃U,en=.returned U/\∃M',Gk w w' M M' (only (σ K))/\(∀σ',RT M' σ' r U)/\∀σ',Bl M' σ' w' (σ K) (.row sz len F1 ty)
theorem HG{f:FuncId}{fn:Func}{c:Code}(hf:P.funcs[f]? = some fn)(hb:fn.body=some c){K:Nat}{xs:List Av}{sz len:Nat}{F0 F1:Nat->Nat->Cl}{ty:TypeId}{r:Tv}(hN:Nat.ble xs.length fn.ntmps=true)(hK:Nat.ble fn.ntmps K=true)(hd:r.dv=true)
 (h:∀(W0:World) (M0:m5) (X:m6),DJ X W0 [K]->AWp P none fn.ntmps W0 X M0 c (My P fn.ntmps W0 X M0 fn fun r' s'=>TvE r' r/\∃b,get s'.h K=some b/\Ic b (.row sz len F1 ty)) ⟨FP 0 xs,[(K,.row sz len F0 ty)]⟩):WrR P f K xs sz len F0 ty r F1:=by
 intro M σ w args himm hblk hM hargs;have one:∀n b,get [(K,Blk.row sz len F0 ty)] n=some b->n=K/\b=.row sz len F0 ty:=fun n b hn=>by
  simp only[get,Cb]at hn
  by_cases hk:K=n
  ·simp[hk]at hn;exact⟨hk.symm,hn.symm⟩
  simp[hk]at hn
 by_cases hnil:(σ K).nil=true
 ·have hlen:len=0:=by
   rcases hblk with h0|⟨h0,_⟩
   ·exact h0.2
   rw[hnil]at h0;cases h0
  refine Ew (X:=noX) (σ:=σ) (h0:=[(K,.row sz len F0 ty)]) hf hb (mr hN) himm hargs (fun n b hn=>?_) (fun n b hn=>?_) (fun n x hx=>by cases hx) (fun n m b c hn hm hne=>?_) (EG (h w M noX (fun k x hk=>by cases hk))) ?_
  ·obtain⟨rfl,rfl⟩:=one n b hn;exact hblk
  ·obtain⟨rfl,rfl⟩:=one n b hn;exact .inl hnil
  ·exact absurd ((one n b hn).1.trans (one m c hm).1.symm) hne
  rintro r' s' M' σ' a' w' U ⟨he,b,hb1,hbe⟩ hs hR;exact⟨U,rfl,M',⟨hs.os,hs.tape,hs.output,hs.size,fun b hb hne=>hs.old b hb (He b),hs.sub,hs.new,hs.imm⟩,fun σ''=>IL hd (ML he hR),fun σ''=>.inl ⟨hnil,hlen⟩⟩
 have hnil:(σ K).nil=false:=by simpa using hnil
 have hMK:M (σ K).b=none:=by
  rcases hM with h1|h1
  ·rw[hnil]at h1;cases h1
  exact h1
 let X:m6:=upd noX K (some (σ K))
 have hX:X K=some (σ K):=BH _ _ _;have pins:∀n x,X n=some x->n=K/\x=σ K:=fun n x hx=>by
  by_cases hk:n=K
  ·subst hk;rw[hX]at hx;injection hx with hx;exact⟨rfl,hx.symm⟩
  simp only[X]at hx;rw[CW _ _ hk]at hx;cases hx
 have hXK:∀k x,X k=some x->A6 [K] k=true:=fun k x hk=>by rw[(pins k x hk).1];exact OU _
 refine Ew (X:=X) (σ:=σ) (h0:=[(K,.row sz len F0 ty)]) hf hb (mr hN) himm hargs (fun n b hn=>?_) (fun n b hn=>?_) (fun n x hx=>?_) (fun n m b c hn hm hne=>?_) (EG (h w M X fun k x hk=>.inl (hXK k x hk))) ?_
 ·obtain⟨rfl,rfl⟩:=one n b hn;exact hblk
 ·obtain⟨rfl,rfl⟩:=one n b hn;exact .inr ⟨hMK,n,σ n,hX,rfl⟩
 ·obtain⟨rfl,rfl⟩:=pins n x hx;exact⟨mr hK,rfl⟩
 ·exact absurd ((one n b hn).1.trans (one m c hm).1.symm) hne
 rintro r' s' M' σ' a' w' U ⟨he,b,hb1,hbe⟩ hs hR;have hpin:=(hs.pin K _ hX).2;have hbk:=hs.blk K _ hb1;rw[hpin]at hbk;refine⟨U,rfl,M',⟨hs.os,hs.tape,hs.output,hs.size,fun b hb hne=>hs.old b hb ?_,hs.sub,hs.new,hs.imm⟩,fun σ''=>IL hd (ML he hR),fun σ''=>(JR hbe hbk:Bl M' σ' w' (σ K) (.row sz len F1 ty))⟩;rintro⟨n,x,hx,rfl⟩;obtain⟨rfl,rfl⟩:=pins n x hx;exact hne ⟨hnil,rfl⟩
theorem HS{α:Type}[Inhabited α]{c:α->List Cl}{xs ys:List α}{sz n:Nat}{ty:TypeId}(h:xs=ys)(hl:xs.length=n):Ic (.row sz xs.length (AL c xs) ty) (.row sz n (AL c ys) ty):=by
 subst h hl;exact .refl _
def Jy(K n:Nat):Av->Av
 |.one (.own m sz len)=>bif Nat.beq m K then .one (.own n sz len)else .one (.own m sz len)
 |x=>x
def qO(K:Nat):Av->Bool
 |.one (.own m _ _)=>Nat.beq m K
 |x=>x.dv
theorem HR{f:FuncId}{K n:Nat}{xs:List Av}{sz len:Nat}{F0 F1:Nat->Nat->Cl}{ty:TypeId}{r:Tv}(h1:∀args w,(callFunc f args).run P w=.ok (.enter f args) w)(hx:xs.all (qO K)=true)(h:WrR P f K xs sz len F0 ty r F1):EI P f (xs.map (Jy K n)) (wrI n (.row sz len F0 ty) r (.row sz len F1 ty)):=by
 refine .inl ⟨h1,fun M σ w hh args cs' g hs hargs hres hc=>?_⟩;simp only[wrI,res,G3]at hres;cases hn:hh n with
 |none=>rw[hn]at hres;cases hres
 |some b =>
  rw[hn]at hres;simp only[l7,l8]at hres;obtain⟨rfl,rfl⟩:=hres;have:=hc.head;subst this;have hblk:=hs.blk n _ hn
  let σ2:Nat->Loc:=upd σ K (σ n)
  have hK:σ2 K=σ n:=BH _ _ _;have hargs2:L2 (RA M σ2) xs args:=by
   refine L2.of (by have:=hargs.length;simpa using this) fun i x V hxi hV=>?_;obtain⟨V',hV',hR⟩:=hargs.get i (Jy K n x) (by rw[ld,hxi];rfl);rw[hV]at hV';injection hV' with hV';subst hV'
   have hok:=(List.all_eq_true.1 hx) x (mo hxi);unfold qO at hok;split at hok
   ·rename_i m sz' len';simp only[Jy,hok,mi]at hR;have:=lx hok;subst this;have hR':R M σ (.own n sz' len') V:=hR;show R M σ2 (.own m sz' len') V;unfold R at hR' ⊢;rw[hK];exact hR'
   rename_i hne;have:Jy K n x=x:=by
    unfold Jy;split
    ·rename_i m a b;exact(hne m a b rfl).elim
    rfl
   rw[this]at hR;exact IL (σ':=σ2) (r:=.av x) hok hR
  refine(h M σ2 w args hs.imm (by rw[hK];exact hblk) (by rw[hK];exact hs.loc n _ hn) hargs2).mono ?_;rintro en w' ⟨U,hU,M',hk,hR,hb⟩;rw[hK]at hk;refine⟨U,hU,fun dst _=>⟨M',σ,hk,rfl,hR σ,?_⟩⟩;have:=hb σ;rw[hK]at this;exact this
end
end
section
section
variable {α:Type}[Inhabited α]
def HN(lt:α->Bool)(out:List α):Nat->Nat
 |0=>0
 |k+1=>bif lt (out.getD k default)then HN lt out k else k+1
def W7(lt:α->α->Bool)(out:List α)(x:α):List α:=out.take (HN (lt x) out out.length)++x::out.drop (HN (lt x) out out.length)
def CY(lt:α->α->Bool)(l:List α):List α:=l.foldl (W7 lt) []
theorem lA(lt:α->α->Bool)(out:List α)(x:α):(W7 lt out x).Perm (x::out):=by
 unfold W7;refine List.perm_middle.trans ?_;rw[List.take_append_drop]
theorem QZ(lt:α->α->Bool)(l:List α)(x:α):CY lt (l++[x])=W7 lt (CY lt l) x:=by
 unfold CY;rw[List.foldl_append];rfl
theorem Qa(lt:α->α->Bool)(l:List α):(CY lt l).Perm l:=by
 have key:∀(l out:List α),(l.foldl (W7 lt) out).Perm (out++l):=by
  intro l;induction l with
  |nil=>intro out;simp
  |cons x l ih =>
   intro out;rw[List.foldl_cons];refine(ih _).trans ?_;refine((lA lt out x).append_right l).trans ?_;exact List.perm_middle.symm
 exact key l []
theorem Cu(lt:α->α->Bool)(l:List α):(CY lt l).length=l.length:=(Qa lt l).length_eq
theorem Kr(lt:α->α->Bool)(l:List α)(x:α):x∈CY lt l↔x∈l:=(Qa lt l).mem_iff
theorem jD(A:List α)(x y:α)(R:List α) :
  (A++y::x::R).getD A.length default=y/\(A++y::x::R).getD (A.length+1) default=x/\((A++y::x::R).set (A.length+1) y).set A.length x=A++x::y::R:=by
 refine⟨?_,?_,?_⟩
 ·rw[aE,kz mz];simp
 ·rw[aE,kz mz];simp
 rw[List.set_append_right _ _ mz,List.set_append_right _ _ mz];simp
theorem FU(out:List α)(j:Nat)(h:j<out.length):out.take (j+1)=out.take j++[out.getD j default]/\out.drop j=out.getD j default::out.drop (j+1):=by
 constructor
 ·rw[List.take_add_one,ea h,aE,ea h];rfl
 rw[List.drop_eq_getElem_cons h,aE,ea h];rfl
theorem ja{β:Type}(lt:α->α->Bool)(f:Nat->List α->Int->β)(K:List α->β)
 (hf:∀m d (j:Nat),f (m+1) d j=bif (bif decide ((0:Int)<j)then lt (d.getD j default) (d.getD (j-1) default)else false)then f m ((d.set j (d.getD (j-1) default)).set (j-1) (d.getD j default)) ((j:Int)-1)else K d)
 (out rest:List α)(x:α):∀(j m:Nat),j<=out.length->j<m->f m (out.take j++x::(out.drop j++rest)) j=K (out.take (HN (lt x) out j)++x::(out.drop (HN (lt x) out j)++rest)):=by
 intro j;induction j with
 |zero =>
  intro m hj hm;obtain⟨m,rfl⟩:∃k,m=k+1:=⟨m-1,by omega⟩;rw[hf];simp[HN]
 |succ j ih =>
  intro m hj hm;obtain⟨m,rfl⟩:∃k,m=k+1:=⟨m-1,by omega⟩;obtain⟨e1,e2⟩:=FU out j mz;have hl:(out.take j).length=j:=by rw[ki];omega
  obtain⟨s1,s2,s3⟩:=jD (out.take j) x (out.getD j default) (out.drop (j+1)++rest);rw[hl]at s1 s2 s3;have hd:out.take (j+1)++x::(out.drop (j+1)++rest)=out.take j++out.getD j default::x::(out.drop (j+1)++rest):=by rw[e1];simp
  rw[hf,hd,Nat.add_sub_cancel,s1,s2,s3];have h0:decide ((0:Int)<((j+1:Nat):Int))=true:=lj mz;rw[h0,mi]
  conv=>rhs;unfold HN
  cases hlt:lt x (out.getD j default)with
  |true =>
   rw[mi,mi];have:=ih m mz mz;rw[e2]at this;rw[show((j+1:Nat):Int)-1=(j:Int)by omega,<- this];rfl
  |false =>
   rw[mj,mj,hd]
theorem jb{β:Type}(lt:α->α->Bool)(l:List α)(g:Nat->List α->Int->β)(K:List α->β)(hK:∀m d (i:Nat),l.length<=i->g (m+1) d i=K d)
 (hg:∀m (i:Nat) (out rest:List α) x,i<l.length->out.length=i->g (m+1) (out++x::rest) i=g m (W7 lt out x++rest) ((i:Int)+1)) :
  ∀(k m i:Nat),l.length-i=k->i<=l.length->k<m->g m (CY lt (l.take i)++l.drop i) i=K (CY lt l):=by
 intro k;induction k with
 |zero =>
  intro m i hk hi hm;obtain⟨m,rfl⟩:∃k,m=k+1:=⟨m-1,by omega⟩;rw[hK m _ i mz,List.drop_eq_nil_of_le mz,ky mz,ko]
 |succ k ih =>
  intro m i hk hi hm;obtain⟨m,rfl⟩:∃k,m=k+1:=⟨m-1,by omega⟩;obtain⟨e1,e2⟩:=FU l i mz;rw[e2,hg m i _ _ _ mz (by rw[Cu,ki];omega),<- QZ,<- e1];have:=ih m (i+1) mz mz mz;rw[show((i+1:Nat):Int)=(i:Int)+1 by omega]at this;exact this
theorem lH{β:Type}(xs:List α)(g:Nat->List α->Int->β)(K:List α->Int->β)(h:∀m acc (v:Nat),g (m+1) acc v=bif decide ((v:Int)<(xs.length:Int))then g m (acc++[xs.getD v default]) ((v:Int)+1)else K acc v) :
  ∀(k v m:Nat) (acc:List α),xs.length-v=k->v<=xs.length->k<m->g m acc v=K (acc++xs.drop v) (xs.length:Int):=by
 intro k;induction k with
 |zero =>
  intro v m acc hk hv hm;obtain⟨m,rfl⟩:∃k,m=k+1:=⟨m-1,by omega⟩;rw[h,lk mz,mj,List.drop_eq_nil_of_le mz,ko,show v=xs.length by omega]
 |succ k ih =>
  intro v m acc hk hv hm;obtain⟨m,rfl⟩:∃k,m=k+1:=⟨m-1,by omega⟩;obtain⟨_,e2⟩:=FU xs v mz;rw[h,lj mz,mi,e2];have:=ih (v+1) m (acc++[xs.getD v default]) mz mz mz;rw[show((v+1:Nat):Int)=(v:Int)+1 by omega]at this;rw[this,List.append_assoc];rfl
theorem F7{β γ:Type}(xs:List α)(step:γ->α->γ)(g:Nat->γ->Int->β)(K:γ->Int->β)(h:∀m acc (v:Nat),g (m+1) acc v=bif decide ((v:Int)<(xs.length:Int))then g m (step acc (xs.getD v default)) ((v:Int)+1)else K acc v) :
  ∀(k v m:Nat) (acc:γ),xs.length-v=k->v<=xs.length->k<m->g m acc v=K ((xs.drop v).foldl step acc) (xs.length:Int):=by
 intro k;induction k with
 |zero =>
  intro v m acc hk hv hm;obtain⟨m,rfl⟩:∃k,m=k+1:=⟨m-1,by omega⟩;rw[h,lk mz,mj,List.drop_eq_nil_of_le mz,show v=xs.length by omega];rfl
 |succ k ih =>
  intro v m acc hk hv hm;obtain⟨m,rfl⟩:∃k,m=k+1:=⟨m-1,by omega⟩;obtain⟨_,e2⟩:=FU xs v mz;rw[h,lj mz,mi,e2];have:=ih (v+1) m (step acc (xs.getD v default)) mz mz mz;rw[show((v+1:Nat):Int)=(v:Int)+1 by omega]at this;rw[this,List.foldl_cons]
theorem uT{β γ:Type}(xs:List α)(step:γ->α->γ)(g:Nat->Nat->γ->β)(K:γ->β)(h0:∀x acc,g 0 x acc=K acc)(h:∀m x acc,x<xs.length->g (m+1) x acc=g m (x+1) (step acc (xs.getD x default))) :
  ∀(m x:Nat) (acc:γ),m+x=xs.length->g m x acc=K ((xs.drop x).foldl step acc):=by
 intro m;induction m with
 |zero =>
  intro x acc hx;rw[h0,List.drop_eq_nil_of_le mz];rfl
 |succ m ih =>
  intro x acc hx;obtain⟨_,e2⟩:=FU xs x mz;rw[h m x acc mz,ih (x+1) _ mz,e2,List.foldl_cons]
omit [Inhabited α] in
theorem En{γ:Type}(f:α->γ):∀(xs:List α) (acc:List γ),xs.foldl (fun acc x=>acc++[f x]) acc=acc++xs.map f
 |[],acc=>by simp
 |x::xs,acc=>by rw[List.foldl_cons,En f xs,List.map_cons,List.append_assoc];rfl
def ixI(f:α->Bool)(xs:List α):Int:=match xs.findIdx? f with
 |some i=>(i:Int)
 |none => -1
omit [Inhabited α] in
theorem ixI_b{f:α->Bool}{xs:List α}(h:¬ ixI f xs<0):0<=ixI f xs/\ixI f xs<(xs.length:Int):=by
 unfold ixI at *;cases hk:xs.findIdx? f with
 |none=>rw[hk]at h;exact absurd m4 h
 |some i =>
  rw[hk]at h;have:=(List.findIdx?_eq_some_iff_getElem.1 hk).1;simp only;omega
theorem tW{f:α->Bool}{xs:List α}(h:¬ ixI f xs<0):f (xs.getD (ixI f xs).toNat default)=true/\xs.find? f=some (xs.getD (ixI f xs).toNat default):=by
 unfold ixI at *;cases hk:xs.findIdx? f with
 |none=>rw[hk]at h;exact absurd m4 h
 |some i =>
  obtain⟨h1,h2,h3⟩:=List.findIdx?_eq_some_iff_getElem.1 hk;have e:xs.getD ((i:Int)).toNat default=xs[i]:=by rw[l9,aE,ea h1];rfl
  simp only[e];refine⟨h2,?_⟩;rw[List.find?_eq_some_iff_getElem];exact⟨h2,i,h1,rfl,fun j hj=>by have:=h3 j hj;simpa using this⟩
omit [Inhabited α] in
theorem tX{f:α->Bool}{xs:List α}(h:ixI f xs<0):xs.find? f=none:=by
 unfold ixI at h;cases hk:xs.findIdx? f with
 |some i=>rw[hk]at h;exact absurd h (by simp only;omega)
 |none =>
  rw[List.find?_eq_none];rw[List.findIdx?_eq_none_iff]at hk;intro x hx;rw[hk x hx];decide
theorem ix_l0(f:α->Bool)(xs:List α)(g:Nat->Int->Int)(hg:∀m (v:Nat),g (m+1) v=bif decide ((v:Int)<(xs.length:Int))then(bif f (xs.getD v default)then(v:Int)else g m ((v:Int)+1))else -1) :
  ∀(k v m:Nat),xs.length-v=k->v<=xs.length->k<m->g m v=match (xs.drop v).findIdx? f with|some i=>((v+i:Nat):Int)|none => -1:=by
 intro k;induction k with
 |zero =>
  intro v m hk hv hm;obtain⟨m,rfl⟩:∃k,m=k+1:=⟨m-1,by omega⟩;rw[hg,lk mz,mj,List.drop_eq_nil_of_le mz];rfl
 |succ k ih =>
  intro v m hk hv hm;obtain⟨m,rfl⟩:∃k,m=k+1:=⟨m-1,by omega⟩;obtain⟨_,e2⟩:=FU xs v mz;rw[hg,lj mz,mi,e2,List.findIdx?_cons];cases hf:f (xs.getD v default)with
  |true=>simp
  |false =>
   have:=ih (v+1) m mz mz mz;rw[show((v+1:Nat):Int)=(v:Int)+1 by omega]at this;rw[mj,this];cases (xs.drop (v+1)).findIdx? f with
   |none=>simp
   |some i =>
    simp only[Option.map_some];rw[show v+1+i=v+(i+1)by omega];rfl
end
end
def SeqV(P:Program)(gf:Nat)(lb:Array Value)(V:Nat->Array Value->World->Prop)(Kp:World->World->Prop)(n:Nat)(w:World):Prop :=
 ∀(l:Nat) (J:Nat->World->Prop) (W:World),Below w.heap.size w W->(∀j A B,J j A->A.grownBy B none->J j B) ->
  (∀j v A,j<n->J j A->V j v A->YieldAt (FW none) 0 P l v A fun e B=>e=.returned (.bool true)/\J (j+1) B/\Kp A B)->J 0 W ->
  CallsIn (FW none) 1 P gf (#[.func (.yield l) #[] #[]]++lb) W fun e B=>(∃u,e=.returned u)/\J n B
theorem iZ{P:Program}{g:Operand}{ps:Array Tmp}{assign body:Code}{Q:Exit->Act->World->Prop}{a:Act}{w:World}{gf:Nat}{lb:Array Value}(hg:a.eval g=.func (.func gf) #[] lb)(eg:∀args w,(callFunc gf args).run P w=.ok (.enter gf args) w)
 {V:Nat->Array Value->World->Prop}{Kp:World->World->Prop}{n:Nat}(hseq:SeqV P gf lb V Kp n w)(hKt:∀ {A B C:World},Kp A B->Kp B C->Kp A C)
 (hKb:∀(W:World) (l:Nat) (o o':Obj),w.heap.size<=l->W.heap[l]? = some o->o.isCells=false->Kp W (W.putObj l o'))(hsz:∀j v W,V j v W->v.size=ps.size)
 (I:Nat->World->Prop)(hI:OwnFrom w.heap.size I)(h0:I 0 w)(Ax:Nat->Act->World->Prop)(hAx:∀j a',OwnFrom w.heap.size fun(_:Unit) W=>Ax j a' W)
 (hassign:∀(l j:Nat) (v:Array Value) (W:World) (K:Act->World->Prop),j<n->I j W->V j v W->(∀a' W',KeepsFrom w.heap.size W W'->Kp W W'->I j W'->Ax j a' W'->K a' W') ->
   assign.wpIn ((FW none).inRound l) 0 P (Exit.then K fun _ _ _=>False) { tmps:=(ps.zip v).foldl (fun t (p,u)=>t.setIfInBounds p u) a.tmps,defers:=[] } W)
 (hbody:∀(l j:Nat) (a':Act) (W:World),j<n->I j W->Ax j a' W->body.wpIn ((FW none).inRound l) 0 P (fun e _ W'=>e=.normal/\KeepsFrom w.heap.size W W'/\Kp W W'/\I (j+1) W') a' W)
 (hdone:∀(D:Nat) (W:World),w.heap.size<=D->I n W->W.heap[D]? = some (.deferred (some []))->Q .normal { a with defers:={ target:=.collected D,args := #[] }::a.defers } W):(Code.rangeFunc g ps assign body).wpIn (FW none) 2 P Q a w:=by
 refine wpIn_rangeFunc fun fn hfn=>?_
 -- the two blocks of the statement: the mark's and the record's
 generalize hD:w.heap.size=D at *
 let rc:LoopState->Obj:=fun st=>.loop { state:=st,pending:=none,fn:=fn,tmps:=a.tmps,params:=ps,assign:=assign,body:=body,defers:=D }
 have hcell:∀st,(rc st).isCells=false:=fun _=>rfl
 let U:=w.alloc (.deferred (some []))
 let Z:=U.alloc (rc .ready)
 have sU:U.heap.size=D+1:=by show(w.alloc _).heap.size=_;rw[World.size_alloc,hD]
 have zL:Z.heap[D+1]? = some (rc .ready):=by rw[<- sU];exact World.alloc_heap_new U _
 have zD:Z.heap[D]? = some (.deferred (some [])):=(mq U _ _ mz).trans (by rw[<- hD];exact World.alloc_heap_new w _);have hIa:∀ {j:Nat} {W:World} (o:Obj),I j W->I j (W.alloc o):=fun o h=>hI.alloc o h
 let J:Nat->World->Prop:=fun j W=>I j W/\W.heap[D+1]? = some (rc .ready)/\W.heap[D]? = some (.deferred (some []))
 refine⟨D+1,[{ target:=.collected D,args := #[] }],Z,{ target:=.fn (.func gf) lb,args := #[.func (.yield (D+1)) #[] #[]] },Z,gf,#[.func (.yield (D+1)) #[] #[]]++lb,Z,?_,?_,?_,?_,fun _=>by decide,?_⟩
 ·have:=run_enterLoop_outer (P:=P) (w:=w) fn a.tmps ps assign body;rw[hD]at this;exact this
 ·simp only[resolve,hg];simp[go_sem]
 ·intro f' _;trivial
 ·simp[invoke,go_sem,eg]
 refine(hseq (D+1) J Z ?_ ?_ ?_ ⟨hIa _ (hIa _ h0),zL,zD⟩).mono ?_
 ·rw[hD];exact(((Below.refl D w).alloc mz _).alloc (by rw[show(w.alloc (.deferred (some []))).heap.size=D+1 from sU];omega) _)
 ·rintro j A B ⟨h1,h2,h3⟩ hgr;have keep:∀b (o:Obj),A.heap[b]? = some o->B.heap[b]? = some o:=fun b o h=>(hgr.block b (Array.getElem?_eq_some_iff.1 h).1 (fun e=>by cases e)).trans h;exact⟨hI j A B none h1 hgr (fun r e=>by cases e),keep _ _ h2,keep _ _ h3⟩
 ·rintro j v A hj ⟨h1,h2,h3⟩ hv;refine⟨fn,_,assign,body,run_yield h2 (hsz j v A hv),roundIn_of_wpIn hfn (hassign (D+1) j v A _ hj h1 hv ?_)⟩;intro a' B kf kp i1 ax;have l1:B.heap[D+1]? = some (rc .ready):=kf.same _ _ mz h2 rfl;have d1:B.heap[D]? = some (.deferred (some [])):=kf.same _ _ (lu _) h3 rfl;have hlt:D+1<B.heap.size:=(Array.getElem?_eq_some_iff.1 l1).1;refine⟨_,run_beginRound l1 rfl,?_⟩;generalize hC:B.putObj (D+1) (.loop { state:=.busy,pending:=none,fn:=fn,tmps:=a.tmps,params:=ps,assign:=assign,body:=body,defers:=D })=C;have l2:C.heap[D+1]? = some (rc .busy):=by rw[<- hC];exact World.putObj_heap_same hlt
  have d2:C.heap[D]? = some (.deferred (some [])):=by rw[<- hC];exact(World.putObj_heap_other mz).trans d1
  have kp2:Kp B C:=by rw[<- hC];exact hKb _ _ _ _ mz l1 rfl
  have i2:I j C:=by rw[<- hC];exact hI.putObj _ i1 mz l1 rfl
  have ax2:Ax j a' C:=by rw[<- hC];exact(hAx j a').putObj (s:=()) _ ax mz l1 rfl
  refine wpIn_mono (hbody (D+1) j a' C hj i2 ax2) ?_;rintro e a3 G ⟨rfl,kf3,kp3,i3⟩;have l3:G.heap[D+1]? = some (rc .busy):=kf3.same _ _ mz l2 rfl;have d3:G.heap[D]? = some (.deferred (some [])):=kf3.same _ _ (lu _) d2 rfl;have kp4:=hKb G (D+1) _ (rc .ready) mz l3 rfl;exact⟨_,_,run_endRound none l3,rfl,⟨hI.putObj _ i3 mz l3 rfl,World.putObj_heap_same (Array.getElem?_eq_some_iff.1 l3).1,(World.putObj_heap_other mz).trans d3⟩,hKt kp (hKt (hKt kp2 kp3) kp4)⟩
 rintro e B ⟨⟨u,rfl⟩,h1,h2,h3⟩;exact⟨none,_,run_endLoop h2 (fun e=>by cases e),hdone D _ (lu _) (hI.putObj _ h1 mz h2 rfl) ((World.putObj_heap_other mz).trans h3)⟩
section
open Go.RowKit
def co(M:m5)(Ow:World->Nat->Prop)(E:List Av)(v:Array Value)(W:World):Prop:=∃Mj:m5,E.length=v.size/\(∀b o,Mj b=some o->W.heap[b]? = some o/\o.isCells=true/\¬ Ow W b) /\
 ∀MM:m5,(∀b o,M b=some o->MM b=some o)->(∀b o,Mj b=some o->MM b=some o)->L2 (fun e u=>∀σ,RA MM σ e u) E v.toList
def LM(P:Program)(gf:FuncId)(k:Nat)(caps:Nat->Cl)(n:Nat)(E:Fin n->List Av):Prop :=
 ∀(M:m5) (w:World) (cs:Array Value) (Ow:World->Nat->Prop),(∀b o,M b=some o->w.heap[b]? = some o)->OwS Ow w.heap.size->(∀b,Ow w b->b<w.heap.size/\M b=none)->cs.size=k->(∀i,i<k->RC M (caps i) (cs.getD i undef)) ->
  SeqV P gf cs (fun j v W=>∃hj:j<n,co M Ow (E ⟨j,hj⟩) v W) (KpS Ow) n w
section
variable {P:Program}{N:Nat}{W0:World}{X:m6}{M0:m5}
theorem lP{ι:Type}{Q:Exit->AS->Prop}{g:Operand}{ps:Array Tmp}{assign body:Code}{t0:List (Nat×Tv)}(pids:List Nat)(fid q off r:Nat){gf:FuncId}{k:Nat}{caps:Nat->Cl}{n:Nat}{E:Fin n->List Av}(H:ι->List (Nat×Blk))(t1:Fin n->List (Nat×Tv))(Inv Fm:Nat->ι->Prop)(x0:ι)
 (hX0:∀m,X m=none)(hg:evT (get t0) g=some (.av (.one (.clo gf k caps))))(hcd:(Cl.clo gf k caps).dv=true)(eg:∀args w,(callFunc gf args).run P w=.ok (.enter gf args) w)
 (It:LM P gf k caps n E)(hE:∀x,(E x).length=ps.size)(hps:∀p∈ps.toList,p<N)
 (hpv:∀i v,get t0 i=some v->pvT pids v=true)(hh:∀x m b,get (H x) m=some b->((A6 pids m=true/\b.isP=true)\/(m=r/\b.isR=true))/\b.no fid=true)
 (hpc:∀x m,A6 pids m=true->∃b,get (H x) m=some b)(hfp:A6 pids fid=false)(hrp:A6 pids r=false)(hrf:r≠fid)(hfN:N<=fid)(hrN:N<=r)(hpN:∀m∈pids,N<=m)(hmem:∀m∈pids,A6 pids m=true)(hq:A6 pids q=true)
 (hEd:∀x i v,get (UT t0 ps.toList (E x)) i=some v->v.no fid=true)
 (hheld:∀x,TH q off r (H x)=true)(hm:∀x m b,get (H x) m=some b->BkN b)
 (ht1:∀x,TsM (t1 x))(ht1p:∀x i v,get (t1 x) i=some v->pvT pids v=true)
 (hI0:Inv 0 x0)(ng:Fm 0 x0)
 (hassign:∀l W1 M1 X1 k j x,Inv j x->PXr pids r (∃bb,get (H x) r=some bb) X1->AWp P (some l) N W1 X1 M1 assign (fun e s'=>e=.normal/\s'=⟨t1 k,H x⟩) ⟨UT t0 ps.toList (E k),H x⟩)
 (hbody:∀l W1 M1 X1 (k:Fin n) j x,(∀m z,X1 m=some z->A6 (fid::pids) m=true)->j<n->Inv j x->AWp P (some l) N W1 X1 M1 body (fun e s'=>e=.normal/\∃y,Inv (j+1) y/\(k.val=j->Fm j x->Fm (j+1) y)/\∀m b,get (H y) m=some b->get s'.h m=some b) ⟨t1 k,H x⟩)
 (hdone:∀x,Inv n x->Fm n x->Q .normal ⟨t0,H x⟩):AWp P none N W0 X M0 (.rangeFunc g ps assign body) Q ⟨t0,H x0⟩:=by
 intro M σ a w hs;have hnof:∀v:Tv,pvT pids v=true->v.no fid=true:=fun v h=>by
  cases hn:v.no fid with
  |true=>rfl
  |false=>have:=hmem fid (Sj h hn);rw[hfp]at this;cases this
 have hpne:∀m,A6 pids m=true->m≠fid/\m≠r:=fun m h=>⟨fun e=>(by rw[e,hfp]at h;cases h),fun e=>(by rw[e,hrp]at h;cases h)⟩;have hPb:∀x m,A6 pids m=true->∃b,get (H x) m=some b/\b.isP=true:=fun x m h=>by
  obtain⟨b,hb⟩:=hpc x m h;rcases(hh x m b hb).1 with h1|h1
  ·exact⟨b,hb,h1.2⟩
  exact absurd h1.1 (hpne m h).2
 have hPn:∀ {X':m6} {W1:World} {Mb M1:m5} {σ1:Nat->Loc} {T:Nat->Option Tv} {b:Act} {A:World} {x:ι},Sim N W1 X' Mb M1 σ1 T (get (H x)) b A->∀m,A6 pids m=true->(σ1 m).nil=false/\(σ1 m).b<A.heap.size/\M1 (σ1 m).b=none:=fun {X' W1 Mb M1 σ1 T b A x} h1 m hmm=>by
  obtain⟨bk,hbk,hp⟩:=hPb x m hmm;have h2:=h1.blk m bk hbk;have hn:(σ1 m).nil=false:=by
   cases bk with
   |cells l ty=>exact h2.1
   |omap=>exact h2.1
   |row=>cases hp
   |rowx=>cases hp
  refine⟨hn,h2.lt hn,?_⟩;rcases h1.loc m bk hbk with h|h
  ·rw[hn]at h;cases h
  exact h.1
 have hplt:∀m,A6 pids m=true->(σ m).b<w.heap.size:=fun m hmm=>(hPn hs m hmm).2.1
 -- the iterator's value
 obtain⟨cs,hgv1,hgv2,hgv3⟩:=HQ hs.tmps hg;have hcaps:∀i,i<k->RC M (caps i) (cs.getD i undef):=fun i hi=>(Mx (List.all_eq_true.1 hcd i (List.mem_range.2 hi))).1 (hgv3 i hi);obtain⟨Ow,hOw⟩:∃Ow:World->Nat->Prop,Ow=fun W b=>((∃m,A6 pids m=true/\(σ m).b=b)\/LN (σ q).b off W b)\/(b<w.heap.size/\M b=none):=⟨_,rfl⟩;have hOi:∀ {W b},Ow W b->((∃m,A6 pids m=true/\(σ m).b=b)\/LN (σ q).b off W b)\/(b<w.heap.size/\M b=none):=fun h=>by rw[hOw]at h;exact h
 have hOr:∀ {W b},((∃m,A6 pids m=true/\(σ m).b=b)\/LN (σ q).b off W b)\/(b<w.heap.size/\M b=none)->Ow W b:=fun h=>by rw[hOw];exact h
 have hOo:∀ {W b},(∃m,A6 pids m=true/\(σ m).b=b)\/LN (σ q).b off W b->Ow W b:=fun h=>by rw[hOw];exact .inl h
 have hHeldSame:∀ {A B:World},B.heap[(σ q).b]? = A.heap[(σ q).b]? -> ∀b,LN (σ q).b off B b->LN (σ q).b off A b:=fun h b ⟨o,len,cap,h1,h2⟩=>⟨o,len,cap,by rw[<- h];exact h1,h2⟩;have hOg:∀ {A B:World},w.heap.size<=A.heap.size->B.heap[(σ q).b]? = A.heap[(σ q).b]? -> ∀b,Ow B b->Ow A b:=fun _ hB b hb=>hOr ((hOi hb).imp (Or.imp id (hHeldSame hB b)) id);have hseq:=It M w cs Ow hs.imm ⟨fun A B hA hB b hb=>hOg hA (hB _ (lp (hplt q hq) hA)) b hb⟩ (fun b hb=>by
  rcases hOi hb with (⟨m,hmm,rfl⟩|hb)|hb
  ·exact⟨hplt m hmm,(hPn hs m hmm).2.2⟩
  ·obtain⟨⟨bk,hbk⟩,hn,rfl⟩:=XC hs (hheld x0) hb;refine⟨(hs.blk r bk hbk).lt hn,?_⟩;rcases hs.loc r bk hbk with h|h
   ·rw[hn]at h;cases h
   exact h.1
  exact hb) hgv2 hcaps
 -- names
 have hXPm:∀m x,UE pids σ X m=some x->A6 pids m=true/\x=σ m:=fun m x hx=>by
  unfold UE at hx;cases hmm:A6 pids m with
  |true=>rw[hmm]at hx;injection hx with hx;exact⟨rfl,hx.symm⟩
  |false=>rw[hmm]at hx;have:X m=some x:=hx;rw[hX0]at this;cases this
 have hPp:∀m,A6 pids m=true->UE pids σ X m=some (σ m):=fun m h=>by unfold UE;rw[h];rfl
 obtain⟨XP,hXPd⟩:∃XP,XP=UE pids σ X:=⟨_,rfl⟩;have hXPi:∀b,inX XP b↔∃m,A6 pids m=true/\(σ m).b=b:=fun b=>by
  rw[hXPd];constructor
  ·rintro⟨m,x,h1,h2⟩;obtain⟨h3,rfl⟩:=hXPm m x h1;exact⟨m,h3,h2⟩
  rintro⟨m,h1,h2⟩;exact⟨m,_,hPp m h1,h2⟩
 have hnfP:∀l M4,(∀b o,M b=some o->M4 b=some o)->l=a.defers->KM XP M0 M4 l:=fun l M4 h4 e=>⟨by rw[e];exact JC.mono h4 hs.defers.1,fun⟨m,x,h1,h2,_⟩=>by
  rw[hXPd]at h1;obtain⟨h3,rfl⟩:=hXPm m x h1;rw[(hPn hs m h3).1]at h2;cases h2⟩
 have hT0:∀(M4:m5) (σ4:Nat->Loc),(∀b o,M b=some o->M4 b=some o)->(∀m,A6 pids m=true->σ4 m=σ m)->∀i v,get t0 i=some v->RT M4 σ4 v (a.tmps.getD i undef):=fun M4 σ4 h4 hσ i v hv =>
  D6 h4 (fun d hd=>hσ d (hmem d (Sj (hpv i v hv) hd))) (hs.tmps i v hv)
 have hs0:Sim N W0 XP M0 M σ (get t0) (get (H x0)) a w:=⟨hs.os,hs.tape,hs.output,hs.size,fun b hb hx=>hs.old b hb fun⟨m,x,h1,h2⟩=>(by rw[hX0]at h1;cases h1),hs.sub,hs.new,fun m x hx=>by
   rw[hXPd]at hx;obtain⟨h3,rfl⟩:=hXPm m x hx;exact⟨hpN m (FZ h3),rfl⟩,hnfP _ M (fun _ _ h=>h) rfl,hs.room,hs.tmps,hs.imm,hs.blk,fun m b hb=>(hs.loc m b hb).imp id fun h=>⟨h.1,.inl (h.2.elim id fun⟨m,x,h1,_⟩=>by rw[hX0]at h1;cases h1)⟩,hs.inj⟩
 have hlt:∀b o,M b=some o->b<w.heap.size:=fun b o h=>(Array.getElem?_eq_some_iff.1 (hs.imm b o h)).1;have hσP:∀ {X':m6} {M1:m5} {σ1:Nat->Loc} {T:Nat->Option Tv} {HH:Nat->Option Blk} {b:Act} {A W1:World} {Mb:m5},Sim N W1 X' Mb M1 σ1 T HH b A->(∀m,A6 pids m=true->X' m=some (σ m))->∀m,A6 pids m=true->σ1 m=σ m:=fun h1 h2 m hmm=>(h1.pin m _ (h2 m hmm)).2;have hXPp:∀m,A6 pids m=true->XP m=some (σ m):=fun m h=>by rw[hXPd];exact hPp m h
 let SI:Nat->World->Prop:=fun j W=>∃x M' σ',Sim N W0 XP M0 M' σ' (get t0) (get (H x)) a W/\Cln M M'/\Inv j x/\Fm j x/\w.heap.size<=W.heap.size
 let Ax:Nat->Act->World->Prop:=fun j a' W=>∃(hj:j<n) (Mn:m5),w.heap.size<=W.heap.size/\a'.tmps.size=N/\a'.defers=[]/\(∀i v,get (t1 ⟨j,hj⟩) i=some v->RT Mn σ v (a'.tmps.getD i undef))/\∀b o,Mn b=some o->W.heap[b]? = some o/\(o.isCells=true\/M b=some o)/\(M b=none->W0.heap.size<=b)/\¬ ((∃m,A6 pids m=true/\(σ m).b=b)\/LN (σ q).b off W b)
 -- one piece of a round
 have step:∀ {XA:m6} {M' M3:m5} {σ' σ3:Nat->Loc} {W W':World} {x y:ι} {T':Nat->Option Tv} {h':List (Nat×Blk)} {a':Act},Sim N W0 XP M0 M' σ' (get t0) (get (H x)) a W->Cln M M'->Sim N W XA M' M3 σ3 T' (get h') a' W'->(∀m b,get (H y) m=some b->get h' m=some b) ->
   (∀b,inX XA b->(∃m,A6 pids m=true/\(σ m).b=b)\/((∃bb,get (H x) r=some bb)/\(σ' r).nil=false/\(σ' r).b=b))->(∀m,A6 pids m=true->σ3 m=σ m) ->
   KeepsFrom w.heap.size W W'/\KpS Ow W W'/\Sim N W0 XP M0 (Mw M' M3) σ3 (get t0) (get (H y)) a W'/\Cln M (Mw M' M3):=by
  intro XA M' M3 σ' σ3 W W' x y T' h' a' h1 h2 hr hy hX hσ3;have hσ':=hσP h1 hXPp;have hC:=vJ h2 hr.sub;have hXO:∀b,inX XA b->Ow W b:=fun b hb=>by
   rcases hX b hb with h|⟨⟨bb,hbb⟩,hn,rfl⟩
   ·exact hOo (.inl h)
   have:=Y4 h1 (hheld x) hbb hn;rw[hσ' q hq]at this;exact hOo (.inr this)
  have hsim:Sim N W0 XP M0 (Mw M' M3) σ3 (get t0) (get (H y)) a W':=by
   refine qJ h1 hr (fun b hb=>?_) hy (hm y) hs.room (hT0 _ σ3 hC.1 hσ3) (fun m z hz=>?_) (fun b=>Iff.rfl) (hnfP _ _ hC.1 rfl)
   ·rcases hX b hb with h|⟨⟨bb,hbb⟩,hn,rfl⟩
    ·exact .inl ((hXPi b).2 h)
    rcases h1.loc r bb hbb with h3|h3
    ·rw[hn]at h3;cases h3
    exact h3.2.symm
   rw[hXPd]at hz;obtain⟨h3,rfl⟩:=hXPm m z hz;exact⟨hpN m (FZ h3),hσ3 m h3⟩
  refine⟨⟨hr.size,fun b o hb ho hoc=>?_⟩,⟨hr.size,fun b o hb hc ho=>(hr.old b (Array.getElem?_eq_some_iff.1 hb).1 fun h=>ho (hXO b h)).trans hb,fun b hb=>?_⟩,hsim,hC⟩
  ·refine(hr.old b (Array.getElem?_eq_some_iff.1 ho).1 fun hX' => ?_).trans ho;rcases hX b hX' with ⟨m,hmm,rfl⟩|⟨⟨bb,hbb⟩,hn,rfl⟩
   ·have:=hplt m hmm;omega
   have h3:=h1.blk r bb hbb;have h4:=(hh x r bb hbb).1;cases bb with
   |row sz len f ty =>
    rcases h3 with ⟨h5,_⟩|⟨_,c,hc,_⟩
    ·rw[hn]at h5;cases h5
    rw[ho]at hc;injection hc with hc;subst hc;cases hoc
   |cells=>rcases h4 with h4|h4<;>first|(rw[hrp]at h4;cases h4.1)|cases h4.2
   |omap=>rcases h4 with h4|h4<;>first|(rw[hrp]at h4;cases h4.1)|cases h4.2
   |rowx=>rcases h4 with h4|h4<;>first|cases h4.2|(rw[hrp]at h4;cases h4.1)
  rcases hOi hb with (h|h)|h
  ·exact .inl (hOo (.inl h))
  rotate_left
  ·exact .inl (hOr (.inr h))
  rw[<- hσ3 q hq]at h;obtain⟨⟨bk,hbk⟩,hn,rfl⟩:=XC hsim (hheld y) h;rcases hr.loc r bk (hy r bk hbk)with h3|⟨_,h3|h3⟩
  ·rw[hn]at h3;cases h3
  ·exact .inr ⟨h3,(hr.blk r bk (hy r bk hbk)).lt hn⟩
  exact .inl (hXO _ h3)
 -- what else is known to lie in the world
 have merge:∀ {M' Mn:m5} {σ':Nat->Loc} {W:World} {x:ι},Sim N W0 XP M0 M' σ' (get t0) (get (H x)) a W->Cln M M'->(∀b o,Mn b=some o->W.heap[b]? = some o/\(o.isCells=true\/M b=some o)/\(M b=none->W0.heap.size<=b)/\¬ ((∃m,A6 pids m=true/\(σ m).b=b)\/LN (σ q).b off W b)) ->
   ∃MM:m5,(∀b o,M' b=some o->MM b=some o)/\(∀b o,Mn b=some o->MM b=some o)/\Cln M MM/\Sim N W0 XP M0 MM σ' (get t0) (get (H x)) a W:=by
  intro M' Mn σ' W x h1 h2 hA4;have hσ':=hσP h1 hXPp;obtain⟨MM,hMM⟩:∃MM:m5,MM=fun b=>match M' b with|some o=>some o|none=>Mn b:=⟨_,rfl⟩
  have hM1:∀b o,M' b=some o->MM b=some o:=fun b o h=>by rw[hMM];simp only[h]
  have hM3:∀b o,MM b=some o->M' b=some o\/Mn b=some o:=fun b o h=>by
   rw[hMM]at h;cases h3:M' b with
   |some o'=>simp only[h3]at h;exact .inl h
   |none=>simp only[h3]at h;exact .inr h
  have hM2:∀b o,Mn b=some o->MM b=some o:=fun b o h=>by
   cases h3:M' b with
   |some o' =>
    have h4:=h1.imm b o' h3;rw[(hA4 b o h).1]at h4;rw[h4];exact hM1 b o' h3
   |none=>rw[hMM];simp only[h3];exact h
  have hCM:Cln M MM:=⟨fun b o h=>hM1 b o (h2.1 b o h),fun b o h ho=>(hM3 b o h).elim (fun h'=>h2.2 b o h' ho) fun h'=>(hA4 b o h').2.1.elim (fun hc=>by rw[ho]at hc;cases hc) id⟩;have h1M:Sim N W0 XP M0 MM σ' (get t0) (get (H x)) a W:=by
   refine⟨h1.os,h1.tape,h1.output,h1.size,h1.old,fun b o h=>hM1 b o (h1.sub b o h),fun b o h h0=>?_,h1.pin,hnfP _ MM hCM.1 rfl,h1.room,fun i v hv=>D6 hM1 (fun _ _=>rfl) (h1.tmps i v hv),fun b o h=>(hM3 b o h).elim (h1.imm b o) fun h'=>(hA4 b o h').1,fun m b hb=>(h1.blk m b hb).mono hM1 (fun _ _=>rfl) (fun _=>rfl),fun m b hb=>?_,h1.inj⟩
   ·rcases hM3 b o h with h|h
    ·exact h1.new b o h h0
    cases hMb:M b with
    |none=>exact(hA4 b o h).2.2.1 hMb
    |some o'=>exact hs.new b o' hMb h0
   cases hn:(σ' m).nil with
   |true=>exact .inl rfl
   |false =>
    rcases h1.loc m b hb with h|h
    ·rw[hn]at h;cases h
    refine .inr ⟨?_,h.2⟩;cases hc:MM (σ' m).b with
    |none=>rfl
    |some o =>
     rcases hM3 _ o hc with h3|h3
     ·rw[h.1]at h3;cases h3
     refine absurd ?_ (hA4 _ o h3).2.2.2;rcases(hh x m b hb).1 with h4|⟨rfl,h4⟩
     ·exact .inl ⟨m,h4.1,by rw[hσ' m h4.1]⟩
     have:=Y4 h1 (hheld x) hb hn;rw[hσ' q hq]at this;exact .inr this
  exact⟨MM,hM1,hM2,hCM,h1M⟩
 have hgr:∀ {A B:World} {row:Option Nat},A.grownBy B row->(∀r,row=some r->w.heap.size<=r/\∃o:Obj,A.heap[r]? = some o/\o.isCells=false)->w.heap.size<=A.heap.size->∀b,((∃m,A6 pids m=true/\(σ m).b=b)\/LN (σ q).b off B b)->((∃m,A6 pids m=true/\(σ m).b=b)\/LN (σ q).b off A b):=fun {A B row} hg' hr hA b hb=>hb.imp id (hHeldSame (hg'.block _ (lp (hplt q hq) hA) fun e=>by
  have:=(hr _ e.symm).1;have:=hplt q hq;omega) b)
 refine wpIn_wide.2 ((wpIn_wide (n:=2)).1 ?_);refine iZ hgv1 eg hseq KpS.trans (fun W l o o' hl ho hoc=>⟨by simp,fun b o2 hb hb2 _=>?_,fun b hb=>?_⟩) (fun j v W hv=>?hsz)
  SI ?hI ⟨x0,M,σ,hs0,⟨fun _ _ h=>h,fun _ _ h _=>h⟩,hI0,ng,lu _⟩ Ax ?hAx ?assign ?body ?done
 ·rw[World.putObj_heap_other (fun e=>by subst e;rw[ho]at hb;injection hb with hb;subst hb;rw[hoc]at hb2;cases hb2)];exact hb
 ·refine .inl (hOr ((hOi hb).imp (Or.imp id (hHeldSame (World.putObj_heap_other (fun e=>?_)) b)) id));have:=hplt q hq;omega
 case hsz =>
  obtain⟨hj,Mj,hL,_⟩:=hv;rw[hE]at hL;exact hL.symm
 case hI =>
  rintro j A B row ⟨x,M',σ',h1,h2,h3,h4,h5⟩ hg' hr;refine⟨x,M',σ',bF h1 (fun m b hb hbm rr e=>?_) hg' (fun rr e=>?_),h2,h3,h4,ln h5 hg'.size⟩
  ·have h6:=(hr rr e).1;have hmm:A6 pids m=true:=by
    rcases(hh x m b hb).1 with h|h
    ·exact h.1
    cases b<;>first|(exfalso;cases hbm;done)|(exfalso;exact absurd h.2 (by simp[Blk.isR]))|exact absurd hbm (by simp[Blk.isM])
   rw[hσP h1 hXPp m hmm];have:=hplt m hmm;omega
  obtain⟨h6,o,h7,h8⟩:=hr rr e;refine⟨ln hs.size h6,⟨o,h7,h8⟩,?_⟩;cases hM1:M' rr with
  |none=>rfl
  |some o' =>
   have h9:=h1.imm rr o' hM1;rw[h7]at h9;injection h9 with h9;subst h9
   have:=hlt rr _ (h2.2 rr _ hM1 h8);omega
 case hAx =>
  rintro j a' _ A B row ⟨hj,Mn,h1,h2,h3,h4,h5⟩ hg' hr;refine⟨hj,Mn,ln h1 hg'.size,h2,h3,h4,fun b o hb=>?_⟩;obtain⟨h6,h7,h8,h9⟩:=h5 b o hb;refine⟨(hg'.block b (Array.getElem?_eq_some_iff.1 h6).1 fun e=>?_).trans h6,h7,h8,fun h=>h9 (hgr hg' hr h1 b h)⟩;obtain⟨h10,o',h11,h12⟩:=hr b e.symm;rw[h6]at h11;injection h11 with h11;subst h11
  rcases h7 with h7|h7
  ·rw[h12]at h7;cases h7
  have:=hlt b _ h7;omega
 case assign =>
  rintro l j vals W K hjn ⟨x,M'',σ',h1',h2',hinv,hfm,hws⟩ ⟨hj,Mj,_,hMj,hL⟩ hK;obtain⟨M',_,hMjM,h2,h1⟩:=merge h1' h2' (fun b o hb=>⟨(hMj b o hb).1,.inl (hMj b o hb).2.1,fun hMb=>by
   have h3:=(hMj b o hb).2.2;have:¬ b<w.heap.size:=fun h=>h3 (hOr (.inr ⟨h,hMb⟩));have:=hs.size;omega,fun h=>(hMj b o hb).2.2 (hOo h)⟩)
  obtain⟨kx,hkx⟩:∃kx:Fin n,kx=⟨j,hj⟩:=⟨_,rfl⟩;rw[<- hkx]at hL;have hσ':=hσP h1 hXPp;obtain⟨hfs,hft⟩:=gY ps.toList (E kx) vals.toList t0 a.tmps (hT0 M' σ' h2.1 hσ') hs.room ((hL M' h2.1 hMjM).mono fun e _ v hv=>hv σ') (by simpa using (hE kx).symm) hps;have efold:(ps.zip vals).foldl (fun t (p,v)=>t.setIfInBounds p v) a.tmps=(ps.toList.zip vals.toList).foldl (fun t (y:Tmp×Value)=>t.setIfInBounds y.1 y.2) a.tmps:=by
   rw[<- Array.foldl_toList,Array.toList_zip]
  rw[efold];obtain⟨pr,hpr1,hpr2,hpr3⟩:∃pr:List Nat,(∀m,A6 pr m=true->A6 pids m=true\/(m=r/\(∃bb,get (H x) r=some bb)/\(σ' r).nil=false))/\(∀m,A6 pids m=true->A6 pr m=true)/\((∃bb,get (H x) r=some bb)/\(σ' r).nil=false->A6 pr r=true):=by
   by_cases hrow:(∃bb,get (H x) r=some bb)/\(σ' r).nil=false
   ·refine⟨r::pids,fun m h=>?_,fun m h=>?_,fun _=>?_⟩
    ·rcases List.mem_cons.1 (FZ h)with e|e
     ·exact .inr ⟨e,hrow⟩
     exact .inl (hmem m e)
    ·exact J8 (lh _ (FZ h))
    exact J8 (li ..)
   exact⟨pids,fun m h=>.inl h,fun m h=>h,fun h=>absurd h hrow⟩
  obtain⟨XA,hXA⟩:∃XA,XA=Qb fid ⟨(σ q).b,424242,true⟩ (UE pr σ' X):=⟨_,rfl⟩;have hprf:∀m,A6 pr m=true->m≠fid:=fun m h=>(hpr1 m h).elim (fun h=>(hpne m h).1) fun h=>by rw[h.1];exact hrf
  have hXAf:∀m z,XA m=some z->(m=fid/\z=⟨(σ q).b,424242,true⟩)\/(m≠fid/\A6 pr m=true/\z=σ' m):=fun m z hz=>by
   rw[hXA]at hz;unfold Qb at hz;cases hb:Nat.beq m fid with
   |true=>rw[hb]at hz;injection hz with hz;exact .inl ⟨lx hb,hz.symm⟩
   |false =>
    rw[hb]at hz;have hz:UE pr σ' X m=some z:=hz;unfold UE at hz;cases hp:A6 pr m with
    |true=>rw[hp]at hz;injection hz with hz;exact .inr ⟨hprf m hp,rfl,hz.symm⟩
    |false=>rw[hp]at hz;have hz:X m=some z:=hz;rw[hX0]at hz;cases hz
  have hXAp:∀m,A6 pr m=true->XA m=some (σ' m):=fun m h=>by
   rw[hXA];unfold Qb;rw[show Nat.beq m fid=false by rw[Cb];simp[hprf m h]];show UE pr σ' X m=_;unfold UE;rw[h];rfl
  have hflat:Tu XA:=⟨fid,⟨(σ q).b,424242,true⟩,by rw[hXA];unfold Qb;rw[Nat.beq_refl];rfl,rfl,rfl⟩;have hin:=US (fid:=fid) (XB:=XA) (σ2:=upd σ' fid ⟨(σ q).b,424242,true⟩) h1 (a2:={ tmps:=_,defers:=[] }) rfl hfs (fun m z hz=>by
   rcases hXAf m z hz with ⟨rfl,rfl⟩|⟨h3,h4,rfl⟩
   ·exact⟨hfN,BH _ _ _⟩
   ·refine⟨(hpr1 m h4).elim (fun h=>hpN m (FZ h)) fun h=>by rw[h.1];exact hrN,CW _ _ h3⟩) (fun m h=>CW _ _ h) (fun i v hv=>⟨hft i v hv,hEd kx i v hv⟩) (fun m b hb=>by
   obtain⟨h3,h4⟩:=hh x m b hb;rcases h3 with h3|⟨rfl,h3⟩
   ·exact⟨(hpne m h3.1).1,h4,.inr ⟨m,_,hXAp m (hpr2 m h3.1),rfl⟩⟩
   refine⟨hrf,h4,?_⟩;cases hn:(σ' m).nil with
   |true=>exact .inl rfl
   |false=>exact .inr ⟨m,_,hXAp m (hpr3 ⟨⟨b,hb⟩,hn⟩),rfl⟩)
  refine wpIn_mono (hassign l W M' XA kx j x hinv (fun m z hz=>by
   rcases hXAf m z hz with ⟨rfl,rfl⟩|⟨h3,h4,rfl⟩
   ·exact .inl ⟨q,hq,_,hXAp q (hpr2 q hq),by rw[hσ' q hq]⟩
   rcases hpr1 m h4 with h5|⟨rfl,h6,h5⟩
   ·exact .inl ⟨m,h5,_,hXAp m h4,rfl⟩
   exact .inr ⟨rfl,h6,h5⟩) M' _ _ W hin) ?_
  rintro e a' W' ⟨s',M3,σ3,⟨rfl,rfl⟩,hr⟩;have hσ3:∀m,A6 pids m=true->σ3 m=σ m:=fun m hmm=>(hr.pin m _ (hXAp m (hpr2 m hmm))).2.trans (hσ' m hmm);obtain⟨k1,k2,k3,k4⟩:=step h1 h2 hr (y:=x) (fun _ _ h=>h) (fun b hb=>by
   obtain⟨m,z,hz,hzb⟩:=hb;rcases hXAf m z hz with ⟨rfl,rfl⟩|⟨h3,h4,rfl⟩
   ·exact .inl ⟨q,hq,hzb⟩
   rcases hpr1 m h4 with h5|⟨rfl,h5,h6⟩
   ·exact .inl ⟨m,h5,by rw[<- hσ' m h5];exact hzb⟩
   exact .inr ⟨h5,h6,hzb⟩) hσ3
  refine hK a' W' k1 k2 ⟨x,_,σ3,k3,k4,hinv,hfm,ln hws hr.size⟩ ⟨hj,Mw M' M3,ln hws hr.size,hr.room,hr.defers.2 hflat,fun i v hv=>?_,fun b o hb=>⟨hr.imm b o (KE hr.sub hb),?_,fun hMb=>?_,fun ho=>?_⟩⟩
  ·rw[<- hkx]at hv;exact D6 (fun _ _ h=>h) (fun d hd=>(hσ3 d (hmem d (Sj (ht1p kx i v hv) hd))).symm) (eB (TW hr.sub) (hr.tmps i v hv) (ht1 kx i v hv))
  ·cases hc:o.isCells with
   |true=>exact .inl rfl
   |false=>exact .inr (k4.2 b o hb hc)
  ·cases h3:M' b with
   |some o' =>
    refine h1.new b o' h3 ?_;cases h0:M0 b with
    |none=>rfl
    |some o2=>rw[hs.sub b o2 h0]at hMb;cases hMb
   |none=>exact ln h1.size (hr.new b o (KE hr.sub hb) h3)
  have h3:=KE hr.sub hb;rcases ho with ⟨m,hmm,rfl⟩|ho
  ·have:=(hPn hr m hmm).2.2;rw[hσ3 m hmm,h3]at this;cases this
  rw[<- hσ3 q hq]at ho;obtain⟨⟨bk,hbk⟩,hn,rfl⟩:=XC hr (hheld x) ho;rcases hr.loc r bk hbk with h|h
  ·rw[hn]at h;cases h
  rw[h.1]at h3;cases h3
 case body =>
  rintro l j a' W hjn ⟨x,M',σ',h1,h2,hinv,hfm,hws⟩ ⟨hj,Mn,_,hA1,hA2,hA3,hA4⟩;obtain⟨kx,hkx⟩:∃kx:Fin n,kx=⟨j,hj⟩:=⟨_,rfl⟩;rw[<- hkx]at hA3;have hσ':=hσP h1 hXPp;obtain⟨MM,hM1,hM2,hCM,h1M⟩:=merge h1 h2 hA4;obtain⟨fl,hfl1,hfl2,hfl3,hfl4⟩:∃fl:Loc,fl.nil=true/\fl.cap=424242/\(fl.b=(σ q).b\/(((∃bb,get (H x) r=some bb)/\(σ' r).nil=false)/\fl.b=(σ' r).b))/\((∃bb,get (H x) r=some bb)/\(σ' r).nil=false->fl.b=(σ' r).b):=by
   by_cases hrow:(∃bb,get (H x) r=some bb)/\(σ' r).nil=false
   ·exact⟨⟨(σ' r).b,424242,true⟩,rfl,rfl,.inr ⟨hrow,rfl⟩,fun _=>rfl⟩
   exact⟨⟨(σ q).b,424242,true⟩,rfl,rfl,.inl rfl,fun h=>absurd h hrow⟩
  obtain⟨XB,hXB⟩:∃XB,XB=Qb fid fl XP:=⟨_,rfl⟩;have hXBf:∀m z,XB m=some z->(m=fid/\z=fl)\/(m≠fid/\A6 pids m=true/\z=σ m):=fun m z hz=>by
   rw[hXB]at hz;unfold Qb at hz;cases hb:Nat.beq m fid with
   |true=>rw[hb]at hz;injection hz with hz;exact .inl ⟨lx hb,hz.symm⟩
   |false =>
    rw[hb]at hz;have hz:XP m=some z:=hz;rw[hXPd]at hz;obtain⟨h3,h4⟩:=hXPm m z hz;exact .inr ⟨(hpne m h3).1,h3,h4⟩
  have hXBp:∀m,A6 pids m=true->XB m=some (σ m):=fun m h=>by
   rw[hXB];unfold Qb;rw[show Nat.beq m fid=false by rw[Cb];simp[(hpne m h).1]];exact hXPp m h
  have hXBfid:XB fid=some fl:=by rw[hXB];unfold Qb;rw[Nat.beq_refl];rfl
  have hin:=US (fid:=fid) (XB:=XB) (σ2:=upd σ' fid fl) h1M (a2:=a') hA2 hA1 (fun m z hz=>by
   rcases hXBf m z hz with ⟨rfl,rfl⟩|⟨h3,h4,rfl⟩
   ·exact⟨hfN,BH _ _ _⟩
   ·exact⟨hpN m (FZ h4),(CW _ _ h3).trans (hσ' m h4)⟩) (fun m h=>CW _ _ h) (fun i v hv=>⟨D6 hM2 (fun d hd=>hσ' d (hmem d (Sj (ht1p kx i v hv) hd))) (hA3 i v hv),hnof v (ht1p kx i v hv)⟩) (fun m b hb=>by
   obtain⟨h3,h4⟩:=hh x m b hb;rcases h3 with h3|⟨rfl,h3⟩
   ·exact⟨(hpne m h3.1).1,h4,.inr ⟨m,_,hXBp m h3.1,by rw[hσ' m h3.1]⟩⟩
   refine⟨hrf,h4,?_⟩;cases hn:(σ' m).nil with
   |true=>exact .inl rfl
   |false=>exact .inr ⟨fid,fl,hXBfid,hfl4 ⟨⟨b,hb⟩,hn⟩⟩)
  refine wpIn_mono (hbody l W MM XB kx j x (fun m z hz=>J8 ((hXBf m z hz).elim (fun h=>by rw[h.1];exact li ..) fun h=>lh _ (FZ h.2.1))) hjn hinv MM _ a' W hin) ?_;rintro e a2 W' ⟨s',M3,σ3,⟨rfl,y,hy1,hy2,hy3⟩,hr⟩;have hσ3:∀m,A6 pids m=true->σ3 m=σ m:=fun m hmm=>(hr.pin m _ (hXBp m hmm)).2;obtain⟨k1,k2,k3,k4⟩:=step h1M hCM hr hy3 (fun b hb=>by
   obtain⟨m,z,hz,hzb⟩:=hb;rcases hXBf m z hz with ⟨rfl,rfl⟩|⟨h3,h4,rfl⟩
   ·rcases hfl3 with h5|⟨h5,h6⟩
    ·exact .inl ⟨q,hq,by rw[<- h5];exact hzb⟩
    exact .inr ⟨h5.1,h5.2,by rw[<- h6];exact hzb⟩
   exact .inl ⟨m,h4,hzb⟩) hσ3
  exact⟨rfl,k1,k2,y,_,σ3,k3,k4,hy1,hy2 (by rw[hkx]) hfm,ln hws hr.size⟩
 case done =>
  rintro D W hD ⟨x,M',σ',h1,h2,hinv,hfm,hws⟩ hK;refine⟨⟨t0,H x⟩,_,σ',hdone x hinv hfm,qK h1 hK ?_ (ln hs.size hD) (fun d' hd' e=>?_) (fun m x hx=>by rw[hX0]at hx;cases hx) (fun b hb=>?_) (fun⟨m,x,h3,_⟩=>by rw[hX0]at h3;cases h3)⟩
  ·cases h0D:M0 D with
   |none=>rfl
   |some o=>have:=hlt D o (hs.sub D o h0D);omega
  ·obtain⟨D',h3,h4⟩:=iA hs.defers.1 hd';rw[h3]at e;injection e with e1 _
   injection e1 with e1
   subst e1;have:=hlt _ _ h4;omega
  obtain⟨m,hmm,rfl⟩:=(hXPi b).1 hb;obtain⟨bk,hbk,_⟩:=hPb x0 m hmm;rcases hs.loc m bk hbk with h|⟨_,h⟩
  ·rw[(hPn hs m hmm).1]at h;cases h
  exact h
end
end
section
open Go.RowKit
section
variable {P:Program}{N:Nat}{W0:World}{X:m6}{M0:m5}
theorem N2{ι:Type}{Q:Exit->AS->Prop}{g:Operand}{ps:Array Tmp}{assign body:Code}{t0:List (Nat×Tv)}(pids:List Nat)(fid q off r:Nat){gf:FuncId}{k:Nat}{caps:Nat->Cl}{n:Nat}{E:Fin n->List Av}(H:ι->List (Nat×Blk))(t1:Fin n->List (Nat×Tv))(Inv Fm:Nat->ι->Prop)(x0:ι)
 (hX0:∀m,X m=none)(hg:evT (get t0) g=some (.av (.one (.clo gf k caps))))(hcd:(Cl.clo gf k caps).dv=true)(eg:∀args w,(callFunc gf args).run P w=.ok (.enter gf args) w)
 (It:LM P gf k caps n E)(hck:fL N pids fid q r t0 ps=true)(hfam:∀x,famB pids fid q off r (H x)=true)(hE:∀x,(E x).length=ps.size)(hEd:∀x,(E x).all Av.dv=true)(hm:∀x,HsN (H x))
 (ht1:∀x,TsM (t1 x))(ht1p:∀x,(t1 x).all (fun p=>pvT pids p.2)=true)(hI0:Inv 0 x0)(ng:Fm 0 x0)
 (hassign:∀l W1 M1 X1 k j x,Inv j x->PXr pids r (∃bb,get (H x) r=some bb) X1->AWp P (some l) N W1 X1 M1 assign (fun e s'=>e=.normal/\s'=⟨t1 k,H x⟩) ⟨UT t0 ps.toList (E k),H x⟩)
 (hbody:∀l W1 M1 X1 (k:Fin n) j x,(∀m z,X1 m=some z->A6 (fid::pids) m=true)->j<n->Inv j x->AWp P (some l) N W1 X1 M1 body (fun e s'=>e=.normal/\∃y,Inv (j+1) y/\(k.val=j->Fm j x->Fm (j+1) y)/\∀m b,get (H y) m=some b->get s'.h m=some b) ⟨t1 k,H x⟩)
 (hdone:∀x,Inv n x->Fm n x->Q .normal ⟨t0,H x⟩):AWp P none N W0 X M0 (.rangeFunc g ps assign body) Q ⟨t0,H x0⟩:=by
 unfold fL at hck;simp only[me,Bool.not_eq_true']at hck;obtain⟨c1,c2,c3,c4,c5,c6,c7,c8,c9⟩:=hck;have hpv:∀i v,get t0 i=some v->pvT pids v=true:=fun i v hv=>List.all_eq_true.1 c1 (i,v) (DH hv);have hno:∀v:Tv,pvT pids v=true->v.no fid=true:=fun v h=>by
  cases hn:v.no fid with
  |true=>rfl
  |false=>have:=J8 (Sj h hn);rw[c3]at this;cases this
 have hf:∀x,(∀m b,get (H x) m=some b->((A6 pids m=true/\b.isP=true)\/(m=r/\b.isR=true))/\b.no fid=true)/\(∀m,A6 pids m=true->∃b,get (H x) m=some b)/\TH q off r (H x)=true:=fun x=>by
  have h:=hfam x;unfold famB at h;simp only[me]at h;obtain⟨h1,h2,h3⟩:=h;refine⟨fun m b hb=>?_,fun m hmm=>Option.isSome_iff_exists.1 (List.all_eq_true.1 h2 m (FZ hmm)),h3⟩;have:=List.all_eq_true.1 h1 (m,b) (DH hb);simp only[me,mg]at this;exact⟨this.1.imp id fun h=>⟨lx h.1,h.2⟩,this.2⟩
 exact lP pids fid q off r H t1 Inv Fm x0 hX0 hg hcd eg It hE (fun p hp=>mr (List.all_eq_true.1 c9 p hp)) hpv (fun x=>(hf x).1) (fun x=>(hf x).2.1) c3 c4 (fun e=>by rw[e,Nat.beq_refl]at c5;cases c5) (mr c6) (mr c7) (fun m hmm=>mr (List.all_eq_true.1 c2 m hmm)) (fun m hmm=>J8 hmm) c8 (fun x i v hv=>X3 _ _ _ (fun j u hu=>hno u (hpv j u hu)) (hEd x) i v hv) (fun x=>(hf x).2.2) hm ht1 (fun x i v hv=>List.all_eq_true.1 (ht1p x) (i,v) (DH hv)) hI0 ng hassign hbody hdone
end
section
variable {P:Program}{N:Nat}{Ow:World→Nat→Prop}{n0:Nat}{Q:IQ}{s:AS}{J:World→Prop}{al:Bool}{ops:Array Oper}{l:List Oper}{o:Oper}
theorem iY{M:m5}{σ:Nat->Loc}{w:World}{a:Act}{o:Oper}{c:Call}{f:Operand}{ly:Nat}{xs:List Av}{T:Nat->Option Tv}(hT:∀i v,T i=some v->RT M σ v (a.tmps.getD i undef))(ho:o.op=.call c)(hcf:c.callee=.value f)(hf:evT T f=some (.av (.one (.val (.func (.yield ly) #[] #[])))))(hxs:FQ (evT T) c.args.toList=some xs)
 {R:Ending->World->Prop}(hY:∀v:Array Value,L2 (RA M σ) xs v.toList->YieldAt (FW none) 0 P ly v w R){K:Act->World->Prop}{Q:Exit->Act->World->Prop}(hK:∀e w',R e w'->∃V,e=.returned V/\K (a.put o.dst V) w'):o.wpIn (FW none) 0 P a w K Q:=by
 have hargs:=JO (fun x v=>HQ hT) _ _ hxs;obtain⟨fn,tmps,assign,body,hy,hR⟩:=hY (c.args.map a.eval) (by simpa using hargs);refine⟨fun _ _=>trivial,?_⟩;rw[Oper.semAt_eq _ _ _ (fun d h=>by rw[ho]at h;cases h)];have hfv:=(HQ hT hf).1;have hres:(execOp a.eval o).run P w=.ok (.round ly fn tmps assign body) w:=by
  simp only[execOp,ho,Sem.run_bind,resolve,hcf,hfv,Deferred.ofValue];simpa [invoke]using hy
 rw[hres,Oper.uponIn_round];refine⟨fun h=>(by cases h),?_⟩;have h1:RoundIn (FW none) (0-1) P ly fn tmps assign body w R:=hR;refine h1.mono ?_;rintro e w' he;obtain⟨V,rfl,hk⟩:=hK e w' he;exact hk
theorem cU(hO:OwS Ow n0)(hgn:o.guard=none){c:Call}{f:Operand}{ly d:Nat}(xs:List Av)(ho:o.op=.call c)(hcf:c.callee=.value f)
 (hf:evT (get s.t) f=some (.av (.one (.val (.func (.yield ly) #[] #[])))))(hxs:FQ (evT (get s.t)) c.args.toList=some xs)(hv:xs.all Av.dv=true)(hvm:∀x∈xs,AvM x)(hod:o.dst=some d)(hdN:Nat.blt d N=true)(hT1:∀i v,get s.t i=some v->v.dv=true/\TvM v)
 (hJg:∀A B,J A->A.grownBy B none->J B)(Jt:World->Prop)
 (hY:∀W v,J W->co (fun _=>none) Ow xs v W->YieldAt (FW none) 0 P ly v W (fun e W'=>e=.returned (.bool true)/\Jt W'/\KpS Ow W W'))(hh:s.h=[])
 (ht:IWL P N Ow n0 ops l Q ⟨(d,tB true)::s.t,[]⟩ Jt true):IWL P N Ow n0 ops (o::l) Q s J true:=by
 intro W0 M σ a w hJ hs;refine wpListIn_step fun K0 hK' => ?_;rw[if_pos (by simp[Region.wanted,hgn])];have hgrow:W0.grownBy w none:={ os:=hs.os,tape:=hs.tape,output:=hs.output,size:=hs.size,block:=fun b hb _=>hs.old b hb (He b) };have hiok:=hJ.2.2;have hdN':d<N:=by have:=mr hdN;omega
 have hst:∀b,Ow w b->Ow W0 b:=hO.st W0 w (hiok rfl).1 fun b hb=>hs.old b hb (He b);have hput:∀(b:Bool) (T:List (Nat×Tv)) (M':m5) (σ':Nat->Loc),(∀i v,get T i=some v->RT M' σ' v (a.tmps.getD i undef))->∀i v,get ((d,tB b)::T) i=some v->RT M' σ' v ((a.put o.dst (.bool b)).tmps.getD i undef):=fun b T M' σ' hT i v hv=>by
  have hds:d<a.tmps.size:=by rw[hs.room];exact hdN'
  simp only[get,Cb]at hv;rw[hod]
  by_cases hi:d=i
  ·subst hi;simp at hv;subst hv;have:(a.put (some d) (.bool b)).tmps.getD d undef=.bool b:=by simp[Act.put,l6,hds]
   rw[this];exact⟨rfl,rfl⟩
  simp[hi]at hv;have:(a.put (some d) (.bool b)).tmps.getD i undef=a.tmps.getD i undef:=by simp[Act.put,l6,l5,hi]
  rw[this];exact hT i v hv
 have hsize:∀b:Bool,(a.put o.dst (.bool b)).tmps.size=N:=fun b=>by rw[hod];simpa [Act.put]using hs.room
 have hdef:∀b:Bool,(a.put o.dst (.bool b)).defers=[]:=fun b=>by rw[hod];simpa [Act.put]using hJ.2.1
 refine iY hs.tmps ho hcf hf hxs (fun v hL=>hY w v (hJg W0 w hJ.1 hgrow) ⟨XO M,by have:=hL.length;simpa using this,fun b o' hb=>⟨hs.imm b o' (Fj hb).1,(Fj hb).2,fun h=>(hiok rfl).2.2 b o' (Fj hb).1 (hst b h)⟩,fun MM _ hMM=>?_⟩) fun e w2 he=>?_
 ·refine hL.mono fun x hx u hu σ' => ?_;have h1:RA M σ' x u:=IL (r:=.av x) (List.all_eq_true.1 hv x hx) hu;exact RS hMM (fun _ _=>rfl) (Xa N0 h1 (hvm x hx))
 obtain⟨rfl,h5,h6⟩:=he;refine⟨_,rfl,hK' _ _ (ht w2 (XO M) σ _ w2 ⟨h5,hdef true,fun _=>⟨ln (hiok rfl).1 (ln hs.size h6.1),fun b h=>(h6.2.2 b h).elim (fun h7=>lp ((hiok rfl).2.1 b (hst b h7)) (ln hs.size h6.1)) And.right,fun b o' h hw2=>?_⟩⟩ ?_)⟩
 ·rcases h6.2.2 b hw2 with h7|h7
  ·exact(hiok rfl).2.2 b o' (Fj h).1 (hst b h7)
  have:=(Array.getElem?_eq_some_iff.1 (hs.imm b o' (Fj h).1)).1;omega
 exact⟨rfl,rfl,rfl,lu _,fun _ _ _=>rfl,fun _ _ h=>h,fun b o h h'=>(by rw[h]at h';cases h'),fun m x hx=>(by cases hx),⟨by rw[hdef true];trivial,fun _=>hdef true⟩,hsize true,hput true s.t (XO M) σ (fun i v hv=>eB N0 (hs.tmps i v hv) (hT1 i v hv).2),fun b o' h=>h6.2.1 b o' (hs.imm b o' (Fj h).1) (Fj h).2 fun h7=>(hiok rfl).2.2 b o' (Fj h).1 (hst b h7),fun n b hb=>(by cases hb),fun n b hb=>(by cases hb),fun n m b c hb=>(by cases hb)⟩
end
def IEndV(n:Nat)(JJ:Nat->World->Prop):IQ:=fun e s' J' al'=>(e=.ret\/e=.normal)/\J'=JJ n
theorem Yx{P:Program}{gf:FuncId}{fn:Func}{c:Code}(hf:P.funcs[gf]? = some fn)(hb:fn.body=some c)(hnr:fn.results.toList=[]){k:Nat}{caps:Nat->Cl}{n:Nat}{E:Fin n->List Av}(hN:Nat.ble (k+1) fn.ntmps=true)(hcd:∀i,i<k->(caps i).dv=true)
 (h:∀(Ow:World->Nat->Prop) (n0 ly:Nat) (JJ:Nat->World->Prop),OwS Ow n0->(∀j A B,JJ j A->A.grownBy B none->JJ j B) ->
   (∀j (hj:j<n) W v,JJ j W->co (fun _=>none) Ow (E ⟨j,hj⟩) v W->YieldAt (FW none) 0 P ly v W (fun e W'=>e=.returned (.bool true)/\JJ (j+1) W'/\KpS Ow W W')) ->
   IWp P fn.ntmps Ow n0 c (IEndV n JJ) ⟨FP 0 (.one (.val (.func (.yield ly) #[] #[]))::Dc k caps),[]⟩ (JJ 0) true):LM P gf k caps n E:=by
 intro M w cs Ow himm hOs hOw hcs hcaps l J W hB hJ hY h0;have hlt:∀b o,M b=some o->b<w.heap.size:=fun b o hb=>(Array.getElem?_eq_some_iff.1 (himm b o hb)).1;have himmW:∀b o,M b=some o->W.heap[b]? = some o:=fun b o hb=>(hB.block b (hlt b o hb)).trans (himm b o hb);have hst:∀b,Ow W b->Ow w b:=hOs.st w W (lu _) fun b hb=>hB.block b hb;have hbody:=h Ow w.heap.size l J hOs hJ (fun j hj W1 v h1 ⟨Mj,e1,e2,e3⟩=>hY j v W1 hj h1 ⟨hj,Mj,e1,e2,fun MM _ h3=>e3 MM (fun _ _ h=>by cases h) h3⟩);obtain⟨a0,ha0⟩:∃a0:Act,a0={ tmps:=(#[Value.func (.yield l) #[] #[]]++cs)++Array.replicate (fn.ntmps-(#[Value.func (.yield l) #[] #[]]++cs).size) undef,defers:=[] }:=⟨_,rfl⟩;have hs0:Sim fn.ntmps W noX M M (fun _=>⟨0,0,false⟩) (get (FP 0 (.one (.val (.func (.yield l) #[] #[]))::Dc k caps))) (get []) a0 W:=?hs0
 ·have hbod:=hbody W M (fun _=>⟨0,0,false⟩) a0 W ⟨h0,by rw[ha0],fun _=>⟨hB.size,fun b hb=>lp (hOw b (hst b hb)).1 hB.size,fun b o hb ho=>by rw[(hOw b (hst b ho)).2]at hb;cases hb⟩⟩ hs0;rw[ha0]at hbod;refine callsIn_wide.2 (callsIn_wide.1 (callsIn_of_wp_marks (F:=FW none) (n:=0) hf hb trivial (wpIn_mono hbod ?_)));clear hbod hs0;rintro e a' w' ⟨s',J',al',W0',M',σ',⟨he,rfl⟩,⟨hJ',hd,_⟩,hs'⟩;have hgrow:W0'.grownBy w' none:={ os:=hs'.os,tape:=hs'.tape,output:=hs'.output,size:=hs'.size,block:=fun b hb _=>hs'.old b hb (He b) };obtain⟨U,hU,_⟩:=fI (P:=P) (fn:=fn) (r:=.tup []) hs' (by rw[hnr];rfl);have key:LeavesInM (FW none) 0 P fn a'.tmps (fun e W'=>(∃v,e=.returned v)/\J n W') a'.defers .returning w':=by
   rw[hd];exact⟨U,hU,⟨U,rfl⟩,hJ n W0' w' hJ' hgrow⟩
  rcases he with rfl|rfl
  ·exact key
  exact key
 case hs0 =>
  subst ha0;have hsz:(#[Value.func (.yield l) #[] #[]]++cs).size=k+1:=by simp[hcs];omega
  have hNk:=mr hN;refine⟨rfl,rfl,rfl,lu _,fun _ _ _=>rfl,fun _ _ h=>h,fun b o h h'=>(by rw[h]at h';cases h'),fun m x hx=>(by cases hx),KM.nil,?_,fun i v hv=>?_,himmW,fun m b hb=>(by cases hb),fun m b hb=>(by cases hb),fun m m' b c hb=>(by cases hb)⟩
  ·simp only[Array.size_append,Array.size_replicate]at hsz ⊢;omega
  obtain⟨_,x,hx,rfl⟩:=Nu _ _ _ _ hv;rw[Nat.sub_zero]at hx;have hargs:L2 (RA M fun _=>⟨0,0,false⟩) (.one (.val (.func (.yield l) #[] #[]))::Dc k caps) (.func (.yield l) #[] #[]::cs.toList):=by
   refine .cons ⟨rfl,rfl⟩ (L2.of (by simp[Dc,hcs]) fun i x y hx hy=>?_);have hi:i<k:=by have:=(List.getElem?_eq_some_iff.1 hx).1;simpa [Dc]using this
   have:=(Mx (σ:=fun _=>⟨0,0,false⟩) (hcd i hi)).2 (hcaps i hi);simp only[Dc,ld,lc hi,Option.map_some,l7]at hx;subst hx;have hy':cs.getD i undef=y:=by
    simp only[l6];rw[<- Array.getElem?_toList,hy];rfl
   rw[hy']at this;exact this
  obtain⟨u,hu,hRu⟩:=hargs.get i x hx;have:((#[Value.func (.yield l) #[] #[]]++cs)++Array.replicate (fn.ntmps-(#[Value.func (.yield l) #[] #[]]++cs).size) undef).getD i undef=u:=by
   have hu2:(#[Value.func (.yield l) #[] #[]]++cs)[i]? = some u:=by
    rw[<- Array.getElem?_toList];simpa using hu
   have hi:i<(#[Value.func (.yield l) #[] #[]]++cs).size:=(Array.getElem?_eq_some_iff.1 hu2).1;rw[l6,Array.getElem?_append_left hi,hu2];rfl
  show RA M _ x _;rw[this];exact hRu
theorem TF{P:Program}{N:Nat}{Ow:World->Nat->Prop}{n0:Nat}{Q:IQ}{s:AS}{J:World->Prop}{al:Bool}{c:Code}(ts:List Nat)(S:AS)(hS:L6 ts [] s=S)(h:IWp P N Ow n0 c Q S J al):IWp P N Ow n0 c Q s J al:=by
 subst hS;exact fun W0 M σ a w hJ hs=>h W0 M σ a w hJ (Gs hs ts [])
theorem Iu{P:Program}{f:FuncId}{xs:List Av}{sz len:Nat}{F:Nat->Nat->Cl}{ty:TypeId}(h:Fr P f xs (.row sz len F ty) (fun d=>.av (.one (.own d sz len)))):G4 P f xs (.av (.one (.list false sz len F))):=by
 intro M σ w args himm hargs;refine(h M σ w args himm hargs).mono ?_;rintro en w' ⟨U,hU,M',x,hk,hx,hb,hR⟩;refine⟨U,hU,?_⟩;have hV:R M' (fun _=>x) (.own 0 sz len) U:=hR (fun _=>x) 0 rfl;unfold R at hV;cases hn:x.nil with
 |true =>
  rw[hn]at hV;obtain⟨rfl,rfl⟩:len=0/\U=.slice none 0 0:=hV;exact⟨M',hk,fun σ'=>RC.nil _ _ _ rfl⟩
 |false =>
  rw[hn]at hV;have hV:U=.slice (some ⟨x.b,0,none⟩) len x.cap:=hV;subst hV;obtain⟨hx1,hx2⟩:w.heap.size<=x.b/\M' x.b=none:=by
   rcases hx with h0|h0
   ·rw[hn]at h0;cases h0
   exact h0
  rcases hb (fun _=>x)with ⟨h0,_⟩|⟨_,c,hc,h1,h2,h3,g,hg⟩
  ·rw[hn]at h0;cases h0
  have key:∀b o,M' b=some o->b≠x.b:=fun b o ho e=>by rw[e,hx2]at ho;cases ho
  refine⟨fun b=>if b=x.b then some (.cells c ty)else M' b,⟨hk.os,hk.tape,hk.output,hk.size,hk.old,fun b o ho=>?_,fun b o ho h0=>?_,fun b o ho=>?_⟩,fun σ' => ?_⟩
  ·have:=hk.sub b o ho;simp only[if_neg (key b o this)];exact this
  ·by_cases e:b=x.b
   ·rw[e];exact hx1
   simp only[if_neg e]at ho;exact hk.new b o ho h0
  ·by_cases e:b=x.b
   ·simp only[if_pos e,l7]at ho;rw[e,<- ho];exact hc
   simp only[if_neg e]at ho;exact hk.imm b o ho
  show RC _ (.list false sz len F) _;refine .list false sz len F x.b 0 x.cap g (fun i j hi hj=>?_) (fun i j hi hj=>FS (fun b o ho=>?_) (hg i j hi hj).2) h2 (fun h=>by cases h)
  ·simp only[F2,if_pos];rw[mw];exact(hg i j hi hj).1
  simp only[if_neg (key b o ho)];exact ho
theorem Uo{P:Program}{gf:FuncId}{fn:Func}{c:Code}(hf:P.funcs[gf]? = some fn)(hb:fn.body=some c)(hnr:fn.results.toList=[]){k:Nat}{caps:Nat->Cl}{n:Nat}{E:Fin n->List Av}(hE:∀x,(E x).all Av.isV=true)(hE1:∀x,∀e∈E x,∀c∈e.cells,c.toV.oneCell'=true)(hN:Nat.ble (k+1) fn.ntmps=true)(hcd:∀i,i<k->(caps i).dv=true)
 (h:∀(Ow:World->Nat->Prop) (n0 ly:Nat) (JJ Jx:Nat->World->Prop),OwS Ow n0->(∀j A B,JJ j A->A.grownBy B none->JJ j B) ->
   (∀j (hj:j<n) W,JJ j W->YieldAt (FW none) 0 P ly ((E ⟨j,hj⟩).map Av.toV).toArray W (fun e W'=>(e=.returned (.bool true)/\JJ (j+1) W'/\KpS Ow W W')\/(e=.returned (.bool false)/\Jx (j+1) W'))) ->
   IWp P fn.ntmps Ow n0 c (IEnd n JJ Jx) ⟨FP 0 (.one (.val (.func (.yield ly) #[] #[]))::Dc k caps),[]⟩ (JJ 0) true):LM P gf k caps n E :=
 Yx hf hb hnr hN hcd fun Ow n0 ly JJ hO hJ hY=>by
  have h1:=h Ow n0 ly JJ (fun _ _=>False) hO hJ (fun j hj W hW=>by
   obtain⟨fn',tm,as',bd,hy,hR⟩:=hY j hj W ((E ⟨j,hj⟩).map Av.toV).toArray hW ⟨fun _=>none,by simp,(fun b o hb=>by cases hb),fun MM _ _=>by
    have e1:=hE ⟨j,hj⟩;have e2:=hE1 ⟨j,hj⟩;show L2 _ (E ⟨j,hj⟩) ((E ⟨j,hj⟩).map Av.toV);generalize E ⟨j,hj⟩=l at e1 e2 ⊢;induction l with
    |nil=>exact .nil
    |cons e l ih =>
     simp only[List.all_cons,me]at e1;exact .cons (fun σ=>ey e1.1 (e2 e (li ..))) (ih e1.2 fun e he=>e2 e (lh _ he))⟩
   exact⟨fn',tm,as',bd,hy,hR.mono fun e W' he=>.inl he⟩)
  intro W0 M σ a w hJ0 hs;refine wpIn_mono (h1 W0 M σ a w hJ0 hs) ?_;rintro e a' w' ⟨s',J',al',W0',M',σ',⟨he,hend⟩,hJ',hs'⟩;rcases hend with rfl|⟨j,hj,rfl⟩
  ·exact⟨s',_,al',W0',M',σ',⟨he,rfl⟩,hJ',hs'⟩
  exact hJ'.1.elim
theorem cW{P:Program}{gf:FuncId}{t:Bool}{sz len:Nat}{f:Nat->Nat->Cl}{k:Nat}{caps:Nat->Cl}{n:Nat}{E:Fin n->List Av}(E':(Nat->Nat->Value)->Fin n->List Av)(h0:caps 0=wC t sz len f)(hk:0<k)
 (hI:∀g:Nat->Nat->Value,(∀i j,i<len->j<sz->(g i j).oneCell'=true)->LM P gf k (fun i=>match i with|0=>wC t sz len (fun i j=>.val (g i j))|i+1=>caps (i+1)) n (E' g))(hlen:∀g x,(E' g x).length=(E x).length)
 (hE:∀M g x (vs:List Value),(∀i j,i<len->j<sz->RC M (f i j) (g i j))->L2 (fun e v=>∀σ,RA M σ e v) (E' g x) vs->L2 (fun e v=>∀σ,RA M σ e v) (E x) vs):LM P gf k caps n E:=by
 intro M w cs Ow himm hOs hOw hcs hcaps;have h:=hcaps 0 hk;rw[h0]at h;obtain⟨g,h1,h2⟩:=bM h;have h3:=hI g (fun i j hi hj=>wX (h2 i j hi hj)) M w cs Ow himm hOs hOw hcs (fun i hi=>by
  cases i with
  |zero=>exact h1
  |succ i=>exact hcaps _ hi)
 intro l J W hB hJ hY hJ0;exact h3 l J W hB hJ (fun j v A hj hJA ⟨hj',Mj,e1,e2,e3⟩=>hY j v A hj hJA ⟨hj',Mj,(hlen g _).symm.trans e1,e2,fun MM m1 m2=>hE MM g _ _ (fun i j hi hj=>FS m1 (h2 i j hi hj)) (e3 MM m1 m2)⟩) hJ0
theorem cX{P:Program}{gf:FuncId}{k:Nat}{caps caps':Nat->Cl}{n:Nat}{E:Fin n->List Av}(h:∀i,i<k->caps' i=caps i)(H:LM P gf k caps n E):LM P gf k caps' n E :=
 fun M w cs Ow a b c d e=>H M w cs Ow a b c d fun i hi=>by rw[<- h i hi];exact e i hi
theorem tZ{P:Program}{N:Nat}{Ow:World->Nat->Prop}{n0:Nat}{Q:IQ}{s:AS}{J:World->Prop}{al:Bool}(hO:OwS Ow n0){x y z:Code}(hdv:∀i v,get s.t i=some v->v.dv=true)(hh:s.h=[])
 (h:∀W0 X1 M1,(∀k u,X1 k=some u->A6 [N] k=true)->AWp P none N W0 X1 M1 x (ATh (AWp P none N W0 X1 M1 y (fun e s'=>e=.normal/\∃S,(∀W2 M2,Cv N W2 noX M2 s' S)/\IWp P N Ow n0 z Q S J al)) (fun _ _=>False)) s):IWp P N Ow n0 (.seq x (.seq y z)) Q s J al:=by
 intro W0 M σ a w hJ hs;have hX:∀k u,Qd N W0.heap.size k=some u->A6 [N] k=true:=fun k u hk=>by rw[(TP hk).1];exact OU _
 refine wpIn_seq (wpIn_mono (h W0 _ M hX M _ a w (OL hdv hh hJ.2.1 hs)) ?_);rintro e a' w' ⟨s',M',σ',h1,h2⟩;cases e with
 |normal =>
  refine wpIn_seq (wpIn_mono (h1 M' σ' a' w' h2) ?_);rintro e a2 w2 ⟨s2,M2,σ2,⟨rfl,S,h3,h4⟩,h5⟩;have h6:=Md hJ.2.2 hO h5;obtain⟨hd,h7⟩:=Kl h5;obtain⟨M3,σ3,h8⟩:=h3 W0 M2 M2 σ2 a2 w2 h7;exact h4 W0 M3 σ3 a2 w2 ⟨hJ.1,hd,Md h6 hO h8⟩ (Xz h8 hd)
 |_=>exact h1.elim
end
end Go.Proofs.YtheobjkgllmnmaaGreat
