/-
  No statement is proved in this text. It holds a part of what the proof of ItemsPads needs.
-/
import Derived.Test.YtheobjkgllmnmaaGreatItemsPadsQa
namespace Go.Proofs.YtheobjkgllmnmaaGreat
set_option maxRecDepth 100000
set_option linter.unusedVariables false
set_option linter.unusedSimpArgs false
open Go.RowKit
section
open Go.RowKit
def Gb (t:Nat->Option Tv) (ops:Array Oper) (j:Nat) (want:Bool):Option Prop:=match ops[j]? with
 | some o=>match o.dst with
  | some d=>match t d with
   | some (.av (.one (.val (.bool b))))=>some (b=want)
   | some (.grd g (.one (.val (.bool b))))=>some (g/\b=want)
   | _=>none
  | none=>none
 | none=>none
def Ly:List Operand->List Nat
 | []=>[]
 | .tmp i::r=>i::Ly r
 | _::r=>Ly r
def strip:Tv->Tv
 | .grd _ x=>.av x
 | v=>v
def evG (t:Nat->Option Tv) (l:List Nat):Operand->Option Tv
 | .tmp i=>bif l.any (Nat.beq i) then (t i).map strip else t i
 | x=>evT t x
def LJ (t:Nat->Option Tv) (G:Prop):List Nat->List Prop
 | []=>[]
 | i::r=>match t i with
  | some (.grd g _)=>(G->g)::LJ t G r
  | _=>LJ t G r
def HI:Op->List Nat
 | .pick c _ _=>Ly [c]
 | op=>Ly op.operands.toList
def KN (P:Program) (V:Env P) (N:Nat) (ops:Array Oper) (o:Oper) (s:AS):Option (List Prop×AS):=match o.guard with
 | none=>match eff P V o.dst o.op (evT (get s.t)) with
  | some e=>match res (get s.h) e with
   | some (cs,g)=>bif IZ N s o.dst g then some (cs,WE s o.dst g) else none
   | none=>none
  | none=>none
 | some (j,want)=>match Gb (get s.t) ops j want with
  | some G=>match eff P V o.dst o.op (evG (get s.t) (HI o.op)) with
   | some e=>match res (get s.h) e with
    | some (cs,.val (.av v))=>bif IZ N s o.dst (.val (.av v)) then some (LJ (get s.t) G (HI o.op)++cs.map (fun p=>G->p),PG s o.dst (.grd G v)) else none
    | _=>none
   | none=>bif IZ N s o.dst (.val (.av (.one (.val (.bool false))))) then some ([¬ G],PG s o.dst (.grd G (.one (.val (.bool false))))) else none
  | none=>none
def Mh (P:Program) (V:Env P) (N:Nat) (ops:Array Oper):List Oper->AS->Option (List Prop×AS)
 | [],s=>some ([],s)
 | o::l,s=>match KN P V N ops o s with
  | some (cs,s1)=>match Mh P V N ops l s1 with
   | some (ds,s2)=>some (cs++ds,s2)
   | none=>none
  | none=>none
section
variable {P:Program} {V:Env P} {N:Nat} {ops:Array Oper} {W0:World} {X:Nat→Option Loc} {M0 M:Nat→Option Obj} {σ:Nat→Loc} {w:World} {a:Act}
theorem WG {h:Nat->Option Blk}:∀ {ns:List Nat} {bs:List Blk},H8 h ns=some bs->∀ n∈ns,(h n).isSome
 | [],_,_,n,hn=>by cases hn
 | k::r,bs,hg,n,hn=>by
  simp only [H8] at hg
  split at hg
  ·rename_i b0 bs0 h1 h2
   rcases List.mem_cons.1 hn with rfl | hn
   ·rw [h1];rfl
   exact WG h2 n hn
  cases hg
theorem Tu {h:Nat->Option Blk} {e:Ef} {cs:List Prop} {n:Nat} {v:Tv} {b:Blk} (hr:res h e=some (cs,.wr n v b)):(h n).isSome:=by
 cases e <;> simp only [res] at hr
 case wr =>
  split at hr
  ·rename_i b0 bs h1 h2
   split at hr
   ·simp only [Option.some.injEq,Prod.mk.injEq,Eg.wr.injEq] at hr
    obtain ⟨_,rfl,_,_⟩:=hr
    rw [h1];rfl
   cases hr
  cases hr
 all_goals ((repeat' split at hr) <;> simp at hr)
theorem PO {h:Nat->Option Blk} {e:Ef} {cs:List Prop} {l:List (Nat×Blk)} {v:Tv} (hr:res h e=some (cs,.wrs l v)):∀ n b,get l n=some b->(h n).isSome:=by
 cases e <;> simp only [res] at hr
 case wrs =>
  split at hr
  ·rename_i b0 bs h1 h2
   split at hr
   ·rename_i cs1 v1 b1 _
    cases hl:Nat.beq _ b1.length with
    | false=>rw [hl] at hr;cases hr
    | true =>
     rw [hl] at hr
     simp only [Option.some.injEq,Prod.mk.injEq,Eg.wrs.injEq] at hr
     obtain ⟨_,rfl,_⟩:=hr
     intro n b hg
     exact WG h1 n (List.of_mem_zip (C6 hg)).1
   cases hr
  cases hr
 all_goals ((repeat' split at hr) <;> simp at hr)
theorem Tw {h:Nat->Option Blk} {e:Ef} {cs:List Prop} {n q:Nat} {v:Tv} {b bq:Blk} (hr:res h e=some (cs,.wq n q v b bq)):(h n).isSome/\h q=some bq/\n≠q:=by
 cases e <;> simp only [res] at hr
 case wq =>
  split at hr
  ·rename_i b0 b1 h1 h2
   split at hr
   ·split at hr
    ·cases hr
    rename_i hne
    simp only [Option.some.injEq,Prod.mk.injEq,Eg.wq.injEq] at hr
    obtain ⟨_,rfl,rfl,_,_,rfl⟩:=hr
    exact ⟨by rw [h1];rfl,h2,fun e=>by rw [e,Nat.beq_refl] at hne;cases hne⟩
   cases hr
  cases hr
 all_goals ((repeat' split at hr) <;> simp at hr)
theorem PP {h:Nat->Option Blk} {e:Ef} {cs:List Prop} {n:Nat} {v:Nat->Tv} {b:Blk} (hr:res h e=some (cs,.app n b v)):(h n).isSome:=by
 cases e <;> simp only [res] at hr
 case app =>
  split at hr
  ·rename_i b0 h1
   split at hr
   ·simp only [Option.some.injEq,Prod.mk.injEq,Eg.app.injEq] at hr
    obtain ⟨_,rfl,_,_⟩:=hr
    rw [h1];rfl
   cases hr
  cases hr
 all_goals ((repeat' split at hr) <;> simp at hr)
theorem UY {T:Nat->Option Tv} {H:Nat->Option Blk} {dst:Option Nat} {g:Eg} (h:sN N T H dst g):rT dst g:=by
 cases g with
 | val=>trivial
 | wr=>trivial
 | wrs=>trivial
 | wq=>trivial
 | new b v=>obtain ⟨_,d,hd,_,hn⟩:=h;exact ⟨d,hd,hn⟩
 | app n b v=>obtain ⟨_,d,hd,_⟩:=h;exact ⟨d,hd⟩
theorem Ea {t:Nat->Option Tv} (ht:∀ i v,t i=some v->RT M σ v (a.tmps.getD i undef)) (hroom:a.tmps.size=N) {o:Oper} {j:Nat} {want:Bool} {G:Prop} (hg:o.guard=some (j,want)) (hG:Gb t ops j want=some G):Region.wanted o (yielded ops a.tmps)=true↔G:=by
 unfold Gb at hG
 split at hG
 ·rename_i oj hj
  split at hG
  ·rename_i d hd
   have hy:yielded ops a.tmps j=match a.tmps[d]? with | some (.bool b)=>some b | _=>none:=by
    simp only [yielded,hj,Option.bind_some,hd]
    rfl
   unfold Region.wanted
   rw [hg]
   simp only [hy]
   split at hG
   ·rename_i b hb
    injection hG with hG
    subst hG
    have hv:a.tmps.getD d undef=.bool b:=(ht d _ hb).1
    have:a.tmps[d]? = some (.bool b):=by
     rw [Array.getD_eq_getD_getElem?] at hv
     cases hq:a.tmps[d]? with
     | none=>rw [hq] at hv;cases hv
     | some y=>rw [hq] at hv;simp only [Option.getD_some] at hv;rw [hv]
    rw [this]
    simp
   ·rename_i g b hb
    injection hG with hG
    subst hG
    have hR:=ht d _ hb
    by_cases hgp:g
    ·have hv:a.tmps.getD d undef=.bool b:=(hR.1 hgp).1
     have:a.tmps[d]? = some (.bool b):=by
      rw [Array.getD_eq_getD_getElem?] at hv
      cases hq:a.tmps[d]? with
      | none=>rw [hq] at hv;cases hv
      | some y=>rw [hq] at hv;simp only [Option.getD_some] at hv;rw [hv]
     rw [this]
     simp [hgp]
    have hv:a.tmps.getD d undef=undef:=hR.2 hgp
    have:∀ b,a.tmps[d]? ≠ some (.bool b):=fun b hb=>by
     rw [Array.getD_eq_getD_getElem?,hb] at hv
     simp only [Option.getD_some] at hv
     cases hv
    simp only [hgp,false_and,iff_false,Bool.not_eq_true]
    cases hq:a.tmps[d]? with
    | none=>rfl
    | some y =>
     cases y <;> first | rfl | exact absurd hq (this _)
   cases hG
  cases hG
 cases hG
theorem Qn {t:Nat->Option Tv} {G:Prop} (hG:G):∀ {l:List Nat},Bi (LJ t G l)->∀ i∈l,∀ g y,t i=some (.grd g y)->g
 | x::r,hc,z,hz,g,y,hy=>by
  unfold LJ at hc
  cases hz with
  | head =>
   rw [hy] at hc
   exact hc.head hG
  | tail _ hm =>
   split at hc
   ·exact Qn hG hc.tail z hm g y hy
   exact Qn hG hc z hm g y hy
theorem Yg {t:Nat->Option Tv} {l:List Nat} {G:Prop} (hG:G) (hc:Bi (LJ t G l)) (ht:∀ i v,t i=some v->RT M σ v (a.tmps.getD i undef)) {x:Operand} {v:Tv} (hv:evG t l x=some v):RT M σ v (a.eval x):=by
 cases x with
 | tmp i =>
  simp only [evG] at hv
  cases hm:l.any (Nat.beq i) with
  | false=>rw [hm] at hv;exact ht i v hv
  | true =>
   rw [hm] at hv
   simp only [cond_true] at hv
   obtain ⟨u,hu,rfl⟩:=Option.map_eq_some_iff.1 hv
   have hR:=ht i u hu
   obtain ⟨k,hk,hik⟩:=List.any_eq_true.1 hm
   have:=Nat.eq_of_beq_eq_true hik
   subst this
   cases u with
   | av x=>exact hR
   | tup x=>exact hR
   | grd g y=>exact hR.1 (Qn hG hc i hk g y hu)
 | const c=>exact Fq ht (x:=.const c) hv
 | global g=>exact Fq ht (x:=.global g) hv
 | func f=>exact Fq ht (x:=.func f) hv
theorem JG {ev ev':Operand->Option Tv}:∀ (l:List (Nat×Operand)),(∀ p∈l,ev p.2=ev' p.2)->JH ev l=JH ev' l
 | [],_=>rfl
 | (i,x)::r,h=>by
  simp only [JH]
  rw [h (i,x) (by simp),JG r fun p hp=>h p (by simp [hp])]
theorem Kb {ev ev':Operand->Option Tv}:∀ (l:List Operand),(∀ x∈l,ev x=ev' x)->EB ev l=EB ev' l
 | [],_=>rfl
 | x::r,h=>by
  simp only [EB]
  rw [h x (by simp),Kb r fun p hp=>h p (by simp [hp])]
theorem Se {dst:Option Nat} {op:Op} {ev ev':Operand->Option Tv} (h:∀ x∈op.operands.toList,ev x=ev' x):eff P V dst op ev=eff P V dst op ev':=by
 cases op <;> simp only [eff,Hk] <;> simp only [Op.operands] at h
 case move x=>rw [h x (by simp)]
 case assign x=>rw [h x (by simp)]
 case pick c a b=>rw [h c (by simp),h a (by simp),h b (by simp)]
 case box T x=>rw [h x (by simp)]
 case build T ps=>unfold NB;rw [JG _ fun p hp=>h p.2 (by simp;exact ⟨p.1,by simpa using hp⟩)]
 case buildSlice T n ps=>unfold F8;rw [JG _ fun p hp=>h p.2 (by simp;exact ⟨p.1,by simpa using hp⟩)]
 case load T x=>rw [h x (by simp)]
 case store T x y=>rw [h x (by simp),h y (by simp)]
 case fieldAddr T x k=>rw [h x (by simp)]
 case field T x k=>rw [h x (by simp)]
 case indexAddr T x y=>rw [h x (by simp),h y (by simp)]
 case binOp b T x y yT=>rw [h x (by simp),h y (by simp)]
 case unOp b T x=>rw [h x (by simp)]
 case convert a b x=>rw [h x (by simp)]
 case extract x i=>rw [h x (by simp)]
 case nilCheck x=>rw [h x (by simp)]
 case makeFunc fn first captured =>
  cases fn <;> simp only [eff,Hk]
  rw [Kb _ fun x hx=>h x (by simp at hx ⊢;exact .inr hx)]
 case index T x y=>rw [h x (by simp),h y (by simp)]
 case makeSlice T x y=>rw [h x (by simp),h y (by simp)]
 case lookup T x k ok=>rw [h x (by simp),h k (by simp)]
 case makeMap T r=>cases r <;> rfl
 case mapUpdate T m k x=>rw [h m (by simp),h k (by simp),h x (by simp)]
 case slice T x lo hi mx =>
  cases mx <;> simp only [eff,Hk]
  rw [h x (by simp)]
  have e1:lo.map ev=lo.map ev':=by
   cases lo with
   | none=>rfl
   | some y=>simp only [Option.map_some];rw [h y (by simp)]
  have e2:hi.map ev=hi.map ev':=by
   cases hi with
   | none=>rfl
   | some y=>simp only [Option.map_some];rw [h y (by simp)]
  rw [e1,e2]
 case call c =>
  have ha:EB ev c.args.toList=EB ev' c.args.toList:=Kb _ fun x hx=>h x (by simp [Call.operands];exact .inr (by simpa using hx))
  rw [ha]
  cases hc:c.callee with
  | value f =>
   have hf:=h f (by simp [Call.operands,hc])
   cases EB ev' c.args.toList with
   | none=>rfl
   | some xs=>simp only [hf]
  | _=>cases EB ev' c.args.toList <;> rfl
def SX:Ef->List Nat
 | .rd ns _=>ns
 | .wr n ns _=>n::ns
 | .wrs ns rs _=>ns++rs
 | .wq n q _=>[n,q]
 | .app n _=>[n]
 | _=>[]
theorem HO {h h':Nat->Option Blk}:∀ (l:List Nat),(∀ n∈l,h n=h' n)->H8 h l=H8 h' l
 | [],_=>rfl
 | n::r,k=>by
  simp only [H8]
  rw [k n (by simp),HO r fun m hm=>k m (by simp [hm])]
theorem R2 {h h':Nat->Option Blk} {e:Ef} (k:∀ n∈SX e,h n=h' n):res h e=res h' e:=by
 cases e <;> simp only [res] <;> simp only [SX] at k
 case rd ns q=>rw [HO ns k]
 case wr n ns q=>rw [k n (by simp),HO ns fun m hm=>k m (by simp [hm])]
 case wq n q _=>rw [k n (by simp),k q (by simp)]
 case wrs ns rs q=>rw [HO ns fun m hm=>k m (by simp [hm]),HO rs fun m hm=>k m (by simp [hm])]
 case app n q=>rw [k n (by simp)]
theorem M9 {t t':Nat->Option Tv} {ops:Array Oper} {j:Nat} {want:Bool} (h:∀ d,(ops[j]?).bind (·.dst)=some d->t d=t' d):Gb t ops j want=Gb t' ops j want:=by
 unfold Gb
 cases ho:ops[j]? with
 | none=>rfl
 | some o =>
  simp only
  cases hd:o.dst with
  | none=>rfl
  | some d=>simp only;rw [h d (by simp [ho,hd])]
theorem L5:∀ {l:List Operand} {i:Nat},i∈Ly l↔.tmp i∈l
 | [],i=>by simp [Ly]
 | x::r,i=>by
  have:=L5 (l:=r) (i:=i)
  cases x <;> simp [Ly,this]
theorem YP {op:Op} {i:Nat} (h:i∈HI op) : .tmp i∈op.operands.toList:=by
 unfold HI at h
 split at h
 ·rw [L5] at h
  simp only [List.mem_singleton] at h
  simp [Op.operands,h]
 exact L5.1 h
theorem Oo {t t':Nat->Option Tv} {G:Prop}:∀ (l:List Nat),(∀ i∈l,t i=t' i)->LJ t G l=LJ t' G l
 | [],_=>rfl
 | i::r,h=>by
  unfold LJ
  rw [h i (by simp),Oo r fun k hk=>h k (by simp [hk])]
def KV (P:Program) (V:Env P) (ops:Array Oper) (o:Oper) (s:AS):List Nat:=match o.guard with
 | none=>match eff P V o.dst o.op (evT (get s.t)) with
  | some e=>SX e
  | none=>[]
 | some _=>match eff P V o.dst o.op (evG (get s.t) (HI o.op)) with
  | some e=>SX e
  | none=>[]
def Dv (P:Program) (V:Env P) (o:Oper) (s:AS):List Nat:=match o.guard with
 | none=>match eff P V o.dst o.op (evT (get s.t)) with
  | some (.wr n _ _)=>[n]
  | some (.wrs ns _ _)=>ns
  | some (.wq n _ _)=>[n]
  | some (.new _ _ _)=>o.dst.toList
  | some (.app n _)=>n::o.dst.toList
  | _=>[]
 | some _=>[]
def IY (P:Program) (V:Env P) (o:Oper) (s:AS):Bool:=match o.guard with
 | none=>match eff P V o.dst o.op (evT (get s.t)) with
  | some (.new _ _ _)=>true
  | some (.app _ _)=>true
  | _=>false
 | some _=>false
theorem KR {ops:Array Oper} {o:Oper} {i:Nat} (h:Operand.tmp i∈o.op.operands.toList):i∈o.looksAt ops:=by
 unfold Oper.looksAt
 exact List.mem_append_left _ (List.mem_filterMap.2 ⟨.tmp i,h,rfl⟩)
theorem LK {ops:Array Oper} {o:Oper} {j:Nat} {want:Bool} (hg:o.guard=some (j,want)) {d:Nat} (hd:(ops[j]?).bind (·.dst)=some d):d∈o.looksAt ops:=by
 unfold Oper.looksAt
 rw [hg]
 exact List.mem_append_right _ (by simp [hd])
def PE (dst:Option Nat):Eg->List Nat
 | .val _=>[]
 | .wr n _ _=>[n]
 | .wrs l _=>l.map (·.1)
 | .wq n _ _ _ _=>[n]
 | .new _ _=>dst.toList
 | .app n _ _=>n::dst.toList
theorem SW {h:Nat->Option Blk} {o:Oper} {s:AS} {e:Ef} {cs:List Prop} {g:Eg} (hg:o.guard=none) (he:eff P V o.dst o.op (evT (get s.t))=some e) (hr:res h e=some (cs,g)):Dv P V o s=PE o.dst g:=by
 unfold Dv
 split
 ·rw [he]
  cases e <;> simp only [res] at hr
  case val=>simp only [Option.some.injEq,Prod.mk.injEq] at hr;obtain ⟨_,rfl⟩:=hr;rfl
  case rd =>
   split at hr
   ·split at hr
    ·simp only [Option.some.injEq,Prod.mk.injEq] at hr;obtain ⟨_,rfl⟩:=hr;rfl
    cases hr
   cases hr
  case wr =>
   split at hr
   ·split at hr
    ·simp only [Option.some.injEq,Prod.mk.injEq] at hr;obtain ⟨_,rfl⟩:=hr;rfl
    cases hr
   cases hr
  case wq =>
   split at hr
   ·split at hr
    ·split at hr
     ·cases hr
     simp only [Option.some.injEq,Prod.mk.injEq] at hr;obtain ⟨_,rfl⟩:=hr;rfl
    cases hr
   cases hr
  case wrs ns rs k =>
   split at hr
   ·split at hr
    ·rename_i cs1 v1 b1 _
     cases hl:Nat.beq ns.length b1.length with
     | false=>rw [hl] at hr;cases hr
     | true =>
      rw [hl] at hr
      simp only [Option.some.injEq,Prod.mk.injEq] at hr
      obtain ⟨_,rfl⟩:=hr
      have:=Nat.eq_of_beq_eq_true hl
      simp only [PE]
      rw [List.map_fst_zip (by omega)]
    cases hr
   cases hr
  case new=>simp only [Option.some.injEq,Prod.mk.injEq] at hr;obtain ⟨_,rfl⟩:=hr;rfl
  case app =>
   split at hr
   ·split at hr
    ·simp only [Option.some.injEq,Prod.mk.injEq] at hr;obtain ⟨_,rfl⟩:=hr;rfl
    cases hr
   cases hr
 rename_i hg';rw [hg] at hg';cases hg'
theorem SP {N:Nat} {s:AS} {dst:Option Nat} {g:Eg} (hok:IZ N s dst g=true) (H:Nat->Option Blk):(fun n=>if n∈PE dst g then get (WE s dst g).h n else H n)=goH H dst g:=by
 funext n
 rw [(FP s dst g).2]
 cases g with
 | val v=>simp [goH,PE]
 | wr m v b =>
  simp only [goH,C4,List.mem_singleton,PE]
  by_cases h:m=n
  ·simp [h]
  simp [h,Ne.symm h]
 | wq m q v b bq =>
  simp only [goH,C4,List.mem_singleton,PE]
  by_cases h:m=n
  ·simp [h]
  simp [h,Ne.symm h]
 | wrs l v =>
  have hwo:PE dst (.wrs l v)=l.map (·.1):=rfl
  simp only [goH]
  by_cases hn:n∈PE dst (.wrs l v)
  ·rw [if_pos hn]
   rw [hwo] at hn
   cases hg:get l n with
   | none =>
    exfalso
    obtain ⟨⟨k,b⟩,hm,rfl⟩:=List.mem_map.1 hn
    clear hn hok hwo
    induction l with
    | nil=>cases hm
    | cons p r ih =>
     obtain ⟨k',b'⟩:=p
     simp only [get,CS] at hg
     by_cases e:k'=k
     ·simp [e] at hg
     simp only [e,decide_false,cond_false] at hg
     rcases List.mem_cons.1 hm with hm | hm
     ·injection hm with h1 _;exact e h1.symm
     exact ih hm hg
   | some b=>simp only [orL,hg]
  rw [if_neg hn]
  rw [hwo] at hn
  cases hg:get l n with
  | none=>simp only [orL,hg]
  | some b=>exact absurd (List.mem_map.2 ⟨_,C6 hg,rfl⟩) hn
 | new b v =>
  cases dst with
  | none=>simp [goH,PE]
  | some d =>
   simp only [goH,C4,Option.toList_some,List.mem_singleton,PE]
   by_cases h:d=n
   ·simp [h]
   simp [h,Ne.symm h]
 | app m b v =>
  cases dst with
  | none=>cases hok
  | some d =>
   simp only [goH,C4,Option.toList_some,List.mem_cons,List.not_mem_nil,or_false,PE]
   by_cases h1:d=n
   ·simp [h1]
   by_cases h2:m=n
   ·simp [h2]
   simp [h1,h2,Ne.symm h1,Ne.symm h2]
theorem Ko {s:AS} {dst:Option Nat} {g:Eg} (T:Nat->Option Tv):(fun i=>if dst=some i then get (WE s dst g).t i else T i)=goT T dst g:=by
 funext i
 rw [(FP s dst g).1]
 cases g <;> cases dst <;> simp only [goT,Ri,C4,Option.some.injEq,reduceCtorEq,if_false] <;> split <;> simp_all
theorem QP {rd:Option Nat} (hV:Jv P V) {o:Oper} {s s1:AS} {cs:List Prop} (hst:KN P V N ops o s=some (cs,s1)) (hc:Bi cs) {T:Nat->Option Tv} {H:Nat->Option Blk} (hs:Sim N W0 X M0 M σ T H a w) (hT:∀ i∈o.looksAt ops,T i=get s.t i) (hH:∀ n∈KV P V ops o s,H n=get s.h n)
  (hfr:IY P V o s=true->∀ d,o.dst=some d->RS T H d) {K:Act->World->Prop} {Q:Exit->Act->World->Prop} (hK:∀ M' σ' a' w',Sim N W0 X M0 M' σ' (fun i=>if o.dst=some i then get s1.t i else T i) (fun n=>if n∈Dv P V o s then get s1.h n else H n) a' w'->K a' w') :
  if Region.wanted o (yielded ops a.tmps) then o.wpIn (FW rd) 0 P a w K Q else (∀ f,o.about P w a.eval=some f->(FW rd).fn f)/\K (a.put o.dst undef) w:=by
 unfold KN at hst
 split at hst
 ·rename_i hg
  rw [if_pos (by simp [Region.wanted,hg])]
  split at hst
  ·rename_i e he
   split at hst
   ·rename_i cs' g hr
    cases hok:IZ N s o.dst g with
    | false=>rw [hok] at hst;cases hst
    | true =>
     rw [hok] at hst
     simp only [cond_true,Option.some.injEq,Prod.mk.injEq] at hst
     obtain ⟨rfl,rfl⟩:=hst
     have hev:∀ x∈o.op.operands.toList,evT T x=evT (get s.t) x:=fun x hx=>by
      cases x with
      | tmp i=>exact hT i (KR hx)
      | _=>rfl
     have he':eff P V o.dst o.op (evT T)=some e:=by rw [Se hev];exact he
     have hfoot:KV P V ops o s=SX e:=by unfold KV;rw [hg,he]
     have hr':res H e=some (cs',g):=by rw [R2 (h':=get s.h) fun n hn=>hH n (by rw [hfoot];exact hn)];exact hr
     have hgo0:=Kq hok (fun n v b hg=>by subst hg;exact Tu hr) (fun l v hg=>by subst hg;exact PO hr) (fun n q v b bq hg=>by subst hg;exact Tw hr) (fun n b v hg=>by subst hg;exact PP hr)
     have hkind:(∃ b v,g=.new b v)\/(∃ n b v,g=.app n b v)->IY P V o s=true:=fun hk=>by
      unfold IY
      rw [hg,he]
      cases e <;> simp only [res] at hr <;> first
       | rfl
       | (exfalso;rcases hk with ⟨b,v,rfl⟩ | ⟨n,b,v,rfl⟩ <;> (repeat' split at hr) <;> simp at hr)
     have hgo:sN N T H o.dst g:=by
      refine ⟨hgo0.1,?_⟩
      cases g with
      | val v=>trivial
      | wr n v b=>exact Tu hr'
      | wrs l v=>exact PO hr'
      | wq n q v b bq=>exact Tw hr'
      | new b v =>
       obtain ⟨_,d,hd,hf,hn⟩:=hgo0
       exact ⟨d,hd,hfr (hkind (.inl ⟨_,_,rfl⟩)) d hd,hn⟩
      | app n b v =>
       obtain ⟨_,d,hd,hf,hn,_⟩:=hgo0
       exact ⟨d,hd,hfr (hkind (.inr ⟨_,_,_,rfl⟩)) d hd,hn,PP hr'⟩
     refine (Ue hV (fun x v hv=>Fq hs.tmps hv) he' hs.std hr' hc (UY hgo)).wp ?_ (fun c hc=>by rw [hc] at he';cases he')
     rintro U w' ⟨M',σ',ho⟩
     have hsim:=OA hs ho hgo
     refine hK M' σ' _ _ ?_
     rw [SW hg he hr,Ko,SP hok]
     exact hsim
   cases hst
  cases hst
 rename_i j want hg
 split at hst
 ·rename_i G hG
  split at hst
  ·rename_i e he
   split at hst
   ·rename_i cs' v hr
    cases hok:IZ N s o.dst (.val (.av v)) with
    | false=>rw [hok] at hst;cases hst
    | true =>
     rw [hok] at hst
     simp only [cond_true,Option.some.injEq,Prod.mk.injEq] at hst
     obtain ⟨rfl,rfl⟩:=hst
     obtain ⟨hc1,hc2⟩:=hc.append
     have htm:∀ i∈HI o.op,T i=get s.t i:=fun i hi=>hT i (KR (YP hi))
     have hG':Gb T ops j want=some G:=by rw [M9 fun d hd=>hT d (LK hg hd)];exact hG
     have hw:=Ea hs.tmps hs.room hg hG'
     have hev:∀ x∈o.op.operands.toList,evG T (HI o.op) x=evG (get s.t) (HI o.op) x:=fun x hx=>by
      cases x with
      | tmp i=>simp only [evG];rw [hT i (KR hx)]
      | _=>rfl
     have he':eff P V o.dst o.op (evG T (HI o.op))=some e:=by rw [Se hev];exact he
     have hfoot:KV P V ops o s=SX e:=by unfold KV;rw [hg];simp only [he]
     have hr':res H e=some (cs',.val (.av v)):=by rw [R2 (h':=get s.h) fun n hn=>hH n (by rw [hfoot];exact hn)];exact hr
     rw [<- Oo (t:=T) _ htm] at hc1
     have hgo0:=Kq hok (fun n v b hg=>by cases hg) (fun l v hg=>by cases hg) (fun n q v b bq hg=>by cases hg) (fun n b v hg=>by cases hg)
     have fin:∀ (U:Value) (w':World) (M':Nat->Option Obj) (σ':Nat->Loc),sL M σ w o.dst U w' M' σ' (.val (.grd G v))->K (a.put o.dst U) w':=fun U w' M' σ' ho=>by
      have hsim:=OA hs (g:=.val (.grd G v)) ho ⟨hgo0.1,trivial⟩
      refine hK M' σ' _ _ ?_
      have e1:(fun i=>if o.dst=some i then get (PG s o.dst (.grd G v)).t i else T i)=goT T o.dst (.val (.grd G v)):=Ko (s:=s) (g:=.val (.grd G v)) T
      have e2:(fun n=>if n∈Dv P V o s then get (PG s o.dst (.grd G v)).h n else H n)=H:=by
       funext n
       unfold Dv
       rw [hg]
       simp
      rw [e1,e2]
      exact hsim
     by_cases hGp:G
     ·rw [if_pos (hw.2 hGp)]
      have hcs:Bi cs':=by
       have:∀ l:List Prop,Bi (l.map fun p=>G->p)->Bi l:=fun l=>by
        induction l with
        | nil=>intro _;exact .nil
        | cons p l ih=>intro h;exact .cons (h.head hGp) (ih h.tail)
       exact this _ hc2
      have:=Ue hV (o:=o) (a:=a) (fun x v hv=>Yg hGp hc1 hs.tmps hv) he' hs.std hr' hcs trivial
      refine this.wp ?_ (fun c hc=>by rw [hc] at he';cases he')
      rintro U w' ⟨M',σ',ho⟩
      obtain ⟨k,hσ,hR⟩:=ho
      exact fin U w' M' σ' ⟨k,hσ,fun _=>hR,fun h=>absurd hGp h⟩
     rw [if_neg (fun h=>hGp (hw.1 h))]
     refine ⟨fun _ _=>trivial,?_⟩
     exact fin undef w M σ ⟨Gg.refl hs.imm _,rfl,fun h=>absurd h hGp,fun _=>rfl⟩
   cases hst
  cases hok:IZ N s o.dst (.val (.av (.one (.val (.bool false))))) with
  | false=>rw [hok] at hst;cases hst
  | true =>
   rw [hok] at hst
   simp only [cond_true,Option.some.injEq,Prod.mk.injEq] at hst
   obtain ⟨rfl,rfl⟩:=hst
   have hGp:¬ G:=hc.head
   have hG':Gb T ops j want=some G:=by rw [M9 fun d hd=>hT d (LK hg hd)];exact hG
   have hw:=Ea hs.tmps hs.room hg hG'
   rw [if_neg (fun h=>hGp (hw.1 h))]
   refine ⟨fun _ _=>trivial,?_⟩
   have hgo0:=Kq hok (fun n v b hg=>by cases hg) (fun l v hg=>by cases hg) (fun n q v b bq hg=>by cases hg) (fun n b v hg=>by cases hg)
   have hsim:=OA hs (g:=.val (.grd G (.one (.val (.bool false))))) (V:=undef) (w':=w) (M':=M) (σ':=σ) ⟨Gg.refl hs.imm _,rfl,fun h=>absurd h hGp,fun _=>rfl⟩ ⟨hgo0.1,trivial⟩
   refine hK M σ _ _ ?_
   have e1:(fun i=>if o.dst=some i then get (PG s o.dst (.grd G (.one (.val (.bool false))))).t i else T i)=goT T o.dst (.val (.grd G (.one (.val (.bool false))))):=Ko (s:=s) (g:=.val (.grd G (.one (.val (.bool false))))) T
   have e2:(fun n=>if n∈Dv P V o s then get (PG s o.dst (.grd G (.one (.val (.bool false))))).h n else H n)=H:=by
    funext n
    unfold Dv
    rw [hg]
    simp
   rw [e1,e2]
   exact hsim
 cases hst
theorem QO {o:Oper} {s s1:AS} {cs:List Prop} (hst:KN P V N ops o s=some (cs,s1)):∃ g,IZ N s o.dst g=true/\s1=WE s o.dst g/\Dv P V o s=PE o.dst g/\(IY P V o s=true->(∃ b v,g=.new b v)\/∃ n b v,g=.app n b v):=by
 unfold KN at hst
 split at hst
 ·rename_i hg
  split at hst
  ·rename_i e he
   split at hst
   ·rename_i cs' g hr
    cases hok:IZ N s o.dst g with
    | false=>rw [hok] at hst;cases hst
    | true =>
     rw [hok] at hst
     simp only [cond_true,Option.some.injEq,Prod.mk.injEq] at hst
     obtain ⟨rfl,rfl⟩:=hst
     refine ⟨g,hok,rfl,SW hg he hr,fun hn => ?_⟩
     unfold IY at hn
     rw [hg] at hn
     simp only [he] at hn
     cases e <;> simp only [res] at hr <;> simp only at hn <;> try (cases hn;done)
     case new=>simp only [Option.some.injEq,Prod.mk.injEq] at hr;obtain ⟨_,rfl⟩:=hr;exact .inl ⟨_,_,rfl⟩
     case app =>
      split at hr
      ·split at hr
       ·simp only [Option.some.injEq,Prod.mk.injEq] at hr;obtain ⟨_,rfl⟩:=hr;exact .inr ⟨_,_,_,rfl⟩
       cases hr
      cases hr
   cases hst
  cases hst
 rename_i j want hg
 split at hst
 ·rename_i G hG
  split at hst
  ·rename_i e he
   split at hst
   ·rename_i cs' v hr
    cases hok:IZ N s o.dst (.val (.av v)) with
    | false=>rw [hok] at hst;cases hst
    | true =>
     rw [hok] at hst
     simp only [cond_true,Option.some.injEq,Prod.mk.injEq] at hst
     obtain ⟨rfl,rfl⟩:=hst
     refine ⟨.val (.grd G v),hok,rfl,?_,fun hn => ?_⟩
     ·unfold Dv;rw [hg];rfl
     unfold IY at hn;rw [hg] at hn;cases hn
   cases hst
  cases hok:IZ N s o.dst (.val (.av (.one (.val (.bool false))))) with
  | false=>rw [hok] at hst;cases hst
  | true =>
   rw [hok] at hst
   simp only [cond_true,Option.some.injEq,Prod.mk.injEq] at hst
   obtain ⟨rfl,rfl⟩:=hst
   refine ⟨.val (.grd G (.one (.val (.bool false)))),hok,rfl,?_,fun hn => ?_⟩
   ·unfold Dv;rw [hg];rfl
   unfold IY at hn;rw [hg] at hn;cases hn
 cases hst
theorem EU {o:Oper} {s s1:AS} {cs:List Prop} (hst:KN P V N ops o s=some (cs,s1)):(get s1.t=fun i=>if o.dst=some i then get s1.t i else get s.t i)/\(get s1.h=fun n=>if n∈Dv P V o s then get s1.h n else get s.h n):=by
 obtain ⟨g,hok,rfl,hfw,_⟩:=QO hst
 rw [hfw,Ko,SP hok]
 exact FP s o.dst g
theorem QN {o:Oper} {s s1:AS} {cs:List Prop} (hst:KN P V N ops o s=some (cs,s1)) (hn:IY P V o s=true) {d:Nat} (hd:o.dst=some d):RS (get s.t) (get s.h) d:=by
 obtain ⟨g,hok,rfl,_,hk⟩:=QO hst
 rcases hk hn with ⟨b,v,rfl⟩ | ⟨n,b,v,rfl⟩
 ·rw [hd] at hok
  simp only [IZ,Option.any_some,Bool.and_eq_true] at hok
  exact KU hok.1.2
 rw [hd] at hok
 simp only [IZ,Option.any_some,Bool.and_eq_true] at hok
 exact KU hok.1.2
end
end
section
open Go.RowKit
def AWp (P:Program) (rd:Option Nat) (N:Nat) (W0:World) (X:Nat->Option Loc) (M0:Nat->Option Obj) (c:Code) (Q:Exit->AS->Prop) (s:AS):Prop :=
 ∀ M σ a w,Sim N W0 X M0 M σ (get s.t) (get s.h) a w->c.wpIn (FW rd) 0 P (fun e a' w'=>∃ s' M' σ',Q e s'/\Sim N W0 X M0 M' σ' (get s'.t) (get s'.h) a' w') a w
def ATh (K:AS->Prop) (Q:Exit->AS->Prop):Exit->AS->Prop
 | .normal,s=>K s
 | e,s=>Q e s
def ABl (id:Nat) (Q:Exit->AS->Prop):Exit->AS->Prop
 | .exit id',s=>if id'=id then Q .normal s else Q (.exit id') s
 | e,s=>Q e s
def IX {α:Type} (l:List (Nat×α)):List Nat->List (Nat×α)
 | []=>[]
 | n::r=>match get l n with
  | some v=>(n,v)::IX l r
  | none=>IX l r
def LM (ts hs:List Nat) (s:AS):AS:=⟨IX s.t ts,IX s.h hs⟩
theorem Ib {α:Type} (l:List (Nat×α)):∀ (ns:List Nat) (n:Nat) (v:α),get (IX l ns) n=some v->get l n=some v
 | [],n,v,h=>by cases h
 | k::r,n,v,h=>by
  simp only [IX] at h
  split at h
  ·rename_i u hu
   simp only [get,CS] at h
   by_cases hk:k=n
   ·subst hk;simp at h;subst h;exact hu
   simp [hk] at h;exact Ib l r n v h
  exact Ib l r n v h
def EI (l:List (Nat×FuncId×List Av×Ef)) (d:Nat):Option (FuncId×List Av×Ef):=get l d
inductive Gm (P:Program):List (Nat×FuncId×List Av×Ef)->Prop
 | nil:Gm P []
 | cons {d:Nat} {c:FuncId×List Av×Ef} {l:List (Nat×FuncId×List Av×Ef)}:Eo P c.1 c.2.1 c.2.2->Gm P l->Gm P ((d,c)::l)
theorem Gm.env {P:Program} {E:TypeId->Option (List Kd)} (hE:Io P ⟨fun _=>none,E,fun _=>false,fun _=>none⟩) {O:Nat->Bool} {q:Nat->Option (Bool×Nat)} {l:List (Nat×FuncId×List Av×Ef)} (hl:Gm P l):Jv P ⟨EI l,E,O,q⟩:=by
 refine ⟨hE,fun d f xs e h => ?_⟩
 have hm:(d,f,xs,e)∈l:=C6 h
 clear h
 induction hl with
 | nil=>cases hm
 | cons h1 _ ih =>
  cases hm with
  | head=>exact h1
  | tail _ hm=>exact ih hm
def Au:List Nat->Nat->Bool
 | [],_=>false
 | k::r,n=>bif Nat.beq k n then true else Au r n
def Ap (x:List Av):Prop:=x=x
def RJ (b:List Blk):Prop:=b=b
def Bv (b:Blk):Prop:=b=b
def A64 (a b:Int):Int:=IntKind.i64.wrap ((BitVec.ofInt 64 a &&& BitVec.ofInt 64 b).toNat)
def W64 (x:Int):Int:=IntKind.i64.wrap x
theorem Bt {p:Prop} [Decidable p] (h:(!decide p)=true):¬ p:=by simpa using h
theorem Bl {p:Prop} [Decidable p] (h:(!decide p)=false):p:=by simpa using h
theorem Bx (x:Int):W64 x=(x+9223372036854775808) % 18446744073709551616-9223372036854775808:=by
 unfold W64;rw [IntKind.wrap_i64]
theorem Af {x:Int} (h1 : -9223372036854775808<=x) (h2:x<=9223372036854775807):W64 x=x:=by
 unfold W64;rw [IntKind.wrap_i64];omega
def lst {α:Type} [Inhabited α] (sz:Nat) (c:α->List Cl) (xs:List α):Cl:=.list false sz xs.length fun i j=>(c (xs.getD i default)).getD j default
def wrI (n:Nat) (b0:Blk) (r:Tv) (b1:Blk):Ef:=.wr n [] fun b _=>some ([b=b0],r,b1)
def rdI (ns:List Nat) (bs:List Blk) (r:Tv):Ef:=.rd ns fun b=>some ([b=bs],r)
def H5 (P:Program) (V:Env P) (N:Nat) (l:List Oper) (ts hs:List Nat) (s:AS):Option (List Prop×AS):=match Mh P V N l.toArray l s with
 | some (cs,s1)=>some (cs,LM ts hs s1)
 | none=>none
theorem AG {K:AS->Prop} {Q:Exit->AS->Prop} {s:AS} (h:K s):ATh K Q .normal s:=h
theorem A3 {K:AS->Prop} {Q:Exit->AS->Prop} {s:AS} {id:Nat} (h:Q (.exit id) s):ATh K Q (.exit id) s:=h
theorem A7 {K:AS->Prop} {Q:Exit->AS->Prop} {s:AS} (h:Q .ret s):ATh K Q .ret s:=h
theorem BN {Q:Exit->AS->Prop} {s:AS} {id:Nat} (h:Q .normal s):ABl id Q .normal s:=h
theorem Bo {Q:Exit->AS->Prop} {s:AS} {id:Nat} (h:Q .ret s):ABl id Q .ret s:=h
theorem BG {Q:Exit->AS->Prop} {s:AS} {id:Nat} (h:Q .normal s):ABl id Q (.exit id) s:=by simp only [ABl,if_true];exact h
section
variable {P:Program} {V:Env P} {rd:Option Nat} {N:Nat} {W0:World} {X:Nat→Option Loc} {M0 M:Nat→Option Obj} {σ:Nat→Loc} {w:World} {a:Act} {Q:Exit→AS→Prop} {s:AS}
theorem oD {S:AS} (hs:Sim N W0 X M0 M σ (get s.t) (get s.h) a w) (ht:∀ i v,get S.t i=some v->get s.t i=some v) (hh:∀ i v,get S.h i=some v->get s.h i=some v):Sim N W0 X M0 M σ (get S.t) (get S.h) a w :=
 ⟨hs.os,hs.tape,hs.output,hs.size,hs.old,hs.sub,hs.new,hs.pin,hs.defers,hs.room,fun i v h=>hs.tmps i v (ht i v h),hs.imm,fun n b h=>hs.blk n b (hh n b h),fun n b h=>hs.loc n b (hh n b h),fun n m b c h1 h2=>hs.inj n m b c (hh n b h1) (hh m c h2)⟩
theorem EA (hs:Sim N W0 X M0 M σ (get s.t) (get s.h) a w) (ts ns:List Nat):Sim N W0 X M0 M σ (get (LM ts ns s).t) (get (LM ts ns s).h) a w:=oD hs (fun i v h=>Ib _ _ _ _ h) (fun i v h=>Ib _ _ _ _ h)
theorem AB {x y:Code} (h:AWp P rd N W0 X M0 x (ATh (AWp P rd N W0 X M0 y Q) Q) s):AWp P rd N W0 X M0 (.seq x y) Q s:=by
 intro M σ a w hs
 refine wpIn_seq (wpIn_mono (h M σ a w hs) ?_)
 rintro e a' w' ⟨s',M',σ',h1,h2⟩
 cases e with
 | normal=>exact h1 M' σ' a' w' h2
 | _=>exact ⟨s',M',σ',h1,h2⟩
theorem AY (h:Q .normal s):AWp P rd N W0 X M0 .skip Q s:=fun M σ a w hs=>wpIn_skip ⟨s,M,σ,h,hs⟩
theorem AW (h:Q .ret s):AWp P rd N W0 X M0 .ret Q s:=fun M σ a w hs=>wpIn_ret ⟨s,M,σ,h,hs⟩
theorem BF {id:Nat} (h:Q (.exit id) s):AWp P rd N W0 X M0 (.exit id) Q s:=fun M σ a w hs=>wpIn_exit ⟨s,M,σ,h,hs⟩
theorem AR {id:Nat} {c:Code} (h:AWp P rd N W0 X M0 c (ABl id Q) s):AWp P rd N W0 X M0 (.block id c) Q s:=by
 intro M σ a w hs
 refine wpIn_block (wpIn_mono (h M σ a w hs) ?_)
 rintro e a' w' ⟨s',M',σ',h1,h2⟩
 cases e with
 | exit id' =>
  simp only [ABl] at h1
  simp only [Exit.inBlock]
  split
  ·rename_i he;rw [if_pos he] at h1;exact ⟨s',M',σ',h1,h2⟩
  rename_i he;rw [if_neg he] at h1;exact ⟨s',M',σ',h1,h2⟩
 | _=>exact ⟨s',M',σ',h1,h2⟩
theorem AV {c:Operand} {x y:Code} (b:Bool) (hc:evT (get s.t) c=some (.av (.one (.val (.bool b))))) (h1:b=true->AWp P rd N W0 X M0 x Q s) (h2:b=false->AWp P rd N W0 X M0 y Q s):AWp P rd N W0 X M0 (.cond c x y) Q s:=by
 intro M σ a w hs
 have hv:a.eval c=.bool b:=(Fq hs.tmps hc).1
 exact wpIn_cond_split hv (fun hb=>h1 hb M σ a w hs) (fun hb=>h2 hb M σ a w hs)
theorem Cw {c:Operand} {x y:Code} (hc:evT (get s.t) c=some (.av (.one (.val (.bool true))))) (h1:AWp P rd N W0 X M0 x Q s):AWp P rd N W0 X M0 (.cond c x y) Q s:=AV true hc (fun _=>h1) (fun h=>by cases h)
theorem FC {c:Operand} {x y:Code} (hc:evT (get s.t) c=some (.av (.one (.val (.bool false))))) (h1:AWp P rd N W0 X M0 y Q s):AWp P rd N W0 X M0 (.cond c x y) Q s:=AV false hc (fun h=>by cases h) (fun _=>h1)
theorem PN (hV:Jv P V) {ops:Array Oper} {Q':Exit->Act->World->Prop}:∀ (l:List Oper) (s s1:AS) (cs:List Prop),Mh P V N ops l s=some (cs,s1)->Bi cs->∀ M σ a w,Sim N W0 X M0 M σ (get s.t) (get s.h) a w->(∀ M' σ' a' w',Sim N W0 X M0 M' σ' (get s1.t) (get s1.h) a' w'->Q' .normal a' w')->wpListIn (FW rd) 0 P ops Q' l a w
 | [],s,s1,cs,hr,hc,M,σ,a,w,hs,hK=>by
  simp only [Mh,Option.some.injEq,Prod.mk.injEq] at hr
  obtain ⟨_,rfl⟩:=hr
  exact hK M σ a w hs
 | o::l,s,s1,cs,hr,hc,M,σ,a,w,hs,hK=>by
  simp only [Mh] at hr
  split at hr
  ·rename_i cs1 s2 h1
   split at hr
   ·rename_i ds s3 h2
    simp only [Option.some.injEq,Prod.mk.injEq] at hr
    obtain ⟨rfl,rfl⟩:=hr
    obtain ⟨hc1,hc2⟩:=hc.append
    refine wpListIn_step fun K hK' => ?_
    refine QP hV h1 hc1 hs (fun _ _=>rfl) (fun _ _=>rfl) (fun hn d hd=>QN h1 hn hd) fun M' σ' a' w' hs'=>hK' _ _ (PN hV l s2 s3 ds h2 hc2 M' σ' a' w' ?_ hK)
    rw [(EU h1).1,(EU h1).2]
    exact hs'
   cases hr
  cases hr
theorem Cu {E:TypeId->Option (List Kd)} (hE:Io P ⟨fun _=>none,E,fun _=>false,fun _=>none⟩) {id:Nat} {l:List Oper} (ow:List Nat) (qs:List (Nat×(Bool×Nat))) (tbl:List (Nat×FuncId×List Av×Ef)) (ts ns:List Nat) (cs:List Prop) (S:AS) (htbl:Gm P tbl) (hr:H5 P ⟨EI tbl,E,Au ow,get qs⟩ N l ts ns s=some (cs,S)) (hc:Bi cs) (h:Q .normal S):AWp P rd N W0 X M0 (.region id l.toArray false) Q s:=by
 have hV:=htbl.env (O:=Au ow) (q:=get qs) hE
 intro M σ a w hs
 unfold H5 at hr
 split at hr
 ·rename_i cs1 s1 h1
  simp only [Option.some.injEq,Prod.mk.injEq] at hr
  obtain ⟨rfl,rfl⟩:=hr
  exact wpIn_region_lit (PN hV l s s1 cs1 h1 hc M σ a w hs fun M' σ' a' w' hs'=>⟨_,M',σ',h,EA hs' ts ns⟩)
 cases hr
theorem sG {ι:Type} {c:Code} (S:ι->AS) (Inv:ι->Prop) (μ:ι->Nat) (round:∀ x,Inv x->AWp P rd N W0 X M0 c (ATh (fun s'=>∃ y,Inv y/\μ y<μ x/\s'=S y) Q) (S x)) (x:ι) (hx:Inv x):AWp P rd N W0 X M0 (.loop c) Q (S x):=by
 have key:∀ n x,μ x<n->Inv x->∀ M σ a w,Sim N W0 X M0 M σ (get (S x).t) (get (S x).h) a w->Code.roundsIn (FW rd) 0 P c (fun e a' w'=>∃ s' M' σ',Q e s'/\Sim N W0 X M0 M' σ' (get s'.t) (get s'.h) a' w') n a w:=by
  intro n
  induction n with
  | zero=>intro x h;omega
  | succ n ih =>
   intro x hlt hx M σ a w hs
   rw [roundsIn_succ]
   refine wpIn_mono (round x hx M σ a w hs) ?_
   rintro e a' w' ⟨s',M',σ',h1,h2⟩
   cases e with
   | normal =>
    obtain ⟨y,hy,hm,rfl⟩:=h1
    exact ih y (by omega) hy M' σ' a' w' h2
   | _=>exact ⟨s',M',σ',h1,h2⟩
 intro M σ a w hs
 exact wpIn_loop_rounds (μ x+1) (key _ x (Nat.lt_succ_self _) hx M σ a w hs)
def Tv.dv:Tv->Bool
 | .av x=>x.dv
 | .tup l=>l.all Av.dv
 | .grd _ _=>false
def oO (P:Program) (s:AS):ResultVar->Option Av
 | .tmp t=>match get s.t t with
  | some (.av x)=>some x
  | _=>none
 | .cell p T=>match get s.t p,ti P T with
  | some (.av (.one (.ptr n off))),some t=>match get s.h n with
   | some (.cells l _)=>HM t l off
   | _=>none
  | _,_=>none
def bN (P:Program) (s:AS):List ResultVar->Option (List Av)
 | []=>some []
 | r::rs=>match oO P s r,bN P s rs with
  | some x,some l=>some (x::l)
  | _,_=>none
def Xv (P:Program) (s:AS) (rs:List ResultVar):Option Tv:=match bN P s rs with
 | some [x]=>some (.av x)
 | some l=>some (.tup l)
 | none=>none
theorem oN (hs:Sim N W0 X M0 M σ (get s.t) (get s.h) a w) {F:ResultVar->Sem Value} (hF1:∀ t,F (.tmp t)=pure (a.tmps.getD t undef)) (hF2:∀ p T,F (.cell p T)=(do loadVar T (<- asAddr (a.tmps.getD p undef)))) {r:ResultVar} {x:Av} (h:oO P s r=some x):∃ U,(F r).run P w=.ok U w/\RA M σ x U:=by
 cases r with
 | tmp t =>
  simp only [oO] at h
  split at h
  ·rename_i y hy
   injection h with h;subst h
   exact ⟨_,by rw [hF1];rfl,hs.tmps t _ hy⟩
  cases h
 | cell p T =>
  simp only [oO] at h
  split at h
  ·rename_i n off t h1 h2
   split at h
   ·rename_i l ty hb
    obtain ⟨hnil,c,hblk,hl⟩:=hs.blk n _ hb
    have hp:a.tmps.getD p undef=.pointer (some ⟨(σ n).b,off,none⟩):=hs.tmps p _ h1
    obtain ⟨U,hU,hR⟩:=GD (w:=w) h2 (b:=(σ n).b) (off:=0) hl off (fun j u _ _ hj=>by simp only [World.cell?,hblk];simpa using hj) h
    rw [Nat.zero_add] at hU
    refine ⟨U,?_,hR⟩
    rw [hF2]
    simp only [hp,asAddr,Sem.run_bind,Sem.run_pure,Result.andThen_ok,hU]
   cases h
  cases h
theorem ZM (hs:Sim N W0 X M0 M σ (get s.t) (get s.h) a w) {F:ResultVar->Sem Value} (hF1:∀ t,F (.tmp t)=pure (a.tmps.getD t undef)) (hF2:∀ p T,F (.cell p T)=(do loadVar T (<- asAddr (a.tmps.getD p undef)))):∀ {rs:List ResultVar} {l:List Av},bN P s rs=some l->∃ vs:List Value,(rs.mapM F).run P w=.ok vs w/\L2 (RA M σ) l vs
 | [],l,h=>by simp only [bN,Option.some.injEq] at h;subst h;exact ⟨[],by simp,.nil⟩
 | r::rs,l,h=>by
  simp only [bN] at h
  split at h
  ·rename_i x l' h1 h2
   injection h with h;subst h
   obtain ⟨U,hU,hR⟩:=oN hs hF1 hF2 h1
   obtain ⟨vs,hvs,hL⟩:=ZM hs hF1 hF2 h2
   refine ⟨U::vs,?_,.cons hR hL⟩
   rw [List.mapM_cons]
   simp only [Sem.run_bind,Sem.run_pure]
   rw [hU]
   simp only [Result.andThen_ok]
   rw [hvs]
   rfl
  cases h
theorem Tx (hs:Sim N W0 X M0 M σ (get s.t) (get s.h) a w) {fn:Func} {r:Tv} (h:Xv P s fn.results.toList=some r):∃ U,(results fn a.tmps).run P w=.ok U w/\RT M σ r U:=by
 unfold Xv at h
 have hm:∀ l,bN P s fn.results.toList=some l->∃ vs:List Value,(results fn a.tmps).run P w=.ok (if h:vs.toArray.size=1 then vs.toArray[0] else .tuple vs.toArray) w/\L2 (RA M σ) l vs:=by
  intro l hl
  unfold results
  rw [Array.mapM_eq_mapM_toList]
  simp only [Sem.run_bind,Sem.run_map]
  have key:∀ F:ResultVar->Sem Value,(∀ t,F (.tmp t)=pure (a.tmps.getD t undef))->(∀ p T,F (.cell p T)=(do loadVar T (<- asAddr (a.tmps.getD p undef))))->∃ vs:List Value,(((fn.results.toList.mapM F).run P w).andThen fun a w'=>.ok a.toArray w').andThen (fun a w'=>(pure (if h:a.size=1 then a[0] else Value.tuple a):Sem Value).run P w')=.ok (if h:vs.toArray.size=1 then vs.toArray[0] else .tuple vs.toArray) w/\L2 (RA M σ) l vs:=fun F hF1 hF2=>by
   obtain ⟨vs,h1,h2⟩:=ZM hs hF1 hF2 hl
   refine ⟨vs,?_,h2⟩
   rw [h1]
   rfl
  exact key _ (fun _=>rfl) (fun _ _=>rfl)
 split at h
 ·rename_i x hx
  injection h with h;subst h
  obtain ⟨vs,h1,h2⟩:=hm _ hx
  cases h2 with | cons h3 h4 =>
  cases h4
  exact ⟨_,h1,h3⟩
 ·rename_i l hne hl
  injection h with h;subst h
  obtain ⟨vs,h1,h2⟩:=hm _ hl
  have:¬ vs.toArray.size=1:=by
   have:=h2.length
   intro e
   simp at e
   match l,this with
   | [x],_=>exact hne x rfl
   | [],h=>simp at h;omega
   | _::_::_,h=>simp at h;omega
  rw [dif_neg this] at h1
  exact ⟨_,h1,vs,rfl,h2⟩
 cases h
def RetQ (P:Program) (fn:Func) (φ:Tv->AS->Prop):Exit->AS->Prop:=fun e s=>(e=.ret\/e=.normal)/\∃ r,Xv P s fn.results.toList=some r/\φ r s
def Dw:Nat->List Av->List (Nat×Tv)
 | _,[]=>[]
 | k,x::r=>(k,.av x)::Dw (k+1) r
theorem JQ:∀ (l:List Av) (k i:Nat) (v:Tv),get (Dw k l) i=some v->k<=i/\∃ x,l[i-k]? = some x/\v=.av x
 | [],k,i,v,h=>by cases h
 | y::r,k,i,v,h=>by
  simp only [Dw,get,CS] at h
  by_cases hk:k=i
  ·subst hk;simp at h;subst h;exact ⟨Nat.le_refl _,y,by simp,rfl⟩
  simp [hk] at h
  obtain ⟨h1,x,h2,h3⟩:=JQ r (k+1) i v h
  refine ⟨by omega,x,?_,h3⟩
  rw [show i-k=(i-(k+1))+1 by omega,List.getElem?_cons_succ]
  exact h2
theorem gW {T:Nat->Option Tv} {H:Nat->Option Blk} {tm:Array Value} {d:Deferred} {ds:List Deferred} (hs:Sim N W0 X M0 M σ T H { tmps:=tm,defers:=d::ds } w) :
  ∃ D w' M',d.target=.collected D/\(Instr.takeDeferred D).run P w=.ok [] w'/\Sim N W0 X M0 M' σ T H { tmps:=tm,defers:=ds } w':=by
 obtain ⟨⟨⟨D,rfl,hD,h0,hne⟩,hds⟩,hfl⟩:=hs.defers
 have hw:=hs.imm D _ hD
 have hlt:D<w.heap.size:=(Array.getElem?_eq_some_iff.1 hw).1
 have hother:∀ b,b≠D->(w.putObj D (.deferred none)).heap[b]? = w.heap[b]? := fun b hb=>World.putObj_heap_other (fun e=>hb e)
 obtain ⟨M',hM⟩:∃ M':Nat->Option Obj,M'=fun b=>if b=D then none else M b:=⟨_,rfl⟩
 have hM1:∀ b,b≠D->M' b=M b:=fun b hb=>by subst hM;simp [hb]
 have hMD:M' D=none:=by subst hM;simp
 have hcell:∀ b o v,Ei M b o=some v->Ei M' b o=some v:=fun b o v hc=>by
  by_cases hb:b=D
  ·subst hb;simp [Ei,hD] at hc
  unfold Ei at *;rw [hM1 b hb];exact hc
 have hRC:∀ {c:Cl} {V:Value},RC M c V->RC M' c V:=fun h=>by
  induction h with
  | val v h=>exact .val v h
  | nil t sz f h0=>exact .nil t sz f h0
  | mt t sz f a cap h5=>exact .mt t sz f a cap h5
  | clo f k caps cs h1 _ ih=>exact .clo f k caps cs h1 ih
  | list t sz len f b off cap g h1 _ h4 h5 ih=>exact .list t sz len f b off cap g (fun i j hi hj=>hcell _ _ _ (h1 i j hi hj)) ih h4 h5
  | eptr sz len f i off b base g h1 _ ih=>exact .eptr sz len f i off b base g (fun j hj=>hcell _ _ _ (h1 j hj)) ih
  | mp agg nv len kf vf b es clock g k0 h1 h2 _ ih=>exact .mp agg nv len kf vf b es clock g (by rw [hM1 b (fun e=>by subst e;rw [hD] at k0;cases k0)];exact k0) h1 h2 ih
  | any V h=>exact .any V h
 have hR:∀ {c:Cl} {V:Value},R M σ c V->R M' σ c V:=by
  intro c
  induction c with
  | list=>intro V h;exact hRC h
  | eptr=>intro V h;exact hRC h
  | mp=>intro V h;exact hRC h
  | clo f k caps ih =>
   intro V h
   obtain ⟨cs,h1,h2,h3⟩:=h
   exact ⟨cs,h1,h2,fun i hi=>ih i (h3 i hi)⟩
  | val v=>intro V h;exact h
  | ptr=>intro V h;exact h
  | own=>intro V h;exact h
  | rptr=>intro V h;exact h
  | om=>intro V h;exact h
  | any=>intro V h;exact h
 have hRA:∀ {x:Av} {V:Value},RA M σ x V->RA M' σ x V:=fun {x V} h=>by
  cases x with
  | one c=>exact hR h
  | agg l=>obtain ⟨vs,h1,h2⟩:=h;exact ⟨vs,h1,h2.mono fun _ _ _ h=>hR h⟩
 have hRT:∀ {x:Tv} {V:Value},RT M σ x V->RT M' σ x V:=fun {x V} h=>by
  cases x with
  | av x=>exact hRA h
  | tup l=>obtain ⟨vs,h1,h2⟩:=h;exact ⟨vs,h1,h2.mono fun _ _ _ h=>hRA h⟩
  | grd g x=>exact ⟨fun hg=>hRA (h.1 hg),h.2⟩
 have hblkne:∀ n b,H n=some b->(σ n).nil=false->(σ n).b≠D:=fun n b hb hn e=>by
  rcases hs.loc n b hb with h | ⟨h1,_⟩
  ·rw [hn] at h;cases h
  rw [e,hD] at h1;cases h1
 refine ⟨D,_,M',rfl,run_takeDeferred hw,⟨hs.os,hs.tape,hs.output,by simpa using hs.size,fun b hb hx => ?_,fun b o h => ?_,fun b o h h' => ?_,hs.pin,?_,hs.room,fun i v h=>hRT (hs.tmps i v h),fun b o h => ?_,fun n b h => ?_,fun n b h => ?_,hs.inj⟩⟩
 ·have:b≠D:=fun e=>by subst e;have:=hs.new _ _ hD h0;omega
  rw [hother b this];exact hs.old b hb hx
 ·have:b≠D:=fun e=>by subst e;rw [h0] at h;cases h
  rw [hM1 b this];exact hs.sub b o h
 ·by_cases e:b=D
  ·subst e;rw [hMD] at h;cases h
  rw [hM1 b e] at h;exact hs.new b o h h'
 ·have:∀ l:List Deferred,(∀ d'∈l,d'≠{ target:=.collected D,args := #[] })->Gj M0 M l->Gj M0 M' l:=by
   intro l
   induction l with
   | nil=>intro _ _;trivial
   | cons d l ih =>
    rintro hl ⟨⟨D',h1,h2,h3,h4⟩,h5⟩
    refine ⟨⟨D',h1,?_,h3,h4⟩,ih (fun d' hd=>hl d' (by simp [hd])) h5⟩
    have:D'≠D:=fun e=>by subst e;exact hl d (by simp) h1
    rw [hM1 _ this];exact h2
  exact ⟨this ds hne hds,fun hf=>by cases hfl hf⟩
 ·by_cases e:b=D
  ·subst e;rw [hMD] at h;cases h
  rw [hM1 b e] at h;rw [hother b e];exact hs.imm b o h
 ·have h1:=hs.blk n b h
  cases b with
  | cells l ty =>
   obtain ⟨g0,c,g1,g2⟩:=h1
   exact ⟨g0,c,(hother _ (hblkne n _ h g0)).trans g1,g2.mono fun _ _ _ h=>hR h⟩
  | row sz len f ty =>
   rcases h1 with h1 | ⟨g0,c,g1,g2,g3,g4,g,g5⟩
   ·exact .inl h1
   exact .inr ⟨g0,c,(hother _ (hblkne n _ h g0)).trans g1,g2,g3,g4,g,fun i j hi hj=>⟨(g5 i j hi hj).1,hRC (g5 i j hi hj).2⟩⟩
  | omap agg nv len kf vf =>
   obtain ⟨g0,es,ck,g,g1,g2,g3,g4⟩:=h1
   exact ⟨g0,es,ck,g,(hother _ (hblkne n _ h g0)).trans g1,g2,g3,fun i j hi hj=>hRC (g4 i j hi hj)⟩
  | rowx sz len f ty hh =>
   obtain ⟨g0,c,g1,g2,g3,g4,g,g5,g6⟩:=h1
   exact ⟨g0,c,(hother _ (hblkne n _ h g0)).trans g1,g2,g3,g4,g,fun i j hi hj=>⟨(g5 i j hi hj).1,fun hn=>hRC ((g5 i j hi hj).2 hn)⟩,fun i l hl=>⟨(g6 i l hl).1,(g6 i l hl).2.mono fun _ _ _ h=>hR h⟩⟩
 rcases hs.loc n b h with h1 | ⟨h1,h2⟩
 ·exact .inl h1
 by_cases hn:(σ n).nil=true
 ·exact .inl hn
 refine .inr ⟨?_,h2⟩
 rw [hM1 _ (hblkne n b h (by simpa using hn))];exact h1
theorem Mx {fn:Func} {R:Ending->World->Prop} {T:Nat->Option Tv} {H:Nat->Option Blk} {tm:Array Value}:∀ (ds:List Deferred) {M:Nat->Option Obj} {w:World},Sim N W0 X M0 M σ T H { tmps:=tm,defers:=ds } w ->
  (∀ M'' w'',Sim N W0 X M0 M'' σ T H { tmps:=tm,defers:=[] } w''->∃ U,(results fn tm).run P w''=.ok U w''/\R (.returned U) w'')->LeavesInM (FW none) 0 P fn tm R ds .returning w
 | [],M,w,hs,hR=>hR M w hs
 | d::ds,M,w,hs,hR=>by
  obtain ⟨D,w',M',h1,h2,h3⟩:=gW (P:=P) hs
  exact ⟨by simp,.inl ⟨D,w',h1,h2,Mx ds h3 hR⟩⟩
theorem EW {f:FuncId} {fn:Func} {c:Code} (hf:P.funcs[f]? = some fn) (hb:fn.body=some c) {xs:List Av} {h0:List (Nat×Blk)} {args:List Value} {φ:Tv->AS->Prop} (hN:xs.length<=fn.ntmps)
  (himm:∀ b o,M b=some o->w.heap[b]? = some o) (hargs:L2 (RA M σ) xs args) (hblk:∀ n b,get h0 n=some b->BX M σ w (σ n) b) (hloc:∀ n b,get h0 n=some b->(σ n).nil=true\/(M (σ n).b=none/\inX X (σ n).b)) (hpin:∀ n x,X n=some x->fn.ntmps<=n/\σ n=x) (hinj:∀ n m b c,get h0 n=some b->get h0 m=some c->n≠m->(σ n).nil=true\/(σ m).nil=true\/(σ n).b≠(σ m).b)
  (h:AWp P none fn.ntmps w X M c (RetQ P fn φ) ⟨Dw 0 xs,h0⟩) {R':Ending->World->Prop} (hR:∀ r s' M' σ' a' w' U,φ r s'->Sim fn.ntmps w X M M' σ' (get s'.t) (get s'.h) a' w'->RT M' σ' r U->R' (.returned U) w'):Calls P f args.toArray w R':=by
 have hlen:=hargs.length
 refine callsIn_wide.1 (callsIn_of_wp_marks (F:=FW none) (n:=0) hf hb trivial (wpIn_mono (h M σ _ w ⟨rfl,rfl,rfl,Nat.le_refl _,fun _ _ _=>rfl,fun _ _ h=>h,fun _ _ h h'=>by (rw [h] at h';cases h'),hpin,Hu.nil,by simp;omega,fun i v hv => ?_,himm,hblk,fun n b hb=>(hloc n b hb).imp id fun ⟨h1,h2⟩=>⟨h1,.inr h2⟩,hinj⟩) ?_))
 ·obtain ⟨_,x,hx,rfl⟩:=JQ _ _ _ _ hv
  rw [Nat.sub_zero] at hx
  obtain ⟨u,hu,hRu⟩:=hargs.get i x hx
  have:(args.toArray++Array.replicate (fn.ntmps-args.toArray.size) undef).getD i undef=u:=by
   have hi:i<args.length:=(List.getElem?_eq_some_iff.1 hu).1
   rw [Array.getD_eq_getD_getElem?,Array.getElem?_append_left (by simpa using hi)]
   simp [hu]
  show RA M σ x _
  rw [this]
  exact hRu
 rintro e a' w' ⟨s',M',σ',⟨he,r,hr,hφ⟩,hs'⟩
 have key:=Mx (fn:=fn) (R:=R') a'.defers hs' fun M'' w'' hs''=>by
  obtain ⟨U,hU,hRU⟩:=Tx hs'' hr
  exact ⟨U,hU,hR r s' M'' σ' _ w'' U hφ hs'' hRU⟩
 rcases he with rfl | rfl
 ·exact key
 exact key
def E5 (P:Program) (f:FuncId) (xs:List Av) (r:Tv):Prop:=∀ (M:Nat->Option Obj) (σ:Nat->Loc) (w:World) (args:List Value),(∀ b o,M b=some o->w.heap[b]? = some o)->L2 (RA M σ) xs args ->
 Calls P f args.toArray w fun en w'=>∃ U,en=.returned U/\∃ M',Gg w w' M M' Ql/\∀ σ',RT M' σ' r U
theorem HU {M:Nat->Option Obj} {σ σ':Nat->Loc} {r:Tv} {U:Value} (hd:r.dv=true) (h:RT M σ r U):RT M σ' r U:=by
 have cl:∀ {c:Cl} {U:Value},c.dv=true->R M σ c U->R M σ' c U:=fun hd h=>(Jw hd).2 ((Jw hd).1 h)
 have av:∀ {x:Av} {U:Value},x.dv=true->RA M σ x U->RA M σ' x U:=fun {x U} hd h=>by
  cases x with
  | one c=>exact cl hd h
  | agg l=>obtain ⟨vs,h1,h2⟩:=h;exact ⟨vs,h1,h2.mono fun c hc b hb=>cl ((List.all_eq_true.1 hd) c hc) hb⟩
 cases r with
 | av x=>exact av hd h
 | tup l=>obtain ⟨vs,h1,h2⟩:=h;exact ⟨vs,h1,h2.mono fun c hc b hb=>av ((List.all_eq_true.1 hd) c hc) hb⟩
 | grd g x=>cases hd
theorem WW {f:FuncId} {xs:List Av} {cs:List Prop} {r:Tv} (h1:∀ args w,(callFunc f args).run P w=.ok (.enter f args) w) (h:Bi cs->E5 P f xs r):Eo P f xs (.val cs r):=by
 refine .inl ⟨h1,fun M σ w h' args cs' g hs hargs hr hc => ?_⟩
 obtain ⟨rfl,rfl⟩:=BV hr
 refine (h hc M σ w args hs.imm hargs).mono ?_
 rintro en w' ⟨U,hU,M',hk,hR⟩
 exact ⟨U,hU,fun dst _=>⟨M',σ,hk,rfl,hR σ⟩⟩
end
end
section
open Go.RowKit
structure Rec where
 rd:List Nat
 dst:Option Nat
 hr:List Nat
 hw:List Nat
 new:Bool
 out:Nat->Bool
def IR (P:Program) (V:Env P) (ops:Array Oper) (o:Oper) (s s1:AS):Rec :=
 ⟨o.looksAt ops,o.dst,KV P V ops o s,Dv P V o s,IY P V o s,fun d=>(match o.dst with | some x=>(match get s1.t x with | some v=>v.no d | none=>true) | none=>true)&&(Dv P V o s).all fun n=>match get s1.h n with | some b=>b.no d && !Nat.beq n d | none=>true⟩
def iD (P:Program) (V:Env P) (N:Nat) (ops:Array Oper):List Oper->AS->Option (List Rec)
 | [],_=>some []
 | o::l,s=>match KN P V N ops o s with
  | some (_,s1)=>(iD P V N ops l s1).map (IR P V ops o s s1::·)
  | none=>none
def aW (acc:List Nat) (o:Oper):Nat:=o.after.toList.foldl (fun m e=>bif Region.binds .any e then m ||| (1 <<< e.on) ||| acc.getD e.on 0 else m) 0
def C1:List Oper->List Nat->List Nat
 | [],acc=>acc
 | o::l,acc=>C1 l (acc++[aW acc o])
def Rk (l:List Nat) (n:Nat):Bool:=l.any (Nat.beq n)
def Yn (a b:Rec):Bool :=
 (match a.dst with | some d=>Rk b.rd d||(match b.dst with | some e=>Nat.beq e d | none=>false) | none=>false) ||
 (match b.dst with | some d=>Rk a.rd d | none=>false)||(a.hw.any fun n=>Rk b.hr n||Rk b.hw n)||(b.hw.any fun n=>Rk a.hr n)
def uW (A:List Nat) (R:List Rec):Bool :=
 R.zipIdx.all fun (b,j)=>R.zipIdx.all fun (a,i) =>
  (Nat.ble j i || !Yn a b||(A.getD j 0).testBit i) &&
  (Nat.beq i j || !a.new||(A.getD j 0).testBit i||(match a.dst with | some d=>b.out d | none=>true))
def NG (l:List Oper):Bool:=l.zipIdx.all fun (o,j)=>o.after.toList.all fun e => !Region.binds .any e||Nat.ble (e.on+1) j
def Q9 (P:Program) (V:Env P) (N:Nat) (l:List Oper) (s:AS):Bool:=match iD P V N l.toArray l s with
 | some R=>NG l&&uW (C1 l []) R&&R.all fun r => !r.new||(match r.dst with | some d=>Q0 s d | none=>true)
 | none=>false
theorem Mw:∀ (l:List Oper) (acc:List Nat),(C1 l acc).length=acc.length+l.length
 | [],acc=>rfl
 | o::l,acc=>by simp [C1,Mw l];omega
theorem OG:∀ (l:List Oper) (acc:List Nat) (i:Nat),i<acc.length->(C1 l acc)[i]? = acc[i]?
 | [],acc,i,_=>rfl
 | o::l,acc,i,h=>by
  simp only [C1]
  rw [OG l _ i (by simp;omega),List.getElem?_append_left h]
theorem SA:∀ (l:List Oper) (acc:List Nat) (j:Nat) (o:Oper),l[j]? = some o->(C1 l acc)[acc.length+j]? = some (aW ((C1 l acc).take (acc.length+j)) o)
 | [],acc,j,o,h=>by simp at h
 | o'::l,acc,0,o,h=>by
  simp at h;subst h
  simp only [C1,Nat.add_zero]
  rw [OG l _ _ (by simp)]
  have:(C1 l (acc++[aW acc o'])).take acc.length=acc:=by
   apply List.ext_getElem?
   intro i
   rw [List.getElem?_take]
   split
   ·rename_i hi;rw [OG l _ i (by simp;omega),List.getElem?_append_left hi]
   rename_i hi;rw [List.getElem?_eq_none (by omega)]
  rw [this]
  simp
 | o'::l,acc,j+1,o,h=>by
  simp only [C1]
  have:=SA l (acc++[aW acc o']) j o (by simpa using h)
  simp only [List.length_append,List.length_singleton] at this
  rw [show acc.length+(j+1)=acc.length+1+j by omega]
  exact this
theorem WO (acc:List Nat) (i:Nat):∀ (es:List Edge) (m:Nat),(es.foldl (fun m e=>bif Region.binds .any e then m ||| (1 <<< e.on) ||| acc.getD e.on 0 else m) m).testBit i=true->m.testBit i=true\/∃ e∈es,Region.binds .any e=true/\(i=e.on\/(acc.getD e.on 0).testBit i=true)
 | [],m,h=>.inl h
 | e::es,m,h=>by
  simp only [List.foldl_cons] at h
  rcases WO acc i es _ h with h | ⟨e',he,hb⟩
  ·cases hb:Region.binds .any e with
   | false=>rw [hb] at h;exact .inl h
   | true =>
    rw [hb] at h
    simp only [cond_true,Nat.testBit_or,Bool.or_eq_true] at h
    rcases h with (h | h) | h
    ·exact .inl h
    ·refine .inr ⟨e,by simp,hb,.inl ?_⟩
     rw [Nat.testBit_shiftLeft] at h
     simp only [Bool.and_eq_true,decide_eq_true_eq] at h
     have:(1:Nat).testBit (i-e.on)=true:=h.2
     have h1:i-e.on=0:=by
      rcases Nat.eq_zero_or_pos (i-e.on) with h0 | h0
      ·exact h0
      rw [Nat.testBit_one_eq_true_iff_self_eq_zero] at this;exact this
     omega
    exact .inr ⟨e,by simp,hb,.inr h⟩
  exact .inr ⟨e',by simp [he],hb⟩
theorem KQ {l:List Nat} {n:Nat}:Rk l n=true↔n∈l:=by
 simp only [Rk,List.any_eq_true,CS,decide_eq_true_eq]
 exact ⟨fun ⟨x,hx,he⟩=>he▸hx,fun h=>⟨n,h,rfl⟩⟩
section
variable {P:Program} {V:Env P} {rd:Option Nat} {N:Nat} {W0:World} {X:Nat→Option Loc} {M0:Nat→Option Obj} {l:List Oper} {s0:AS}
def MZ (l:List Oper) (L:Array Bool):Prop:=∀ j o,l[j]? = some o->L.getD j false=true->∀ e∈o.after,Region.binds .any e=true->L.getD e.on false=true
theorem Jb (hb:NG l=true) {L:Array Bool} (hL:MZ l L):∀ (n j:Nat),j<n->∀ o,l[j]? = some o->(∀ e∈o.after,Region.binds .any e=true->L.getD e.on false=true)->∀ i,((C1 l []).getD j 0).testBit i=true->L.getD i false=true/\i<j
 | n+1,j,hj,o,ho,hd,i,hi=>by
  have hm:=SA l [] j o ho
  simp only [List.length_nil,Nat.zero_add] at hm
  rw [List.getD_eq_getElem?_getD,hm,Option.getD_some] at hi
  have hlt:∀ e∈o.after,Region.binds .any e=true->e.on<j:=fun e he hbe=>by
   have h1:=(List.all_eq_true.1 hb) (o,j) (List.mem_zipIdx_iff_getElem?.2 (by simpa using ho))
   have h2:=(List.all_eq_true.1 h1) e (by simpa using he)
   simp only [hbe,Bool.not_true,Bool.false_or] at h2
   exact Nat.le_of_ble_eq_true h2
  rcases WO _ i _ 0 hi with h | ⟨e,he,hbe,h⟩
  ·simp at h
  have he':e∈o.after:=by simpa using he
  have hon:=hd e he' hbe
  have helt:=hlt e he' hbe
  rcases h with rfl | h
  ·exact ⟨hon,helt⟩
  have hget:((C1 l []).take j).getD e.on 0=(C1 l []).getD e.on 0:=by
   rw [List.getD_eq_getElem?_getD,List.getD_eq_getElem?_getD,List.getElem?_take_of_lt helt]
  rw [hget] at h
  cases hoo:l[e.on]? with
  | none =>
   have:(C1 l []).getD e.on 0=0:=by
    rw [List.getD_eq_getElem?_getD,List.getElem?_eq_none (by rw [Mw];simp;exact List.getElem?_eq_none_iff.1 hoo)];rfl
   rw [this] at h;simp at h
  | some o2 =>
   have:=Jb hb hL n e.on (by omega) o2 hoo (hL e.on o2 hoo hon) i h
   exact ⟨this.1,by omega⟩
def stN (P:Program) (V:Env P) (N:Nat) (l:List Oper) (s0:AS):Nat->AS
 | 0=>s0
 | k+1=>match l[k]? with
  | some o=>(match KN P V N l.toArray o (stN P V N l s0 k) with
   | some (_,s1)=>s1
   | none=>stN P V N l s0 k)
  | none=>stN P V N l s0 k
theorem JE:∀ (r:List Oper) (k:Nat) (s s1:AS) (cs:List Prop),(∀ j,r[j]? = l[k+j]?)->s=stN P V N l s0 k->Mh P V N l.toArray r s=some (cs,s1)->Bi cs ->
  s1=stN P V N l s0 (k+r.length)/\∀ j o,r[j]? = some o->∃ ds,KN P V N l.toArray o (stN P V N l s0 (k+j))=some (ds,stN P V N l s0 (k+j+1))/\Bi ds
 | [],k,s,s1,cs,_,hs,hr,_=>by
  simp only [Mh,Option.some.injEq,Prod.mk.injEq] at hr
  exact ⟨by rw [<- hr.2];exact hs,fun j o h=>by simp at h⟩
 | o::r,k,s,s1,cs,hl,hs,hr,hc=>by
  simp only [Mh] at hr
  split at hr
  ·rename_i cs1 s2 h1
   split at hr
   ·rename_i ds s3 h2
    simp only [Option.some.injEq,Prod.mk.injEq] at hr
    obtain ⟨rfl,rfl⟩:=hr
    obtain ⟨hc1,hc2⟩:=hc.append
    have h0:l[k]? = some o:=by simpa using (hl 0).symm
    have hst:stN P V N l s0 (k+1)=s2:=by
     simp only [stN,h0]
     rw [<- hs,h1]
    obtain ⟨h3,h4⟩:=JE r (k+1) s2 s3 ds (fun j=>by have:=hl (j+1);simpa [Nat.add_assoc,Nat.add_comm 1 j] using this) hst.symm h2 hc2
    refine ⟨by rw [h3];congr 1;simp;omega,fun j o' hj => ?_⟩
    cases j with
    | zero =>
     simp at hj;subst hj
     exact ⟨cs1,by rw [Nat.add_zero,<- hs,hst];exact h1,hc1⟩
    | succ j =>
     have:=h4 j o' (by simpa using hj)
     rwa [show k+1+j=k+(j+1) by omega] at this
   cases hr
  cases hr
theorem VL:∀ (r:List Oper) (k:Nat) (R:List Rec),(∀ j,r[j]? = l[k+j]?)->iD P V N l.toArray r (stN P V N l s0 k)=some R->R.length=r.length/\∀ j o,r[j]? = some o->R[j]? = some (IR P V l.toArray o (stN P V N l s0 (k+j)) (stN P V N l s0 (k+j+1)))
 | [],k,R,_,h=>by simp only [iD,Option.some.injEq] at h;subst h;exact ⟨rfl,fun j o h=>by simp at h⟩
 | o::r,k,R,hl,h=>by
  simp only [iD] at h
  split at h
  ·rename_i cs s1 h1
   obtain ⟨R',hR',rfl⟩:=Option.map_eq_some_iff.1 h
   have h0:l[k]? = some o:=by simpa using (hl 0).symm
   have hst:stN P V N l s0 (k+1)=s1:=by simp only [stN,h0,h1]
   rw [<- hst] at hR'
   obtain ⟨h2,h3⟩:=VL r (k+1) R' (fun j=>by have:=hl (j+1);simpa [Nat.add_assoc,Nat.add_comm 1 j] using this) hR'
   refine ⟨by simp [h2],fun j o' hj => ?_⟩
   cases j with
   | zero=>simp at hj;subst hj;simp [hst]
   | succ j =>
    have:=h3 j o' (by simpa using hj)
    rw [show k+1+j=k+(j+1) by omega] at this
    simpa using this
  cases h
end
end
section
open Go.RowKit
section
variable {P:Program} {V:Env P} {rd:Option Nat} {N:Nat} {W0:World} {X:Nat→Option Loc} {M0:Nat→Option Obj} {l:List Oper} {s0:AS}
def AgT (l:List Oper) (L:Array Bool) (x k:Nat):Prop:=∀ j o,l[j]? = some o->o.dst=some x->(L.getD j false=true↔j<k)
def AgH (P:Program) (V:Env P) (N:Nat) (l:List Oper) (s0:AS) (L:Array Bool) (m k:Nat):Prop:=∀ j o,l[j]? = some o->m∈Dv P V o (stN P V N l s0 j)->(L.getD j false=true↔j<k)
def Jj (P:Program) (V:Env P) (N:Nat) (l:List Oper) (s0:AS):Prop:=∀ (j:Nat) o,l[j]? = some o->∃ ds,KN P V N l.toArray o (stN P V N l s0 j)=some (ds,stN P V N l s0 (j+1))/\Bi ds
theorem Xl (h:Jj P V N l s0) {x:Nat}:∀ (d i k:Nat),k=i+d->k<=l.length->(∀ (j:Nat) o,i<=j->j<k->l[j]? = some o->o.dst≠some x)->get (stN P V N l s0 k).t x=get (stN P V N l s0 i).t x
 | 0,i,k,hk,_,_=>by subst hk;rfl
 | d+1,i,k,hk,hkl,hno=>by
  subst hk
  have hlt:i+d<l.length:=by omega
  obtain ⟨ds,hst,_⟩:=h (i+d) _ (List.getElem?_eq_getElem hlt)
  have hf:=congrFun (EU hst).1 x
  rw [show i+(d+1)=i+d+1 by omega,hf,if_neg (hno (i+d) _ (by omega) (by omega) (List.getElem?_eq_getElem hlt))]
  exact Xl h d i (i+d) rfl (by omega) fun j o h1 h2 h3=>hno j o h1 (by omega) h3
theorem Xm (h:Jj P V N l s0) {m:Nat}:∀ (d i k:Nat),k=i+d->k<=l.length->(∀ (j:Nat) o,i<=j->j<k->l[j]? = some o->m ∉ Dv P V o (stN P V N l s0 j))->get (stN P V N l s0 k).h m=get (stN P V N l s0 i).h m
 | 0,i,k,hk,_,_=>by subst hk;rfl
 | d+1,i,k,hk,hkl,hno=>by
  subst hk
  have hlt:i+d<l.length:=by omega
  obtain ⟨ds,hst,_⟩:=h (i+d) _ (List.getElem?_eq_getElem hlt)
  have hf:=congrFun (EU hst).2 m
  rw [show i+(d+1)=i+d+1 by omega,hf,if_neg (hno (i+d) _ (by omega) (by omega) (List.getElem?_eq_getElem hlt))]
  exact Xm h d i (i+d) rfl (by omega) fun j o h1 h2 h3=>hno j o h1 (by omega) h3
theorem Xt (h:Jj P V N l s0) {L:Array Bool} {x k i:Nat} (hk:k<=l.length) (hi:i<=l.length) (h1:AgT l L x k) (h2:AgT l L x i):get (stN P V N l s0 k).t x=get (stN P V N l s0 i).t x:=by
 rcases Nat.le_total k i with hle | hle
 ·exact (Xl h (i-k) k i (by omega) hi fun j o a b c d=>by have:=(h1 j o c d).symm.trans (h2 j o c d);omega).symm
 exact Xl h (k-i) i k (by omega) hk fun j o a b c d=>by have:=(h1 j o c d).symm.trans (h2 j o c d);omega
theorem Xu (h:Jj P V N l s0) {L:Array Bool} {m k i:Nat} (hk:k<=l.length) (hi:i<=l.length) (h1:AgH P V N l s0 L m k) (h2:AgH P V N l s0 L m i):get (stN P V N l s0 k).h m=get (stN P V N l s0 i).h m:=by
 rcases Nat.le_total k i with hle | hle
 ·exact (Xm h (i-k) k i (by omega) hi fun j o a b c d=>by have:=(h1 j o c d).symm.trans (h2 j o c d);omega).symm
 exact Xm h (k-i) i k (by omega) hk fun j o a b c d=>by have:=(h1 j o c d).symm.trans (h2 j o c d);omega
theorem lM (h:Jj P V N l s0) {x:Nat} {v:Tv}:∀ k,k<=l.length->get (stN P V N l s0 k).t x=some v->get s0.t x=some v\/∃ (j:Nat) (o:Oper),j<k/\l[j]? = some o/\o.dst=some x/\get (stN P V N l s0 (j+1)).t x=some v
 | 0,_,hv=>.inl hv
 | k+1,hk,hv=>by
  have hlt:k<l.length:=by omega
  obtain ⟨ds,hst,_⟩:=h k _ (List.getElem?_eq_getElem hlt)
  have hf:=congrFun (EU hst).1 x
  by_cases hd:l[k].dst=some x
  ·exact .inr ⟨k,_,by omega,List.getElem?_eq_getElem hlt,hd,hv⟩
  rw [hf,if_neg hd] at hv
  rcases lM h k (by omega) hv with h' | ⟨j,o,h1,h2⟩
  ·exact .inl h'
  exact .inr ⟨j,o,by omega,h2⟩
theorem lN (h:Jj P V N l s0) {m:Nat} {b:Blk}:∀ k,k<=l.length->get (stN P V N l s0 k).h m=some b->get s0.h m=some b\/∃ (j:Nat) (o:Oper),j<k/\l[j]? = some o/\m∈Dv P V o (stN P V N l s0 j)/\get (stN P V N l s0 (j+1)).h m=some b
 | 0,_,hv=>.inl hv
 | k+1,hk,hv=>by
  have hlt:k<l.length:=by omega
  obtain ⟨ds,hst,_⟩:=h k _ (List.getElem?_eq_getElem hlt)
  have hf:=congrFun (EU hst).2 m
  by_cases hd:m∈Dv P V l[k] (stN P V N l s0 k)
  ·exact .inr ⟨k,_,by omega,List.getElem?_eq_getElem hlt,hd,hv⟩
  rw [hf,if_neg hd] at hv
  rcases lN h k (by omega) hv with h' | ⟨j,o,h1,h2⟩
  ·exact .inl h'
  exact .inr ⟨j,o,by omega,h2⟩
structure Pf (P:Program) (V:Env P) (N:Nat) (l:List Oper) (s0:AS) (A:Nat->Nat->Prop):Prop where
 tt:∀ (i j:Nat) oi oj,l[i]? = some oi->l[j]? = some oj->i<j->∀ d,oi.dst=some d->d∈oj.looksAt l.toArray\/oj.dst=some d->A j i
 tr:∀ (i j:Nat) oi oj,l[i]? = some oi->l[j]? = some oj->i<j->∀ d,oj.dst=some d->d∈oi.looksAt l.toArray->A j i
 hh:∀ (i j:Nat) oi oj,l[i]? = some oi->l[j]? = some oj->i<j->∀ n,n∈Dv P V oi (stN P V N l s0 i)->n∈KV P V l.toArray oj (stN P V N l s0 j)\/n∈Dv P V oj (stN P V N l s0 j)->A j i
 hr:∀ (i j:Nat) oi oj,l[i]? = some oi->l[j]? = some oj->i<j->∀ n,n∈Dv P V oj (stN P V N l s0 j)->n∈KV P V l.toArray oi (stN P V N l s0 i)->A j i
 new0:∀ (i:Nat) oi,l[i]? = some oi->IY P V oi (stN P V N l s0 i)=true->∀ d,oi.dst=some d->RS (get s0.t) (get s0.h) d
 newT:∀ (i j:Nat) oi oj,l[i]? = some oi->l[j]? = some oj->i≠j->IY P V oi (stN P V N l s0 i)=true->∀ d,oi.dst=some d->A j i\/((∀ x v,oj.dst=some x->get (stN P V N l s0 (j+1)).t x=some v->v.no d=true)/\∀ n b,n∈Dv P V oj (stN P V N l s0 j)->get (stN P V N l s0 (j+1)).h n=some b->n≠d/\b.no d=true)
theorem L1 (hb:Q9 P V N l s0=true):NG l=true/\Pf P V N l s0 (fun j i=>((C1 l []).getD j 0).testBit i=true):=by
 unfold Q9 at hb
 split at hb
 ·rename_i R hR
  simp only [Bool.and_eq_true] at hb
  obtain ⟨⟨hback,hp⟩,hn⟩:=hb
  obtain ⟨hlen,hget⟩:=VL (V:=V) (s0:=s0) l 0 R (fun j=>by rw [Nat.zero_add]) hR
  simp only [Nat.zero_add] at hget
  have pair:∀ (i j:Nat) oi oj,l[i]? = some oi->l[j]? = some oj->((Nat.ble j i || !Yn (IR P V l.toArray oi (stN P V N l s0 i) (stN P V N l s0 (i+1))) (IR P V l.toArray oj (stN P V N l s0 j) (stN P V N l s0 (j+1)))||((C1 l []).getD j 0).testBit i)=true /\
    (Nat.beq i j || !IY P V oi (stN P V N l s0 i)||((C1 l []).getD j 0).testBit i||(match oi.dst with | some d=>(IR P V l.toArray oj (stN P V N l s0 j) (stN P V N l s0 (j+1))).out d | none=>true))=true):=fun i j oi oj hi hj=>by
   have h1:=(List.all_eq_true.1 hp) (_,j) (List.mem_zipIdx_iff_getElem?.2 (by simpa using hget j oj hj))
   have h2:=(List.all_eq_true.1 h1) (_,i) (List.mem_zipIdx_iff_getElem?.2 (by simpa using hget i oi hi))
   simp only [Bool.and_eq_true] at h2
   exact h2
  have nle:∀ {i j:Nat},i<j->Nat.ble j i=false:=fun {i j} h=>by
   cases hq:Nat.ble j i with
   | false=>rfl
   | true=>have:=Nat.le_of_ble_eq_true hq;omega
  have cf:∀ (i j:Nat) oi oj,l[i]? = some oi->l[j]? = some oj->i<j->Yn (IR P V l.toArray oi (stN P V N l s0 i) (stN P V N l s0 (i+1))) (IR P V l.toArray oj (stN P V N l s0 j) (stN P V N l s0 (j+1)))=true->((C1 l []).getD j 0).testBit i=true:=fun i j oi oj hi hj hlt hc=>by
   have:=(pair i j oi oj hi hj).1
   rw [nle hlt,hc] at this
   simpa using this
  refine ⟨hback,⟨fun i j oi oj hi hj hlt d hd hor=>cf i j oi oj hi hj hlt ?_,fun i j oi oj hi hj hlt d hd hor=>cf i j oi oj hi hj hlt ?_,fun i j oi oj hi hj hlt n hn hor=>cf i j oi oj hi hj hlt ?_,fun i j oi oj hi hj hlt n hn hor=>cf i j oi oj hi hj hlt ?_,fun i oi hi hnew d hd => ?_,fun i j oi oj hi hj hne hnew d hd => ?_⟩⟩
  ·simp only [Yn,IR,hd]
   rcases hor with h | h
   ·simp [KQ.2 h]
   simp [h,Nat.beq_refl]
  ·simp only [Yn,IR,hd]
   simp [KQ.2 hor]
  ·have:((Dv P V oi (stN P V N l s0 i)).any fun n=>Rk (KV P V l.toArray oj (stN P V N l s0 j)) n||Rk (Dv P V oj (stN P V N l s0 j)) n)=true:=by
    rw [List.any_eq_true]
    refine ⟨n,hn,?_⟩
    rcases hor with h | h
    ·simp [KQ.2 h]
    simp [KQ.2 h]
   simp only [Yn,IR,this]
   simp
  ·have:((Dv P V oj (stN P V N l s0 j)).any fun n=>Rk (KV P V l.toArray oi (stN P V N l s0 i)) n)=true:=by
    rw [List.any_eq_true]
    exact ⟨n,hn,KQ.2 hor⟩
   simp only [Yn,IR,this]
   simp
  ·have h1:=(List.all_eq_true.1 hn) _ (List.mem_of_getElem? (hget i oi hi))
   simp only [IR,hnew,Bool.not_true,Bool.false_or,hd] at h1
   exact KU h1
  have h1:=(pair i j oi oj hi hj).2
  have hbn:Nat.beq i j=false:=by rw [CS];simp [hne]
  simp only [hbn,hnew,hd,Bool.not_true,Bool.false_or,Bool.or_eq_true] at h1
  rcases h1 with h1 | h1
  ·exact .inl h1
  refine .inr ?_
  simp only [IR,Bool.and_eq_true] at h1
  refine ⟨fun x v hx hv => ?_,fun n b hn hv => ?_⟩
  ·have:=h1.1
   simp only [hx,hv] at this
   exact this
  have:=(List.all_eq_true.1 h1.2) n hn
  simp only [hv,Bool.and_eq_true] at this
  exact ⟨Oa this.2,this.1⟩
 cases hb
theorem Ku {α:Type} {p q:α->Bool}:∀ {l:List α},(∀ x∈l,p x=true->q x=true)->∀ {y:α},y∈l->q y=true->p y=false->l.countP p<l.countP q
 | [],_,_,hy,_,_=>by cases hy
 | x::l,h,y,hy,hq,hp=>by
  have hle:l.countP p<=l.countP q:=List.countP_mono_left fun z hz=>h z (by simp [hz])
  rw [List.countP_cons,List.countP_cons]
  rcases List.mem_cons.1 hy with rfl | hy
  ·simp [hq,hp];omega
  have:=Ku (fun z hz=>h z (by simp [hz])) hy hq hp
  have hx:(if p x=true then 1 else 0)<=(if q x=true then 1 else 0):=by
   by_cases hpx:p x=true
   ·simp [hpx,h x (by simp) hpx]
   simp [hpx]
  omega
def Wf (P:Program) (V:Env P) (N:Nat) (W0:World) (X:Nat->Option Loc) (M0:Nat->Option Obj) (l:List Oper) (s0:AS) (L:Array Bool) (a:Act) (w:World):Prop :=
 ∃ M σ T H,Sim N W0 X M0 M σ T H a w/\(∀ x,∃ k,k<=l.length/\AgT l L x k/\T x=get (stN P V N l s0 k).t x)/\∀ m,∃ k,k<=l.length/\AgH P V N l s0 L m k/\H m=get (stN P V N l s0 k).h m
theorem Sg (hV:Jv P V) (hrun:Jj P V N l s0) (hback:NG l=true) (hord:Pf P V N l s0 (fun j i=>((C1 l []).getD j 0).testBit i=true)) {L:Array Bool} (hsz:l.length<=L.size) (hcl:MZ l L) {a:Act} {w:World} (hinv:Wf P V N W0 X M0 l s0 L a w) {i:Nat} {o:Oper} (ho:l[i]? = some o) (hun:L.getD i false=false) (hpre:∀ e∈o.after,Region.binds .any e=true->L.getD e.on false=true)
  {K:Act->World->Prop} {Q:Exit->Act->World->Prop} (hK:∀ a' w',Wf P V N W0 X M0 l s0 (L.setIfInBounds i true) a' w'->K a' w'):if Region.wanted o (yielded l.toArray a.tmps) then o.wpIn (FW rd) 0 P a w K Q else (∀ f,o.about P w a.eval=some f->(FW rd).fn f)/\K (a.put o.dst undef) w:=by
 obtain ⟨M,σ,T,H,hs,hT,hH⟩:=hinv
 have hil:i<l.length:=(List.getElem?_eq_some_iff.1 ho).1
 obtain ⟨ds,hst,hds⟩:=hrun i o ho
 have anc:∀ j,((C1 l []).getD i 0).testBit j=true->L.getD j false=true/\j<i:=fun j hj=>Jb hback hcl (i+1) i (by omega) o ho hpre j hj
 -- an operation that is done,or that comes behind
 have notdone:∀ j oj,l[j]? = some oj->((C1 l []).getD j 0).testBit i=true->L.getD j false=false:=fun j oj hj hbit=>by
  cases hd:L.getD j false with
  | false=>rfl
  | true =>
   have:=Jb hback hcl (j+1) j (by omega) oj hj (hcl j oj hj hd) i hbit
   rw [hun] at this;cases this.1
 have set_get:∀ j,(L.setIfInBounds i true).getD j false=true↔(j=i\/L.getD j false=true):=fun j=>by
  by_cases hji:i=j
  ·subst hji;simp [show i<L.size by omega]
  rw [getD_set_ne false hji];simp [Ne.symm hji]
 -- the reads
 have agT:∀ x,(∀ j oj,l[j]? = some oj->oj.dst=some x->j<i->((C1 l []).getD i 0).testBit j=true)->(∀ j oj,l[j]? = some oj->oj.dst=some x->i<j->((C1 l []).getD j 0).testBit i=true)->AgT l L x i:=fun x h1 h2 j oj hj hd=>by
  constructor
  ·intro hdone
   rcases Nat.lt_trichotomy j i with h | h | h
   ·exact h
   ·subst h;rw [hun] at hdone;cases hdone
   have:=notdone j oj hj (h2 j oj hj hd h);rw [hdone] at this;cases this
  intro hlt;exact (anc j (h1 j oj hj hd hlt)).1
 have agH:∀ m,(∀ j oj,l[j]? = some oj->m∈Dv P V oj (stN P V N l s0 j)->j<i->((C1 l []).getD i 0).testBit j=true)->(∀ j oj,l[j]? = some oj->m∈Dv P V oj (stN P V N l s0 j)->i<j->((C1 l []).getD j 0).testBit i=true)->AgH P V N l s0 L m i:=fun x h1 h2 j oj hj hd=>by
  constructor
  ·intro hdone
   rcases Nat.lt_trichotomy j i with h | h | h
   ·exact h
   ·subst h;rw [hun] at hdone;cases hdone
   have:=notdone j oj hj (h2 j oj hj hd h);rw [hdone] at this;cases this
  intro hlt;exact (anc j (h1 j oj hj hd hlt)).1
 have readT:∀ x∈o.looksAt l.toArray,T x=get (stN P V N l s0 i).t x:=fun x hx=>by
  obtain ⟨k,hk,hag,he⟩:=hT x
  rw [he]
  exact Xt hrun hk (by omega) hag (agT x (fun j oj hj hd hlt=>hord.tt j i oj o hj ho hlt x hd (.inl hx)) (fun j oj hj hd hlt=>hord.tr i j o oj ho hj hlt x hd hx))
 have readH:∀ m∈KV P V l.toArray o (stN P V N l s0 i),H m=get (stN P V N l s0 i).h m:=fun m hm=>by
  obtain ⟨k,hk,hag,he⟩:=hH m
  rw [he]
  exact Xu hrun hk (by omega) hag (agH m (fun j oj hj hd hlt=>hord.hh j i oj o hj ho hlt m hd (.inl hm)) (fun j oj hj hd hlt=>hord.hr i j o oj ho hj hlt m hd hm))
 have hfresh:IY P V o (stN P V N l s0 i)=true->∀ d,o.dst=some d->RS T H d:=fun hn d hd=>by
  have h0:=hord.new0 i o ho hn d hd
  have notA:∀ j,L.getD j false=true->∀ oj,l[j]? = some oj->¬ ((C1 l []).getD j 0).testBit i=true:=fun j hj oj hoj hb=>by
   have:=notdone j oj hoj hb;rw [hj] at this;cases this
  refine ⟨fun x v hv => ?_,fun m b hb => ?_⟩
  ·obtain ⟨k,hk,hag,he⟩:=hT x
   rw [he] at hv
   rcases lM hrun k hk hv with h | ⟨j,oj,hjk,hj,hjd,hjv⟩
   ·exact h0.1 x v h
   have hdone:=(hag j oj hj hjd).2 hjk
   have hne:i≠j:=fun e=>by subst e;rw [hun] at hdone;cases hdone
   rcases hord.newT i j o oj ho hj hne hn d hd with h | h
   ·exact absurd h (notA j hdone oj hj)
   exact h.1 x v hjd hjv
  obtain ⟨k,hk,hag,he⟩:=hH m
  rw [he] at hb
  rcases lN hrun k hk hb with h | ⟨j,oj,hjk,hj,hjd,hjv⟩
  ·exact h0.2 m b h
  have hdone:=(hag j oj hj hjd).2 hjk
  have hne:i≠j:=fun e=>by subst e;rw [hun] at hdone;cases hdone
  rcases hord.newT i j o oj ho hj hne hn d hd with h | h
  ·exact absurd h (notA j hdone oj hj)
  exact h.2 m b hjd hjv
 refine QP hV hst hds hs readT readH hfresh fun M' σ' a' w' hs'=>hK a' w' ⟨M',σ',_,_,hs',fun x => ?_,fun m => ?_⟩
 ·by_cases hx:o.dst=some x
  ·simp only [hx,if_true]
   refine ⟨i+1,by omega,fun j oj hj hd => ?_,rfl⟩
   rw [set_get]
   rcases Nat.lt_trichotomy j i with h | h | h
   ·have:=(anc j (hord.tt j i oj o hj ho h x hd (.inr hx))).1
    exact ⟨fun _=>by omega,fun _=>.inr this⟩
   ·exact ⟨fun _=>by omega,fun _=>.inl h⟩
   have:=notdone j oj hj (hord.tt i j o oj ho hj h x hx (.inr hd))
   refine ⟨fun hh => ?_,fun hh=>by omega⟩
   rcases hh with hh | hh
   ·omega
   rw [this] at hh;cases hh
  simp only [hx,if_false]
  obtain ⟨k,hk,hag,he⟩:=hT x
  refine ⟨k,hk,fun j oj hj hd => ?_,he⟩
  rw [set_get]
  have hji:j≠i:=fun e=>by subst e;rw [ho] at hj;injection hj with hj;subst hj;exact hx hd
  simpa [hji] using hag j oj hj hd
 by_cases hm:m∈Dv P V o (stN P V N l s0 i)
 ·simp only [hm,if_true]
  refine ⟨i+1,by omega,fun j oj hj hd => ?_,rfl⟩
  rw [set_get]
  rcases Nat.lt_trichotomy j i with h | h | h
  ·have:=(anc j (hord.hh j i oj o hj ho h m hd (.inr hm))).1
   exact ⟨fun _=>by omega,fun _=>.inr this⟩
  ·exact ⟨fun _=>by omega,fun _=>.inl h⟩
  have:=notdone j oj hj (hord.hh i j o oj ho hj h m hm (.inr hd))
  refine ⟨fun hh => ?_,fun hh=>by omega⟩
  rcases hh with hh | hh
  ·omega
  rw [this] at hh;cases hh
 simp only [hm,if_false]
 obtain ⟨k,hk,hag,he⟩:=hH m
 refine ⟨k,hk,fun j oj hj hd => ?_,he⟩
 rw [set_get]
 have hji:j≠i:=fun e=>by subst e;rw [ho] at hj;injection hj with hj;subst hj;exact hm hd
 simpa [hji] using hag j oj hj hd
theorem lZ (hV:Jv P V) (hrun:Jj P V N l s0) (hback:NG l=true) (hord:Pf P V N l s0 (fun j i=>((C1 l []).getD j 0).testBit i=true)) {Q:Exit->Act->World->Prop} (hQ:∀ M' σ' a' w',Sim N W0 X M0 M' σ' (get (stN P V N l s0 l.length).t) (get (stN P V N l s0 l.length).h) a' w'->Q .normal a' w') :
  ∀ (f:Nat) (L:Array Bool) (a:Act) (w:World),L.size=l.length->MZ l L->(List.range l.length).countP (fun j => !L.getD j false)<=f->Wf P V N W0 X M0 l s0 L a w->wpAnyIn (FW rd) 0 P .any l.toArray Q f L a w:=by
 have hdone:∀ (L:Array Bool) (a:Act) (w:World),L.size=l.length->MZ l L->Region.ready .any l.toArray L=[]->Wf P V N W0 X M0 l s0 L a w->Q .normal a w:=by
  intro L a w hsz hcl hr hinv
  have all:∀ n j,j<n->j<l.length->L.getD j false=true:=by
   intro n
   induction n with
   | zero=>intro j h;omega
   | succ n ih =>
    intro j hj hjl
    cases hd:L.getD j false with
    | true=>rfl
    | false =>
     have ho:=List.getElem?_eq_getElem hjl
     have:j∈Region.ready .any l.toArray L:=by
      rw [mem_ready]
      refine ⟨?_,l[j],by simp,fun e he hb => ?_⟩
      ·have hj':j<L.size:=by omega
       simp [hj'] at hd ⊢;exact hd
      have h1:=(List.all_eq_true.1 hback) (l[j],j) (List.mem_zipIdx_iff_getElem?.2 (by simp))
      have h2:=(List.all_eq_true.1 h1) e (by simpa using he)
      simp only [hb,Bool.not_true,Bool.false_or] at h2
      have hlt:=Nat.le_of_ble_eq_true h2
      exact ih e.on (by omega) (by omega)
     rw [hr] at this;cases this
  obtain ⟨M,σ,T,H,hs,hT,hH⟩:=hinv
  have eT:T=get (stN P V N l s0 l.length).t:=by
   funext x
   obtain ⟨k,hk,hag,he⟩:=hT x
   rw [he]
   refine Xt hrun hk (Nat.le_refl _) hag fun j oj hj hd => ?_
   have hjl:j<l.length:=(List.getElem?_eq_some_iff.1 hj).1
   exact ⟨fun _=>hjl,fun _=>all (j+1) j (by omega) hjl⟩
  have eH:H=get (stN P V N l s0 l.length).h:=by
   funext x
   obtain ⟨k,hk,hag,he⟩:=hH x
   rw [he]
   refine Xu hrun hk (Nat.le_refl _) hag fun j oj hj hd => ?_
   have hjl:j<l.length:=(List.getElem?_eq_some_iff.1 hj).1
   exact ⟨fun _=>hjl,fun _=>all (j+1) j (by omega) hjl⟩
  rw [eT,eH] at hs
  exact hQ M σ a w hs
 intro f
 induction f with
 | zero =>
  intro L a w hsz hcl hcnt hinv
  have hr:Region.ready .any l.toArray L=[]:=by
   rw [List.eq_nil_iff_forall_not_mem]
   intro j hj
   rw [mem_ready] at hj
   obtain ⟨h1,o,ho,_⟩:=hj
   have hjl:j<l.length:=by have:=(List.getElem?_eq_some_iff.1 (by simpa using ho:l[j]? = some o)).1;exact this
   have h0:(List.range l.length).countP (fun j => !L.getD j false)=0:=by omega
   rw [List.countP_eq_zero] at h0
   have:=h0 j (List.mem_range.2 hjl)
   have hj':j<L.size:=by omega
   simp [hj'] at h1 this
   rw [h1] at this;cases this
  exact ⟨hr,hdone L a w hsz hcl hr hinv⟩
 | succ f ih =>
  intro L a w hsz hcl hcnt hinv
  refine ⟨fun hr=>hdone L a w hsz hcl hr hinv,fun i hi => ?_⟩
  rw [mem_ready] at hi
  obtain ⟨h1,o,ho,hpre⟩:=hi
  have ho':l[i]? = some o:=by simpa using ho
  have hil:i<l.length:=(List.getElem?_eq_some_iff.1 ho').1
  have hun:L.getD i false=false:=by
   have hi':i<L.size:=by omega
   simp [hi'] at h1 ⊢;exact h1
  unfold wpOpIn
  rw [ho]
  have hfin:=Sg (rd:=rd) (a:=a) (w:=w) (Q:=Q) (K:=wpAnyIn (FW rd) 0 P .any l.toArray Q f (L.setIfInBounds i true)) hV hrun hback hord (Nat.le_of_eq hsz.symm) hcl hinv ho' hun hpre fun a' w' hinv'=>by
   refine ih _ a' w' (by simp [hsz]) ?_ ?_ hinv'
   ·intro j oj hj hd e he hb
    by_cases hji:j=i
    ·subst hji
     rw [ho'] at hj;injection hj with hj;subst hj
     exact getD_set_true (hpre e he hb)
    rw [getD_set_ne false (Ne.symm hji)] at hd
    exact getD_set_true (hcl j oj hj hd e he hb)
   have hlt:(List.range l.length).countP (fun j => !(L.setIfInBounds i true).getD j false)<(List.range l.length).countP (fun j => !L.getD j false):=by
    refine Ku ?_ (List.mem_range.2 hil) ?_ ?_
    ·intro j _ hj
     by_cases hji:i=j
     ·subst hji;simp [show i<L.size by omega] at hj
     rwa [getD_set_ne false hji] at hj
    ·rw [hun];rfl
    simp [show i<L.size by omega]
   omega
  by_cases hw:Region.wanted o (yielded l.toArray a.tmps)=true
  ·simp only [hw,if_true] at hfin ⊢
   exact hfin
  simp only [hw] at hfin ⊢
  exact hfin
end
section
variable {P:Program} {V:Env P} {rd:Option Nat} {N:Nat} {W0:World} {X:Nat→Option Loc} {M0 M:Nat→Option Obj} {σ:Nat→Loc} {w:World} {a:Act} {Q:Exit→AS→Prop} {s:AS}
theorem aV (hm:P.follows .mixedOrders=true) {E:TypeId->Option (List Kd)} (hE:Io P ⟨fun _=>none,E,fun _=>false,fun _=>none⟩) {id:Nat} {l:List Oper} (ow:List Nat) (qs:List (Nat×(Bool×Nat))) (tbl:List (Nat×FuncId×List Av×Ef)) (ts ns:List Nat) (cs:List Prop) (S:AS) (htbl:Gm P tbl) (hr:H5 P ⟨EI tbl,E,Au ow,get qs⟩ N l ts ns s=some (cs,S)) (hd:Q9 P ⟨EI tbl,E,Au ow,get qs⟩ N l s=true) (hc:Bi cs) (h:Q .normal S):AWp P rd N W0 X M0 (.region id l.toArray true) Q s:=by
 have hV:=htbl.env (O:=Au ow) (q:=get qs) hE
 intro M σ a w hs
 unfold H5 at hr
 split at hr
 ·rename_i cs1 s1 h1
  simp only [Option.some.injEq,Prod.mk.injEq] at hr
  obtain ⟨rfl,rfl⟩:=hr
  obtain ⟨e1,hruns⟩:=JE (s0:=s) l 0 s s1 cs1 (fun j=>by rw [Nat.zero_add]) rfl h1 hc
  simp only [Nat.zero_add] at e1 hruns
  obtain ⟨hback,hord⟩:=L1 hd
  have hrep:∀ j,¬ ((Array.replicate l.toArray.size false).getD j false=true):=fun j hh=>by
   by_cases hj':j<l.length
   ·simp [hj'] at hh
   simp [hj'] at hh
  have hs0:Sim N W0 X M0 M σ (get s.t) (get s.h) a { w with drawn:=w.drawn+1 }:=⟨hs.os,hs.tape,hs.output,hs.size,hs.old,hs.sub,hs.new,hs.pin,hs.defers,hs.room,hs.tmps,hs.imm,fun n b hb=>(hs.blk n b hb).mono (fun _ _ h=>h) (fun _ _=>rfl) (fun _=>rfl),hs.loc,hs.inj⟩
  have hinv:Wf P ⟨EI tbl,E,Au ow,get qs⟩ N W0 X M0 l s (Array.replicate l.toArray.size false) a { w with drawn:=w.drawn+1 } :=
   ⟨M,σ,get s.t,get s.h,hs0,fun x=>⟨0,Nat.zero_le _,fun j o hj hd=>⟨fun hh=>absurd hh (hrep j),fun hh=>absurd hh (by omega)⟩,rfl⟩,fun m=>⟨0,Nat.zero_le _,fun j o hj hd=>⟨fun hh=>absurd hh (hrep j),fun hh=>absurd hh (by omega)⟩,rfl⟩⟩
  have hfin:∀ M' σ' a' w',Sim N W0 X M0 M' σ' (get (stN P ⟨EI tbl,E,Au ow,get qs⟩ N l s l.length).t) (get (stN P ⟨EI tbl,E,Au ow,get qs⟩ N l s l.length).h) a' w'->∃ s' M'' σ'',Q .normal s'/\Sim N W0 X M0 M'' σ'' (get s'.t) (get s'.h) a' w':=fun M' σ' a' w' hs'=>by
   rw [<- e1] at hs'
   exact ⟨_,M',σ',h,EA hs' ts ns⟩
  refine wpIn_region_any hm ?_
  exact lZ hV hruns hback hord (Q:=fun e a' w'=>∃ s' M' σ',Q e s'/\Sim N W0 X M0 M' σ' (get s'.t) (get s'.h) a' w') hfin _ _ _ _ (by simp) (fun j o hj hd=>absurd hd (hrep j)) (Nat.le_trans List.countP_le_length (by simp)) hinv
 cases hr
end
end
section
open Go.RowKit
def Cl.sc:Cl->Bool
 | .val _=>true
 | .clo _ k _=>Nat.beq k 0
 | _=>false
def Av.sc:Av->Bool
 | .one c=>c.sc
 | .agg l=>l.all Cl.sc
def Tv.sc:Tv->Bool
 | .av x=>x.sc
 | .tup l=>l.all Av.sc
 | .grd _ _=>false
theorem RT_sc {M M':Nat->Option Obj} {σ σ':Nat->Loc} {r:Tv} {U:Value} (hd:r.sc=true) (h:RT M σ r U):RT M' σ' r U:=by
 have cl:∀ {c:Cl} {U:Value},c.sc=true->R M σ c U->R M' σ' c U:=fun {c U} hd h=>by
  cases c with
  | val v=>exact h
  | clo f k caps =>
   have:=Nat.eq_of_beq_eq_true hd
   subst this
   obtain ⟨cs,h1,h2,_⟩:=h
   exact ⟨cs,h1,h2,fun i hi=>absurd hi (by omega)⟩
  | list=>cases hd
  | eptr=>cases hd
  | mp=>cases hd
  | ptr=>cases hd
  | own=>cases hd
  | rptr=>cases hd
  | om=>cases hd
  | any=>exact h
 have av:∀ {x:Av} {U:Value},x.sc=true->RA M σ x U->RA M' σ' x U:=fun {x U} hd h=>by
  cases x with
  | one c=>exact cl hd h
  | agg l=>obtain ⟨vs,h1,h2⟩:=h;exact ⟨vs,h1,h2.mono fun c hc b hb=>cl ((List.all_eq_true.1 hd) c hc) hb⟩
 cases r with
 | av x=>exact av hd h
 | tup l=>obtain ⟨vs,h1,h2⟩:=h;exact ⟨vs,h1,h2.mono fun c hc b hb=>av ((List.all_eq_true.1 hd) c hc) hb⟩
 | grd g x=>cases hd
section
variable {P:Program}
theorem OI (g:Nat->Cl) {k i:Nat} (hi:i<k):Aw ((List.range k).map g) i=g i:=by
 simp [Aw,List.getD_eq_getElem?_getD,hi]
def toC (cs:List (Nat×Blk)):Cl->Cl
 | .ptr n off=>match get cs n with
  | some (.cells l _)=>.eptr l.length 1 (fun _ j=>l.getD j default) 0 off
  | _=>.ptr n off
 | .clo f k caps=>.clo f k (Aw ((List.range k).map fun i=>toC cs (caps i)))
 | x=>x
def toE (cs:List (Nat×Blk)):Av->Av
 | .one c=>.one (toC cs c)
 | .agg l=>.agg (l.map (toC cs))
def KY:Blk->Bool
 | .cells l _=>l.all Cl.dv
 | _=>false
theorem WH {h:Nat->Option Blk}:∀ {ns:List Nat} {bs:List Blk},H8 h ns=some bs->∀ n b,get (ns.zip bs) n=some b->h n=some b
 | [],bs,hg,n,b,hz=>by simp [get] at hz
 | m::ns,bs,hg,n,b,hz=>by
  simp only [H8] at hg
  split at hg
  ·rename_i b0 bs0 h1 h2
   injection hg with hg
   subst hg
   simp only [List.zip_cons_cons,get,CS] at hz
   by_cases hmn:m=n
   ·subst hmn;simp at hz;subst hz;exact h1
   simp [hmn] at hz;exact WH h2 n b hz
  cases hg
theorem Kw {f:FuncId} {xs:List Av} {ns:List Nat} {bs:List Blk} {r:Tv} (h1:∀ args w,(callFunc f args).run P w=.ok (.enter f args) w) (hb:bs.all KY=true) (hr:r.sc=true) (h:E5 P f (xs.map (toE (ns.zip bs))) r):Eo P f xs (rdI ns bs r):=by
 classical
 refine .inl ⟨h1,fun M σ w hh args cs' g hs hargs hres hc => ?_⟩
 simp only [rdI,res] at hres
 split at hres
 ·rename_i bs' hg
  simp only [Option.some.injEq,Prod.mk.injEq] at hres
  obtain ⟨rfl,rfl⟩:=hres
  have:=hc.head
  subst this
  let M':Nat->Option Obj:=fun b=>if ∃ n bl,get (ns.zip bs') n=some bl/\(σ n).b=b then w.heap[b]? else M b
  have himm:∀ b o,M' b=some o->w.heap[b]? = some o:=fun b o hm=>by
   simp only [M'] at hm
   split at hm
   ·exact hm
   exact hs.imm b o hm
  have hsub:∀ b o,M b=some o->M' b=some o:=fun b o hm=>by
   simp only [M']
   split
   ·exact hs.imm b o hm
   exact hm
  have hC:∀ {c:Cl} {V:Value},R M σ c V->R M' σ (toC (ns.zip bs') c) V:=by
   intro c
   induction c with
   | ptr n off =>
    intro V hR
    simp only [toC]
    split
    ·rename_i l T hgl
     have hh:=WH hg n _ hgl
     obtain ⟨hnil,c,hblk,hl⟩:=hs.blk n _ hh
     have hcap:l.all Cl.dv=true:=by
      have:(Blk.cells l T)∈bs':=by
       have:=C6 hgl
       exact (List.of_mem_zip this).2
      exact (List.all_eq_true.1 hb) _ this
     have hV0:V=.pointer (some ⟨(σ n).b,off,none⟩):=hR
     subst hV0
     have hM':M' (σ n).b=some (.cells c.toArray T):=by
      simp only [M']
      rw [if_pos ⟨n,_,hgl,rfl⟩];exact hblk
     show RC M' _ _
     have:=RC.eptr (M:=M') l.length 1 (fun _ j=>l.getD j default) 0 off (σ n).b 0 (fun j=>c.getD j undef) (fun j hj=>by
      have hjc:j<c.length:=by rw [<- hl.length];exact hj
      simp only [Ei,hM',Nat.zero_add,List.getElem?_toArray]
      simp [List.getD,hjc]) (fun j hj=>by
      obtain ⟨u,hu,hRu⟩:=hl.get j _ (List.getElem?_eq_getElem hj)
      simp only [List.getD,List.getElem?_eq_getElem hj,hu,Option.getD_some]
      exact EN hsub ((Jw ((List.all_eq_true.1 hcap) _ (List.getElem_mem _))).1 hRu))
     rw [Nat.zero_add] at this
     exact this
    exact hR
   | clo f k caps ih =>
    intro V hR
    obtain ⟨cs,e1,e2,e3⟩:=hR
    exact ⟨cs,e1,e2,fun i hi=>by rw [OI _ hi];exact ih i (e3 i hi)⟩
   | val v=>intro V hR;exact hR
   | own=>intro V hR;exact Dl hsub (fun _ _=>rfl) hR
   | rptr=>intro V hR;exact Dl hsub (fun _ _=>rfl) hR
   | om=>intro V hR;exact Dl hsub (fun _ _=>rfl) hR
   | any=>intro V hR;exact hR
   | list=>intro V hR;exact Dl hsub (fun _ _=>rfl) hR
   | eptr=>intro V hR;exact Dl hsub (fun _ _=>rfl) hR
   | mp=>intro V hR;exact Dl hsub (fun _ _=>rfl) hR
  have hx:L2 (RA M' σ) (xs.map (toE (ns.zip bs'))) args:=by
   refine L2.of (by rw [List.length_map];exact hargs.length) fun i x V hx hV => ?_
   rw [List.getElem?_map] at hx
   obtain ⟨x0,hx0,rfl⟩:=Option.map_eq_some_iff.1 hx
   obtain ⟨V',hV',hR⟩:=hargs.get i x0 hx0
   rw [hV] at hV';injection hV' with hV';subst hV'
   cases x0 with
   | one c=>exact hC hR
   | agg l =>
    obtain ⟨vs,e1,e2⟩:=hR
    refine ⟨vs,e1,?_⟩
    clear hx0 e1 hx
    induction e2 with
    | nil=>exact .nil
    | cons e3 _ ih=>exact .cons (hC e3) ih
  refine (h M' σ w args himm hx).mono ?_
  rintro en w' ⟨U,hU,M'',hk,hRU⟩
  exact ⟨U,hU,fun dst _=>⟨M,σ,⟨hk.os,hk.tape,hk.output,hk.size,hk.old,fun _ _ h=>h,fun _ _ h h'=>by (rw [h] at h';cases h'),fun b o hm=>hk.imm b o (hk.sub b o (hsub b o hm))⟩,rfl,RT_sc hr (hRU σ)⟩⟩
 cases hres
theorem Mu (k:Nat):Au [k] k=true:=by unfold Au;rw [Nat.beq_refl];rfl
def Wr (P:Program) (f:FuncId) (K:Nat) (xs:List Av) (b0:Blk) (r:Tv) (b1:Blk):Prop:=∀ (M:Nat->Option Obj) (σ:Nat->Loc) (w:World) (args:List Value),(∀ b o,M b=some o->w.heap[b]? = some o)->BX M σ w (σ K) b0->(σ K).nil=false->M (σ K).b=none->L2 (RA M σ) xs args ->
 Calls P f args.toArray w fun en w'=>∃ U,en=.returned U/\∃ M',Gg w w' M M' (only (σ K))/\(∀ σ',RT M' σ' r U)/\∀ σ',BX M' σ' w' (σ K) b1
theorem F6 {M:Nat->Option Obj} {σ σ':Nat->Loc} {w:World} {x:Loc} {b:Blk} (hd:KY b=true) (h:BX M σ w x b):BX M σ' w x b:=by
 cases b with
 | row=>cases hd
 | omap=>cases hd
 | rowx=>cases hd
 | cells l ty =>
  obtain ⟨h0,c,hc,hl⟩:=h
  exact ⟨h0,c,hc,hl.mono fun a ha b hb=>(Jw ((List.all_eq_true.1 hd) a ha)).2 ((Jw ((List.all_eq_true.1 hd) a ha)).1 hb)⟩
def Bq (K n:Nat):Av->Av
 | .one (.ptr m off)=>bif Nat.beq m K then .one (.ptr n off) else .one (.ptr m off)
 | x=>x
def iC (K:Nat):Av->Bool
 | .one (.ptr m _)=>Nat.beq m K
 | x=>x.dv
theorem dP {f:FuncId} {K n:Nat} {xs:List Av} {b0 b1:Blk} {r:Tv} (h1:∀ args w,(callFunc f args).run P w=.ok (.enter f args) w) (hx:xs.all (iC K)=true) (hd0:KY b0=true) (h:Wr P f K xs b0 r b1):Eo P f (xs.map (Bq K n)) (wrI n b0 r b1):=by
 refine .inl ⟨h1,fun M σ w hh args cs' g hs hargs hres hc => ?_⟩
 simp only [wrI,res,H8] at hres
 cases hn:hh n with
 | none=>rw [hn] at hres;cases hres
 | some b =>
  rw [hn] at hres
  simp only [Option.some.injEq,Prod.mk.injEq] at hres
  obtain ⟨rfl,rfl⟩:=hres
  have:=hc.head
  subst this
  have hblk:=hs.blk n _ hn
  have hnil:(σ n).nil=false:=by
   cases b with
   | row=>cases hd0
   | omap=>cases hd0
   | rowx=>cases hd0
   | cells l ty=>exact hblk.1
  have hM:M (σ n).b=none:=by
   rcases hs.loc n _ hn with h | h
   ·rw [hnil] at h;cases h
   exact h
  let σ2:Nat->Loc:=upd σ K (σ n)
  have hK:σ2 K=σ n:=BH _ _ _
  have hargs2:L2 (RA M σ2) xs args:=by
   refine L2.of (by have:=hargs.length;simpa using this) fun i x V hxi hV => ?_
   obtain ⟨V',hV',hR⟩:=hargs.get i (Bq K n x) (by rw [List.getElem?_map,hxi];rfl)
   rw [hV] at hV';injection hV' with hV';subst hV'
   have hok:=(List.all_eq_true.1 hx) x (List.mem_of_getElem? hxi)
   unfold iC at hok
   split at hok
   ·rename_i m off
    simp only [Bq,hok,cond_true] at hR
    have:=Nat.eq_of_beq_eq_true hok
    subst this
    have hR':V=.pointer (some ⟨(σ n).b,off,none⟩):=hR
    show V=.pointer (some ⟨(σ2 m).b,off,none⟩)
    rw [hK];exact hR'
   rename_i hne
   have:Bq K n x=x:=by
    unfold Bq
    split
    ·rename_i m off;exact (hne m off rfl).elim
    rfl
   rw [this] at hR
   have:=HU (σ':=σ2) (r:=.av x) hok hR
   exact this
  refine (h M σ2 w args hs.imm (by rw [hK];exact F6 hd0 hblk) (by rw [hK];exact hnil) (by rw [hK];exact hM) hargs2).mono ?_
  rintro en w' ⟨U,hU,M',hk,hR,hb⟩
  rw [hK] at hk
  refine ⟨U,hU,fun dst _=>⟨M',σ,hk,rfl,hR σ,?_⟩⟩
  have:=hb σ
  rw [hK] at this
  exact this
end
def Ng (P:Program) (rd:Option Nat) (N:Nat) (W0:World) (X:Nat->Option Loc) (M0:Nat->Option Obj) (c:Code) (Q:Exit->AS->Prop):Nat->AS->Prop
 | 0,_=>False
 | n+1,s=>AWp P rd N W0 X M0 c (ATh (Ng P rd N W0 X M0 c Q n) Q) s
theorem DZ {P:Program} {rd:Option Nat} {N:Nat} {W0:World} {X:Nat->Option Loc} {M0:Nat->Option Obj} {c:Code} {Q:Exit->AS->Prop} {n:Nat} {s:AS} (h:AWp P rd N W0 X M0 c (ATh (Ng P rd N W0 X M0 c Q n) Q) s):Ng P rd N W0 X M0 c Q (n+1) s:=h
theorem G0 {P:Program} {rd:Option Nat} {N:Nat} {W0:World} {X:Nat->Option Loc} {M0:Nat->Option Obj} {c:Code} {Q:Exit->AS->Prop} {s:AS} (n:Nat) (h:Ng P rd N W0 X M0 c Q n s):AWp P rd N W0 X M0 (.loop c) Q s:=by
 have key:∀ n s,Ng P rd N W0 X M0 c Q n s->∀ M σ a w,Sim N W0 X M0 M σ (get s.t) (get s.h) a w->Code.roundsIn (FW rd) 0 P c (fun e a' w'=>∃ s' M' σ',Q e s'/\Sim N W0 X M0 M' σ' (get s'.t) (get s'.h) a' w') n a w:=by
  intro n
  induction n with
  | zero=>intro s h;exact h.elim
  | succ n ih =>
   intro s h M σ a w hs
   rw [roundsIn_succ]
   refine wpIn_mono (h M σ a w hs) ?_
   rintro e a' w' ⟨s',M',σ',h1,h2⟩
   cases e with
   | normal=>exact ih s' h1 M' σ' a' w' h2
   | _=>exact ⟨s',M',σ',h1,h2⟩
 intro M σ a w hs
 exact wpIn_loop_rounds n (key n s h M σ a w hs)
inductive ClE:Cl->Cl->Prop
 | refl (c:Cl):ClE c c
 | list (t t':Bool) (sz len:Nat) (f f':Nat->Nat->Cl) (h:∀ i j,i<len->j<sz->ClE (f i j) (f' i j)) (ht:t'=true->t=true):ClE (.list t sz len f) (.list t' sz len f')
 | nil (sz:Nat) (f:Nat->Nat->Cl):ClE (.val (.slice none 0 0)) (.list false sz 0 f)
 | own (n sz:Nat) {l l':Nat} (h:l=l'):ClE (.own n sz l) (.own n sz l')
 | clo (f:FuncId) (k:Nat) (c c':Nat->Cl) (h:∀ i,i<k->c i=c' i):ClE (.clo f k c) (.clo f k c')
 | any (c:Cl):ClE c .any
theorem Y3 {M:Nat->Option Obj} {c c':Cl} (he:ClE c c'):∀ V,RC M c V->RC M c' V:=by
 induction he with
 | refl=>exact fun _ h=>h
 | nil sz f=>intro V h;cases h with | val _ _=>exact RC.nil _ _ _ rfl
 | own n sz hl=>intro V h;cases h
 | any c=>intro V h;exact .any V (RK (σ:=fun _=>⟨0,0,false⟩) (RN h))
 | clo f k c c' hc =>
  intro V h
  cases h with
  | clo _ _ _ cs h1 h2=>exact .clo _ _ _ cs h1 fun i hi=>by rw [<- hc i hi];exact h2 i hi
 | list t t' sz len f f' hf ht ih =>
  intro V h
  cases h with
  | nil _ _ _ h0 =>
   refine .nil _ _ _ ?_
   cases t' with
   | false=>rfl
   | true=>rw [ht rfl] at h0;cases h0
  | mt _ _ _ p0 cap h5=>exact .mt _ _ _ p0 cap (fun h=>h5 (ht h))
  | list _ _ _ _ b off cap g h1 h2 h4 h5=>exact .list _ _ _ _ b off cap g h1 (fun i j hi hj=>ih i j hi hj _ (h2 i j hi hj)) h4 (fun h=>h5 (ht h))
theorem aY {M:Nat->Option Obj} {σ:Nat->Loc} {c c':Cl} {V:Value} (he:ClE c c') (h:R M σ c V):R M σ c' V:=by
 cases he with
 | refl=>exact h
 | nil sz f=>obtain ⟨rfl,_⟩:=h;exact RC.nil _ _ _ rfl
 | own n sz hl=>subst hl;exact h
 | any c=>exact RK h
 | clo f k c c' hc =>
  obtain ⟨cs,h1,h2,h3⟩:=h
  exact ⟨cs,h1,h2,fun i hi=>by rw [<- hc i hi];exact h3 i hi⟩
 | list t t' sz len f f' hf ht=>exact Y3 (.list t t' sz len f f' hf ht) V h
section
variable {P:Program} {rd:Option Nat} {N:Nat} {W0:World} {X:Nat→Option Loc} {M0 M:Nat→Option Obj} {Q:Exit→AS→Prop} {s:AS}
end
end
section
open Go.ChangeShapes Go.WideShapes Go.ChangeAt Go.RowKit
def MW (w:World):Nat->Option Obj:=fun b=>w.heap[b]?
def Hq (P:Program) (t:TypeId) {T:Type} (c:T->List Cl) (ok:T->Prop):Prop :=
 ∀ {H:Type} (enc:TypeId×Value->H) (w:World) (base:Nat) (spare:Nat->Bool) (held:Bool) (fuel:Nat) (cs:List Value) (x:DataW H×List MemPlace),
  DataW.trod enc P w base spare held fuel t cs=some x->∃ a:T,ok a/\L2 (RC (MW w)) (c a) cs
def WF (k:IntKind) (n:Int):Prop:=(Lit.int k n).wf=true
section
variable {P:Program} {t:TypeId}
theorem R5 {k:IntKind} (ht:P.underlying t=some (.int k)):Hq P t (fun n:Int=>[.val (.int k n)]) (WF k):=by
 intro H enc w base spare held fuel cs x h
 obtain ⟨n,rfl,_,hw⟩:=DataW.trod_int ht h
 exact ⟨n,hw,.cons (.val _ rfl) .nil⟩
theorem R4 {T S:Type} {c:T->List Cl} {ok:T->Prop} {c':S->List Cl} {ok':S->Prop} (h:Hq P t c ok) (g:∀ a,ok a->∃ s,ok' s/\c' s=c a):Hq P t c' ok':=by
 intro H enc w base spare held fuel cs x hx
 obtain ⟨a,h1,h2⟩:=h enc w base spare held fuel cs x hx
 obtain ⟨s,h3,h4⟩:=g a h1
 exact ⟨s,h3,by rw [h4];exact h2⟩
def VA (P:Program):List Field->Nat
 | []=>0
 | f::r=>P.cellsOf f.type+VA P r
def Uy (P:Program) (off:Nat) (fs:List Field) {T:Type} (c:T->List Cl) (ok:T->Prop):Prop :=
 ∀ {H:Type} (enc:TypeId×Value->H) (w:World) (base:Nat) (spare:Nat->Bool) (held:Bool) (fuel:Nat) (cs:List Value),
  (∀ f∈fs,∃ y,DataW.trod enc P w base spare held fuel f.type ((cs.drop f.offset).take (P.cellsOf f.type))=some y)->off+VA P fs=cs.length->∃ a:T,ok a/\L2 (RC (MW w)) (c a) (cs.drop off)
theorem YF {off:Nat}:Uy P off [] (fun _:Unit=>[]) (fun _=>True):=by
 intro H enc w base spare held fuel cs _ hl
 simp only [VA,Nat.add_zero] at hl
 refine ⟨(),trivial,?_⟩
 rw [List.drop_eq_nil_of_le (by omega)]
 exact .nil
theorem Om {off:Nat} {f:Field} {fs:List Field} {T S:Type} {c:T->List Cl} {ok:T->Prop} {c':S->List Cl} {ok':S->Prop} (n:Nat) (hn:P.cellsOf f.type=n) (ho:f.offset=off) (h:Hq P f.type c ok) (h':Uy P (off+n) fs c' ok') :
  Uy P off (f::fs) (fun p:T×S=>c p.1++c' p.2) (fun p=>ok p.1/\ok' p.2):=by
 subst hn
 intro H enc w base spare held fuel cs hf hl
 obtain ⟨y,hy⟩:=hf f (List.mem_cons_self ..)
 obtain ⟨a,h1,h2⟩:=h enc w base spare held fuel _ _ hy
 simp only [VA] at hl
 obtain ⟨b,h3,h4⟩:=h' enc w base spare held fuel cs (fun f' hm=>hf f' (List.mem_cons_of_mem _ hm)) (by omega)
 refine ⟨(a,b),⟨h1,h3⟩,?_⟩
 rw [ho] at h2
 have:=h2.append h4
 rwa [<- List.drop_drop,List.take_append_drop] at this
theorem UB {fs:Array Field} {T:Type} {c:T->List Cl} {ok:T->Prop} (ht:P.underlying t=some (.struct fs)) (htot:VA P fs.toList=P.cellsOf t) (h:Uy P 0 fs.toList c ok):Hq P t c ok:=by
 intro H enc w base spare held fuel cs x hx
 obtain ⟨xs,n,_,_,hcs,hxs,hi⟩:=DataW.trod_struct ht hx
 obtain ⟨a,h1,h2⟩:=h enc w base spare held n cs (fun f hm=>by
  obtain ⟨i,hi',hfi⟩:=List.getElem_of_mem hm
  have h1:=hi i f (by rw [<- hfi];simp)
  have h2:xs[i]? = some (xs[i]'(by rw [hxs];simpa using hi')):=List.getElem?_eq_getElem _
  exact ⟨_,h1.trans h2⟩) (by omega)
 exact ⟨a,h1,by simpa using h2⟩
theorem VY {n:Nat} {e:TypeId} {T:Type} {c:T->List Cl} {ok:T->Prop} (ht:P.underlying t=some (.array n e)) (htot:n*P.cellsOf e=P.cellsOf t) (h:Hq P e c ok):Hq P t (fun xs:List T=>xs.flatMap c) (fun xs=>xs.length=n/\∀ x∈xs,ok x):=by
 intro H enc w base spare held fuel cs x hx
 obtain ⟨xs,m,_,_,hcs,hxs,hi⟩:=DataW.trod_array ht hx
 have key:∀ (k:Nat) (ds:List Value),ds.length=k*P.cellsOf e->(∀ i,i<k->∃ y,DataW.trod enc P w base spare held m e ((ds.drop (i*P.cellsOf e)).take (P.cellsOf e))=some y)->∃ zs:List T,(zs.length=k/\∀ x∈zs,ok x)/\L2 (RC (MW w)) (zs.flatMap c) ds:=by
  intro k
  induction k with
  | zero =>
   intro ds hl _
   have:ds=[]:=List.eq_nil_of_length_eq_zero (by omega)
   subst this
   exact ⟨[],⟨rfl,fun x hx=>by cases hx⟩,.nil⟩
  | succ k ih =>
   intro ds hl hd
   obtain ⟨y,hy⟩:=hd 0 (by omega)
   simp only [Nat.zero_mul,List.drop_zero] at hy
   obtain ⟨a,h1,h2⟩:=h enc w base spare held m _ _ hy
   obtain ⟨zs,⟨h3,h4⟩,h5⟩:=ih (ds.drop (P.cellsOf e)) (by rw [List.length_drop,hl,Nat.succ_mul];omega) (fun i hi=>by
    have:=hd (i+1) (by omega)
    rwa [Nat.succ_mul,Nat.add_comm,<- List.drop_drop] at this)
   refine ⟨a::zs,⟨by simp [h3],fun x hx => ?_⟩,?_⟩
   ·rcases List.mem_cons.1 hx with rfl | hx
    ·exact h1
    exact h4 x hx
   have:=h2.append h5
   rwa [List.take_append_drop] at this
 exact key n cs (by omega) (fun i hi'=>by
  have h1:=hi i hi'
  have h2:xs[i]? = some (xs[i]'(by omega)):=List.getElem?_eq_getElem _
  exact ⟨_,h1.trans h2⟩)
theorem OU {w:World} {base:Nat} {a:Addr} {n:Nat} {ci:List Value} (h:w.cells? base a n=some ci):ci.length=n/\∀ j,j<n->w.cell? (a.add j)=ci[j]? := by
 unfold World.cells? at h
 split at h
 ·exact ⟨by simpa using mapM_some_length h,fun j hj=>mapM_some_get h j j (by simp [hj])⟩
 cases h
theorem Sk {w:World} {a:Addr} {v:Value} (h:w.cell? a=some v):a.spot=none/\Ei (MW w) a.block a.off=some v:=by
 unfold World.cell? at h
 unfold Ei MW
 split at h
 ·rename_i c t f hh
  rw [hh]
  split at h
  ·cases h
  rename_i hs;exact ⟨by simpa using hs,h⟩
 cases h
def SQ (S:Bool) (P:Program) (t:TypeId) {H:Type} (d:DataW H):Prop:=S=true->∀ n∈d.weights P t,n<=reachBytes
theorem sq_no {P:Program} {t:TypeId} {H:Type} {d:DataW H}:SQ false P t d:=fun h=>by cases h
theorem Oj {P:Program} {e:TypeId} {H:Type} {d:DataW H}:∀ {l:List (DataW H)},d∈l->∀ n∈d.weights P e,n∈DataW.weightsAll P e l
 | [],h,_,_=>by cases h
 | x::l,h,n,hn=>by
  simp only [DataW.weightsAll,List.mem_append]
  rcases List.mem_cons.1 h with rfl | h
  ·exact .inl hn
  exact .inr (Oj h n hn)
theorem oA {S:Bool} {P:Program} {t e:TypeId} {H:Type} {elems spare:List (DataW H)} {d:DataW H} (ht:P.underlying t=some (.slice e)) (h:SQ S P t (.slice elems spare)) (hd:d∈elems):SQ S P e d:=fun hs n hn =>
 h hs n (by simp only [DataW.weights,ht,List.mem_cons,List.mem_append];exact .inr (.inl (Oj hd n hn)))
def nJ (S:Bool) (fuel:Nat) (P:Program) (t:TypeId) {T:Type} (c:T->List Cl) (ok:T->Prop):Prop :=
 ∀ {H:Type} (enc:TypeId×Value->H) (w:World) (base:Nat) (spare:Nat->Bool) (held:Bool) (cs:List Value) (x:DataW H×List MemPlace),
  DataW.trod enc P w base spare held fuel t cs=some x->SQ S P t x.1->∃ a:T,ok a/\L2 (RC (MW w)) (c a) cs
theorem Qe {S:Bool} {e:TypeId} {T:Type} [Inhabited T] {c:T->List Cl} {ok:T->Prop} (sz:Nat) (ht:P.underlying t=some (.slice e)) (hsz:P.cellsOf e=sz) (hpos:0<sz) (fuel:Nat) (h:∀ n,fuel=n+1->nJ S n P e c ok):nJ S fuel P t (fun xs:List T=>[lst sz c xs]) (fun xs=>xs.length<=maxLen/\∀ x∈xs,ok x):=by
 subst hsz
 intro H enc w base spare held cs x hx hq
 rcases DataW.trod_slice ht hx with ⟨rfl,_⟩ | ⟨a,len,cap,elems,rest,n,hfu,rfl,hx2,_,hlc,hcm,hel,hi,_,_⟩
 ·exact ⟨[],⟨Nat.zero_le _,fun x hx=>by cases hx⟩,.cons (show RC _ (.list false _ 0 _) _ from .nil _ _ _ rfl) .nil⟩
 have hex:∀ i,∃ a':T,i<len->ok a'/\∃ ci,w.cells? base (a.add (i*P.cellsOf e)) (P.cellsOf e)=some ci/\L2 (RC (MW w)) (c a') ci:=fun i=>by
  by_cases hil:i<len
  ·have h1:=hi i hil
   have h2:elems[i]? = some (elems[i]'(by omega)):=List.getElem?_eq_getElem _
   rw [h2] at h1
   cases hci:w.cells? base (a.add (i*P.cellsOf e)) (P.cellsOf e) with
   | none=>rw [hci] at h1;cases h1
   | some ci =>
    rw [hci] at h1
    obtain ⟨a',h3,h4⟩:=h n hfu enc w base spare held ci _ h1 (oA ht (by rw [hx2] at hq;exact hq) (List.mem_map.2 ⟨_,List.getElem_mem _,rfl⟩))
    exact ⟨a',fun _=>⟨h3,ci,rfl,h4⟩⟩
  exact ⟨default,fun k=>absurd k hil⟩
 let A:Nat->T:=fun i=>Classical.choose (hex i)
 have hA:∀ i,i<len->ok (A i)/\∃ ci,w.cells? base (a.add (i*P.cellsOf e)) (P.cellsOf e)=some ci/\L2 (RC (MW w)) (c (A i)) ci:=fun i=>Classical.choose_spec (hex i)
 refine ⟨(List.range len).map A,⟨by simp;omega,fun x hx => ?_⟩,.cons ?_ .nil⟩
 ·obtain ⟨i,hi,rfl⟩:=List.mem_map.1 hx
  exact (hA i (List.mem_range.1 hi)).1
 unfold lst
 rw [List.length_map,List.length_range]
 by_cases hl0:len=0
 ·subst hl0
  exact .mt _ _ _ _ _ (fun h=>by cases h)
 have hsp:a.spot=none:=by
  obtain ⟨_,ci,h1,_⟩:=hA 0 (by omega)
  obtain ⟨h2,h3⟩:=OU h1
  have h4:=h3 0 hpos
  have h5:ci[0]? = some (ci[0]'(by omega)):=List.getElem?_eq_getElem _
  rw [h5] at h4
  have:=(Sk h4).1
  simpa [Addr.add] using this
 obtain ⟨b,off,sp⟩:=a
 simp only at hsp
 subst hsp
 refine .list false _ _ _ b off cap (fun i j=>((w.cells? base (Addr.add ⟨b,off,none⟩ (i*P.cellsOf e)) (P.cellsOf e)).getD []).getD j undef) (fun i j hil hj => ?_) (fun i j hil hj => ?_) hlc (fun h=>by cases h)
 ·obtain ⟨_,ci,h1,_⟩:=hA i hil
  obtain ⟨h2,h3⟩:=OU h1
  have h4:=h3 j hj
  have h5:ci[j]? = some (ci[j]'(by omega)):=List.getElem?_eq_getElem _
  rw [h5] at h4
  have h6:=(Sk h4).2
  rw [Addr.add_lit,Addr.add_lit] at h6
  rw [h1]
  simp only [Option.getD_some,List.getD_eq_getElem?_getD,h5]
  simpa [Nat.add_assoc] using h6
 obtain ⟨_,ci,h1,h7⟩:=hA i hil
 obtain ⟨h2,_⟩:=OU h1
 have h5:ci[j]? = some (ci[j]'(by omega)):=List.getElem?_eq_getElem _
 obtain ⟨k,h8,h9⟩:=h7.get' j _ h5
 have e1:((List.range len).map A).getD i default=A i:=by
  rw [List.getD_eq_getElem?_getD]
  simp [hil]
 rw [e1,h1]
 simp only [Option.getD_some,List.getD_eq_getElem?_getD,h5,h8]
 exact h9
theorem Ol {e:TypeId} {T:Type} [Inhabited T] {c:T->List Cl} {ok:T->Prop} (sz:Nat) (ht:P.underlying t=some (.slice e)) (hsz:P.cellsOf e=sz) (hpos:0<sz) (h:Hq P e c ok):Hq P t (fun xs:List T=>[lst sz c xs]) (fun xs=>xs.length<=maxLen/\∀ x∈xs,ok x) :=
 fun enc w base spare held fuel cs x hx=>Qe (S:=false) sz ht hsz hpos fuel (fun n _=>fun enc w base spare held cs x hx _=>h enc w base spare held n cs x hx) enc w base spare held cs x hx sq_no
end
theorem L2_RC {M:Nat->Option Obj} {σ:Nat->Loc} {l:List Cl} {cs:List Value} (h:L2 (RC M) l cs):L2 (R M σ) l cs:=h.mono fun _ _ _ hc=>RN hc
section
variable {H:Type} {enc:TypeId×Value→H} {P:Program} {W:World} {base b0:Nat} {spare:Nat→Bool} {held:Bool} {r:Reach} {t:TypeId} {v:Value} {d:DataW H} {ps:List MemPlace}
theorem jI {T:Type} {c:T->List Cl} {ok:T->Prop} (ho:Hq P t c ok) (hs:(∃ fs,P.underlying t=some (.struct fs))\/∃ n e,P.underlying t=some (.array n e)) (hv:Value.okWide P W r b0 t v) (h:DataW.Trod enc P W base spare held t v d ps):∃ a:T,ok a/\∀ σ,RA (MW W) σ (.agg (c a)) v:=by
 have:∃ cs,v=.agg cs:=by
  rcases hs with ⟨fs,hs⟩ | ⟨n,e,hs⟩ <;> simp only [Value.okWide,hs] at hv <;> obtain ⟨cs,h1,_⟩:=hv <;> exact ⟨cs,h1⟩
 obtain ⟨⟨cs⟩,rfl⟩:=this
 obtain ⟨fuel,hx⟩:=h
 obtain ⟨a,h1,h2⟩:=ho enc W base spare held fuel cs _ hx
 exact ⟨a,h1,fun σ=>⟨cs,rfl,L2_RC h2⟩⟩
theorem Mf (hl:laidOutB P=true) {W W':World} (hb:Below W.heap.size W W'):∀ (ts:List TypeId) (vs:List Value) (ds:List (DataW H)) (ps:List MemPlace),(∀ t∈ts,P.readableRec t=true/\t<P.types.size) ->
  DataW.TrodAll enc P W 0 (fun _=>true) true ts vs ds ps->(∀ x∈ps,x.block<W.heap.size)->∀ sp:Nat->Bool,(∀ x∈ps,sp x.block=true)->DataW.TrodAll enc P W' 0 sp true ts vs ds ps
 | [],[],[],ps,_,h,_,_,_=>h
 | [],[],_::_,_,_,h,_,_,_=>h.elim
 | [],_::_,_,_,_,h,_,_,_=>by cases h
 | _::_,[],_,_,_,h,_,_,_=>by cases h
 | _::_,_::_,[],_,_,h,_,_,_=>h.elim
 | t::ts,v::vs,d::ds,ps,hr,h,hlt,sp,hsp=>by
  obtain ⟨p,q,h1,h2,rfl⟩:=h
  have hr1:=hr t (List.mem_cons_self ..)
  exact ⟨p,q,WideElems.Trod_stays hl hr1.1 hr1.2 h1 (fun x hx=>hb.same (hlt x (List.mem_append_left _ hx))) (fun x hx=>hsp x (List.mem_append_left _ hx)),
   Mf hl hb ts vs ds q (fun t' ht=>hr t' (List.mem_cons_of_mem _ ht)) h2 (fun x hx=>hlt x (List.mem_append_right _ hx)) sp (fun x hx=>hsp x (List.mem_append_right _ hx)),rfl⟩
theorem kO {f:Func} {s:ChangeSpec} {W W':World} {args:Array Value} {ds gs:List (DataW H)} {before:List MemPlace} {tb:TypeId}
  (hW:DataW.Whole enc P f.params.toList s.vars false W args.toList ds gs before) (hvars:s.vars=[]) (hspec:s.fn H (ds++[])={ results:=[.lit (.bool true)],args:=ds })
  (hl:laidOutB P=true) (hr:∀ t∈f.params.toList,P.readableRec t=true/\t<P.types.size) (hres:f.resultTypes = #[tb]) (htb:P.underlying tb=some .bool) (hb:Below W.heap.size W W') :
  s.post enc P f false true false false W args (.bool true) W':=by
 have hlt:∀ p∈before,p.block<W.heap.size:=fun p hp=>hW.lt p hp
 have hW':=hW
 obtain ⟨p,q,hA,hV,rfl,hz,hn⟩:=hW
 rw [hvars] at hV
 obtain ⟨rfl,rfl⟩:=trodVars_none hV
 refine ⟨ds,[],p++[],[],p,[],hW',?_,?_,?_,World.keptBut_mono (fun x hx=>⟨hx,?_⟩) (hb.frame (·∈p++[])),fun h=>by cases h⟩
 ·rw [hspec,hres]
  exact trodAll_cons_mk (shut_bool htb true) trodAll_mk0
 ·rw [hspec]
  exact Mf hl hb _ _ _ _ hr hA (fun x hx=>hlt x (List.mem_append_left _ hx)) _ (fun x hx=>by simpa using hlt x (List.mem_append_left _ hx))
 ·rw [hspec,hvars]
  exact rfl
 rw [List.mem_append] at hx
 exact Or.inr (by simpa using hx)
theorem V5 {f:FuncId} {xs:List Av} {args:List Value} {ans:Bool} (h:E5 P f xs (.av (.one (.b ans)))) (ha:ans=true) (hx:L2 (fun x v=>∀ σ,RA (MW W) σ x v) xs args):Calls P f args.toArray W fun e W'=>e=.returned (.bool true)/\Below W.heap.size W W':=by
 subst ha
 refine (h (MW W) (fun _=>⟨0,0,false⟩) W args (fun _ _ h=>h) (hx.mono fun _ _ _ h=>h _)).mono ?_
 rintro en w' ⟨U,rfl,M',hk,hR⟩
 have:U=.bool true:=(hR (fun _=>⟨0,0,false⟩)).1
 subst this
 exact ⟨rfl,hk.os,hk.tape,hk.output,hk.size,fun b hb=>hk.old b hb (fun h=>h)⟩
theorem Vv {n:Nat} (h:n<=maxLen):(n:Int)<=9223372036854775807:=by
 have:maxLen<=9223372036854775807:=by decide
 omega
end
end
section
open Go.RowKit
def Av.map (g:Cl->Cl):Av->Av
 | .one c=>.one (g c)
 | .agg l=>.agg (l.map g)
def Tv.map (g:Cl->Cl):Tv->Tv
 | .av x=>.av (x.map g)
 | .tup l=>.tup (l.map (Av.map g))
 | .grd p x=>.grd p (x.map g)
def Blk.map (g:Cl->Cl):Blk->Blk
 | .cells l ty=>.cells (l.map g) ty
 | .rowx sz len f ty hs=>.rowx sz len f ty (hs.map fun p=>(p.1,p.2.map g))
 | b=>b
def Vx {α:Type} (F:α->α):List (Nat×α)->List (Nat×α)
 | []=>[]
 | (k,v)::r=>(k,F v)::Vx F r
theorem WK {α β:Type} (F:α->β) (l:List (Nat×α)) (n:Nat):get (l.map fun p=>(p.1,F p.2)) n=(get l n).map F:=by
 induction l with
 | nil=>rfl
 | cons p r ih =>
  obtain ⟨k,v⟩:=p
  simp only [List.map_cons,get,CS]
  by_cases h:k=n
  ·simp [h]
  simp only [h,decide_false,cond_false,ih]
theorem FO {α:Type} (F:α->α) (l:List (Nat×α)) (n:Nat):get (Vx F l) n=(get l n).map F:=by
 induction l with
 | nil=>rfl
 | cons p r ih =>
  obtain ⟨k,v⟩:=p
  simp only [Vx,get,CS]
  by_cases h:k=n
  ·simp [h]
  simp only [h,decide_false,cond_false,ih]
def Ro (p:Cl->Prop):Av->Prop
 | .one c=>p c
 | .agg l=>∀ c∈l,p c
def nE (p:Cl->Prop):Tv->Prop
 | .av x=>Ro p x
 | .tup l=>∀ x∈l,Ro p x
 | .grd _ x=>Ro p x
def xW (p:Cl->Prop):Blk->Prop
 | .cells l _=>∀ c∈l,p c
 | .rowx _ _ _ _ hs=>∀ i l,get hs i=some l->∀ c∈l,p c
 | _=>True
section
variable {M M':Nat→Option Obj} {σ σ':Nat→Loc} {g:Cl→Cl} {p:Cl→Prop}
theorem Y4 (h:∀ c V,p c->R M σ c V->R M' σ' (g c) V):∀ {x:Av} {V:Value},Ro p x->RA M σ x V->RA M' σ' (x.map g) V
 | .one c,V,hp,hx=>h c V hp hx
 | .agg l,V,hp,⟨vs,h1,h2⟩=>by
  refine ⟨vs,h1,?_⟩
  replace hp:∀ c∈l,p c:=hp
  clear h1
  induction h2 with
  | nil=>exact .nil
  | cons h3 _ ih=>exact .cons (h _ _ (hp _ (by simp)) h3) (ih fun c hc=>hp c (by simp [hc]))
theorem Yz (h:∀ c V,p c->R M σ c V->R M' σ' (g c) V):∀ {x:Tv} {V:Value},nE p x->RT M σ x V->RT M' σ' (x.map g) V
 | .av x,V,hp,hx=>Y4 h hp hx
 | .tup l,V,hp,⟨vs,h1,h2⟩=>by
  refine ⟨vs,h1,?_⟩
  replace hp:∀ c∈l,Ro p c:=hp
  clear h1
  induction h2 with
  | nil=>exact .nil
  | cons h3 _ ih=>exact .cons (Y4 h (hp _ (by simp)) h3) (ih fun c hc=>hp c (by simp [hc]))
 | .grd q x,V,hp,hx=>⟨fun hq=>Y4 h hp (hx.1 hq),hx.2⟩
theorem Uz (h:∀ c V,p c->R M σ c V->R M' σ' (g c) V) {l:List Cl} {vs:List Value} (hp:∀ c∈l,p c) (h2:L2 (R M σ) l vs):L2 (R M' σ') (l.map g) vs:=by
 induction h2 with
 | nil=>exact .nil
 | cons h3 _ ih=>exact .cons (h _ _ (hp _ (by simp)) h3) (ih fun c hc=>hp c (by simp [hc]))
end
theorem QV {M M':Nat->Option Obj} {σ σ':Nat->Loc} {g:Cl->Cl} {p:Cl->Prop} {w:World} {x:Loc} {sz len:Nat} {f:Nat->Nat->Cl} {ty:TypeId} {hs:List (Nat×List Cl)} (hM:∀ b o,M b=some o->M' b=some o) (h:∀ c V,p c->R M σ c V->R M' σ' (g c) V) (hp:xW p (.rowx sz len f ty hs)) (h0:BX M σ w x (.rowx sz len f ty hs)) :
  BX M' σ' w x (Blk.map g (.rowx sz len f ty hs)):=by
 obtain ⟨e0,c,e1,e2,e3,e4,gv,e5,e6⟩:=h0
 refine ⟨e0,c,e1,e2,e3,e4,gv,fun i j hi hj=>⟨(e5 i j hi hj).1,fun hn=>EN hM ((e5 i j hi hj).2 ?_)⟩,fun i l hl => ?_⟩
 ·rw [WK] at hn
  cases hg:get hs i with
  | none=>rfl
  | some l=>rw [hg] at hn;cases hn
 rw [WK] at hl
 cases hg:get hs i with
 | none=>rw [hg] at hl;cases hl
 | some l0 =>
  rw [hg] at hl
  simp only [Option.map_some,Option.some.injEq] at hl
  subst hl
  exact ⟨(e6 i l0 hg).1,Uz h (hp i l0 hg) (e6 i l0 hg).2⟩
def fzC (n sz len:Nat) (f:Nat->Nat->Cl):Cl->Cl
 | .own m s l=>bif Nat.beq m n then .list false sz len f else .own m s l
 | c=>c
def fzP (n sz len:Nat):Cl->Prop
 | .own m s l=>bif Nat.beq m n then l=len/\s=sz else True
 | _=>True
def fzS (n sz len:Nat) (f:Nat->Nat->Cl) (s:AS):AS:=⟨Vx (Tv.map (fzC n sz len f)) s.t,del (Vx (Blk.map (fzC n sz len f)) s.h) n⟩
def ZD (p:Cl->Prop):List (Nat×Tv)->Prop
 | []=>True
 | (_,v)::r=>nE p v/\ZD p r
def ZE (p:Cl->Prop):List (Nat×Blk)->Prop
 | []=>True
 | (_,v)::r=>xW p v/\ZE p r
theorem ZD.get {p:Cl->Prop}:∀ {l:List (Nat×Tv)},ZD p l->∀ i v,get l i=some v->nE p v
 | [],_,i,v,h=>by cases h
 | (k,u)::r,h,i,v,hg=>by
  simp only [Go.Proofs.YtheobjkgllmnmaaGreat.get,CS] at hg
  by_cases hk:k=i
  ·simp [hk] at hg;subst hg;exact h.1
  simp [hk] at hg;exact ZD.get h.2 i v hg
theorem ZE.get {p:Cl->Prop}:∀ {l:List (Nat×Blk)},ZE p l->∀ i v,get l i=some v->xW p v
 | [],_,i,v,h=>by cases h
 | (k,u)::r,h,i,v,hg=>by
  simp only [Go.Proofs.YtheobjkgllmnmaaGreat.get,CS] at hg
  by_cases hk:k=i
  ·simp [hk] at hg;subst hg;exact h.1
  simp [hk] at hg;exact ZE.get h.2 i v hg
section
variable {P:Program} {rd:Option Nat} {N:Nat} {W0:World} {X:Nat→Option Loc} {M0 M:Nat→Option Obj} {σ:Nat→Loc} {w:World} {a:Act} {Q:Exit→AS→Prop} {s:AS}
theorem rB:∀ {l:List Nat} {n:Nat},Au l n=true->n∈l
 | [],n,h=>by cases h
 | k::r,n,h=>by
  unfold Au at h
  cases hb:Nat.beq k n with
  | true=>rw [Nat.eq_of_beq_eq_true hb];exact List.mem_cons_self ..
  | false=>rw [hb] at h;exact List.mem_cons_of_mem _ (rB h)
def xok (K:List Nat) (n:Nat) (s:AS):Bool:=K.all fun k => !Nat.beq k n&&(match get s.h k with
  | some (.cells ..)=>true
  | _=>false)
theorem gO {K:List Nat} {n:Nat} (hX:∀ k x,X k=some x->Au K k=true) (hK:xok K n s=true) (hs:Sim N W0 X M0 M σ (get s.t) (get s.h) a w) {b0:Blk} (hn:get s.h n=some b0) (hnil:(σ n).nil=false):¬ inX X (σ n).b:=by
 rintro ⟨k,x,hk,hx⟩
 have h0:=List.all_eq_true.1 hK k (rB (hX k x hk))
 simp only [Bool.and_eq_true] at h0
 obtain ⟨h1,h2⟩:=h0
 have hne:n≠k:=(Oa h1).symm
 split at h2
 ·rename_i l ty hg
  have hnk:(σ k).nil=false:=(hs.blk k _ hg).1
  have hp:=(hs.pin k x hk).2
  rcases hs.inj n k _ _ hn hg hne with h3 | h3 | h3
  ·rw [hnil] at h3;cases h3
  ·rw [hnk] at h3;cases h3
  rw [hp] at h3;exact h3 hx.symm
 cases h2
theorem Xo {K:List Nat} (n sz len:Nat) (f:Nat->Nat->Cl) (ty:TypeId) (hX:∀ k x,X k=some x->Au K k=true) (hK:xok K n s=true) (hn:get s.h n=some (.row sz len f ty)) (ht:ZD (fzP n sz len) s.t) (hb:ZE (fzP n sz len) s.h) (hs:Sim N W0 X M0 M σ (get s.t) (get s.h) a w):∃ M',Sim N W0 X M0 M' σ (get (fzS n sz len f s).t) (get (fzS n sz len f s).h) a w:=by
 have hrow:=hs.blk n _ hn
 -- the new M
 obtain ⟨M',hsub,hnew,himm,hother,hR⟩:∃ M':Nat->Option Obj,(∀ b o,M b=some o->M' b=some o)/\(∀ b o,M' b=some o->M b=none->W0.heap.size<=b)/\(∀ b o,M' b=some o->w.heap[b]? = some o)/\(∀ b,((σ n).nil=true\/b≠(σ n).b)->M' b=M b) /\
   (∀ c V,fzP n sz len c->R M σ c V->R M' σ (fzC n sz len f c) V):=by
  cases hnil:(σ n).nil with
  | true =>
   have hl0:len=0:=by
    rcases hrow with ⟨_,h⟩ | ⟨h,_⟩
    ·exact h
    rw [hnil] at h;cases h
   subst hl0
   refine ⟨M,fun _ _ h=>h,fun b o h1 h2=>(by rw [h1] at h2;cases h2),hs.imm,fun _ _=>rfl,fun c V hp hc => ?_⟩
   cases c with
   | own m s' l =>
    simp only [fzC,fzP] at *
    cases hm:Nat.beq m n with
    | false=>exact hc
    | true =>
     rw [hm] at hp
     obtain ⟨rfl,rfl⟩:=hp
     have:=Nat.eq_of_beq_eq_true hm
     subst this
     simp only [R,hnil,if_true] at hc
     rw [hc.2]
     exact .nil _ _ _ rfl
   | _=>exact hc
  | false =>
   rcases hrow with ⟨h,_⟩ | ⟨_,cc,hcc,hsz,hlc,hcm,gg,hgg⟩
   ·rw [hnil] at h;cases h
   have hloc:M (σ n).b=none/\W0.heap.size<=(σ n).b:=by
    rcases hs.loc n _ hn with h | ⟨h1,h2 | h2⟩
    ·rw [hnil] at h;cases h
    ·exact ⟨h1,h2⟩
    exact absurd h2 (gO hX hK hs hn hnil)
   refine ⟨fun b=>if b=(σ n).b then w.heap[b]? else M b,fun b o h1 => ?_,fun b o h1 h2 => ?_,fun b o h1 => ?_,fun b hb => ?_,fun c V hp hc => ?_⟩
   ·by_cases hb:b=(σ n).b
    ·subst hb;rw [hloc.1] at h1;cases h1
    simp only [hb,if_false];exact h1
   ·by_cases hb:b=(σ n).b
    ·subst hb;exact hloc.2
    simp only [hb,if_false] at h1;rw [h1] at h2;cases h2
   ·by_cases hb:b=(σ n).b
    ·simp only [hb,if_true] at h1;rw [hb];exact h1
    simp only [hb,if_false] at h1;exact hs.imm b o h1
   ·rcases hb with hb | hb
    ·cases hb
    simp only [hb,if_false]
   have hsub:∀ b o,M b=some o->(fun b=>if b=(σ n).b then w.heap[b]? else M b) b=some o:=fun b o h1=>by
    by_cases hb:b=(σ n).b
    ·subst hb;rw [hloc.1] at h1;cases h1
    simp only [hb,if_false];exact h1
   have hmono:∀ c V,R M σ c V->R (fun b=>if b=(σ n).b then w.heap[b]? else M b) σ c V:=fun c V h=>Dl hsub (fun _ _=>rfl) h
   cases c with
   | own m s' l =>
    simp only [fzC,fzP] at *
    cases hm:Nat.beq m n with
    | false=>exact hmono _ _ hc
    | true =>
     rw [hm] at hp
     obtain ⟨rfl,rfl⟩:=hp
     have:=Nat.eq_of_beq_eq_true hm
     subst this
     simp only [R,hnil,Bool.false_eq_true,if_false] at hc
     rw [hc]
     refine .list _ _ _ _ _ 0 _ gg (fun i j hi hj => ?_) (fun i j hi hj=>EN hsub (hgg i j hi hj).2) hlc (fun h=>by cases h)
     unfold Ei
     simp only [if_true,hcc,Nat.zero_add]
     exact (hgg i j hi hj).1
   | _=>exact hmono _ _ hc
 refine ⟨M',hs.os,hs.tape,hs.output,hs.size,hs.old,fun b o h1=>hsub b o (hs.sub b o h1),fun b o h1 h2 => ?_,hs.pin,hs.defers.mono hsub,hs.room,fun i v hv => ?_,himm,fun m b hb' => ?_,fun m b hb' => ?_,fun m k b c h1 h2 => ?_⟩
 ·cases hM:M b with
  | none=>exact hnew b o h1 hM
  | some o'=>exact hs.new b o' hM h2
 ·simp only [fzS,FO] at hv
  cases hg:get s.t i with
  | none=>rw [hg] at hv;cases hv
  | some v0 =>
   rw [hg] at hv
   simp only [Option.map_some,Option.some.injEq] at hv
   subst hv
   exact Yz hR (ht.get i v0 hg) (hs.tmps i v0 hg)
 ·simp only [fzS,JR,FO] at hb'
  split at hb'
  ·cases hb'
  rename_i hne
  cases hg:get s.h m with
  | none=>rw [hg] at hb';cases hb'
  | some b0 =>
   rw [hg] at hb'
   simp only [Option.map_some,Option.some.injEq] at hb'
   subst hb'
   have h0:=hs.blk m b0 hg
   cases b0 with
   | cells l ty' =>
    obtain ⟨h1,cc,h2,h3⟩:=h0
    exact ⟨h1,cc,h2,Uz hR (hb.get m _ hg) h3⟩
   | row=>exact BX.mono hsub (fun _ _=>rfl) (fun _=>rfl) h0
   | omap=>exact BX.mono hsub (fun _ _=>rfl) (fun _=>rfl) h0
   | rowx=>exact QV hsub hR (hb.get m _ hg) h0
 ·simp only [fzS,JR,FO] at hb'
  split at hb'
  ·cases hb'
  rename_i hne
  cases hg:get s.h m with
  | none=>rw [hg] at hb';cases hb'
  | some b0 =>
   rcases hs.loc m b0 hg with h1 | ⟨h1,h2⟩
   ·exact .inl h1
   by_cases hmn:(σ m).nil=true
   ·exact .inl hmn
   refine .inr ⟨?_,h2⟩
   rw [hother]
   ·exact h1
   rcases hs.inj n m _ _ hn hg hne with h3 | h3 | h3
   ·exact .inl h3
   ·exact absurd h3 hmn
   exact .inr (Ne.symm h3)
 simp only [fzS,JR,FO] at h1 h2
 split at h1
 ·cases h1
 split at h2
 ·cases h2
 intro hne
 cases hg:get s.h m with
 | none=>rw [hg] at h1;cases h1
 | some b0 =>
  cases hg2:get s.h k with
  | none=>rw [hg2] at h2;cases h2
  | some c0=>exact hs.inj m k b0 c0 hg hg2 hne
def Cv (N:Nat) (W0:World) (X:Nat->Option Loc) (M0:Nat->Option Obj) (s t:AS):Prop:=∀ M σ a w,Sim N W0 X M0 M σ (get s.t) (get s.h) a w->∃ M' σ',Sim N W0 X M0 M' σ' (get t.t) (get t.h) a w
theorem Cv.refl (s:AS):Cv N W0 X M0 s s:=fun M σ _ _ hs=>⟨M,σ,hs⟩
theorem Cv.trans {s t u:AS} (h:Cv N W0 X M0 s t) (k:Cv N W0 X M0 t u):Cv N W0 X M0 s u:=fun M σ a w hs=>(h M σ a w hs).elim fun M' h1=>h1.elim fun σ' h2=>k M' σ' a w h2
theorem aJ {s:AS} (ts ns:List Nat) (S:AS) (hS:LM ts ns s=S):Cv N W0 X M0 s S:=fun M σ _ _ hs=>⟨M,σ,hS▸EA hs ts ns⟩
theorem xB {s:AS} {K:List Nat} (S:AS) (n sz len:Nat) (f:Nat->Nat->Cl) (ty:TypeId) (hX:∀ k x,X k=some x->Au K k=true) (hK:xok K n s=true) (hn:get s.h n=some (.row sz len f ty)) (ht:ZD (fzP n sz len) s.t) (hb:ZE (fzP n sz len) s.h) (hS:fzS n sz len f s=S):Cv N W0 X M0 s S:=by
 subst hS
 intro M σ a w hs
 obtain ⟨M',h1⟩:=Xo n sz len f ty hX hK hn ht hb hs
 exact ⟨M',σ,h1⟩
theorem BS {c:Code} {s S:AS} (h:Cv N W0 X M0 s S) (k:AWp P rd N W0 X M0 c Q S):AWp P rd N W0 X M0 c Q s:=fun M σ a w hs=>(h M σ a w hs).elim fun M' h1=>h1.elim fun σ' h2=>k M' σ' a w h2
theorem DH {c:Code} {s:AS} (h:AWp P rd N W0 X M0 c (fun e s=>∃ t,Cv N W0 X M0 s t/\Q e t) s):AWp P rd N W0 X M0 c Q s:=by
 intro M σ a w hs
 refine wpIn_mono (h M σ a w hs) ?_
 rintro e a' w' ⟨s',M',σ',⟨t,h1,h2⟩,h3⟩
 obtain ⟨M'',σ'',h4⟩:=h1 M' σ' a' w' h3
 exact ⟨t,M'',σ'',h2,h4⟩
theorem Bd {c:Code} {K:AS->Prop} {s:AS} (S:AS) (h1:AWp P rd N W0 X M0 c (ATh (fun s'=>Cv N W0 X M0 s' S) Q) s) (h2:K S):AWp P rd N W0 X M0 c (ATh K Q) s:=by
 intro M σ a w hs
 refine wpIn_mono (h1 M σ a w hs) ?_
 rintro e a' w' ⟨s',M',σ',h3,h4⟩
 cases e with
 | normal =>
  obtain ⟨M'',σ'',h5⟩:=(show Cv N W0 X M0 s' S from h3) M' σ' a' w' h4
  exact ⟨_,M'',σ'',h2,h5⟩
 | _=>exact ⟨s',M',σ',h3,h4⟩
theorem BB {ι:Type} {c:Code} (S:ι->AS) (Inv:ι->Prop) (μ:ι->Nat) (round:∀ x,Inv x->AWp P rd N W0 X M0 c (ATh (fun s'=>∃ y,Inv y/\μ y<μ x/\Cv N W0 X M0 s' (S y)) Q) (S x)) (x:ι) (hx:Inv x):AWp P rd N W0 X M0 (.loop c) Q (S x):=by
 refine sG S Inv μ (fun x hx => ?_) x hx
 intro M σ a w hs
 refine wpIn_mono (round x hx M σ a w hs) ?_
 rintro e a' w' ⟨s',M',σ',h1,h2⟩
 cases e with
 | normal =>
  obtain ⟨y,hy,hm,hc⟩:=h1
  obtain ⟨M'',σ'',h5⟩:=hc M' σ' a' w' h2
  exact ⟨S y,M'',σ'',⟨y,hy,hm,rfl⟩,h5⟩
 | _=>exact ⟨s',M',σ',h1,h2⟩
end
end
section
open Go.RowKit
def Tz (q d:Nat):Cl->Cl
 | .ptr n off=>.ptr (bif Nat.beq n q then d else n) off
 | .own n sz len=>.own (bif Nat.beq n q then d else n) sz len
 | .rptr n sz i off=>.rptr (bif Nat.beq n q then d else n) sz i off
 | .om n=>.om (bif Nat.beq n q then d else n)
 | .clo f k caps=>.clo f k (Aw ((List.range k).map fun i=>Tz q d (caps i)))
 | c=>c
theorem Zk {n d:Nat} (h:(!Nat.beq n d)=true):n≠d:=Oa h
theorem PQ {M:Nat->Option Obj} {σ:Nat->Loc} (q d:Nat):∀ {c:Cl} {V:Value},c.no d=true->R M σ c V->R M (upd σ d (σ q)) (Tz q d c) V
 | .val _,_,_,h=>h
 | .ptr n off,V,hd,h=>by
  have hne:=Zk hd
  simp only [Tz,R,CS] at *
  by_cases hq:n=q
  ·subst hq;simp only [decide_true,cond_true,BH];exact h
  simp only [hq,decide_false,cond_false,CK _ _ hne];exact h
 | .own n sz len,V,hd,h=>by
  have hne:=Zk hd
  simp only [Tz,R,CS] at *
  by_cases hq:n=q
  ·subst hq;simp only [decide_true,cond_true,BH];exact h
  simp only [hq,decide_false,cond_false,CK _ _ hne];exact h
 | .rptr n sz i off,V,hd,h=>by
  have hne:=Zk hd
  simp only [Tz,R,CS] at *
  by_cases hq:n=q
  ·subst hq;simp only [decide_true,cond_true,BH];exact h
  simp only [hq,decide_false,cond_false,CK _ _ hne];exact h
 | .om n,V,hd,h=>by
  have hne:=Zk hd
  simp only [Tz,R,CS] at *
  by_cases hq:n=q
  ·subst hq;simp only [decide_true,cond_true,BH];exact h
  simp only [hq,decide_false,cond_false,CK _ _ hne];exact h
 | .list ..,_,_,h=>h
 | .eptr ..,_,_,h=>h
 | .mp ..,_,_,h=>h
 | .any,_,_,h=>h
 | .clo f k caps,V,hd,h=>by
  obtain ⟨cs,h1,h2,h3⟩:=h
  refine ⟨cs,h1,h2,fun i hi => ?_⟩
  rw [OI _ hi]
  refine PQ q d ?_ (h3 i hi)
  simp only [Cl.no,List.all_eq_true] at hd
  exact hd i (by simpa using hi)
def oQ (q d:Nat):List (Nat×Blk)->List (Nat×Blk)
 | []=>[]
 | (k,v)::r=>(bif Nat.beq k q then d else k,v.map (Tz q d))::oQ q d r
theorem Ia {q d:Nat}:∀ {l:List (Nat×Blk)},get l d=none->∀ m b,get (oQ q d l) m=some b->∃ m0 b0,get l m0=some b0/\b=b0.map (Tz q d)/\((m0=q/\m=d)\/(m0≠q/\m0=m/\m≠d))
 | [],_,m,b,h=>by cases h
 | (k,v)::r,hd,m,b,h=>by
  simp only [get,CS] at hd
  by_cases hkd:k=d
  ·simp [hkd] at hd
  simp only [hkd,decide_false,cond_false] at hd
  simp only [oQ,get,CS] at h
  by_cases hkq:k=q
  ·simp only [hkq,decide_true,cond_true] at h
   by_cases hdm:d=m
   ·simp only [hdm,decide_true,cond_true,Option.some.injEq] at h
    exact ⟨q,v,by simp [get,CS,hkq],by rw [hdm];exact h.symm,.inl ⟨rfl,hdm.symm⟩⟩
   simp only [hdm,decide_false,cond_false] at h
   obtain ⟨m0,b0,h1,h2,h3⟩:=Ia hd m b h
   refine ⟨m0,b0,?_,h2,h3⟩
   rcases h3 with ⟨_,h4⟩ | ⟨h4,_⟩
   ·exact absurd h4.symm hdm
   simp only [get,CS]
   have:¬ k=m0:=fun e=>h4 (e▸hkq)
   simp [this,h1]
  simp only [hkq,decide_false,cond_false] at h
  by_cases hkm:k=m
  ·simp only [hkm,decide_true,cond_true,Option.some.injEq] at h
   exact ⟨k,v,by simp [get,CS],h.symm,.inr ⟨hkq,hkm,hkm▸hkd⟩⟩
  simp only [hkm,decide_false,cond_false] at h
  obtain ⟨m0,b0,h1,h2,h3⟩:=Ia hd m b h
  refine ⟨m0,b0,?_,h2,h3⟩
  simp only [get,CS]
  have:¬ k=m0:=by
   rcases h3 with ⟨h4,_⟩ | ⟨_,h4,_⟩
   ·rw [h4];exact hkq
   rw [h4];exact hkm
  simp [this,h1]
def noD (d:Nat) (s:AS):Bool:=s.t.all (fun p=>p.2.no d)&&s.h.all (fun p=>p.2.no d)&&(match get s.h d with
 | none=>true
 | _=>false)
def OD (K:List Nat) (n:Nat):Bool:=K.all fun k => !Nat.beq k n
def oP (q d:Nat) (s:AS):AS:=⟨Vx (Tv.map (Tz q d)) s.t,oQ q d s.h⟩
theorem sJ {d:Nat} {v:Tv} (h:v.no d=true):nE (fun c=>c.no d=true) v:=by
 have av:∀ x:Av,x.no d=true->Ro (fun c=>c.no d=true) x:=fun x hx=>by
  cases x with
  | one c=>exact hx
  | agg l=>exact fun c hc=>(List.all_eq_true.1 hx) c hc
 cases v with
 | av x=>exact av x h
 | tup l=>exact fun x hx=>av x ((List.all_eq_true.1 h) x hx)
 | grd g x=>exact av x h
section
variable {P:Program} {rd:Option Nat} {N:Nat} {W0:World} {X:Nat→Option Loc} {M0 M:Nat→Option Obj} {σ:Nat→Loc} {w:World} {a:Act} {Q:Exit→AS→Prop} {s:AS}
theorem tJ {d:Nat} (h:noD d s=true) {i:Nat} {v:Tv} (hg:get s.t i=some v):v.no d=true:=by
 simp only [noD,Bool.and_eq_true,List.all_eq_true] at h
 exact h.1.1 _ (C6 hg)
theorem tK {d:Nat} (h:noD d s=true) {i:Nat} {v:Blk} (hg:get s.h i=some v):v.no d=true:=by
 simp only [noD,Bool.and_eq_true,List.all_eq_true] at h
 exact h.1.2 _ (C6 hg)
theorem tL {d:Nat} (h:noD d s=true):get s.h d=none:=by
 simp only [noD,Bool.and_eq_true] at h
 have:=h.2
 split at this
 ·assumption
 cases this
theorem xA {K:List Nat} (S:AS) (q d:Nat) (hX:∀ k x,X k=some x->Au K k=true) (h1:OD K q=true) (h2:OD K d=true) (hd:noD d s=true) (hS:oP q d s=S):Cv N W0 X M0 s S:=by
 subst hS
 intro M σ a w hs
 have hg:=tL hd
 have hu:∀ n,n≠d->upd σ d (σ q) n=σ n:=fun n hn=>CK _ _ hn
 have hud:upd σ d (σ q) d=σ q:=BH _ _ _
 refine ⟨M,upd σ d (σ q),⟨hs.os,hs.tape,hs.output,hs.size,hs.old,hs.sub,hs.new,fun n x hx => ?_,hs.defers,hs.room,fun i v hv => ?_,hs.imm,fun m b hb => ?_,fun m b hb => ?_,fun m k b b' hb hb' hne => ?_⟩⟩
 ·have hne:n≠d:=Oa (List.all_eq_true.1 h2 n (rB (hX n x hx)))
  rw [hu n hne]
  exact hs.pin n x hx
 ·simp only [oP,FO] at hv
  cases hgi:get s.t i with
  | none=>rw [hgi] at hv;cases hv
  | some v0 =>
   rw [hgi] at hv
   simp only [Option.map_some,Option.some.injEq] at hv
   subst hv
   exact Yz (p:=fun c=>c.no d=true) (fun c V hp hc=>PQ q d hp hc) (sJ (tJ hd hgi)) (hs.tmps i v0 hgi)
 ·obtain ⟨m0,b0,g1,rfl,g3⟩:=Ia hg m b hb
  have hloc:upd σ d (σ q) m=σ m0:=by
   rcases g3 with ⟨rfl,rfl⟩ | ⟨_,rfl,h4⟩
   ·exact hud
   exact hu _ h4
  rw [hloc]
  have h0:=hs.blk m0 b0 g1
  have hno:=tK hd g1
  cases b0 with
  | cells l ty =>
   obtain ⟨e1,cc,e2,e3⟩:=h0
   exact ⟨e1,cc,e2,Uz (p:=fun c=>c.no d=true) (fun c V hp hc=>PQ q d hp hc) (fun c hc=>(List.all_eq_true.1 hno) c hc) e3⟩
  | row=>exact h0
  | omap=>exact h0
  | rowx=>exact QV (p:=fun c=>c.no d=true) (fun _ _ h=>h) (fun c V hp hc=>PQ q d hp hc) (fun i l hl c hc=>List.all_eq_true.1 (List.all_eq_true.1 hno _ (C6 hl)) c hc) h0
 ·obtain ⟨m0,b0,g1,rfl,g3⟩:=Ia hg m b hb
  have hloc:upd σ d (σ q) m=σ m0:=by
   rcases g3 with ⟨rfl,rfl⟩ | ⟨_,rfl,h4⟩
   ·exact hud
   exact hu _ h4
  rw [hloc]
  exact hs.loc m0 b0 g1
 obtain ⟨m0,b0,g1,rfl,g3⟩:=Ia hg m b hb
 obtain ⟨k0,b0',g1',rfl,g3'⟩:=Ia hg k b' hb'
 have hl1:upd σ d (σ q) m=σ m0:=by
  rcases g3 with ⟨rfl,rfl⟩ | ⟨_,rfl,h4⟩
  ·exact hud
  exact hu _ h4
 have hl2:upd σ d (σ q) k=σ k0:=by
  rcases g3' with ⟨rfl,rfl⟩ | ⟨_,rfl,h4⟩
  ·exact hud
  exact hu _ h4
 rw [hl1,hl2]
 refine hs.inj m0 k0 b0 b0' g1 g1' ?_
 rintro rfl
 rcases g3 with ⟨e1,e2⟩ | ⟨e1,e2,_⟩ <;> rcases g3' with ⟨e3,e4⟩ | ⟨e3,e4,_⟩
 ·exact hne (e2.trans e4.symm)
 ·exact e3 e1
 ·exact e1 e3
 exact hne (e2.symm.trans e4)
def wG (n:Nat):List Nat->Bool
 | []=>false
 | k::r=>Nat.beq k n||wG n r
def Vn (d sz:Nat):Cl->Cl
 | .val (.slice none 0 0)=>.own d sz 0
 | c=>c
def mapIx (g:Cl->Cl) (is:List Nat):Nat->List Cl->List Cl
 | _,[]=>[]
 | k,c::r=>(bif wG k is then g c else c)::mapIx g is (k+1) r
def Av.mapIx (g:Cl->Cl) (is:List Nat):Av->Av
 | .one c=>.one (bif wG 0 is then g c else c)
 | .agg l=>.agg (Go.Proofs.YtheobjkgllmnmaaGreat.mapIx g is 0 l)
def Tv.mapIx (g:Cl->Cl) (is:List Nat):Tv->Tv
 | .av x=>.av (x.mapIx g is)
 | v=>v
def dA (g:Cl->Cl) (is:List Nat):Nat->List (Nat×List Cl)->List (Nat×List Cl)
 | _,[]=>[]
 | k,(m,l)::r=>(m,Go.Proofs.YtheobjkgllmnmaaGreat.mapIx g is k l)::dA g is (k+l.length) r
def Blk.mapIx (g:Cl->Cl) (is:List Nat):Blk->Blk
 | .cells l ty=>.cells (Go.Proofs.YtheobjkgllmnmaaGreat.mapIx g is 0 l) ty
 | .rowx sz len f ty hs=>.rowx sz len f ty (dA g is 0 hs)
 | b=>b
theorem WM (g:Cl->Cl) (is:List Nat):∀ (hs:List (Nat×List Cl)) (k i:Nat) (l:List Cl),get (dA g is k hs) i=some l->∃ k' l0,get hs i=some l0/\l=Go.Proofs.YtheobjkgllmnmaaGreat.mapIx g is k' l0
 | [],k,i,l,h=>by cases h
 | (m,l0)::r,k,i,l,h=>by
  simp only [dA,get,CS] at h ⊢
  by_cases e:m=i
  ·simp [e] at h;exact ⟨k,l0,by simp [e],h.symm⟩
  simp only [e,decide_false,cond_false] at h ⊢
  exact WM g is r _ i l h
theorem LO (g:Cl->Cl) (is:List Nat):∀ (hs:List (Nat×List Cl)) (k i:Nat),get (dA g is k hs) i=none->get hs i=none
 | [],k,i,h=>rfl
 | (m,l0)::r,k,i,h=>by
  simp only [dA,get,CS] at h ⊢
  by_cases e:m=i
  ·simp [e] at h
  simp only [e,decide_false,cond_false] at h ⊢
  exact LO g is r _ i h
def SB {α:Type} (F:List Nat->α->α) (is:List (Nat×List Nat)):List (Nat×α)->List (Nat×α)
 | []=>[]
 | (k,v)::r=>(k,F ((get is k).getD []) v)::SB F is r
theorem SR {α:Type} (F:List Nat->α->α) (is:List (Nat×List Nat)) (l:List (Nat×α)) (n:Nat):get (SB F is l) n=(get l n).map (F ((get is n).getD [])):=by
 induction l with
 | nil=>rfl
 | cons p r ih =>
  obtain ⟨k,v⟩:=p
  simp only [SB,get,CS]
  by_cases h:k=n
  ·simp [h]
  simp only [h,decide_false,cond_false,ih]
theorem Zr {d sz:Nat} {x:Loc} (hx:x.nil=true):∀ {c:Cl} {V:Value},c.no d=true->R M σ c V->∀ t:Bool,R M (upd σ d x) (bif t then Vn d sz c else c) V:=by
 intro c V hd hc t
 have keep:R M (upd σ d x) c V:=Dl (fun _ _ h=>h) (fun n hn=>by
  by_cases e:n=d
  ·subst e;rw [hd] at hn;cases hn
  exact CK _ _ e) hc
 cases t with
 | false=>exact keep
 | true =>
  show R M (upd σ d x) (Vn d sz c) V
  unfold Vn
  split
  ·obtain ⟨rfl,_⟩:=hc
   simp only [R,BH,hx,if_true]
   exact ⟨trivial,trivial⟩
  exact keep
theorem NP {d sz:Nat} {x:Loc} (hx:x.nil=true) (is:List Nat):∀ (k:Nat) {l:List Cl} {vs:List Value},(∀ c∈l,c.no d=true)->L2 (R M σ) l vs->L2 (R M (upd σ d x)) (mapIx (Vn d sz) is k l) vs
 | k,[],vs,hp,h=>by cases h;exact .nil
 | k,c::r,vs,hp,h=>by
  cases h with | cons h1 h2 =>
  exact .cons (Zr hx (hp c (by simp)) h1 _) (NP hx is (k+1) (fun c hc=>hp c (by simp [hc])) h2)
def ghS (d sz:Nat) (f:Nat->Nat->Cl) (ty:TypeId) (it ih:List (Nat×List Nat)) (s:AS):AS:=⟨SB (Tv.mapIx (Vn d sz)) it s.t,(d,.row sz 0 f ty)::SB (Blk.mapIx (Vn d sz)) ih s.h⟩
theorem mC {K:List Nat} (S:AS) (d sz:Nat) (f:Nat->Nat->Cl) (ty:TypeId) (it ih:List (Nat×List Nat)) (hX:∀ k x,X k=some x->Au K k=true) (h2:OD K d=true) (hd:noD d s=true) (hS:ghS d sz f ty it ih s=S):Cv N W0 X M0 s S:=by
 subst hS
 intro M σ a w hs
 have hg:=tL hd
 have hu:∀ n,n≠d->upd σ d ⟨0,0,true⟩ n=σ n:=fun n hn=>CK _ _ hn
 have hud:(upd σ d ⟨0,0,true⟩ d)=⟨0,0,true⟩:=BH _ _ _
 have hkey:∀ m b,get ((d,Blk.row sz 0 f ty)::SB (Blk.mapIx (Vn d sz)) ih s.h) m=some b->(m=d/\b=.row sz 0 f ty)\/(m≠d/\∃ b0,get s.h m=some b0/\b=b0.mapIx (Vn d sz) ((get ih m).getD [])):=fun m b hb=>by
  simp only [get,CS] at hb
  by_cases e:d=m
  ·simp [e] at hb;exact .inl ⟨e.symm,by rw [<- hb]⟩
  simp only [e,decide_false,cond_false,SR] at hb
  cases hg0:get s.h m with
  | none=>rw [hg0] at hb;cases hb
  | some b0 =>
   rw [hg0] at hb
   simp only [Option.map_some,Option.some.injEq] at hb
   exact .inr ⟨Ne.symm e,b0,rfl,hb.symm⟩
 refine ⟨M,upd σ d ⟨0,0,true⟩,⟨hs.os,hs.tape,hs.output,hs.size,hs.old,hs.sub,hs.new,fun n x hx => ?_,hs.defers,hs.room,fun i v hv => ?_,hs.imm,fun m b hb => ?_,fun m b hb => ?_,fun m k b b' hb hb' hne => ?_⟩⟩
 ·have hne:n≠d:=Oa (List.all_eq_true.1 h2 n (rB (hX n x hx)))
  rw [hu n hne]
  exact hs.pin n x hx
 ·simp only [ghS,SR] at hv
  cases hgi:get s.t i with
  | none=>rw [hgi] at hv;cases hv
  | some v0 =>
   rw [hgi] at hv
   simp only [Option.map_some,Option.some.injEq] at hv
   subst hv
   have h0:=hs.tmps i v0 hgi
   have hno:=tJ hd hgi
   have hmono:RT M (upd σ d ⟨0,0,true⟩) v0 (a.tmps.getD i undef):=Da (fun _ _ h=>h) (fun n hn=>by
    by_cases e:n=d
    ·subst e;rw [hno] at hn;cases hn
    exact hu n e) h0
   cases v0 with
   | av x =>
    cases x with
    | one c=>exact Zr rfl hno h0 _
    | agg l =>
     obtain ⟨vs,e1,e2⟩:=h0
     exact ⟨vs,e1,NP rfl _ 0 (fun c hc=>(List.all_eq_true.1 hno) c hc) e2⟩
   | tup l=>exact hmono
   | grd g x=>exact hmono
 ·rcases hkey m b hb with ⟨rfl,rfl⟩ | ⟨hne,b0,g1,rfl⟩
  ·rw [hud];exact .inl ⟨rfl,rfl⟩
  rw [hu m hne]
  have h0:=hs.blk m b0 g1
  have hno:=tK hd g1
  cases b0 with
  | cells l ty' =>
   obtain ⟨e1,cc,e2,e3⟩:=h0
   exact ⟨e1,cc,e2,NP rfl _ 0 (fun c hc=>(List.all_eq_true.1 hno) c hc) e3⟩
  | row=>exact h0
  | omap=>exact h0
  | rowx sz' len' f' ty' hh =>
   obtain ⟨e0,c,e1,e2,e3,e4,gv,e5,e6⟩:=h0
   refine ⟨e0,c,e1,e2,e3,e4,gv,fun i j hi hj=>⟨(e5 i j hi hj).1,fun hn=>(e5 i j hi hj).2 (LO _ _ _ _ _ hn)⟩,fun i l hl => ?_⟩
   obtain ⟨k',l0,hl0,rfl⟩:=WM _ _ _ _ _ _ hl
   exact ⟨(e6 i l0 hl0).1,NP rfl _ k' (fun c hc=>List.all_eq_true.1 (List.all_eq_true.1 hno _ (C6 hl0)) c hc) (e6 i l0 hl0).2⟩
 ·rcases hkey m b hb with ⟨rfl,rfl⟩ | ⟨hne,b0,g1,rfl⟩
  ·rw [hud];exact .inl rfl
  rw [hu m hne];exact hs.loc m b0 g1
 rcases hkey m b hb with ⟨rfl,rfl⟩ | ⟨h3,b0,g1,rfl⟩
 ·rw [hud];exact .inl rfl
 rcases hkey k b' hb' with ⟨rfl,rfl⟩ | ⟨h4,b0',g1',rfl⟩
 ·rw [hud];exact .inr (.inl rfl)
 rw [hu m h3,hu k h4];exact hs.inj m k b0 b0' g1 g1' hne
end
def AO {α:Type} [Inhabited α] (c:α->List Cl) (xs:List α):Nat->Nat->Cl:=fun i j=>(c (xs.getD i default)).getD j default
theorem oK {α:Type} [Inhabited α] (c:α->List Cl) (xs ys:List α) (sz:Nat) (g:Nat->Nat->Cl) (hg:∀ i j,i<ys.length->j<sz->g i j=AO c ys i j):∀ i j,i<(xs++ys).length->j<sz->(if i<xs.length then AO c xs i j else g (i-xs.length) j)=AO c (xs++ys) i j:=by
 intro i j hi hj
 rw [List.length_append] at hi
 unfold AO at *
 by_cases h:i<xs.length
 ·rw [if_pos h]
  simp only [List.getD_eq_getElem?_getD,List.getElem?_append_left h]
 rw [if_neg h,hg _ _ (by omega) hj]
 simp only [List.getD_eq_getElem?_getD,List.getElem?_append_right (Nat.le_of_not_lt h)]
theorem oJ {α:Type} [Inhabited α] (c:α->List Cl) (xs:List α) (k:Nat) (v:α) (l:List Cl) (sz off m:Nat) (hk:k<xs.length) (hv:∀ j,j<sz->(if off<=j/\j<off+m then l.getD (j-off) default else (c (xs.getD k default)).getD j default)=(c v).getD j default) :
  ∀ i j,i<(xs.set k v).length->j<sz->(if i=k/\off<=j/\j<off+m then l.getD (j-off) default else AO c xs i j)=AO c (xs.set k v) i j:=by
 intro i j hi hj
 unfold AO
 by_cases h:i=k
 ·subst h
  have:=hv j hj
  simp only [List.getD_eq_getElem?_getD,List.getElem?_set_self hk,Option.getD_some,true_and] at *
  exact this
 rw [if_neg (fun k=>h k.1)]
 simp only [List.getD_eq_getElem?_getD,List.getElem?_set_ne (Ne.symm h)]
end
section
open Go.RowKit
def fxC (n:Nat) (l:List Cl):Cl->Cl
 | .ptr m off=>bif Nat.beq m n then .eptr l.length 1 (fun _ j=>l.getD j default) 0 off else .ptr m off
 | .clo f k caps=>.clo f k (Aw ((List.range k).map fun i=>fxC n l (caps i)))
 | c=>c
def fxS (n:Nat) (l:List Cl) (s:AS):AS:=⟨Vx (Tv.map (fxC n l)) s.t,del (Vx (Blk.map (fxC n l)) s.h) n⟩
theorem dV:∀ v:Tv,nE (fun _=>True) v:=by
 have av:∀ x:Av,Ro (fun _=>True) x:=fun x=>by cases x <;> simp [Ro]
 intro v
 cases v with
 | av x=>exact av x
 | tup l=>exact fun x _=>av x
 | grd g x=>exact av x
section
variable {P:Program} {rd:Option Nat} {N:Nat} {W0:World} {X:Nat→Option Loc} {M0 M:Nat→Option Obj} {σ:Nat→Loc} {w:World} {a:Act} {Q:Exit→AS→Prop} {s:AS}
theorem Tt (n:Nat) (l:List Cl) (ty:TypeId) (hnx:(σ n).nil=false->¬ inX X (σ n).b) (hn:get s.h n=some (.cells l ty)) (hdv:l.all Cl.dv=true) (hs:Sim N W0 X M0 M σ (get s.t) (get s.h) a w):∃ M',Sim N W0 X M0 M' σ (get (fxS n l s).t) (get (fxS n l s).h) a w:=by
 obtain ⟨hnil,cc,hcc,hl⟩:=hs.blk n _ hn
 have hloc:M (σ n).b=none/\W0.heap.size<=(σ n).b:=by
  rcases hs.loc n _ hn with h | ⟨h1,h2 | h2⟩
  ·rw [hnil] at h;cases h
  ·exact ⟨h1,h2⟩
  exact absurd h2 (hnx hnil)
 obtain ⟨M',hM'⟩:∃ M':Nat->Option Obj,M'=fun b=>if b=(σ n).b then w.heap[b]? else M b:=⟨_,rfl⟩
 have hsub:∀ b o,M b=some o->M' b=some o:=fun b o h1=>by
  subst hM'
  by_cases hb:b=(σ n).b
  ·subst hb;rw [hloc.1] at h1;cases h1
  simp only [hb,if_false];exact h1
 have himm:∀ b o,M' b=some o->w.heap[b]? = some o:=fun b o h1=>by
  subst hM'
  by_cases hb:b=(σ n).b
  ·simp only [hb,if_true] at h1;rw [hb];exact h1
  simp only [hb,if_false] at h1;exact hs.imm b o h1
 have hother:∀ b,b≠(σ n).b->M' b=M b:=fun b hb=>by subst hM';simp only [hb,if_false]
 have hself:M' (σ n).b=w.heap[(σ n).b]? := by subst hM';simp only [if_true]
 have hR:∀ {c:Cl} {V:Value},R M σ c V->R M' σ (fxC n l c) V:=by
  intro c
  induction c with
  | ptr m off =>
   intro V hc
   simp only [fxC]
   cases hm:Nat.beq m n with
   | false=>exact hc
   | true =>
    have:=Nat.eq_of_beq_eq_true hm
    subst this
    simp only [R] at hc
    rw [hc]
    have key:=RC.eptr (M:=M') l.length 1 (fun _ j=>l.getD j default) 0 off (σ m).b 0 (fun j=>cc.getD j undef) (fun j hj=>by
     have hjc:j<cc.length:=by have:=hl.length;omega
     unfold Ei
     rw [hself,hcc,Nat.zero_add]
     simp [List.getD_eq_getElem?_getD,hjc]) (fun j hj=>by
     have hjl:l[j]? = some (l[j]'hj):=List.getElem?_eq_getElem hj
     obtain ⟨v,hv,hRv⟩:=hl.get j _ hjl
     simp only [List.getD_eq_getElem?_getD,hjl,hv,Option.getD_some]
     exact EN hsub ((Jw ((List.all_eq_true.1 hdv) _ (List.getElem_mem hj))).1 hRv))
    rw [Nat.zero_add] at key
    exact key
  | clo f k caps ih =>
   intro V hc
   obtain ⟨cs,h1,h2,h3⟩:=hc
   exact ⟨cs,h1,h2,fun i hi=>by rw [OI _ hi];exact ih i (h3 i hi)⟩
  | val v=>intro V hc;exact hc
  | own=>intro V hc;exact Dl hsub (fun _ _=>rfl) hc
  | rptr=>intro V hc;exact Dl hsub (fun _ _=>rfl) hc
  | list=>intro V hc;exact Dl hsub (fun _ _=>rfl) hc
  | eptr=>intro V hc;exact Dl hsub (fun _ _=>rfl) hc
  | mp=>intro V hc;exact Dl hsub (fun _ _=>rfl) hc
  | om=>intro V hc;exact Dl hsub (fun _ _=>rfl) hc
  | any=>intro V hc;exact hc
 refine ⟨M',hs.os,hs.tape,hs.output,hs.size,hs.old,fun b o h1=>hsub b o (hs.sub b o h1),fun b o h1 h2 => ?_,hs.pin,hs.defers.mono hsub,hs.room,fun i v hv => ?_,himm,fun m b hb' => ?_,fun m b hb' => ?_,fun m k b c h1 h2 => ?_⟩
 ·by_cases hb:b=(σ n).b
  ·subst hb;exact hloc.2
  rw [hother b hb] at h1;exact hs.new b o h1 h2
 ·simp only [fxS,FO] at hv
  cases hg:get s.t i with
  | none=>rw [hg] at hv;cases hv
  | some v0 =>
   rw [hg] at hv
   simp only [Option.map_some,Option.some.injEq] at hv
   subst hv
   exact Yz (p:=fun _=>True) (fun c V _ hc=>hR hc) (dV v0) (hs.tmps i v0 hg)
 ·simp only [fxS,JR,FO] at hb'
  split at hb'
  ·cases hb'
  cases hg:get s.h m with
  | none=>rw [hg] at hb';cases hb'
  | some b0 =>
   rw [hg] at hb'
   simp only [Option.map_some,Option.some.injEq] at hb'
   subst hb'
   have h0:=hs.blk m b0 hg
   cases b0 with
   | cells l' ty' =>
    obtain ⟨h1,cc',h2,h3⟩:=h0
    exact ⟨h1,cc',h2,Uz (p:=fun _=>True) (fun c V _ hc=>hR hc) (fun _ _=>trivial) h3⟩
   | row=>exact BX.mono hsub (fun _ _=>rfl) (fun _=>rfl) h0
   | omap=>exact BX.mono hsub (fun _ _=>rfl) (fun _=>rfl) h0
   | rowx=>exact QV (p:=fun _=>True) hsub (fun c V _ hc=>hR hc) (fun _ _ _ _ _=>trivial) h0
 ·simp only [fxS,JR,FO] at hb'
  split at hb'
  ·cases hb'
  rename_i hne
  cases hg:get s.h m with
  | none=>rw [hg] at hb';cases hb'
  | some b0 =>
   rcases hs.loc m b0 hg with h1 | ⟨h1,h2⟩
   ·exact .inl h1
   by_cases hmn:(σ m).nil=true
   ·exact .inl hmn
   refine .inr ⟨?_,h2⟩
   rw [hother]
   ·exact h1
   rcases hs.inj n m _ _ hn hg hne with h3 | h3 | h3
   ·rw [hnil] at h3;cases h3
   ·exact absurd h3 hmn
   exact Ne.symm h3
 simp only [fxS,JR,FO] at h1 h2
 split at h1
 ·cases h1
 split at h2
 ·cases h2
 intro hne
 cases hg:get s.h m with
 | none=>rw [hg] at h1;cases h1
 | some b0 =>
  cases hg2:get s.h k with
  | none=>rw [hg2] at h2;cases h2
  | some c0=>exact hs.inj m k b0 c0 hg hg2 hne
theorem Gc {K:List Nat} (S:AS) (n:Nat) (l:List Cl) (ty:TypeId) (hX:∀ k x,X k=some x->Au K k=true) (hK:xok K n s=true) (hn:get s.h n=some (.cells l ty)) (hdv:l.all Cl.dv=true) (hS:fxS n l s=S):Cv N W0 X M0 s S:=by
 subst hS
 intro M σ a w hs
 obtain ⟨M',h1⟩:=Tt n l ty (fun hnil=>gO hX hK hs hn hnil) hn hdv hs
 exact ⟨M',σ,h1⟩
def PX (pids:List Nat) (X:Nat->Option Loc):Prop:=∀ m x,X m=some x->∃ q,Au pids q=true/\∃ y,X q=some y/\y.b=x.b
def xV (pids:List Nat) (n:Nat) (s:AS):Bool:=pids.all fun q => !Nat.beq q n&&match get s.h q with | some (.cells ..)=>true | _=>false
theorem UN:∀ {l:List Nat} {n:Nat},Au l n=true->n∈l
 | [],_,h=>by cases h
 | k::r,n,h=>by
  simp only [Au] at h
  cases hk:Nat.beq k n with
  | true=>have:=Nat.eq_of_beq_eq_true hk;subst this;exact List.mem_cons_self ..
  | false=>rw [hk] at h;exact List.mem_cons_of_mem _ (UN h)
theorem aK (S:AS) (n:Nat) (l:List Cl) (ty:TypeId) (pids:List Nat) (hX:PX pids X) (hK:xV pids n s=true) (hn:get s.h n=some (.cells l ty)) (hdv:l.all Cl.dv=true) (hS:fxS n l s=S):Cv N W0 X M0 s S:=by
 subst hS
 intro M σ a w hs
 obtain ⟨M',h1⟩:=Tt n l ty (fun hnil=>by
  rintro ⟨m,x,h1,h2⟩
  obtain ⟨q,hq,y,hy,hyx⟩:=hX m x h1
  have h3:=List.all_eq_true.1 hK q (UN hq)
  simp only [Bool.and_eq_true,Bool.not_eq_true'] at h3
  have hqn:q≠n:=fun e=>by have:=h3.1;rw [e,Nat.beq_refl] at this;cases this
  cases hb:get s.h q with
  | none=>rw [hb] at h3;cases h3.2
  | some bk =>
   rw [hb] at h3
   cases bk with
   | row=>cases h3.2
   | omap=>cases h3.2
   | rowx=>cases h3.2
   | cells lq tq =>
    have h4:=(hs.blk q _ hb).1
    have h5:=(hs.pin q y hy).2
    rcases hs.inj q n _ _ hb hn hqn with h6 | h6 | h6
    ·rw [h4] at h6;cases h6
    ·rw [hnil] at h6;cases h6
    exact h6 (by rw [h5,hyx,h2])) hn hdv hs
 exact ⟨M',σ,h1⟩
end
end
section
open Go.RowKit
inductive AvE:Av->Av->Prop
 | one {c c':Cl} (h:ClE c c'):AvE (.one c) (.one c')
 | agg {l l':List Cl} (h:L2 ClE l l'):AvE (.agg l) (.agg l')
inductive TvE:Tv->Tv->Prop
 | refl (v:Tv):TvE v v
 | av {x x':Av} (h:AvE x x'):TvE (.av x) (.av x')
 | tup {l l':List Av} (h:L2 AvE l l'):TvE (.tup l) (.tup l')
inductive ID:Blk->Blk->Prop
 | refl (b:Blk):ID b b
 | cells {l l':List Cl} (ty:TypeId) (h:L2 ClE l l'):ID (.cells l ty) (.cells l' ty)
 | row (sz:Nat) {len len':Nat} {f f':Nat->Nat->Cl} (ty:TypeId) (hl:len=len') (h:∀ i j,i<len'->j<sz->ClE (f i j) (f' i j)):ID (.row sz len f ty) (.row sz len' f' ty)
 | omap (agg:Bool) (nv:Nat) {len len':Nat} {kf kf':Nat->Value} {f f':Nat->Nat->Cl} (hl:len=len') (hk:∀ i,i<len'->kf i=kf' i) (h:∀ i j,i<len'->j<nv->ClE (f i j) (f' i j)):ID (.omap agg nv len kf f) (.omap agg nv len' kf' f')
 | rowx (sz len:Nat) (f:Nat->Nat->Cl) (ty:TypeId) {hs hs':List (Nat×List Cl)} (h:L2 (fun p q=>p.1=q.1/\L2 ClE p.2 q.2) hs hs'):ID (.rowx sz len f ty hs) (.rowx sz len f ty hs')
theorem AvE.refl:∀ x:Av,AvE x x
 | .one c=>.one (.refl c)
 | .agg l=>.agg (by
   induction l with
   | nil=>exact .nil
   | cons c l ih=>exact .cons (.refl c) ih)
theorem L2.trans3 {α β:Type} {r:α->β->Prop} {q:α->α->Prop} {r':α->β->Prop} (hq:∀ a a' b,q a a'->r a b->r' a' b) {l l':List α} {m:List β} (h:L2 q l l') (k:L2 r l m):L2 r' l' m:=by
 induction h generalizing m with
 | nil=>cases k;exact .nil
 | cons h1 _ ih=>cases k with | cons k1 k2=>exact .cons (hq _ _ _ h1 k1) (ih k2)
section
variable {P:Program} {rd:Option Nat} {N:Nat} {W0:World} {X:Nat→Option Loc} {M0 M:Nat→Option Obj} {σ:Nat→Loc} {w:World} {a:Act} {Q:Exit→AS→Prop} {s S:AS}
theorem RO {x x':Av} {V:Value} (he:AvE x x') (h:RA M σ x V):RA M σ x' V:=by
 cases he with
 | one h1=>exact aY h1 h
 | agg h1 =>
  obtain ⟨vs,e1,e2⟩:=h
  exact ⟨vs,e1,L2.trans3 (r:=R M σ) (r':=R M σ) (fun _ _ _=>aY) h1 e2⟩
theorem MR {x x':Tv} {V:Value} (he:TvE x x') (h:RT M σ x V):RT M σ x' V:=by
 cases he with
 | refl=>exact h
 | av h1=>exact RO h1 h
 | tup h1 =>
  obtain ⟨vs,e1,e2⟩:=h
  exact ⟨vs,e1,L2.trans3 (r:=RA M σ) (r':=RA M σ) (fun _ _ _=>RO) h1 e2⟩
theorem OM {α:Type} {r:α->α->Prop} {l l':List (Nat×α)} (h:L2 (fun p q=>p.1=q.1/\r p.2 q.2) l l') (i:Nat) {v':α} (hv:get l' i=some v'):∃ v,get l i=some v/\r v v':=by
 induction h with
 | nil=>cases hv
 | @cons p q l l' h1 _ ih =>
  obtain ⟨k,v⟩:=p
  obtain ⟨k',u⟩:=q
  obtain ⟨rfl,h2⟩:=h1
  simp only [get,CS] at hv ⊢
  by_cases hk:k=i
  ·simp [hk] at hv ⊢;subst hv;exact h2
  simp only [hk,decide_false,cond_false] at hv ⊢;exact ih hv
theorem WN {α:Type} {r:α->α->Prop} {l l':List (Nat×α)} (h:L2 (fun p q=>p.1=q.1/\r p.2 q.2) l l') (i:Nat) (hv:get l' i=none):get l i=none:=by
 induction h with
 | nil=>rfl
 | @cons p q l l' h1 _ ih =>
  obtain ⟨k,v⟩:=p
  obtain ⟨k',u⟩:=q
  obtain ⟨h3,h2⟩:=h1
  simp only at h3
  subst h3
  simp only [get,CS] at hv ⊢
  by_cases hk:k=i
  ·simp [hk] at hv
  simp only [hk,decide_false,cond_false] at hv ⊢;exact ih hv
theorem Jm {x:Loc} {b b':Blk} (he:ID b b') (h:BX M σ w x b):BX M σ w x b':=by
 cases he with
 | refl=>exact h
 | cells ty h1 =>
  obtain ⟨h0,c,hc,hl⟩:=h
  exact ⟨h0,c,hc,L2.trans3 (r:=R M σ) (r':=R M σ) (fun _ _ _=>aY) h1 hl⟩
 | row sz ty hl hf =>
  subst hl
  rcases h with h0 | ⟨e0,cc,e1,e2,e3,e4,g,e5⟩
  ·exact .inl h0
  exact .inr ⟨e0,cc,e1,e2,e3,e4,g,fun i j hi hj=>⟨(e5 i j hi hj).1,Y3 (hf i j hi hj) _ (e5 i j hi hj).2⟩⟩
 | omap agg nv hl hk hf =>
  subst hl
  obtain ⟨e0,es,ck,g,e1,e2,e3,e4⟩:=h
  exact ⟨e0,es,ck,g,e1,e2,fun i e he=>by
   have hi:i<es.size:=(Array.getElem?_eq_some_iff.1 he).1
   rw [<- hk i (by omega)];exact e3 i e he,fun i j hi hj=>Y3 (hf i j hi hj) _ (e4 i j hi hj)⟩
 | rowx sz len f ty h1 =>
  obtain ⟨e0,c,e1,e2,e3,e4,gv,e5,e6⟩:=h
  refine ⟨e0,c,e1,e2,e3,e4,gv,fun i j hi hj=>⟨(e5 i j hi hj).1,fun hn=>(e5 i j hi hj).2 (WN h1 i hn)⟩,fun i l hl => ?_⟩
  obtain ⟨l0,hl0,he⟩:=OM h1 i hl
  exact ⟨(e6 i l0 hl0).1,L2.trans3 (r:=R M σ) (r':=R M σ) (fun _ _ _=>aY) he (e6 i l0 hl0).2⟩
def TE:List (Nat×Tv)->List (Nat×Tv)->Prop:=L2 fun p q=>p.1=q.1/\TvE p.2 q.2
def HE:List (Nat×Blk)->List (Nat×Blk)->Prop:=L2 fun p q=>p.1=q.1/\ID p.2 q.2
theorem uO (ht:TE s.t S.t) (hh:HE s.h S.h) (hs:Sim N W0 X M0 M σ (get s.t) (get s.h) a w):Sim N W0 X M0 M σ (get S.t) (get S.h) a w :=
 ⟨hs.os,hs.tape,hs.output,hs.size,hs.old,hs.sub,hs.new,hs.pin,hs.defers,hs.room,fun i v h=>(OM ht i h).elim fun u hu=>MR hu.2 (hs.tmps i u hu.1),hs.imm,
  fun n b h=>(OM hh n h).elim fun u hu=>Jm hu.2 (hs.blk n u hu.1),fun n b h=>(OM hh n h).elim fun u hu=>hs.loc n u hu.1,
  fun n m b c h1 h2=>(OM hh n h1).elim fun u hu=>(OM hh m h2).elim fun v hv=>hs.inj n m u v hu.1 hv.1⟩
theorem BM (S:AS) (ht:TE s.t S.t) (hh:HE s.h S.h):Cv N W0 X M0 s S:=fun M σ _ _ hs=>⟨M,σ,uO ht hh hs⟩
theorem Ct {f:FuncId} {xs xs':List Av} {e:Ef} (h:Eo P f xs' e) (hx:L2 AvE xs xs'):Eo P f xs e :=
 match h with
 | .inl h=>.inl ⟨h.1,fun M σ w hh args cs g hs hargs hr hc=>h.2 M σ w hh args cs g hs (L2.trans3 (r:=RA M σ) (r':=RA M σ) (fun _ _ _=>RO) hx hargs) hr hc⟩
 | .inr ⟨cs,v,he,h⟩=>.inr ⟨cs,v,he,fun M σ w args himm hc hargs=>h M σ w args himm hc (L2.trans3 (r:=RA M σ) (r':=RA M σ) (fun _ _ _=>RO) hx hargs)⟩
theorem PR {f:FuncId} {xs xs':List Av} {r:Tv} (h:E5 P f xs' r) (hx:L2 AvE xs xs'):E5 P f xs r :=
 fun M σ w args himm hargs=>h M σ w args himm (L2.trans3 (r:=RA M σ) (r':=RA M σ) (fun _ _ _=>RO) hx hargs)
def ceI (xs:List Av) (c:FuncId×List Av×Ef):FuncId×List Av×Ef:=(c.1,xs,c.2.2)
def Rg (P:Program) (N:Nat) (W0:World) (X:Nat->Option Loc) (M0:Nat->Option Obj) (fn:Func) (φ:Tv->AS->Prop):Exit->AS->Prop:=fun e s=>∃ t,Cv N W0 X M0 s t/\RetQ P fn φ e t
theorem VN {f:FuncId} {fn:Func} {c:Code} (hf:P.funcs[f]? = some fn) (hb:fn.body=some c) {xs:List Av} {r:Tv} (hN:Nat.ble xs.length fn.ntmps=true) (hd:r.dv=true)
  (h:∀ (W0:World) (M0:Nat->Option Obj),AWp P none fn.ntmps W0 noX M0 c (Rg P fn.ntmps W0 noX M0 fn fun r' _=>TvE r' r) ⟨Dw 0 xs,[]⟩):E5 P f xs r:=by
 intro M σ w args himm hargs
 refine EW (X:=noX) (σ:=σ) (h0:=[]) hf hb (Nat.le_of_ble_eq_true hN) himm hargs (fun n b h=>by cases h) (fun n b h=>by cases h) (fun n x h=>by cases h) (fun n m b c h=>by cases h) (DH (h w M)) ?_
 rintro r' s' M' σ' a' w' U he hs hR
 exact ⟨U,rfl,M',⟨hs.os,hs.tape,hs.output,hs.size,fun b hb _=>hs.old b hb (Ec b),hs.sub,hs.new,hs.imm⟩,fun σ''=>HU hd (MR he hR)⟩
theorem IK {f:FuncId} {fn:Func} {c:Code} (hf:P.funcs[f]? = some fn) (hb:fn.body=some c) {K:Nat} {xs:List Av} {b0 b1:Blk} {r:Tv} (hN:Nat.ble xs.length fn.ntmps=true) (hK:Nat.ble fn.ntmps K=true) (hd:r.dv=true) (hd1:KY b1=true)
  (h:∀ (W0:World) (M0:Nat->Option Obj) (X:Nat->Option Loc),(∀ k x,X k=some x->Au [K] k=true)->AWp P none fn.ntmps W0 X M0 c (Rg P fn.ntmps W0 X M0 fn fun r' s'=>TvE r' r/\∃ b,get s'.h K=some b/\ID b b1) ⟨Dw 0 xs,[(K,b0)]⟩):Wr P f K xs b0 r b1:=by
 intro M σ w args himm hblk hnil hM hargs
 let X:Nat->Option Loc:=upd noX K (some (σ K))
 have hX:X K=some (σ K):=BH _ _ _
 have one:∀ n b,get [(K,b0)] n=some b->n=K/\b=b0:=fun n b hn=>by
  simp only [get,CS] at hn
  by_cases hk:K=n
  ·simp [hk] at hn;exact ⟨hk.symm,hn.symm⟩
  simp [hk] at hn
 have pins:∀ n x,X n=some x->n=K/\x=σ K:=fun n x hx=>by
  by_cases hk:n=K
  ·subst hk;rw [hX] at hx;injection hx with hx;exact ⟨rfl,hx.symm⟩
  simp only [X] at hx;rw [CK _ _ hk] at hx;cases hx
 have hXK:∀ k x,X k=some x->Au [K] k=true:=fun k x hk=>by rw [(pins k x hk).1];exact Mu _
 refine EW (X:=X) (σ:=σ) (h0:=[(K,b0)]) hf hb (Nat.le_of_ble_eq_true hN) himm hargs (fun n b hn => ?_) (fun n b hn => ?_) (fun n x hx => ?_) (fun n m b c hn hm hne => ?_) (DH (h w M X hXK)) ?_
 ·obtain ⟨rfl,rfl⟩:=one n b hn;exact hblk
 ·obtain ⟨rfl,rfl⟩:=one n b hn;exact .inr ⟨hM,n,σ n,hX,rfl⟩
 ·obtain ⟨rfl,rfl⟩:=pins n x hx;exact ⟨Nat.le_of_ble_eq_true hK,rfl⟩
 ·exact absurd ((one n b hn).1.trans (one m c hm).1.symm) hne
 rintro r' s' M' σ' a' w' U ⟨he,b,hb1,hbe⟩ hs hR
 have hpin:=(hs.pin K _ hX).2
 have hbk:=hs.blk K _ hb1
 rw [hpin] at hbk
 refine ⟨U,rfl,M',⟨hs.os,hs.tape,hs.output,hs.size,fun b hb hne=>hs.old b hb ?_,hs.sub,hs.new,hs.imm⟩,fun σ''=>HU hd (MR he hR),fun σ''=>F6 hd1 (Jm hbe hbk)⟩
 rintro ⟨n,x,hx,rfl⟩
 obtain ⟨rfl,rfl⟩:=pins n x hx
 exact hne ⟨hnil,rfl⟩
end
def pW (n sz len:Nat):Cl->List Prop->List Prop
 | .own m s l,r=>bif Nat.beq m n then (l=len/\s=sz)::r else r
 | _,r=>r
def VU (n sz len:Nat):List Cl->List Prop->List Prop
 | [],r=>r
 | c::l,r=>pW n sz len c (VU n sz len l r)
def pX (n sz len:Nat):Av->List Prop->List Prop
 | .one c,r=>pW n sz len c r
 | .agg l,r=>VU n sz len l r
def jH (n sz len:Nat):List Av->List Prop->List Prop
 | [],r=>r
 | c::l,r=>pX n sz len c (jH n sz len l r)
def YE (n sz len:Nat):List (Nat×Tv)->List Prop->List Prop
 | [],r=>r
 | (_,.av x)::l,r=>pX n sz len x (YE n sz len l r)
 | (_,.tup x)::l,r=>jH n sz len x (YE n sz len l r)
 | (_,.grd _ x)::l,r=>pX n sz len x (YE n sz len l r)
def jG (n sz len:Nat):List (Nat×List Cl)->List Prop->List Prop
 | [],r=>r
 | (_,l)::hs,r=>VU n sz len l (jG n sz len hs r)
def VW (n sz len:Nat):List (Nat×Blk)->List Prop
 | []=>[]
 | (_,.cells l _)::r=>VU n sz len l (VW n sz len r)
 | (_,.row ..)::r=>VW n sz len r
 | (_,.omap ..)::r=>VW n sz len r
 | (_,.rowx _ _ _ _ hs)::r=>jG n sz len hs (VW n sz len r)
section
variable {n sz len:Nat}
theorem Za {c:Cl} {r:List Prop} (h:Bi (pW n sz len c r)):fzP n sz len c/\Bi r:=by
 cases c with
 | own m s l =>
  simp only [pW,fzP] at *
  cases hb:Nat.beq m n with
  | true=>rw [hb] at h;exact ⟨h.head,h.tail⟩
  | false=>rw [hb] at h;exact ⟨trivial,h⟩
 | _=>exact ⟨trivial,h⟩
theorem Mm:∀ {l:List Cl} {r:List Prop},Bi (VU n sz len l r)->(∀ c∈l,fzP n sz len c)/\Bi r
 | [],r,h=>⟨fun c hc=>(by cases hc),h⟩
 | c::l,r,h=>by
  obtain ⟨h1,h2⟩:=Za h
  obtain ⟨h3,h4⟩:=Mm h2
  exact ⟨fun d hd=>by
   cases hd with
   | head=>exact h1
   | tail _ hd=>exact h3 d hd,h4⟩
theorem UA {x:Av} {r:List Prop} (h:Bi (pX n sz len x r)):Ro (fzP n sz len) x/\Bi r:=by
 cases x with
 | one c=>exact Za h
 | agg l=>exact Mm h
theorem VX:∀ {l:List Av} {r:List Prop},Bi (jH n sz len l r)->(∀ c∈l,Ro (fzP n sz len) c)/\Bi r
 | [],r,h=>⟨fun c hc=>(by cases hc),h⟩
 | c::l,r,h=>by
  obtain ⟨h1,h2⟩:=UA h
  obtain ⟨h3,h4⟩:=VX h2
  exact ⟨fun d hd=>by
   cases hd with
   | head=>exact h1
   | tail _ hd=>exact h3 d hd,h4⟩
theorem Ml:∀ {l:List (Nat×Tv)} {r:List Prop},Bi (YE n sz len l r)->ZD (fzP n sz len) l/\Bi r
 | [],r,h=>⟨trivial,h⟩
 | (_,.av x)::l,r,h=>by
  obtain ⟨h1,h2⟩:=UA (x:=x) h
  obtain ⟨h3,h4⟩:=Ml h2
  exact ⟨⟨h1,h3⟩,h4⟩
 | (_,.tup x)::l,r,h=>by
  obtain ⟨h1,h2⟩:=VX (l:=x) h
  obtain ⟨h3,h4⟩:=Ml h2
  exact ⟨⟨h1,h3⟩,h4⟩
 | (_,.grd _ x)::l,r,h=>by
  obtain ⟨h1,h2⟩:=UA (x:=x) h
  obtain ⟨h3,h4⟩:=Ml h2
  exact ⟨⟨h1,h3⟩,h4⟩
theorem VV:∀ {hs:List (Nat×List Cl)} {r:List Prop},Bi (jG n sz len hs r)->(∀ i l,get hs i=some l->∀ c∈l,fzP n sz len c)/\Bi r
 | [],r,h=>⟨fun i l hl=>(by cases hl),h⟩
 | (k,l0)::hs,r,h=>by
  obtain ⟨h1,h2⟩:=Mm (l:=l0) h
  obtain ⟨h3,h4⟩:=VV (hs:=hs) h2
  refine ⟨fun i l hl => ?_,h4⟩
  simp only [get,CS] at hl
  by_cases e:k=i
  ·simp [e] at hl;subst hl;exact h1
  simp only [e,decide_false,cond_false] at hl;exact h3 i l hl
theorem Mo:∀ {l:List (Nat×Blk)},Bi (VW n sz len l)->ZE (fzP n sz len) l
 | [],h=>trivial
 | (_,.cells l _)::r,h=>by
  obtain ⟨h1,h2⟩:=Mm (l:=l) h
  exact ⟨h1,Mo h2⟩
 | (_,.row ..)::r,h=>⟨trivial,Mo (l:=r) h⟩
 | (_,.omap ..)::r,h=>⟨trivial,Mo (l:=r) h⟩
 | (_,.rowx _ _ _ _ hs)::r,h=>by
  obtain ⟨h1,h2⟩:=VV (hs:=hs) h
  exact ⟨h1,Mo h2⟩
end
section
variable {N:Nat} {W0:World} {X:Nat→Option Loc} {M0:Nat→Option Obj} {s:AS}
theorem cv_fz {K:List Nat} (S:AS) (n sz len:Nat) (f:Nat->Nat->Cl) (ty:TypeId) (hX:∀ k x,X k=some x->Au K k=true) (hK:xok K n s=true) (hn:get s.h n=some (.row sz len f ty)) (ho:Bi (YE n sz len s.t (VW n sz len s.h))) (hS:fzS n sz len f s=S):Cv N W0 X M0 s S :=
 xB S n sz len f ty hX hK hn (Ml ho).1 (Mo (Ml ho).2) hS
theorem Ay {S:AS} (h:s=S):Cv N W0 X M0 s S:=h▸Cv.refl s
end
theorem Aa {x y:Tv} (h:x=y):TvE x y:=h▸.refl x
theorem Du {x y z:Tv} (h:TvE x y) (e:y=z):TvE x z:=e▸h
theorem Dk {x y:Blk} (h:x=y):ID x y:=h▸.refl x
theorem Us {x y z:Blk} (h:ID x y) (e:y=z):ID x z:=e▸h
def MQ {α:Type} [Inhabited α] (sz len:Nat) (f:Nat->Nat->Cl) (c:α->List Cl) (xs:List α):Prop:=len=xs.length/\∀ i j,i<xs.length->j<sz->ClE (f i j) (AO c xs i j)
section
variable {α:Type} [Inhabited α] {sz n m:Nat} {f g:Nat→Nat→Cl} {c:α→List Cl} {xs ys:List α}
theorem BI (sz:Nat) (c:α->List Cl) (xs:List α):MQ sz xs.length (AO c xs) c xs:=⟨rfl,fun _ _ _ _=>.refl _⟩
theorem Cb (sz:Nat) (f:Nat->Nat->Cl) (c:α->List Cl):MQ sz 0 f c []:=⟨rfl,fun _ _ h=>absurd h (Nat.not_lt_zero _)⟩
theorem BR (h:MQ sz n f c xs) (k:MQ sz m g c ys):MQ sz (n+m) (fun i j=>if i<n then f i j else g (i-n) j) c (xs++ys):=by
 obtain ⟨rfl,h⟩:=h
 obtain ⟨rfl,k⟩:=k
 refine ⟨List.length_append.symm,fun i j hi hj => ?_⟩
 rw [<- oK c xs ys sz (AO c ys) (fun _ _ _ _=>rfl) i j hi hj]
 show ClE (if i<xs.length then f i j else g (i-xs.length) j) _
 by_cases hl:i<xs.length
 ·rw [if_pos hl,if_pos hl];exact h i j hl hj
 rw [if_neg hl,if_neg hl];exact k (i-xs.length) j (by rw [List.length_append] at hi;omega) hj
theorem KM {l:List Cl} {off q k:Nat} (h:MQ sz n f c xs) (hk:k<n) (v:α) (hv:∀ j,j<sz->(if off<=j/\j<off+q then l.getD (j-off) default else (c (xs.getD k default)).getD j default)=(c v).getD j default) :
  MQ sz n (fun i j=>if i=k/\off<=j/\j<off+q then l.getD (j-off) default else f i j) c (xs.set k v):=by
 obtain ⟨rfl,h⟩:=h
 refine ⟨by simp,fun i j hi hj => ?_⟩
 rw [<- oJ c xs k v l sz off q hk hv i j hi hj]
 show ClE (if i=k/\off<=j/\j<off+q then l.getD (j-off) default else f i j) _
 have hi':i<xs.length:=by simpa using hi
 by_cases hc:i=k/\off<=j/\j<off+q
 ·rw [if_pos hc,if_pos hc];exact .refl _
 rw [if_neg hc,if_neg hc];exact h i j hi' hj
theorem Xi (h:MQ sz n f c xs) {a b:Int} (ha:0<=a) (hab:a<=b) (hb:b<=(n:Int)):MQ sz (b.toNat-a.toNat) (fun i j=>f (i+a.toNat) j) c ((xs.take b.toNat).drop a.toNat):=by
 obtain ⟨rfl,h⟩:=h
 refine ⟨by simp;omega,fun i j hi hj => ?_⟩
 have hi':i<min b.toNat xs.length-a.toNat:=by simpa using hi
 suffices e:AO c xs (i+a.toNat) j=AO c ((xs.take b.toNat).drop a.toNat) i j by rw [<- e];exact h (i+a.toNat) j (by omega) hj
 unfold AO
 rw [List.getD_eq_getElem?_getD,List.getD_eq_getElem?_getD,List.getD_eq_getElem?_getD,List.getD_eq_getElem?_getD,List.getElem?_drop,List.getElem?_take_of_lt (show a.toNat+i<b.toNat by omega),Nat.add_comm]
theorem bI (h:MQ sz n f c xs) {a:Int} (ha:0<=a) (hab:a<=((n:Nat):Int)):MQ sz (((n:Nat):Int).toNat-a.toNat) (fun i j=>f (i+a.toNat) j) c (xs.drop a.toNat):=by
 have:=Xi h ha hab (Int.le_refl _)
 rwa [show xs.take ((n:Nat):Int).toNat=xs from by rw [h.1];simp] at this
def tab (n:Nat) (p:Nat->Cl):List Cl:=(List.range n).map p
def Xk (n sz:Nat) (p:Nat->Nat->Cl):List (List Cl):=(List.range n).map fun i=>tab sz (p i)
theorem F7 {n:Nat} {p q:Nat->Cl} (h:tab n p=tab n q):∀ j,j<n->p j=q j:=by
 intro j hj
 have:=congrArg (fun l=>l[j]?) h
 simpa [tab,hj] using this
theorem Aq (hl:n=xs.length) (h:Xk n sz f=Xk n sz (AO c xs)):MQ sz n f c xs:=by
 refine ⟨hl,fun i j hi hj => ?_⟩
 subst hl
 have:=congrArg (fun l=>l[i]?) h
 simp only [Xk,List.getElem?_map,List.getElem?_range hi,Option.map_some,Option.some.injEq] at this
 rw [F7 this j hj]
 exact .refl _
theorem Fi {y z:List (List Cl)} (hl:n=xs.length) (e1:Xk n sz f=y) (e2:Xk n sz (AO c xs)=z) (h:L2 (L2 ClE) y z):MQ sz n f c xs:=by
 refine ⟨hl,fun i j hi hj => ?_⟩
 subst hl
 subst e1
 subst e2
 obtain ⟨b,hb,hL⟩:=h.get i (tab sz (f i)) (by simp [Xk,hi])
 obtain ⟨b',hb',hR⟩:=hL.get j (f i j) (by simp [tab,hj])
 have e3:b=tab sz (AO c xs i):=by
  simp only [Xk,List.getElem?_map,List.getElem?_range hi,Option.map_some,Option.some.injEq] at hb
  exact hb.symm
 subst e3
 simp only [tab,List.getElem?_map,List.getElem?_range hj,Option.map_some,Option.some.injEq] at hb'
 rw [hb']
 exact hR
theorem BZ (t:Bool) (h:MQ sz n f c xs):ClE (.list t sz n f) (lst sz c xs):=by
 obtain ⟨rfl,h⟩:=h
 exact .list _ _ _ _ _ _ h (fun h=>by cases h)
theorem Am (ty:TypeId) (h:MQ sz n f c xs):ID (.row sz n f ty) (.row sz xs.length (AO c xs) ty):=.row _ _ h.1 h.2
theorem Cf (sz:Nat) (c:α->List Cl):ClE (.val (.slice none 0 0)) (lst sz c []):=.nil _ _
end
def tI (x:Int):Tv:=.av (.one (.i x))
def tB (x:Bool):Tv:=.av (.one (.b x))
def tP (a b:Nat):Tv:=.av (.one (.ptr a b))
theorem M7 {a n:Int} (ha:0<=a) (hn:0<n):0<=Int.tmod a n/\Int.tmod a n<n:=⟨Int.tmod_nonneg _ ha,Int.tmod_lt_of_pos _ hn⟩
end
section
open Go.RowKit
inductive NM:Cl->Prop
 | val (v:Value):NM (.val v)
 | ptr (n off:Nat):NM (.ptr n off)
 | own (n sz len:Nat):NM (.own n sz len)
 | rptr (n sz i off:Nat):NM (.rptr n sz i off)
 | om (n:Nat):NM (.om n)
 | any:NM .any
 | list (t:Bool) (sz len:Nat) (f:Nat->Nat->Cl) (h:∀ i j,NM (f i j)):NM (.list t sz len f)
 | eptr (sz len:Nat) (f:Nat->Nat->Cl) (i off:Nat) (h:∀ i j,NM (f i j)):NM (.eptr sz len f i off)
 | clo (g:FuncId) (k:Nat) (caps:Nat->Cl) (h:∀ i,NM (caps i)):NM (.clo g k caps)
section
variable {M M':Nat→Option Obj}
theorem O4 (h:∀ b c t f,M b=some (.cells c t f)->M' b=some (.cells c t f)) {b o:Nat} {v:Value} (hv:Ei M b o=some v):Ei M' b o=some v:=by
 unfold Ei at *
 cases hb:M b with
 | none=>rw [hb] at hv;cases hv
 | some x =>
  rw [hb] at hv
  cases x with
  | cells c t f=>rw [h b c t f hb];exact hv
  | _=>cases hv
theorem RM (h:∀ b c t f,M b=some (.cells c t f)->M' b=some (.cells c t f)) {c:Cl} {V:Value} (hr:RC M c V):NM c->RC M' c V:=by
 induction hr with
 | val v h0=>intro _;exact .val v h0
 | nil t sz f h0=>intro _;exact .nil t sz f h0
 | mt t sz f a cap h5=>intro _;exact .mt t sz f a cap h5
 | list t sz len f b off cap g h1 h2 h4 h5 ih =>
  intro hn
  cases hn with
  | list _ _ _ _ hf=>exact .list t sz len f b off cap g (fun i j hi hj=>O4 h (h1 i j hi hj)) (fun i j hi hj=>ih i j hi hj (hf i j)) h4 h5
 | clo f k caps cs h1 h2 ih =>
  intro hn
  cases hn with
  | clo _ _ _ hf=>exact .clo f k caps cs h1 fun i hi=>ih i hi (hf i)
 | eptr sz len f i off b base g h1 h2 ih =>
  intro hn
  cases hn with
  | eptr _ _ _ _ _ hf=>exact .eptr sz len f i off b base g (fun j hj=>O4 h (h1 j hj)) (fun j hj=>ih j hj (hf i j))
 | mp=>intro hn;cases hn
 | any V h0=>intro _;exact .any V h0
theorem Wc (h:∀ b c t f,M b=some (.cells c t f)->M' b=some (.cells c t f)) {σ:Nat->Loc}:∀ {c:Cl} {V:Value},R M σ c V->NM c->R M' σ c V
 | .val _,_,hr,_=>hr
 | .ptr ..,_,hr,_=>hr
 | .own ..,_,hr,_=>hr
 | .rptr ..,_,hr,_=>hr
 | .list ..,_,hr,hn=>RM h hr hn
 | .eptr ..,_,hr,hn=>RM h hr hn
 | .mp ..,_,_,hn=>by cases hn
 | .om ..,_,hr,_=>hr
 | .any,_,hr,_=>hr
 | .clo g k caps,_,hr,hn=>by
  obtain ⟨cs,h1,h2,h3⟩:=hr
  cases hn with
  | clo _ _ _ hf=>exact ⟨cs,h1,h2,fun i hi=>Wc h (h3 i hi) (hf i)⟩
def AvM (x:Av):Prop:=∀ c∈x.cells,NM c
def TvM:Tv->Prop
 | .av x=>AvM x
 | .tup l=>∀ x∈l,AvM x
 | .grd _ x=>AvM x
def BkM:Blk->Prop
 | .cells l _=>∀ c∈l,NM c
 | .row _ _ f _=>∀ i j,NM (f i j)
 | .omap .. => False
 | .rowx .. => False
def HsM (h:List (Nat×Blk)):Prop:=∀ n b,get h n=some b->BkM b
def TsM (t:List (Nat×Tv)):Prop:=∀ n b,get t n=some b->TvM b
theorem Ux (h:∀ b c t f,M b=some (.cells c t f)->M' b=some (.cells c t f)) {σ:Nat->Loc} {x:Av} {V:Value} (hr:RA M σ x V) (hn:AvM x):RA M' σ x V:=by
 cases x with
 | one c=>exact Wc h hr (hn c (by simp [Av.cells]))
 | agg l =>
  obtain ⟨vs,h1,h2⟩:=hr
  exact ⟨vs,h1,h2.mono fun c hc b hb=>Wc h hb (hn c (by simpa [Av.cells] using hc))⟩
theorem RL (h:∀ b c t f,M b=some (.cells c t f)->M' b=some (.cells c t f)) {σ:Nat->Loc} {x:Tv} {V:Value} (hr:RT M σ x V) (hn:TvM x):RT M' σ x V:=by
 cases x with
 | av x=>exact Ux h hr hn
 | tup l =>
  obtain ⟨vs,h1,h2⟩:=hr
  exact ⟨vs,h1,h2.mono fun c hc b hb=>Ux h hb (hn c hc)⟩
 | grd g x=>exact ⟨fun hg=>Ux h (hr.1 hg) hn,hr.2⟩
theorem eE (h:∀ b c t f,M b=some (.cells c t f)->M' b=some (.cells c t f)) {σ:Nat->Loc} {w:World} {x:Loc} {b:Blk} (hr:BX M σ w x b) (hn:BkM b):BX M' σ w x b:=by
 cases b with
 | cells l ty =>
  obtain ⟨h0,c,hc,hl⟩:=hr
  exact ⟨h0,c,hc,hl.mono fun a ha b hb=>Wc h hb (hn a ha)⟩
 | row sz len f ty =>
  rcases hr with hr | ⟨h0,c,hc,h1,h2,h3,g,hg⟩
  ·exact .inl hr
  exact .inr ⟨h0,c,hc,h1,h2,h3,g,fun i j hi hj=>⟨(hg i j hi hj).1,RM h (hg i j hi hj).2 (hn i j)⟩⟩
 | omap agg nv len kf vf =>
  obtain ⟨h0,es,ck,g,hc,h1,h2,h3⟩:=hr
  exact hn.elim
 | rowx=>exact hn.elim
end
theorem lY {d:Nat}:∀ {c:Cl},c.dv=true->c.no d=true
 | .val _,_=>rfl
 | .any,_=>rfl
 | .list ..,_=>rfl
 | .eptr ..,_=>rfl
 | .mp ..,_=>rfl
 | .clo _ k caps,h=>by
  simp only [Cl.dv,Cl.no,List.all_eq_true] at *
  exact fun i hi=>lY (h i hi)
def pvT (ids:List Nat):Tv->Bool
 | .av (.one (.ptr n _))=>Au ids n
 | .av x=>x.dv
 | .tup l=>l.all Av.dv
 | .grd _ x=>x.dv
theorem Ka {d:Nat} {x:Av} (h:x.dv=true):x.no d=true:=by
 cases x with
 | one c=>exact lY h
 | agg l=>simp only [Av.dv,Av.no,List.all_eq_true] at *;exact fun c hc=>lY (h c hc)
theorem DE:∀ {l:List Nat} {n:Nat},Au l n=true->n∈l
 | [],_,h=>by cases h
 | k::r,n,h=>by
  simp only [Au] at h
  cases hk:Nat.beq k n with
  | true=>have:=Nat.eq_of_beq_eq_true hk;subst this;exact List.mem_cons_self ..
  | false=>rw [hk] at h;exact List.mem_cons_of_mem _ (DE h)
theorem Lz {ids:List Nat} {d:Nat} {v:Tv} (h:pvT ids v=true) (hd:v.no d=false):d∈ids:=by
 have key:∀ x:Av,x.dv=true->x.no d=false->False:=fun x h1 h2=>by rw [Ka h1] at h2;cases h2
 cases v with
 | av x =>
  cases x with
  | one c =>
   cases c with
   | ptr n off =>
    have hn:n=d:=by simp [Tv.no,Av.no,Cl.no] at hd;exact hd
    subst hn
    exact DE h
   | _=>exact (key (.one _) h hd).elim
  | agg l=>exact (key (.agg l) h hd).elim
 | tup l =>
  simp only [pvT,List.all_eq_true] at h
  simp only [Tv.no] at hd
  have:l.all (Av.no d)=true:=by rw [List.all_eq_true];exact fun x hx=>Ka (h x hx)
  rw [this] at hd;cases hd
 | grd g x=>exact (key x h hd).elim
def LH (t:List (Nat×Tv)):List Tmp->List Av->List (Nat×Tv)
 | p::ps,e::es=>LH ((p,.av e)::t) ps es
 | _,_=>t
theorem Ua {M:Nat->Option Obj} {σ:Nat->Loc} {N:Nat}:∀ (ps:List Tmp) (es:List Av) (vs:List Value) (t:List (Nat×Tv)) (tm:Array Value),(∀ i v,get t i=some v->RT M σ v (tm.getD i undef))->tm.size=N->L2 (RA M σ) es vs->ps.length=es.length->(∀ p∈ps,p<N) ->
  ((ps.zip vs).foldl (fun t (x:Tmp×Value)=>t.setIfInBounds x.1 x.2) tm).size=N/\∀ i v,get (LH t ps es) i=some v->RT M σ v (((ps.zip vs).foldl (fun t (x:Tmp×Value)=>t.setIfInBounds x.1 x.2) tm).getD i undef)
 | [],[],_,t,tm,h,hs,hl,_,_=>⟨hs,h⟩
 | [],_::_,_,_,_,_,_,_,hn,_=>by simp at hn
 | _::_,[],_,_,_,_,_,_,hn,_=>by simp at hn
 | p::ps,e::es,vs,t,tm,h,hs,hl,hn,hp=>by
  cases hl with
  | cons h1 h2 =>
   rename_i v vs
   refine Ua ps es vs ((p,.av e)::t) (tm.setIfInBounds p v) (fun i u hu => ?_) (by simpa using hs) h2 (by simpa using hn) (fun q hq=>hp q (List.mem_cons_of_mem _ hq))
   have hpN:=hp p (List.mem_cons_self ..)
   simp only [get,CS] at hu
   by_cases hi:p=i
   ·subst hi
    simp at hu;subst hu
    have hpt:p<tm.size:=by rw [hs];exact hpN
    have:(tm.setIfInBounds p v).getD p undef=v:=by simp [Array.getD_eq_getD_getElem?,hpt]
    rw [this];exact h1
   simp [hi] at hu
   have:(tm.setIfInBounds p v).getD i undef=tm.getD i undef:=by simp [Array.getD_eq_getD_getElem?,Array.getElem?_setIfInBounds,hi]
   rw [this];exact h i u hu
structure OwS (Ow:World->Nat->Prop) (n0:Nat):Prop where
 st:∀ W W':World,n0<=W.heap.size->(∀ b,b<W.heap.size->W'.heap[b]? = W.heap[b]?)->∀ b,Ow W' b->Ow W b
def KpS (Ow:World->Nat->Prop) (W W':World):Prop:=W.heap.size<=W'.heap.size/\(∀ b (o:Obj),W.heap[b]? = some o->o.isCells=true->¬ Ow W b->W'.heap[b]? = some o)/\∀ b,Ow W' b->Ow W b\/(W.heap.size<=b/\b<W'.heap.size)
theorem KpS.trans {Ow:World->Nat->Prop} {A B C:World} (h1:KpS Ow A B) (h2:KpS Ow B C):KpS Ow A C:=by
 refine ⟨Nat.le_trans h1.1 h2.1,fun b o hb hc ho => ?_,fun b hb => ?_⟩
 ·refine h2.2.1 b o (h1.2.1 b o hb hc ho) hc fun h => ?_
  have hl:=(Array.getElem?_eq_some_iff.1 hb).1
  rcases h1.2.2 b h with h3 | h3
  ·exact ho h3
  omega
 rcases h2.2.2 b hb with h3 | ⟨h3,h4⟩
 ·exact (h1.2.2 b h3).imp id fun h5=>⟨h5.1,Nat.lt_of_lt_of_le h5.2 h2.1⟩
 exact .inr ⟨Nat.le_trans h1.1 h3,h4⟩
def U0 (P:Program) (gf:FuncId) (k:Nat) (caps:Nat->Cl) (n:Nat) (E:Fin n->List Av):Prop :=
 ∀ (M:Nat->Option Obj) (w:World) (cs:Array Value) (Ow:World->Nat->Prop),(∀ b o,M b=some o->w.heap[b]? = some o)->OwS Ow w.heap.size->(∀ b,Ow w b->b<w.heap.size/\M b=none)->cs.size=k->(∀ i,i<k->RC M (caps i) (cs.getD i undef)) ->
  ∃ encs:Fin n->Array Value,(∀ x,L2 (fun e v=>∀ σ,RA M σ e v) (E x) (encs x).toList) /\
   SeqStopsK (FW none) 1 P gf cs encs (KpS Ow) (fun xs=>xs.map Fin.val=List.range n) (fun pre=>∃ j,j<n/\pre.map Fin.val=List.range (j+1)) n w
section
variable {P:Program} {N:Nat} {W0 W W':World} {X:Nat→Option Loc} {M0 M:Nat→Option Obj} {σ:Nat→Loc} {T:Nat→Option Tv} {H:Nat→Option Blk} {a:Act}
def Blk.isM:Blk->Bool
 | .omap .. => true
 | _=>false
theorem bK (hs:Sim N W0 X M0 M σ T H a W) (hH:∀ n b,H n=some b->b.isM=false) {row:Option Nat} (hg:W.grownBy W' row) (hr:∀ r,row=some r->W0.heap.size<=r/\(∃ o:Obj,W.heap[r]? = some o/\o.isCells=false)/\M r=none):Sim N W0 X M0 M σ T H a W':=by
 have hsame:∀ b (o:Obj),W.heap[b]? = some o->(o.isCells=true\/M b=some o\/b<W0.heap.size)->W'.heap[b]? = some o:=fun b o hb hc=>by
  refine (hg.block b (Array.getElem?_eq_some_iff.1 hb).1 fun e => ?_).trans hb
  obtain ⟨h1,⟨o',h2,h3⟩,h4⟩:=hr b e.symm
  rw [hb] at h2;injection h2 with h2;subst h2
  rcases hc with h | h | h
  ·rw [h3] at h;cases h
  ·rw [h4] at h;cases h
  omega
 refine ⟨hg.os.trans hs.os,hg.tape.trans hs.tape,hg.output.trans hs.output,Nat.le_trans hs.size hg.size,fun b hb hx => ?_,hs.sub,hs.new,hs.pin,hs.defers,hs.room,hs.tmps,fun b o h=>hsame b o (hs.imm b o h) (.inr (.inl h)),fun n b h => ?_,hs.loc,hs.inj⟩
 ·have h1:=hs.old b hb hx
  have h2:W0.heap[b]? = some W0.heap[b]:=Array.getElem?_eq_getElem hb
  rw [h2] at h1 ⊢
  exact hsame b _ h1 (.inr (.inr hb))
 refine (hs.blk n b h).mono (fun _ _ h=>h) (fun _ _=>rfl) fun hn => ?_
 have hb:=hs.blk n b h
 cases b with
 | cells l ty=>obtain ⟨_,c,hc,_⟩:=hb;rw [hc];exact hsame _ _ hc (.inl rfl)
 | row sz len f ty =>
  rcases hb with ⟨h0,_⟩ | ⟨_,c,hc,_⟩
  ·rw [hn] at h0;cases h0
  rw [hc];exact hsame _ _ hc (.inl rfl)
 | omap=>have:=hH n _ h;cases this
 | rowx sz len f ty hh=>obtain ⟨_,c,hc,_⟩:=hb;rw [hc];exact hsame _ _ hc (.inl rfl)
end
end
section
open Go.RowKit
def Cr (pids:List Nat) (σ:Nat->Loc) (X:Nat->Option Loc) (n:Nat):Option Loc:=bif Au pids n then some (σ n) else X n
def DR (fid:Nat) (fl:Loc) (X:Nat->Option Loc) (n:Nat):Option Loc:=bif Nat.beq n fid then some fl else X n
def JZ (M1 M3:Nat->Option Obj) (b:Nat):Option Obj:=match M1 b with
 | some o=>some o
 | none=>match M3 b with
  | some (.cells c t f)=>some (.cells c t f)
  | _=>none
def Cln (M M':Nat->Option Obj):Prop:=(∀ b o,M b=some o->M' b=some o)/\∀ b o,M' b=some o->o.isCells=false->M b=some o
theorem Ig {M1 M3:Nat->Option Obj} (h:∀ b o,M1 b=some o->M3 b=some o) {b:Nat} {o:Obj} (hb:JZ M1 M3 b=some o):M3 b=some o:=by
 unfold JZ at hb
 cases h1:M1 b with
 | some o'=>rw [h1] at hb;injection hb with hb;subst hb;exact h b _ h1
 | none =>
  rw [h1] at hb
  cases h3:M3 b with
  | none=>rw [h3] at hb;cases hb
  | some o' =>
   rw [h3] at hb
   cases o' with
   | cells c t f=>exact hb
   | _=>cases hb
theorem Sh {M1 M3:Nat->Option Obj} {b:Nat} {o:Obj} (h:M1 b=some o):JZ M1 M3 b=some o:=by unfold JZ;rw [h]
theorem ME {M1 M3:Nat->Option Obj} (h:∀ b o,M1 b=some o->M3 b=some o) (b:Nat) (c:Array Value) (t:TypeId) (f:Nat×Nat) (h3:M3 b=some (.cells c t f)):JZ M1 M3 b=some (.cells c t f):=by
 unfold JZ
 cases h1:M1 b with
 | some o'=>have:=h b _ h1;rw [h3] at this;injection this with this;rw [this]
 | none=>simp only [h3]
theorem RD {M M1 M3:Nat->Option Obj} (hc:Cln M M1) (h:∀ b o,M1 b=some o->M3 b=some o):Cln M (JZ M1 M3):=by
 refine ⟨fun b o hb=>Sh (hc.1 b o hb),fun b o hb ho => ?_⟩
 unfold JZ at hb
 cases h1:M1 b with
 | some o'=>rw [h1] at hb;injection hb with hb;subst hb;exact hc.2 b _ h1 ho
 | none =>
  rw [h1] at hb
  cases h3:M3 b with
  | none=>rw [h3] at hb;cases hb
  | some o' =>
   rw [h3] at hb
   cases o' with
   | cells c t f=>injection hb with hb;subst hb;cases ho
   | _=>cases hb
section
variable {P:Program} {N:Nat} {W0 W W' w:World} {X:Nat→Option Loc} {M0 M M' M3:Nat→Option Obj} {σ σ' σ3:Nat→Loc} {T T':Nat→Option Tv} {H H':Nat→Option Blk} {a a':Act} {pids:List Nat} {fid:Nat} {fl:Loc}
theorem dD {q:Nat} (hq:X q=some (σ q)) (hfl:fl.b=(σ q).b) {b:Nat} (h:inX (DR fid fl X) b):inX X b:=by
 obtain ⟨n,x,hn,hb⟩:=h
 unfold DR at hn
 cases hm:Nat.beq n fid with
 | true=>rw [hm] at hn;injection hn with hn;subst hn;exact ⟨q,_,hq,by rw [<- hfl];exact hb⟩
 | false=>rw [hm] at hn;exact ⟨n,x,hn,hb⟩
theorem gY (hs:Sim N W0 (Cr pids σ X) M0 M' σ' T H a W) {a2:Act} (hd:a2.defers=[]) (hr:a2.tmps.size=N) (hfN:N<=fid) (hfp:Au pids fid=false)
  (hT:∀ i v,T' i=some v->RT M' σ' v (a2.tmps.getD i undef)) (hTf:∀ i v,T' i=some v->v.no fid=true) (hHf:∀ n b,H n=some b->n≠fid/\b.no fid=true/\n∈pids) (hXf:X fid=none) (hmem:∀ n,n∈pids->Au pids n=true) :
  Sim N W (DR fid fl (Cr pids σ X)) M' M' (upd σ' fid fl) T' H a2 W:=by
 have hu:∀ d,d≠fid->upd σ' fid fl d=σ' d:=fun d hd=>by
  unfold upd
  cases hb:Nat.beq d fid with
  | true=>exact absurd (Nat.eq_of_beq_eq_true hb) hd
  | false=>rfl
 refine ⟨rfl,rfl,rfl,Nat.le_refl _,fun _ _ _=>rfl,fun _ _ h=>h,fun b o h h'=>by (rw [h] at h';cases h'),fun n x hn => ?_,?_,hr,fun i v hv => ?_,hs.imm,fun n b hb => ?_,fun n b hb => ?_,fun n m b c hb hc hne => ?_⟩
 ·unfold DR at hn
  cases hm:Nat.beq n fid with
  | true =>
   rw [hm] at hn;injection hn with hn
   have:=Nat.eq_of_beq_eq_true hm
   subst this
   exact ⟨hfN,by unfold upd;rw [hm];exact hn⟩
  | false =>
   rw [hm] at hn
   have h1:=hs.pin n x hn
   exact ⟨h1.1,by unfold upd;rw [hm];exact h1.2⟩
 ·exact ⟨by rw [hd];trivial,fun _=>hd⟩
 ·exact Da (fun _ _ h=>h) (fun d hd=>hu d (fun e=>by subst e;rw [hTf i v hv] at hd;cases hd)) (hT i v hv)
 ·obtain ⟨h1,h2,h3⟩:=hHf n b hb
  rw [hu n h1]
  exact (hs.blk n b hb).mono (fun _ _ h=>h) (fun d hd=>hu d (fun e=>by subst e;rw [h2] at hd;cases hd)) (fun _=>rfl)
 ·obtain ⟨h1,h2,h3⟩:=hHf n b hb
  rw [hu n h1]
  refine (hs.loc n b hb).imp id fun h=>⟨h.1,.inr ⟨n,σ' n,?_,rfl⟩⟩
  have hp:Cr pids σ X n=some (σ n):=by unfold Cr;rw [hmem n h3];rfl
  have hb:Nat.beq n fid=false:=by rw [CS];simp [h1]
  unfold DR
  rw [hb]
  show Cr pids σ X n=some (σ' n)
  rw [hp,(hs.pin n _ hp).2]
 rw [hu n (hHf n b hb).1,hu m (hHf m c hc).1]
 exact hs.inj n m b c hb hc hne
theorem mac0 {p:Prop} (h:p:=by
 have hsub:∀ b o,M' b=some o->M3 b=some o:=hr.sub
 refine ⟨hr.os.trans hs.os,hr.tape.trans hs.tape,hr.output.trans hs.output,Nat.le_trans hs.size hr.size,fun b hb hx => ?_,fun b o h=>Sh (hs.sub b o h),fun b o h h' => ?_,hX2,hd,hsz,hT2,fun b o h=>hr.imm b o (Ig hsub h),fun n b h=>mp0 (ME hsub) (hr.blk n b (hH2 n b h)) (hH n b h),fun n b h => ?_,fun n m b c hb hc hne=>hr.inj n m b c (hH2 n b hb) (hH2 m c hc) hne⟩
 ·have h1:¬ inX XA b:=fun h=>hx ((hX3 b).1 h)
  refine (hr.old b (Nat.lt_of_lt_of_le hb hs.size) fun h => ?_).trans (hs.old b hb h1)
  rcases hin b h with h | h
  ·exact h1 h
  omega
 ·cases h1:M' b with
  | some o'=>exact hs.new b o' h1 h'
  | none=>exact Nat.le_trans hs.size (hr.new b o (Ig hsub h) h1)
 refine (hr.loc n b (hH2 n b h)).imp id fun h=>⟨?_,?_⟩
 ·cases hc:JZ M' M3 (σ3 n).b with
  | none=>rfl
  | some o=>have:=Ig hsub hc;rw [h.1] at this;cases this
 rcases h.2 with h | h
 ·exact .inl (Nat.le_trans hs.size h)
 rcases hin _ h with h | h
 ·exact .inr ((hX3 _).1 h)
 exact .inl h):p:=h
section
 open Go.Proofs.YtheobjkgllmnmaaGreat renaming eE→mp0
theorem Ts {XA Xr X2:Nat->Option Loc} (hs:Sim N W0 XA M0 M' σ' T H a W) (hr:Sim N W Xr M' M3 σ3 T' H' a' W') (hin:∀ b,inX Xr b->inX XA b\/W0.heap.size<=b)
  {H2:Nat->Option Blk} (hH2:∀ n b,H2 n=some b->H' n=some b) (hH:∀ n b,H2 n=some b->BkM b) {a2:Act} {T2:Nat->Option Tv} (hsz:a2.tmps.size=N) (hT2:∀ i v,T2 i=some v->RT (JZ M' M3) σ3 v (a2.tmps.getD i undef)) (hX2:∀ n x,X2 n=some x->N<=n/\σ3 n=x) (hX3:∀ b,inX XA b↔inX X2 b) (hd:Hu X2 M0 (JZ M' M3) a2.defers) :
  Sim N W0 X2 M0 (JZ M' M3) σ3 T2 H2 a2 W':=mac0
end
theorem gZ {XF:Nat->Option Loc} {p1:List Nat} (hs:Sim N W0 XF M0 M' σ' T H a W) (hd:a.defers=[]) (hN:∀ n∈p1,N<=n) (hH:∀ n b,H n=some b->Au p1 n=true):Sim N W (Cr p1 σ' XF) M' M' σ' T H a W:=by
 refine ⟨rfl,rfl,rfl,Nat.le_refl _,fun _ _ _=>rfl,fun _ _ h=>h,fun b o h h'=>by (rw [h] at h';cases h'),fun n x hn => ?_,⟨by rw [hd];trivial,fun _=>hd⟩,hs.room,hs.tmps,hs.imm,hs.blk,fun n b hb => ?_,hs.inj⟩
 ·unfold Cr at hn
  cases hm:Au p1 n with
  | true=>rw [hm] at hn;injection hn with hn;exact ⟨hN n (DE hm),hn⟩
  | false=>rw [hm] at hn;exact hs.pin n x hn
 exact (hs.loc n b hb).imp id fun h=>⟨h.1,.inr ⟨n,σ' n,by unfold Cr;rw [hH n b hb];rfl,rfl⟩⟩
end
end
section
open Go.RowKit
def uE (Q:Exit->AS->Prop) (t0:List (Nat×Tv)) (h0:List (Nat×Blk)) (Fm:Nat->Prop) (x:Nat):Exit->AS->Prop
 | .normal,s'=>(∀ n b,get h0 n=some b->get s'.h n=some b)/\(Fm x->Fm (x+1))
 | .ret,s'=>HsM s'.h/\(Fm x->Q .ret ⟨t0,s'.h⟩)
 | .exit id,s'=>HsM s'.h/\(Fm x->Q (.exit id) ⟨t0,s'.h⟩)
 | _,_=>False
def QC (Q:Exit->AS->Prop):Code->AS->Prop
 | .ret,s=>Q .ret s
 | .exit id,s=>Q (.exit id) s
 | _,_=>False
def Blk.isC:Blk->Bool
 | .cells .. => true
 | _=>false
theorem aB {b:Blk} (h:b.isC=true):b.isM=false:=by cases b <;> first | rfl | cases h
theorem aT {b:Blk} (h:BkM b):b.isM=false:=by cases b <;> first | rfl | exact h.elim
theorem R3 {pre:List Nat} {x:Nat} (h:pre++[x]=List.range (pre.length+1)):pre=List.range pre.length/\x=pre.length:=by
 rw [List.range_succ] at h
 have:=List.append_inj h (by simp)
 exact ⟨this.1,by simpa using this.2⟩
def VM (D:Nat) (M:Nat->Option Obj) (b:Nat):Option Obj:=bif Nat.beq b D then some (.deferred (some [])) else M b
theorem Ug {M0 M:Nat->Option Obj}:∀ {l:List Deferred} {d:Deferred},Gj M0 M l->d∈l->∃ D,d={ target:=.collected D,args := #[] }/\M D=some (.deferred (some []))
 | d0::l,d,h,hd=>by
  rcases List.mem_cons.1 hd with rfl | hd
  ·obtain ⟨⟨D,h1,h2,_⟩,_⟩:=h
   exact ⟨D,h1,h2⟩
  exact Ug h.2 hd
theorem VF {N:Nat} {W0 W:World} {XA X:Nat->Option Loc} {M0 M:Nat->Option Obj} {σ:Nat->Loc} {T:Nat->Option Tv} {H:Nat->Option Blk} {a:Act} {D:Nat} (hs:Sim N W0 XA M0 M σ T H a W)
  (hD:W.heap[D]? = some (.deferred (some []))) (hD0:M0 D=none) (hDl:W0.heap.size<=D) (hne:∀ d'∈a.defers,d'≠{ target:=.collected D,args := #[] }) (hpin:∀ m x,X m=some x->N<=m/\σ m=x) (hXA:∀ b,inX XA b->W0.heap.size<=b\/inX X b) (hnf:¬ dW X) :
  Sim N W0 X M0 (VM D M) σ T H { a with defers:={ target:=.collected D,args := #[] }::a.defers } W:=by
 have hM:∀ b o,M b=some o->VM D M b=some o:=fun b o h=>by
  unfold VM
  cases hb:Nat.beq b D with
  | true =>
   have:=Nat.eq_of_beq_eq_true hb
   subst this
   have h2:=hs.imm b o h
   rw [hD] at h2
   exact h2
  | false=>exact h
 have hput:VM D M D=some (.deferred (some [])):=by unfold VM;rw [Nat.beq_refl];rfl
 have hoth:∀ b,b≠D->VM D M b=M b:=fun b h=>by unfold VM;rw [show Nat.beq b D=false by rw [CS];simp [h]];rfl
 refine ⟨hs.os,hs.tape,hs.output,hs.size,fun b hb hx=>hs.old b hb fun h => ?_,fun b o h=>hM b o (hs.sub b o h),fun b o h h' => ?_,hpin,⟨⟨⟨D,rfl,hput,hD0,hne⟩,Gj.mono hM hs.defers.1⟩,fun h=>absurd h hnf⟩,hs.room,fun i v h=>Da hM (fun _ _=>rfl) (hs.tmps i v h),fun b o h => ?_,fun n b h=>(hs.blk n b h).mono hM (fun _ _=>rfl) (fun _=>rfl),fun n b h => ?_,hs.inj⟩
 ·rcases hXA b h with h | h
  ·omega
  exact hx h
 ·by_cases e:b=D
  ·subst e;exact hDl
  rw [hoth b e] at h;exact hs.new b o h h'
 ·by_cases e:b=D
  ·subst e;rw [hput] at h;injection h with h;subst h;exact hD
  rw [hoth b e] at h;exact hs.imm b o h
 by_cases hn:(σ n).nil=true
 ·exact .inl hn
 rcases hs.loc n b h with h1 | ⟨h1,h2⟩
 ·exact .inl h1
 refine .inr ⟨?_,?_⟩
 ·rw [hoth _ fun e => ?_]
  ·exact h1
  have h3:=hs.blk n b h
  cases b with
  | cells l ty=>obtain ⟨_,c,hc,_⟩:=h3;rw [e,hD] at hc;cases hc
  | row sz len f ty =>
   rcases h3 with ⟨h4,_⟩ | ⟨_,c,hc,_⟩
   ·exact hn h4
   rw [e,hD] at hc;cases hc
  | omap=>obtain ⟨_,es,ck,g,hc,_⟩:=h3;rw [e,hD] at hc;cases hc
  | rowx=>obtain ⟨_,c,hc,_⟩:=h3;rw [e,hD] at hc;cases hc
 rcases h2 with h2 | h2
 ·exact .inl h2
 exact hXA _ h2
section
variable {P:Program} {N:Nat} {W0:World} {X:Nat→Option Loc} {M0:Nat→Option Obj}
theorem mZ {Q:Exit->AS->Prop} {g:Operand} {ps:Array Tmp} {assign body:Code} {t0:List (Nat×Tv)} {h0:List (Nat×Blk)} (pids:List Nat) (fid q:Nat) {gf:FuncId} {k:Nat} {caps:Nat->Cl} {n:Nat} {E:Fin n->List Av} (S1:Fin n->AS) (Fm:Nat->Prop)
  (hnf:¬ dW X) (hXf:X fid=none) (hXp:∀ m x,X m=some x->Au pids m=true)
  (hg:evT (get t0) g=some (.av (.one (.clo gf k caps)))) (hcd:(Cl.clo gf k caps).dv=true) (eg:∀ args w,(callFunc gf args).run P w=.ok (.enter gf args) w)
  (It:U0 P gf k caps n E) (hE:∀ x,(E x).length=ps.size) (hps:∀ p∈ps.toList,p<N)
  (hpv:∀ i v,get t0 i=some v->pvT pids v=true/\v.no fid=true) (hh:∀ m b,get h0 m=some b->Au pids m=true/\b.isC=true/\b.no fid=true/\m≠fid) (hpc:∀ m,Au pids m=true->∃ b,get h0 m=some b) (hfp:Au pids fid=false) (hfN:N<=fid) (hpN:∀ m∈pids,N<=m)
  (hmem:∀ m∈pids,Au pids m=true) (hq:Au pids q=true) (hEf:∀ x i v,get (LH t0 ps.toList (E x)) i=some v->v.no fid=true)
  (hm:HsM h0) (hS1:∀ x,TsM (S1 x).t/\HsM (S1 x).h/\(∀ m b,get h0 m=some b->get (S1 x).h m=some b)/\(∀ m b,get (S1 x).h m=some b->Au pids m=true/\b.isC=true))
  (hF:Fm 0)
  (hassign:∀ l W1 M1 X1 x,PX pids X1->AWp P (some l) N W1 X1 M1 assign (fun e s'=>e=.normal/\s'=S1 x) ⟨LH t0 ps.toList (E x),h0⟩)
  (hbody:∀ l W1 M1 X1 x,PX pids X1->AWp P (some l) N W1 X1 M1 body (uE Q t0 h0 Fm x.val) (S1 x))
  (hdone:Fm n->Q .normal ⟨t0,h0⟩):AWp P none N W0 X M0 (.rangeFunc g ps assign body) Q ⟨t0,h0⟩:=by
 intro M σ a w hs
 have hcell:∀ m,Au pids m=true->(σ m).nil=false:=fun m hm'=>by
  obtain ⟨b,hb⟩:=hpc m hm'
  have h1:=hs.blk m b hb
  have h2:=(hh m b hb).2.1
  cases b with
  | cells l ty=>exact h1.1
  | row=>cases h2
  | omap=>cases h2
  | rowx=>cases h2
 -- the iterator's value
 have hgv:=Fq hs.tmps hg
 obtain ⟨cs,hgv1,hgv2,hgv3⟩:=hgv
 have hcaps:∀ i,i<k->RC M (caps i) (cs.getD i undef):=fun i hi=>(Jw (List.all_eq_true.1 hcd i (List.mem_range.2 hi))).1 (hgv3 i hi)
 obtain ⟨encs,henc,hseq⟩:=It M w cs (fun _ b=>∃ m,Au pids m=true/\(σ m).b=b) hs.imm ⟨fun _ _ _ _ _ h=>h⟩ (fun b ⟨m,hmm,hb⟩=>by
  obtain ⟨bk,hbk⟩:=hpc m hmm
  have h1:=(hs.blk m bk hbk).lt (hcell m hmm)
  rcases hs.loc m bk hbk with h | ⟨h,_⟩
  ·rw [hcell m hmm] at h;cases h
  rw [hb] at h h1;exact ⟨h1,h⟩) hgv2 hcaps
 have hsz:∀ x,(encs x).size=ps.size:=fun x=>by
  have:=(henc x).length
  rw [hE x] at this
  simpa using this.symm
 -- names
 have hXP:∀ m x,Cr pids σ X m=some x->m≠fid/\N<=m/\σ m=x:=fun m x hx=>by
  unfold Cr at hx
  cases hmm:Au pids m with
  | true=>rw [hmm] at hx;injection hx with hx;exact ⟨fun e=>(by subst e;rw [hfp] at hmm;cases hmm),hpN m (DE hmm),hx⟩
  | false=>rw [hmm] at hx;rw [hXp m x hx] at hmm;cases hmm
 have hXPm:∀ m x,Cr pids σ X m=some x->Au pids m=true:=fun m x hx=>by
  unfold Cr at hx
  cases hmm:Au pids m with
  | true=>rfl
  | false=>rw [hmm] at hx;rw [hXp m x hx] at hmm;cases hmm
 have hPp:∀ m,Au pids m=true->Cr pids σ X m=some (σ m):=fun m h=>by unfold Cr;rw [h];rfl
 have hflat:dW (DR fid ⟨(σ q).b,424242,true⟩ (Cr pids σ X)):=⟨fid,_,by unfold DR;rw [Nat.beq_refl];rfl,rfl,rfl⟩
 have hFP:∀ b,inX (Cr pids σ X) b↔inX (DR fid ⟨(σ q).b,424242,true⟩ (Cr pids σ X)) b:=fun b=>by
  constructor
  ·rintro ⟨m,x,h1,h2⟩
   refine ⟨m,x,?_,h2⟩
   unfold DR
   rw [show Nat.beq m fid=false by rw [CS];simp [(hXP m x h1).1]]
   exact h1
  exact dD (fl:=⟨(σ q).b,424242,true⟩) (hPp q hq) rfl
 have hinO:∀ b,inX (DR fid ⟨(σ q).b,424242,true⟩ (Cr pids σ X)) b->∃ m,Au pids m=true/\(σ m).b=b:=fun b hb=>by
  obtain ⟨m,x,h1,h2⟩:=(hFP b).2 hb
  have hmm:=hXPm m x h1
  rw [hPp m hmm] at h1;injection h1 with h1;subst h1
  exact ⟨m,hmm,h2⟩
 have hPX:∀ b,inX (Cr pids σ X) b->W0.heap.size<=b\/inX X b:=fun b ⟨m,x,h1,h2⟩=>by
  have hmm:=hXPm m x h1
  rw [hPp m hmm] at h1;injection h1 with h1;subst h1
  obtain ⟨b',hb'⟩:=hpc m hmm
  rcases hs.loc m b' hb' with h | ⟨_,h⟩
  ·rw [hcell m hmm] at h;cases h
  rw [h2] at h;exact h
 have hflatP:∀ M4,(∀ b o,M b=some o->M4 b=some o)->Hu (Cr pids σ X) M0 M4 a.defers:=fun M4 h4=>⟨Gj.mono h4 hs.defers.1,fun ⟨m,x,h1,h2,_⟩=>by
  have hmm:=hXPm m x h1
  rw [hPp m hmm] at h1;injection h1 with h1;subst h1
  rw [hcell m hmm] at h2;cases h2⟩
 have hT0:∀ (M4:Nat->Option Obj) (σ4:Nat->Loc),(∀ b o,M b=some o->M4 b=some o)->(∀ m,Au pids m=true->σ4 m=σ m)->∀ i v,get t0 i=some v->RT M4 σ4 v (a.tmps.getD i undef):=fun M4 σ4 h4 hσ i v hv =>
  Da h4 (fun d hd=>hσ d (hmem d (Lz (hpv i v hv).1 hd))) (hs.tmps i v hv)
 have hs0:Sim N W0 (Cr pids σ X) M0 M σ (get t0) (get h0) a w:=⟨hs.os,hs.tape,hs.output,hs.size,fun b hb hx=>hs.old b hb fun ⟨m,x,h1,h2⟩=>hx ⟨m,σ m,hPp m (hXp m x h1),by rw [(hs.pin m x h1).2];exact h2⟩,hs.sub,hs.new,fun m x hx=>⟨(hXP m x hx).2.1,(hXP m x hx).2.2⟩,hflatP M (fun _ _ h=>h),hs.room,hs.tmps,hs.imm,hs.blk,fun m b hb=>.inr ⟨by
   rcases hs.loc m b hb with h | h
   ·rw [hcell m (hh m b hb).1] at h;cases h
   exact h.1,.inr ⟨m,σ m,hPp m (hh m b hb).1,rfl⟩⟩,hs.inj⟩
 have hlt:∀ b o,M b=some o->b<w.heap.size:=fun b o h=>(Array.getElem?_eq_some_iff.1 (hs.imm b o h)).1
 have hCgrow:∀ {X':Nat->Option Loc} {M1:Nat->Option Obj} {σ1:Nat->Loc} {T:Nat->Option Tv} {H:Nat->Option Blk} {b:Act} {A B:World} {row:Option Nat},Sim N W0 X' M0 M1 σ1 T H b A->(∀ n b,H n=some b->b.isM=false)->Cln M M1->A.grownBy B row->(∀ r,row=some r->w.heap.size<=r/\∃ o:Obj,A.heap[r]? = some o/\o.isCells=false)->Sim N W0 X' M0 M1 σ1 T H b B:=by
  intro X' M1 σ1 T H b A B row h1 hH h2 h3 h4
  refine bK h1 hH h3 fun r e => ?_
  exact by
   obtain ⟨h5,o,h6,h7⟩:=h4 r e
   refine ⟨Nat.le_trans hs.size h5,⟨o,h6,h7⟩,?_⟩
   cases hM1:M1 r with
   | none=>rfl
   | some o' =>
    have h8:=h1.imm r o' hM1
    rw [h6] at h8;injection h8 with h8;subst h8
    have:=hlt r _ (h2.2 r _ hM1 h7)
    omega
 -- what holds between two rounds,and within one
 obtain ⟨XP,hXPd⟩:∃ XP,Cr pids σ X=XP:=⟨_,rfl⟩
 obtain ⟨XF,hXFd⟩:∃ XF,DR fid ⟨(σ q).b,424242,true⟩ (Cr pids σ X)=XF:=⟨_,rfl⟩
 let SI:World->Prop:=fun W=>∃ M' σ',Sim N W0 (Cr pids σ X) M0 M' σ' (get t0) (get h0) a W/\Cln M M'
 let Ax:Fin n->Act->World->Prop:=fun x a' W=>∃ M' σ',Sim N W0 (DR fid ⟨(σ q).b,424242,true⟩ (Cr pids σ X)) M0 M' σ' (get (S1 x).t) (get (S1 x).h) a' W/\Cln M M'
 have hcells:∀ {X':Nat->Option Loc} {M1:Nat->Option Obj} {σ1:Nat->Loc} {T:Nat->Option Tv} {H:Nat->Option Blk} {b:Act} {A:World},Sim N W0 X' M0 M1 σ1 T H b A->∀ m x,H m=some x->x.isC=true->∃ o:Obj,A.heap[(σ1 m).b]? = some o/\o.isCells=true:=fun h1 m x hx hc=>by
  have h2:=h1.blk m x hx
  cases x with
  | cells l ty=>obtain ⟨_,c,h3,_⟩:=h2;exact ⟨_,h3,rfl⟩
  | row=>cases hc
  | omap=>cases hc
  | rowx=>cases hc
 have hσP:∀ {X':Nat->Option Loc} {M1:Nat->Option Obj} {σ1:Nat->Loc} {T:Nat->Option Tv} {H:Nat->Option Blk} {b:Act} {A W1:World} {Mb:Nat->Option Obj},Sim N W1 X' Mb M1 σ1 T H b A->(∀ m,Au pids m=true->X' m=some (σ m))->∀ m,Au pids m=true->σ1 m=σ m:=fun h1 h2 m hmm=>(h1.pin m _ (h2 m hmm)).2
 have hFpin:∀ m,Au pids m=true->DR fid ⟨(σ q).b,424242,true⟩ (Cr pids σ X) m=some (σ m):=fun m hmm=>by
  unfold DR
  rw [show Nat.beq m fid=false by rw [CS];simp;intro e;subst e;rw [hfp] at hmm;cases hmm]
  exact hPp m hmm
 have hPXF:PX pids (DR fid ⟨(σ q).b,424242,true⟩ (Cr pids σ X)):=fun m y hy=>by
  by_cases hm2:m=fid
  ·subst hm2
   unfold DR at hy
   rw [Nat.beq_refl] at hy
   injection hy with hy;subst hy
   exact ⟨q,hq,σ q,hFpin q hq,rfl⟩
  unfold DR at hy
  rw [show Nat.beq m fid=false by rw [CS];simp [hm2]] at hy
  have hmm:=hXPm m y hy
  exact ⟨m,hmm,y,by unfold DR;rw [show Nat.beq m fid=false by rw [CS];simp [hm2]];exact hy,rfl⟩
 refine wpIn_wide.2 ((wpIn_wide (n:=2)).1 ?_)
 refine wpIn_rangeFunc_ownH (F:=FW none) (n:=2) rfl (by decide) hgv1 trivial eg hseq KpS.trans (fun W l o o' hl ho hoc hw=>⟨by simp,fun b o2 hb hb2 _ => ?_,fun b hb=>.inl hb⟩) (Below.refl _ _) hsz
  (fun pre W=>SI W/\(pre.map Fin.val=List.range pre.length->Fm pre.length))
  (fun c pre W=>∃ hx,(∃ M' σ',Sim N W0 (Cr pids σ X) M0 M' σ' (get t0) (get hx) a W/\Cln M M')/\(∀ j,pre.map Fin.val=List.range (j+1)->QC Q c ⟨t0,hx⟩)/\∀ n b,get hx n=some b->b.isM=false)
  ?hI ?hIx ⟨⟨M,σ,hs0,fun _ _ h=>h,fun _ _ h _=>h⟩,fun _=>hF⟩ Ax ?hAx ?assign ?body ?done ?stop
 ·rw [World.putObj_heap_other (fun e=>by subst e;rw [ho] at hb;injection hb with hb;subst hb;rw [hoc] at hb2;cases hb2)]
  exact hb
 case hI =>
  rintro pre A B row ⟨⟨M',σ',h1,h2⟩,h3⟩ hg' hr
  exact ⟨⟨M',σ',hCgrow h1 (fun m b hb=>aB (hh m b hb).2.1) h2 hg' hr,h2⟩,h3⟩
 case hIx =>
  rintro c pre A B row ⟨hx,⟨M',σ',h1,h2⟩,h3,hnm⟩ hg' hr
  exact ⟨hx,⟨M',σ',hCgrow h1 hnm h2 hg' hr,h2⟩,h3,hnm⟩
 case hAx =>
  rintro x a' _ A B row ⟨M',σ',h1,h2⟩ hg' hr
  exact ⟨M',σ',hCgrow h1 (fun m b hb=>aB ((hS1 x).2.2.2 m b hb).2) h2 hg' hr,h2⟩
 case assign =>
  rintro l pre x W K ⟨⟨M',σ',h1,h2⟩,h3⟩ hK
  have hσ':=hσP h1 hPp
  obtain ⟨hfs,hft⟩:=Ua ps.toList (E x) (encs x).toList t0 a.tmps (hT0 M' σ' h2.1 hσ') hs.room ((henc x).mono fun e _ v hv=>NK h2.1 (fun _ _=>rfl) (hv σ')) (by simpa using (hE x).symm) hps
  have efold:(ps.zip (encs x)).foldl (fun t (p,v)=>t.setIfInBounds p v) a.tmps=(ps.toList.zip (encs x).toList).foldl (fun t (y:Tmp×Value)=>t.setIfInBounds y.1 y.2) a.tmps:=by
   rw [<- Array.foldl_toList,Array.toList_zip]
  rw [efold]
  have hin:=gY (fid:=fid) (fl:=⟨(σ q).b,424242,true⟩) (T':=get (LH t0 ps.toList (E x))) h1 (a2:={ tmps:=_,defers:=[] }) rfl hfs hfN hfp hft (hEf x) (fun m b hb=>⟨(hh m b hb).2.2.2,(hh m b hb).2.2.1,DE (hh m b hb).1⟩) hXf hmem
  refine wpIn_mono (hassign l W M' _ x hPXF M' _ _ W hin) ?_
  rintro e a' W' ⟨s',M3,σ3,⟨rfl,rfl⟩,hr⟩
  have hC:=RD h2 hr.sub
  have hσ3:=hσP hr hFpin
  refine hK a' W' ⟨hr.size,fun b o hb ho hoc => ?_⟩ ⟨hr.size,fun b o hb hb2 ho=>(hr.old b (Array.getElem?_eq_some_iff.1 hb).1 (fun hX=>ho (hinO b hX))).trans hb,fun b hb=>.inl hb⟩ ⟨⟨_,σ3,Ts (T2:=get t0) (H2:=get h0) (a2:=a) h1 hr (fun b hb=>.inl ((hFP b).2 hb)) (hS1 x).2.2.1 (fun m b hb=>hm m b hb) hs.room (hT0 _ σ3 hC.1 hσ3) (fun m y hy => ?_) (fun b=>Iff.rfl) (hflatP _ hC.1),hC⟩,h3⟩ ⟨_,σ3,Ts (T2:=get (S1 x).t) (H2:=get (S1 x).h) (a2:=a') h1 hr (fun b hb=>.inl ((hFP b).2 hb)) (fun _ _ h=>h) (hS1 x).2.1 hr.room (fun i v hv=>RL (ME hr.sub) (hr.tmps i v hv) ((hS1 x).1 i v hv)) (fun m y hy=>hr.pin m y hy) hFP ⟨by rw [hr.defers.2 hflat];trivial,fun _=>hr.defers.2 hflat⟩,hC⟩
  ·have hblt:=(Array.getElem?_eq_some_iff.1 ho).1
   refine (hr.old b hblt fun hX => ?_).trans ho
   obtain ⟨m,y,hy,hb2⟩:=(hFP b).2 hX
   have hmm:=hXPm m y hy
   rw [hPp m hmm] at hy;injection hy with hy;subst hy
   obtain ⟨bb,hbb⟩:=hpc m hmm
   obtain ⟨o2,h4,h5⟩:=hcells h1 m bb hbb (hh m bb hbb).2.1
   rw [hσ' m hmm,hb2,ho] at h4;injection h4 with h4;subst h4
   rw [hoc] at h5;cases h5
  have hmm:=hXPm m y hy
  refine ⟨(hXP m y hy).2.1,(hσ3 m hmm).trans (hXP m y hy).2.2⟩
 case body =>
  rintro l pre x a' W hl hrec ⟨_,hFm⟩ ⟨M',σ',h1,h2⟩ hlen
  have hd:a'.defers=[]:=h1.defers.2 hflat
  have hb1:=gZ (p1:=pids) h1 hd hpN (fun m b hb=>((hS1 x).2.2.2 m b hb).1)
  have hσ':=hσP h1 hFpin
  have hXB:∀ b,inX (Cr pids σ' (DR fid ⟨(σ q).b,424242,true⟩ (Cr pids σ X))) b->(inX (DR fid ⟨(σ q).b,424242,true⟩ (Cr pids σ X)) b\/W0.heap.size<=b)/\∃ o:Obj,W.heap[b]? = some o/\o.isCells=true:=by
   rintro b ⟨m,y,hy,hyb⟩
   unfold Cr at hy
   cases hmm:Au pids m with
   | true =>
    rw [hmm] at hy;injection hy with hy;subst hy
    obtain ⟨bb,hbb0⟩:=hpc m hmm
    have hbb:=(hS1 x).2.2.1 m bb hbb0
    have hc:=hcells h1 m bb hbb ((hS1 x).2.2.2 m bb hbb).2
    rw [hyb] at hc
    refine ⟨?_,hc⟩
    have hnil:(σ' m).nil=false:=by
     have h5:=h1.blk m bb hbb
     have h6:=((hS1 x).2.2.2 m bb hbb).2
     cases bb with
     | cells l ty=>exact h5.1
     | row=>cases h6
     | omap=>cases h6
     | rowx=>cases h6
    rcases h1.loc m bb hbb with h | ⟨_,h⟩
    ·rw [hnil] at h;cases h
    rw [hyb] at h;exact h.symm
   | false =>
    rw [hmm] at hy
    have hin:inX (DR fid ⟨(σ q).b,424242,true⟩ (Cr pids σ X)) b:=⟨m,y,hy,hyb⟩
    refine ⟨.inl hin,?_⟩
    obtain ⟨m2,y2,hy2,hb2⟩:=(hFP b).2 hin
    have hmm2:=hXPm m2 y2 hy2
    rw [hPp m2 hmm2] at hy2;injection hy2 with hy2;subst hy2
    obtain ⟨bb,hbb⟩:=hpc m2 hmm2
    have hc:=hcells h1 m2 bb ((hS1 x).2.2.1 m2 bb hbb) (hh m2 bb hbb).2.1
    rw [hσ' m2 hmm2,hb2] at hc
    exact hc
  refine wpIn_mono (hbody l W M' _ x (fun m y hy=>by
   unfold Cr at hy
   cases hmm:Au pids m with
   | true=>rw [hmm] at hy;injection hy with hy;subst hy;exact ⟨m,hmm,σ' m,by unfold Cr;rw [hmm];rfl,rfl⟩
   | false =>
    rw [hmm] at hy
    obtain ⟨q2,hq2,y2,hy2,he2⟩:=hPXF m y hy
    refine ⟨q2,hq2,σ' q2,by unfold Cr;rw [hq2];rfl,?_⟩
    rw [hFpin q2 hq2] at hy2;injection hy2 with hy2;subst hy2
    rw [hσ' q2 hq2];exact he2) M' _ _ W hb1) ?_
  rintro e a2 W' ⟨s',M3,σ3,hpost,hr⟩
  have hC:=RD h2 hr.sub
  have hXBp:∀ m,Au pids m=true->Cr pids σ' (DR fid ⟨(σ q).b,424242,true⟩ (Cr pids σ X)) m=some (σ m):=fun m hmm=>by
   unfold Cr
   cases hm1:Au pids m with
   | true=>rw [<- hσ' m hmm];rfl
   | false=>exact hFpin m hmm
  have hσ3:=hσP hr hXBp
  have hkeep:KeepsFrom w.heap.size W W':=⟨hr.size,fun b o hb ho hoc=>by
   refine (hr.old b (Array.getElem?_eq_some_iff.1 ho).1 fun hX => ?_).trans ho
   obtain ⟨_,o2,h4,h5⟩:=hXB b hX
   rw [ho] at h4;injection h4 with h4;subst h4
   rw [hoc] at h5;cases h5⟩
  have hKp:KpS (fun _ b=>∃ m,Au pids m=true/\(σ m).b=b) W W':=⟨hr.size,fun b o hb hb2 ho=>(hr.old b (Array.getElem?_eq_some_iff.1 hb).1 (fun ⟨m,y,hy,hyb⟩=>by
   unfold Cr at hy
   cases hmm:Au pids m with
   | true=>rw [hmm] at hy;injection hy with hy;subst hy;exact ho ⟨m,hmm,by rw [<- hσ' m hmm];exact hyb⟩
   | false=>rw [hmm] at hy;exact ho (hinO b ⟨m,y,hy,hyb⟩))).trans hb,fun b hb=>.inl hb⟩
  have hsim:∀ hx:List (Nat×Blk),(∀ m b,get hx m=some b->get s'.h m=some b)->HsM hx->∃ M' σ',Sim N W0 (Cr pids σ X) M0 M' σ' (get t0) (get hx) a W'/\Cln M M':=fun hx hx1 hx2 =>
   ⟨_,σ3,Ts (T2:=get t0) (H2:=get hx) (a2:=a) h1 hr (fun b hb=>(hXB b hb).1) hx1 (fun m b hb=>hx2 m b hb) hs.room (hT0 _ σ3 hC.1 hσ3) (fun m y hy=>⟨(hXP m y hy).2.1,(hσ3 m (hXPm m y hy)).trans (hXP m y hy).2.2⟩) (fun b=>(hFP b).symm) (hflatP _ hC.1),hC⟩
  have hok:∀ j,(pre++[x]).map Fin.val=List.range (j+1)->Fm x.val:=fun j hj=>by
   rw [List.map_append] at hj
   have hjl:j=(pre.map Fin.val).length:=by
    have:=congrArg List.length hj
    simp at this
    simp;omega
   subst hjl
   obtain ⟨h4,h5⟩:=R3 hj
   have h6:x.val=pre.length:=by simpa using h5
   rw [h6]
   exact hFm (by simpa using h4)
  cases e with
  | normal =>
   refine ⟨hkeep,hKp,hsim h0 hpost.1 hm,fun hj => ?_⟩
   have hj':(pre++[x]).map Fin.val=List.range (pre.length+1):=by simpa using hj
   have h7:=hpost.2 (hok _ hj')
   have h8:x.val=pre.length:=by
    rw [List.map_append] at hj'
    have:pre.length=(pre.map Fin.val).length:=by simp
    rw [this] at hj'
    have:=(R3 hj').2
    simpa using this
   rw [h8] at h7
   simpa using h7
  | ret=>exact ⟨hkeep,s'.h,hsim s'.h (fun _ _ h=>h) hpost.1,fun j hj=>hpost.2 (hok j hj),fun m b hb=>aT (hpost.1 m b hb)⟩
  | exit id=>exact ⟨hkeep,s'.h,hsim s'.h (fun _ _ h=>h) hpost.1,fun j hj=>hpost.2 (hok j hj),fun m b hb=>aT (hpost.1 m b hb)⟩
  | goto l=>exact hpost.elim
  | panic=>exact hpost
  | outgrown=>exact hpost
 all_goals
  have hmark:∀ (D:Nat) (W:World) (M':Nat->Option Obj) (σ':Nat->Loc) (hx:List (Nat×Blk)),w.heap.size<=D->W.heap[D]? = some (.deferred (some []))->Sim N W0 (Cr pids σ X) M0 M' σ' (get t0) (get hx) a W->Sim N W0 X M0 (VM D M') σ' (get t0) (get hx) { a with defers:={ target:=.collected D,args := #[] }::a.defers } W:=fun D W M' σ' hx hD hK h1 =>
   VF h1 hK (by
    cases h0D:M0 D with
    | none=>rfl
    | some o=>have:=hlt D o (hs.sub D o h0D);omega) (Nat.le_trans hs.size hD) (fun d' hd' e=>by
    obtain ⟨D',h3,h4⟩:=Ug hs.defers.1 hd'
    rw [h3] at e
    injection e with e1 _
    injection e1 with e1
    subst e1
    have:=hlt _ _ h4
    omega) (fun m x hx=>⟨(hs.pin m x hx).1,(hσP h1 hPp m (hXp m x hx)).trans (hs.pin m x hx).2⟩) hPX hnf
 case done =>
  rintro D xs W hD hS ⟨⟨M',σ',h1,h2⟩,hFm⟩ hK
  have hlen:xs.length=n:=by
   have:=congrArg List.length hS
   simpa using this
  exact ⟨⟨t0,h0⟩,_,σ',hdone (by have:=hFm (by rw [hlen];exact hS);rwa [hlen] at this),hmark D W M' σ' h0 hD hK h1⟩
 case stop =>
  rintro D c pre W hD ⟨j,hj,hpre⟩ ⟨hx,⟨M',σ',h1,h2⟩,h3⟩ hK
  have hq2:=h3.1 j hpre
  cases c with
  | ret=>exact wpIn_ret ⟨⟨t0,hx⟩,_,σ',hq2,hmark D W M' σ' hx hD hK h1⟩
  | exit id=>exact wpIn_exit ⟨⟨t0,hx⟩,_,σ',hq2,hmark D W M' σ' hx hD hK h1⟩
  | _=>exact hq2.elim
end
end
section
open Go.RowKit
abbrev IQ:=Exit->AS->(World->Prop)->Bool->Prop
def IOk (Ow:World->Nat->Prop) (n0:Nat) (al:Bool) (M:Nat->Option Obj) (W0:World):Prop:=al=true->n0<=W0.heap.size/\(∀ b,Ow W0 b->b<W0.heap.size)/\∀ b o,M b=some o->¬ Ow W0 b
def IWp (P:Program) (N:Nat) (Ow:World->Nat->Prop) (n0:Nat) (c:Code) (Q:IQ) (s:AS) (J:World->Prop) (al:Bool):Prop :=
 ∀ W0 M σ a w,(J W0/\a.defers=[]/\IOk Ow n0 al M W0)->Sim N W0 noX M M σ (get s.t) (get s.h) a w->c.wpIn (FW none) 0 P (fun e a' w'=>∃ s' J' al' W0' M' σ',Q e s' J' al'/\(J' W0'/\a'.defers=[]/\IOk Ow n0 al' M' W0')/\Sim N W0' noX M' M' σ' (get s'.t) (get s'.h) a' w') a w
def ITh (K:AS->(World->Prop)->Bool->Prop) (Q:IQ):IQ
 | .normal,s,J,M=>K s J M
 | e,s,J,M=>Q e s J M
def IBl (id:Nat) (Q:IQ):IQ
 | .exit id',s,J,M=>if id'=id then Q .normal s J M else Q (.exit id') s J M
 | e,s,J,M=>Q e s J M
theorem gQ {d:Nat} {v:Tv} (h:v.dv=true):v.no d=true:=by
 cases v with
 | av x=>exact Ka h
 | tup l =>
  simp only [Tv.dv,Tv.no,List.all_eq_true] at *
  exact fun x hx=>Ka (h x hx)
 | grd g x=>cases h
section
variable {P:Program} {N:Nat} {Ow:World→Nat→Prop} {n0:Nat} {Q:IQ} {s:AS} {J:World→Prop} {al:Bool} {Mc:Nat→Option Obj}
def LP (N b:Nat) (m:Nat):Option Loc:=bif Nat.beq m N then some ⟨b,424242,true⟩ else none
theorem Q3 {b m:Nat} {x:Loc} (hx:LP N b m=some x):m=N/\x=⟨b,424242,true⟩:=by
 unfold LP at hx
 cases hb:Nat.beq m N with
 | true=>rw [hb] at hx;injection hx with hx;exact ⟨Nat.eq_of_beq_eq_true hb,hx.symm⟩
 | false=>rw [hb] at hx;cases hx
theorem WP {b b':Nat} (h:inX (LP N b) b'):b'=b:=by
 obtain ⟨m,x,h1,h2⟩:=h
 rw [(Q3 h1).2] at h2
 exact h2.symm
theorem Ye {b:Nat}:dW (LP N b):=⟨N,⟨b,424242,true⟩,by unfold LP;rw [Nat.beq_refl];rfl,rfl,rfl⟩
theorem IL {W0 w:World} {M:Nat->Option Obj} {σ:Nat->Loc} {a:Act} (hdv:∀ i v,get s.t i=some v->v.dv=true) (hh:s.h=[]) (hd:a.defers=[]) (hs:Sim N W0 noX Mc M σ (get s.t) (get s.h) a w) :
  Sim N W0 (LP N W0.heap.size) Mc M (upd σ N ⟨W0.heap.size,424242,true⟩) (get s.t) (get s.h) a w:=by
 refine ⟨hs.os,hs.tape,hs.output,hs.size,fun b hb _=>hs.old b hb (Ec b),hs.sub,hs.new,fun m x hx => ?_,⟨by rw [hd];trivial,fun _=>hd⟩,hs.room,fun i v hv=>Da (fun _ _ h=>h) (fun d hd => ?_) (hs.tmps i v hv),hs.imm,fun n b hb => ?_,fun n b hb => ?_,fun n m b c hb => ?_⟩
 ·obtain ⟨rfl,rfl⟩:=Q3 hx
  exact ⟨Nat.le_refl _,by unfold upd;rw [Nat.beq_refl];rfl⟩
 ·rw [gQ (hdv i v hv)] at hd;cases hd
 all_goals rw [hh] at hb;cases hb
theorem Fj {W0 w:World} {M:Nat->Option Obj} {σ:Nat->Loc} {a:Act} {T:Nat->Option Tv} {H:Nat->Option Blk} (h2:Sim N W0 (LP N W0.heap.size) Mc M σ T H a w):a.defers=[]/\Sim N W0 noX M M σ T H a w:=by
 have hd:=h2.defers.2 Ye
 refine ⟨hd,h2.os,h2.tape,h2.output,h2.size,fun b hb _=>h2.old b hb fun h => ?_,fun _ _ h=>h,fun b o h h'=>(by rw [h] at h';cases h'),fun m x hx=>(by cases hx),⟨by rw [hd];trivial,fun _=>hd⟩,h2.room,h2.tmps,h2.imm,h2.blk,fun n b hb=>(h2.loc n b hb).imp id fun h=>⟨h.1,?_⟩,h2.inj⟩
 ·have:=WP h;omega
 rcases h.2 with h | h
 ·exact .inl h
 exact .inl (Nat.le_of_eq (WP h).symm)
theorem Hj {W0 w:World} {M M':Nat->Option Obj} {X:Nat->Option Loc} {σ:Nat->Loc} {T:Nat->Option Tv} {H:Nat->Option Blk} {a:Act} (h:IOk Ow n0 al M W0) (hO:OwS Ow n0) (hs:Sim N W0 X M M' σ T H a w):IOk Ow n0 al M' W0:=fun ha=>by
 obtain ⟨h1,h3,h2⟩:=h ha
 refine ⟨h1,h3,fun b o hb ho => ?_⟩
 cases hM:M b with
 | some o'=>exact h2 b o' hM ho
 | none=>have:=hs.new b o hb hM;have:=h3 b ho;omega
theorem Ce (hO:OwS Ow n0) {c:Code} (hdv:∀ i v,get s.t i=some v->v.dv=true) (hh:s.h=[]) (h:∀ W0 X1 M1,AWp P none N W0 X1 M1 c (fun e s'=>Q e s' J al) s):IWp P N Ow n0 c Q s J al:=by
 intro W0 M σ a w hJ hs
 refine wpIn_mono (h W0 _ M M _ a w (IL hdv hh hJ.2.1 hs)) ?_
 rintro e a' w' ⟨s',M',σ',h1,h2⟩
 obtain ⟨hd,h3⟩:=Fj h2
 exact ⟨s',J,al,W0,M',σ',h1,⟨hJ.1,hd,Hj hJ.2.2 hO h2⟩,h3⟩
theorem Ca {x y:Code} (h:IWp P N Ow n0 x (ITh (fun s' J' M'=>IWp P N Ow n0 y Q s' J' M') Q) s J al):IWp P N Ow n0 (.seq x y) Q s J al:=by
 intro W0 M σ a w hJ hs
 refine wpIn_seq (wpIn_mono (h W0 M σ a w hJ hs) ?_)
 rintro e a' w' ⟨s',J',al',W0',M',σ',h1,h2,h3⟩
 cases e with
 | normal=>exact h1 W0' M' σ' a' w' h2 h3
 | _=>exact ⟨s',J',al',W0',M',σ',h1,h2,h3⟩
theorem Et {id:Nat} {c:Code} (h:IWp P N Ow n0 c (IBl id Q) s J al):IWp P N Ow n0 (.block id c) Q s J al:=by
 intro W0 M σ a w hJ hs
 refine wpIn_block (wpIn_mono (h W0 M σ a w hJ hs) ?_)
 rintro e a' w' ⟨s',J',al',W0',M',σ',h1,h2,h3⟩
 cases e with
 | exit id' =>
  simp only [IBl] at h1
  simp only [Exit.inBlock]
  split
  ·rename_i he;rw [if_pos he] at h1;exact ⟨s',J',al',W0',M',σ',h1,h2,h3⟩
  rename_i he;rw [if_neg he] at h1;exact ⟨s',J',al',W0',M',σ',h1,h2,h3⟩
 | _=>exact ⟨s',J',al',W0',M',σ',h1,h2,h3⟩
theorem EM {c:Operand} {x y:Code} (b:Bool) (hc:evT (get s.t) c=some (.av (.one (.val (.bool b))))) (h1:b=true->IWp P N Ow n0 x Q s J al) (h2:b=false->IWp P N Ow n0 y Q s J al):IWp P N Ow n0 (.cond c x y) Q s J al:=by
 intro W0 M σ a w hJ hs
 have hv:a.eval c=.bool b:=(Fq hs.tmps hc).1
 exact wpIn_cond_split hv (fun hb=>h1 hb W0 M σ a w hJ hs) (fun hb=>h2 hb W0 M σ a w hJ hs)
theorem FN (h:Q .normal s J al):IWp P N Ow n0 .skip Q s J al:=fun W0 M σ a w hJ hs=>wpIn_skip ⟨s,J,al,W0,M,σ,h,hJ,hs⟩
theorem YW (h:Q .ret s J al):IWp P N Ow n0 .ret Q s J al:=fun W0 M σ a w hJ hs=>wpIn_ret ⟨s,J,al,W0,M,σ,h,hJ,hs⟩
theorem M6 {id:Nat} (h:Q (.exit id) s J al):IWp P N Ow n0 (.exit id) Q s J al:=fun W0 M σ a w hJ hs=>wpIn_exit ⟨s,J,al,W0,M,σ,h,hJ,hs⟩
theorem M5 {ι:Type} {c:Code} (S:ι->AS) (Jf:ι->World->Prop) (Inv:ι->Prop) (μ:ι->Nat) (round:∀ x,Inv x->IWp P N Ow n0 c (ITh (fun s' J' al'=>∃ y,Inv y/\μ y<μ x/\s'=S y/\J'=Jf y/\al'=al) Q) (S x) (Jf x) al) (x:ι) (hx:Inv x):IWp P N Ow n0 (.loop c) Q (S x) (Jf x) al:=by
 have key:∀ n x,μ x<n->Inv x->∀ W0 M σ a w,(Jf x W0/\a.defers=[]/\IOk Ow n0 al M W0)->Sim N W0 noX M M σ (get (S x).t) (get (S x).h) a w->Code.roundsIn (FW none) 0 P c (fun e a' w'=>∃ s' J' al' W0' M' σ',Q e s' J' al'/\(J' W0'/\a'.defers=[]/\IOk Ow n0 al' M' W0')/\Sim N W0' noX M' M' σ' (get s'.t) (get s'.h) a' w') n a w:=by
  intro n
  induction n with
  | zero=>intro x h;omega
  | succ n ih =>
   intro x hlt hx W0 M σ a w hJ hs
   rw [roundsIn_succ]
   refine wpIn_mono (round x hx W0 M σ a w hJ hs) ?_
   rintro e a' w' ⟨s',J',al',W0',M',σ',h1,h2,h3⟩
   cases e with
   | normal =>
    obtain ⟨y,hy,hm,rfl,rfl,rfl⟩:=h1
    exact ih y (by omega) hy W0' M' σ' a' w' h2 h3
   | _=>exact ⟨s',J',al',W0',M',σ',h1,h2,h3⟩
 intro W0 M σ a w hJ hs
 exact wpIn_loop_rounds (μ x+1) (key (μ x+1) x (Nat.lt_succ_self _) hx W0 M σ a w hJ hs)
end
def Cl.isV:Cl->Bool
 | .val _=>true
 | _=>false
def Cl.toV:Cl->Value
 | .val v=>v
 | _=>undef
def Av.isV:Av->Bool
 | .one c=>c.isV
 | .agg l=>l.all Cl.isV
def Av.toV:Av->Value
 | .one c=>c.toV
 | .agg l=>.agg (l.map Cl.toV).toArray
theorem nK {M:Nat->Option Obj} {σ:Nat->Loc}:∀ {l:List Cl} {vs:List Value},L2 (R M σ) l vs->l.all Cl.isV=true->vs=l.map Cl.toV
 | [],_,h,_=>by cases h;rfl
 | c::l,_,h,hv=>by
  cases h with
  | cons h1 h2 =>
   simp only [List.all_cons,Bool.and_eq_true] at hv
   rw [nK h2 hv.2]
   cases c with
   | val v=>rw [h1.1];rfl
   | _=>cases hv.1
theorem xX {M:Nat->Option Obj} {σ:Nat->Loc} {x:Av} {V:Value} (h:RA M σ x V) (hv:x.isV=true):V=x.toV:=by
 cases x with
 | one c =>
  cases c with
  | val v=>exact h.1
  | _=>cases hv
 | agg l =>
  obtain ⟨vs,rfl,h2⟩:=h
  rw [nK h2 hv];rfl
theorem gR {M:Nat->Option Obj} {σ:Nat->Loc} {x:Av} (hv:x.isV=true) (ho:∀ c∈x.cells,c.toV.oneCell'=true):RA M σ x x.toV:=by
 cases x with
 | one c =>
  cases c with
  | val v=>exact ⟨rfl,ho (.val v) (by simp [Av.cells])⟩
  | _=>cases hv
 | agg l =>
  refine ⟨_,rfl,?_⟩
  simp only [Av.isV] at hv
  simp only [Av.cells] at ho
  induction l with
  | nil=>exact .nil
  | cons c l ih =>
   simp only [List.all_cons,Bool.and_eq_true] at hv
   refine .cons ?_ (ih hv.2 fun c hc=>ho c (List.mem_cons_of_mem _ hc))
   cases c with
   | val v=>exact ⟨rfl,ho (.val v) (List.mem_cons_self ..)⟩
   | _=>cases hv.1
section
variable {P:Program} {V:Env P} {N:Nat} {W0:World} {X:Nat→Option Loc} {M0 M:Nat→Option Obj} {σ:Nat→Loc} {w:World} {a:Act}
theorem U9 {o:Oper} {c:Call} {f:Operand} {ly:Nat} {xs:List Av} {T:Nat->Option Tv} (hT:∀ i v,T i=some v->RT M σ v (a.tmps.getD i undef)) (ho:o.op=.call c) (hcf:c.callee=.value f) (hf:evT T f=some (.av (.one (.val (.func (.yield ly) #[] #[]))))) (hxs:EB (evT T) c.args.toList=some xs) (hv:xs.all Av.isV=true)
  {R:Ending->World->Prop} (hY:YieldAt (FW none) 0 P ly (xs.map Av.toV).toArray w R) {K:Act->World->Prop} {Q:Exit->Act->World->Prop} (hK:∀ e w',R e w'->∃ V,e=.returned V/\K (a.put o.dst V) w'):o.wpIn (FW none) 0 P a w K Q:=by
 obtain ⟨fn,tmps,assign,body,hy,hR⟩:=hY
 refine ⟨fun _ _=>trivial,?_⟩
 rw [Oper.semAt_eq _ _ _ (fun d h=>by rw [ho] at h;cases h)]
 have hfv:=(Fq hT hf).1
 have hargs:=Ji (fun x v=>Fq hT) _ _ hxs
 have hmap:c.args.map a.eval=(xs.map Av.toV).toArray:=by
  have e:c.args.toList.map a.eval=xs.map Av.toV:=by
   clear hxs hy hR
   revert hargs hv
   generalize c.args.toList.map a.eval=vs
   intro hv hargs
   induction hargs with
   | nil=>rfl
   | cons h1 _ ih =>
    simp only [List.all_cons,Bool.and_eq_true] at hv
    rw [ih hv.2,List.map_cons,xX h1 hv.1]
  rw [<- e]
  apply Array.ext';simp
 have hres:(execOp a.eval o).run P w=.ok (.round ly fn tmps assign body) w:=by
  simp only [execOp,ho,Sem.run_bind,resolve,hcf,hfv,Deferred.ofValue,hmap]
  simpa [invoke] using hy
 rw [hres,Oper.uponIn_round]
 refine ⟨fun h=>(by cases h),?_⟩
 have h1:RoundIn (FW none) (0-1) P ly fn tmps assign body w R:=hR
 refine h1.mono ?_
 rintro e w' he
 obtain ⟨V,rfl,hk⟩:=hK e w' he
 exact hk
end
end
section
open Go.RowKit
section
variable {P:Program} {V:Env P} {rd:Option Nat} {N:Nat} {W0:World} {X:Nat→Option Loc} {M0:Nat→Option Obj} {l1 l2:List Oper} {o:Oper} {s0:AS}
theorem aE {L:Array Bool} {j:Nat} (h:j<L.size):L.getD j true=L.getD j false:=by simp [h]
theorem WU {l r:List Oper} {L:Array Bool} (h:MZ (l++r) L):MZ l L:=fun j o ho=>h j o (by rw [List.getElem?_append_left (List.getElem?_eq_some_iff.1 ho).1];exact ho)
theorem WD (hV:Jv P V) (hrun:Jj P V N l1 s0) (hback1:NG l1=true) (hord:Pf P V N l1 s0 (fun j i=>((C1 l1 []).getD j 0).testBit i=true)) (hback:NG (l1++o::l2)=true)
  (hk:∀ j,j<l1.length->((C1 (l1++o::l2) []).getD l1.length 0).testBit j=true) (hlater:∀ i,l1.length<i->i<(l1++o::l2).length->((C1 (l1++o::l2) []).getD i 0).testBit l1.length=true) (hg:∀ x∈l1,x.guard=none)
  {Q:Exit->Act->World->Prop} (hlast:∀ (f:Nat) (L:Array Bool) (a:Act) (w:World),L.size=(l1++o::l2).length->(∀ j,L.getD j false=decide (j<l1.length))->(List.range (l1++o::l2).length).countP (fun j => !L.getD j false)<=f+1 ->
   (∃ M σ,Sim N W0 X M0 M σ (get (stN P V N l1 s0 l1.length).t) (get (stN P V N l1 s0 l1.length).h) a w)->wpOpIn (FW rd) 0 P (l1++o::l2).toArray Q l1.length (wpAnyIn (FW rd) 0 P .any (l1++o::l2).toArray Q f (L.setIfInBounds l1.length true)) a w) :
  ∀ (f:Nat) (L:Array Bool) (a:Act) (w:World),L.size=(l1++o::l2).length->MZ (l1++o::l2) L->(∀ j,l1.length<=j->L.getD j false=false)->(List.range (l1++o::l2).length).countP (fun j => !L.getD j false)<=f->Wf P V N W0 X M0 l1 s0 L a w->wpAnyIn (FW rd) 0 P .any (l1++o::l2).toArray Q f L a w:=by
 have hlen:(l1++o::l2).length=l1.length+(l2.length+1):=by simp
 intro f
 induction f with
 | zero =>
  intro L a w hsz hcl hno hcnt hinv
  exfalso
  have h0:(List.range (l1++o::l2).length).countP (fun j => !L.getD j false)=0:=by omega
  rw [List.countP_eq_zero] at h0
  have:=h0 l1.length (List.mem_range.2 (by omega))
  rw [hno _ (Nat.le_refl _)] at this
  simp at this
 | succ f ih =>
  intro L a w hsz hcl hno hcnt hinv
  have anc:=fun i o' ho' hpre=>Jb hback hcl (i+1) i (Nat.lt_succ_self _) o' ho' hpre
  have allready:∀ n j,j<n->j<(l1++o::l2).length->Region.ready .any (l1++o::l2).toArray L=[]->L.getD j false=true:=by
   intro n
   induction n with
   | zero=>intro j h;omega
   | succ n ihn =>
    intro j hj hjl hr
    cases hd:L.getD j false with
    | true=>rfl
    | false =>
     have ho:=List.getElem?_eq_getElem hjl
     have:j∈Region.ready .any (l1++o::l2).toArray L:=by
      rw [mem_ready]
      refine ⟨?_,(l1++o::l2)[j],by simp,fun e he hb => ?_⟩
      ·have hj':j<L.size:=by omega
       simp [hj'] at hd ⊢;exact hd
      have h1:=(List.all_eq_true.1 hback) ((l1++o::l2)[j],j) (List.mem_zipIdx_iff_getElem?.2 ho)
      have h2:=(List.all_eq_true.1 h1) e (by simpa using he)
      simp only [hb,Bool.not_true,Bool.false_or] at h2
      have hlt:=Nat.le_of_ble_eq_true h2
      exact ihn e.on (by omega) (by omega) hr
     rw [hr] at this;cases this
  refine ⟨fun hr => ?_,fun i hi => ?_⟩
  ·exfalso
   have:=allready (l1.length+1) l1.length (by omega) (by omega) hr
   rw [hno _ (Nat.le_refl _)] at this;cases this
  rw [mem_ready] at hi
  obtain ⟨h1,oi,hoi,hpre⟩:=hi
  have ho':(l1++o::l2)[i]? = some oi:=by simpa using hoi
  have hil:i<(l1++o::l2).length:=(List.getElem?_eq_some_iff.1 ho').1
  have hun:L.getD i false=false:=by
   have hi':i<L.size:=by omega
   simp [hi'] at h1 ⊢;exact h1
  rcases Nat.lt_trichotomy i l1.length with hlt | heq | hgt
  ·have ho1:l1[i]? = some oi:=by rw [List.getElem?_append_left hlt] at ho';exact ho'
   unfold wpOpIn
   rw [hoi]
   have hfin:=Sg (rd:=rd) (a:=a) (w:=w) (Q:=Q) (K:=wpAnyIn (FW rd) 0 P .any (l1++o::l2).toArray Q f (L.setIfInBounds i true)) hV hrun hback1 hord (by omega) (WU hcl) hinv ho1 hun hpre fun a' w' hinv'=>by
    refine ih _ a' w' (by simp [hsz]) ?_ (fun j hj => ?_) ?_ hinv'
    ·intro j oj hj hd e he hb
     by_cases hji:j=i
     ·subst hji
      rw [ho'] at hj;injection hj with hj;subst hj
      exact getD_set_true (hpre e he hb)
     rw [getD_set_ne false (Ne.symm hji)] at hd
     exact getD_set_true (hcl j oj hj hd e he hb)
    ·rw [getD_set_ne false (by omega)];exact hno j hj
    have hlt2:(List.range (l1++o::l2).length).countP (fun j => !(L.setIfInBounds i true).getD j false)<(List.range (l1++o::l2).length).countP (fun j => !L.getD j false):=by
     refine Ku ?_ (List.mem_range.2 hil) ?_ ?_
     ·intro j _ hj
      by_cases hji:i=j
      ·subst hji;simp [show i<L.size by omega] at hj
      rwa [getD_set_ne false hji] at hj
     ·rw [hun];rfl
     simp [show i<L.size by omega]
    omega
   have hgi:oi.guard=none:=hg oi (List.mem_of_getElem? ho1)
   have hw:∀ ys,Region.wanted oi ys=true:=fun ys=>by simp [Region.wanted,hgi]
   simp only [hw,if_true] at hfin ⊢
   exact hfin
  ·subst heq
   have hall:∀ j,L.getD j false=decide (j<l1.length):=fun j=>by
    by_cases hj:j<l1.length
    ·rw [decide_eq_true hj]
     exact (anc l1.length oi ho' hpre j (hk j hj)).1
    rw [decide_eq_false hj]
    exact hno j (by omega)
   refine hlast f L a w hsz hall hcnt ?_
   obtain ⟨M,σ,T,H,hs,hT,hH⟩:=hinv
   have eT:T=get (stN P V N l1 s0 l1.length).t:=by
    funext x
    obtain ⟨k,hk2,hag,he⟩:=hT x
    rw [he]
    refine Xt hrun hk2 (Nat.le_refl _) hag fun j oj hj hd => ?_
    have hjl:j<l1.length:=(List.getElem?_eq_some_iff.1 hj).1
    exact ⟨fun _=>hjl,fun _=>by rw [hall,decide_eq_true hjl]⟩
   have eH:H=get (stN P V N l1 s0 l1.length).h:=by
    funext x
    obtain ⟨k,hk2,hag,he⟩:=hH x
    rw [he]
    refine Xu hrun hk2 (Nat.le_refl _) hag fun j oj hj hd => ?_
    have hjl:j<l1.length:=(List.getElem?_eq_some_iff.1 hj).1
    exact ⟨fun _=>hjl,fun _=>by rw [hall,decide_eq_true hjl]⟩
   rw [eT,eH] at hs
   exact ⟨M,σ,hs⟩
  exfalso
  have:=(anc i oi ho' hpre l1.length (hlater i hgt hil)).1
  rw [hno _ (Nat.le_refl _)] at this;cases this
theorem VB (hback:NG (l1++o::l2)=true) (h2:l2.length<=1) {Q:Exit->Act->World->Prop} {f:Nat} {L:Array Bool} {a:Act} {w:World} (hsz:L.size=(l1++o::l2).length) (hall:∀ j,L.getD j false=decide (j<l1.length)) (hcnt:(List.range (l1++o::l2).length).countP (fun j => !L.getD j false)<=f+1)
  (hg:∀ x∈l2,x.guard=none) (hQ1:l2=[]->Q .normal a w) (hQ2:∀ u,l2=[u]->u.wpIn (FW rd) 0 P a w (fun a' w'=>Q .normal a' w') Q):wpAnyIn (FW rd) 0 P .any (l1++o::l2).toArray Q f (L.setIfInBounds l1.length true) a w:=by
 have hL1:∀ j,(L.setIfInBounds l1.length true).getD j false=decide (j<l1.length+1):=fun j=>by
  by_cases hj:l1.length=j
  ·subst hj
   have hlt:l1.length<L.size:=by rw [hsz];simp
   simp [hlt]
  rw [getD_set_ne false hj,hall]
  exact decide_eq_decide.2 (by omega)
 have hdone:∀ (L':Array Bool) (f':Nat) (a':Act) (w':World),L'.size=(l1++o::l2).length->(∀ j,j<(l1++o::l2).length->L'.getD j false=true)->Q .normal a' w'->wpAnyIn (FW rd) 0 P .any (l1++o::l2).toArray Q f' L' a' w':=by
  intro L' f' a' w' hs' hd' hq
  have hr:Region.ready .any (l1++o::l2).toArray L'=[]:=by
   rw [List.eq_nil_iff_forall_not_mem]
   intro j hj
   rw [mem_ready] at hj
   obtain ⟨h1,oj,hoj,_⟩:=hj
   have hjl:j<(l1++o::l2).length:=(List.getElem?_eq_some_iff.1 (by simpa using hoj:(l1++o::l2)[j]? = some oj)).1
   have:=hd' j hjl
   have hj':j<L'.size:=by omega
   simp [hj'] at h1 this
   rw [h1] at this;cases this
  cases f' with
  | zero=>exact ⟨hr,hq⟩
  | succ f'=>exact ⟨fun _=>hq,fun i hi=>by rw [hr] at hi;cases hi⟩
 cases l2 with
 | nil=>exact hdone _ _ _ _ (by simpa using hsz) (fun j hj=>by rw [hL1];simp at hj;exact decide_eq_true hj) (hQ1 rfl)
 | cons u r =>
  have hr0:r=[]:=by
   cases r with
   | nil=>rfl
   | cons=>simp at h2
  subst hr0
  have hlen:(l1++o::[u]).length=l1.length+2:=by simp
  cases f with
  | zero =>
   exfalso
   have hlt:(List.range (l1++o::[u]).length).countP (fun j => !(L.setIfInBounds l1.length true).getD j false)<(List.range (l1++o::[u]).length).countP (fun j => !L.getD j false):=by
    refine Ku ?_ (List.mem_range.2 (show l1.length<_ by omega)) ?_ ?_
    ·intro j _ hj
     rw [hL1] at hj
     rw [hall]
     simp at hj ⊢;omega
    ·rw [hall];simp
    rw [hL1];simp
   have h0:(List.range (l1++o::[u]).length).countP (fun j => !(L.setIfInBounds l1.length true).getD j false)=0:=by omega
   rw [List.countP_eq_zero] at h0
   have:=h0 (l1.length+1) (List.mem_range.2 (by omega))
   rw [hL1] at this
   simp at this
  | succ f =>
   have hu:(l1++o::[u])[l1.length+1]? = some u:=by rw [List.getElem?_append_right (by omega)];simp
   refine ⟨fun hr => ?_,fun i hi => ?_⟩
   ·exfalso
    have:l1.length+1∈Region.ready .any (l1++o::[u]).toArray (L.setIfInBounds l1.length true):=by
     rw [mem_ready]
     refine ⟨?_,u,by simp,fun e he hb => ?_⟩
     ·rw [aE (by simp [hsz]),hL1]
      exact decide_eq_false (by omega)
     have h1:=(List.all_eq_true.1 hback) (u,l1.length+1) (List.mem_zipIdx_iff_getElem?.2 hu)
     have h3:=(List.all_eq_true.1 h1) e (by simpa using he)
     simp only [hb,Bool.not_true,Bool.false_or] at h3
     have hlt:=Nat.le_of_ble_eq_true h3
     rw [hL1]
     exact decide_eq_true (by omega)
    rw [hr] at this;cases this
   rw [mem_ready] at hi
   obtain ⟨h1,oi,hoi,hpre⟩:=hi
   have ho':(l1++o::[u])[i]? = some oi:=by simpa using hoi
   have hil:i<(l1++o::[u]).length:=(List.getElem?_eq_some_iff.1 ho').1
   have hi1:i=l1.length+1:=by
    have h3:=hL1 i
    have h4:i<(L.setIfInBounds l1.length true).size:=by simp [hsz];omega
    rw [aE h4,h3] at h1
    have h5:=of_decide_eq_false h1
    omega
   subst hi1
   rw [hu] at ho';injection ho' with ho';subst ho'
   unfold wpOpIn
   rw [hoi]
   have hw:∀ ys,Region.wanted u ys=true:=fun ys=>by simp [Region.wanted,hg u (by simp)]
   simp only [hw,if_true]
   refine Oper.wpIn_mono (fun a' w' hq=>hdone _ _ _ _ (by simp [hsz]) (fun j hj => ?_) hq) (hQ2 u rfl)
   by_cases hji:l1.length+1=j
   ·subst hji
    have h4:l1.length+1<(L.setIfInBounds l1.length true).size:=by simp [hsz]
    simp at h4
    simp [h4]
   rw [getD_set_ne false hji,hL1]
   exact decide_eq_true (by omega)
end
def noM:Nat->Option Obj:=fun _=>none
def Rm (M:Nat->Option Obj) (b:Nat):Option Obj:=match M b with
 | some (.cells c t f)=>some (.cells c t f)
 | _=>none
theorem DQ {M:Nat->Option Obj} {b:Nat} {o:Obj} (h:Rm M b=some o):M b=some o/\o.isCells=true:=by
 unfold Rm at h
 cases hM:M b with
 | none=>rw [hM] at h;cases h
 | some o' =>
  rw [hM] at h
  cases o' with
  | cells c t f=>injection h with h;subst h;exact ⟨rfl,rfl⟩
  | _=>cases h
theorem Jc {M:Nat->Option Obj} (b:Nat) (c:Array Value) (t:TypeId) (f:Nat×Nat) (h:M b=some (.cells c t f)):Rm M b=some (.cells c t f):=by unfold Rm;rw [h]
def Vw (l1:List Oper) (o:Oper) (l2:List Oper):Bool :=
 NG (l1++o::l2)&&((List.range l1.length).all fun j=>((C1 (l1++o::l2) []).getD l1.length 0).testBit j)&&((List.range l2.length).all fun j=>((C1 (l1++o::l2) []).getD (l1.length+1+j) 0).testBit l1.length) &&
 (l1++o::l2).all fun x=>match x.guard with | none=>true | some _=>false
section
variable {P:Program} {N:Nat} {Ow:World→Nat→Prop} {n0:Nat} {Q:IQ} {s:AS} {J:World→Prop}
theorem kV (hO:OwS Ow n0) (hm:P.follows .mixedOrders=true) {E:TypeId->Option (List Kd)} (hE:Io P ⟨fun _=>none,E,fun _=>false,fun _=>none⟩) {id:Nat} (l1:List Oper) (o:Oper) (l2:List Oper) (ow:List Nat) (qs:List (Nat×(Bool×Nat))) (ts ts2:List Nat) (cs:List Prop) (T1:List (Nat×Tv))
  (hr:H5 P ⟨EI [],E,Au ow,get qs⟩ N l1 ts [] s=some (cs,⟨T1,[]⟩)) (hdraw:Q9 P ⟨EI [],E,Au ow,get qs⟩ N l1 s=true) (hc:Bi cs) (hms:Vw l1 o l2=true) (h2:l2.length<=1) {c:Call} {f:Operand} {ly d:Nat} (xs:List Av) (ho:o.op=.call c) (hcf:c.callee=.value f)
  (hf:evT (get T1) f=some (.av (.one (.val (.func (.yield ly) #[] #[]))))) (hxs:EB (evT (get T1)) c.args.toList=some xs) (hv:xs.all Av.isV=true) (hod:o.dst=some d) (hdN:Nat.blt d N=true) (hT1:∀ i v,get T1 i=some v->v.dv=true/\TvM v)
  (hJg:∀ A B,J A->A.grownBy B none->J B) (Jt Jf:World->Prop)
  (hY:∀ W,J W->YieldAt (FW none) 0 P ly (xs.map Av.toV).toArray W (fun e W'=>(e=.returned (.bool true)/\Jt W'/\KpS Ow W W')\/(e=.returned (.bool false)/\Jf W')))
  (c2 c3:List Prop) (St Sf:AS) (h2t:H5 P ⟨EI [],E,Au ow,get qs⟩ N l2 ts2 [] ⟨(d,tB true)::T1,[]⟩=some (c2,St)) (hc2:Bi c2) (h2f:H5 P ⟨EI [],E,Au ow,get qs⟩ N l2 ts2 [] ⟨[(d,tB false)],[]⟩=some (c3,Sf)) (hc3:Bi c3)
  (hQt:Q .normal St Jt true) (hQf:Q .normal Sf Jf false) (hdv:∀ i v,get s.t i=some v->v.dv=true) (hh:s.h=[]):IWp P N Ow n0 (.region id (l1++o::l2).toArray true) Q s J true:=by
 have hV:Jv P ⟨EI [],E,Au ow,get qs⟩:=(Gm.nil (P:=P)).env (O:=Au ow) (q:=get qs) hE
 simp only [Vw,Bool.and_eq_true] at hms
 obtain ⟨⟨⟨hback,hk⟩,hl⟩,hgs⟩:=hms
 have hguard:∀ x∈l1++o::l2,x.guard=none:=fun x hx=>by
  have:=List.all_eq_true.1 hgs x hx
  cases hg:x.guard with
  | none=>rfl
  | some _=>rw [hg] at this;cases this
 intro W0 M σ a w hJ hs
 have hK:∀ {l:List Oper} {u:List Nat} {a b:AS} {cc:List Prop},H5 P ⟨EI [],E,Au ow,get qs⟩ N l u [] a=some (cc,b)->∃ b1,Mh P ⟨EI [],E,Au ow,get qs⟩ N l.toArray l a=some (cc,b1)/\LM u [] b1=b:=by
  intro l u a b cc h
  unfold H5 at h
  split at h
  ·rename_i c1 b1 h1
   simp only [Option.some.injEq,Prod.mk.injEq] at h
   obtain ⟨rfl,h⟩:=h
   exact ⟨b1,h1,h⟩
  cases h
 obtain ⟨s1,hr1,hkeep⟩:=hK hr
 obtain ⟨e1,hruns⟩:=JE (s0:=s) l1 0 s s1 cs (fun j=>by rw [Nat.zero_add]) rfl hr1 hc
 simp only [Nat.zero_add] at e1 hruns
 obtain ⟨hback1,hord⟩:=L1 hdraw
 have hs1:=IL hdv hh hJ.2.1 hs
 have hs0:Sim N W0 (LP N W0.heap.size) M M (upd σ N ⟨W0.heap.size,424242,true⟩) (get s.t) (get s.h) a { w with drawn:=w.drawn+1 }:=⟨hs1.os,hs1.tape,hs1.output,hs1.size,hs1.old,hs1.sub,hs1.new,hs1.pin,hs1.defers,hs1.room,hs1.tmps,hs1.imm,fun n b hb=>(hs1.blk n b hb).mono (fun _ _ h=>h) (fun _ _=>rfl) (fun _=>rfl),hs1.loc,hs1.inj⟩
 have hrep:∀ (n j:Nat),(Array.replicate n false).getD j false=false:=fun n j=>by
  by_cases hj':j<n
  ·simp [hj']
  simp [hj']
 have hinv:Wf P ⟨EI [],E,Au ow,get qs⟩ N W0 (LP N W0.heap.size) M l1 s (Array.replicate (l1++o::l2).toArray.size false) a { w with drawn:=w.drawn+1 } :=
  ⟨M,_,get s.t,get s.h,hs0,fun x=>⟨0,Nat.zero_le _,fun j o hj hd=>⟨fun hh=>(by rw [hrep] at hh;cases hh),fun hh=>absurd hh (by omega)⟩,rfl⟩,fun m=>⟨0,Nat.zero_le _,fun j o hj hd=>⟨fun hh=>(by rw [hrep] at hh;cases hh),fun hh=>absurd hh (by omega)⟩,rfl⟩⟩
 refine wpIn_region_any hm (WD (rd:=none) hV hruns hback1 hord hback (fun j hj=>List.all_eq_true.1 hk j (List.mem_range.2 hj)) (fun i h3 h4 => ?_) (fun x hx=>hguard x (List.mem_append_left _ hx)) (fun f L a1 w1 hsz hall hcnt hsim => ?_) _ _ a _ (by simp) (fun j oj _ hd=>by rw [hrep] at hd;cases hd) (fun j _=>hrep _ j) (Nat.le_trans List.countP_le_length (by simp)) hinv)
 ·have:=List.all_eq_true.1 hl (i-(l1.length+1)) (List.mem_range.2 (by simp at h4;omega))
  rwa [show l1.length+1+(i-(l1.length+1))=i by omega] at this
 obtain ⟨M1,σ1,hs2⟩:=hsim
 rw [<- e1] at hs2
 have hs2:=EA hs2 ts []
 rw [hkeep] at hs2
 obtain ⟨hd1,hs3⟩:=Fj hs2
 have hgrow:W0.grownBy w1 none:={ os:=hs3.os,tape:=hs3.tape,output:=hs3.output,size:=hs3.size,block:=fun b hb _=>hs3.old b hb (Ec b) }
 have hJ1:=hJg W0 w1 hJ.1 hgrow
 have hiok:=Hj hJ.2.2 hO hs2
 have hok:(l1++o::l2).toArray[l1.length]? = some o:=by simp
 unfold wpOpIn
 rw [hok]
 have hw:∀ ys,Region.wanted o ys=true:=fun ys=>by simp [Region.wanted,hguard o (by simp)]
 simp only [hw,if_true]
 have hdN':d<N:=by have:=Nat.le_of_ble_eq_true hdN;omega
 have hput:∀ (b:Bool) (T:List (Nat×Tv)) (M':Nat->Option Obj) (σ':Nat->Loc),(∀ i v,get T i=some v->RT M' σ' v (a1.tmps.getD i undef))->∀ i v,get ((d,tB b)::T) i=some v->RT M' σ' v ((a1.put o.dst (.bool b)).tmps.getD i undef):=fun b T M' σ' hT i v hv=>by
  have hds:d<a1.tmps.size:=by rw [hs3.room];exact hdN'
  simp only [get,CS] at hv
  rw [hod]
  by_cases hi:d=i
  ·subst hi
   simp at hv;subst hv
   have:(a1.put (some d) (.bool b)).tmps.getD d undef=.bool b:=by simp [Act.put,Array.getD_eq_getD_getElem?,hds]
   rw [this]
   exact ⟨rfl,rfl⟩
  simp [hi] at hv
  have:(a1.put (some d) (.bool b)).tmps.getD i undef=a1.tmps.getD i undef:=by simp [Act.put,Array.getD_eq_getD_getElem?,Array.getElem?_setIfInBounds,hi]
  rw [this];exact hT i v hv
 have hsize:∀ b:Bool,(a1.put o.dst (.bool b)).tmps.size=N:=fun b=>by rw [hod];simpa [Act.put] using hs3.room
 have hdef:∀ b:Bool,(a1.put o.dst (.bool b)).defers=[]:=fun b=>by rw [hod];simpa [Act.put] using hd1
 have hgo:∀ (b:Bool) (w2:World) (T:List (Nat×Tv)) (Mn:Nat->Option Obj) (S2:AS) (cx:List Prop) (J2:World->Prop) (al2:Bool),IOk Ow n0 al2 Mn w2->(∀ i v,get T i=some v->v.dv=true)->(∀ i v,get T i=some v->RT Mn σ1 v (a1.tmps.getD i undef))->(∀ b o,Mn b=some o->w2.heap[b]? = some o) ->
   H5 P ⟨EI [],E,Au ow,get qs⟩ N l2 ts2 [] ⟨(d,tB b)::T,[]⟩=some (cx,S2)->Bi cx->Q .normal S2 J2 al2->J2 w2 ->
   wpAnyIn (FW none) 0 P .any (l1++o::l2).toArray (fun e a' w'=>∃ s' J' al' W0' M' σ',Q e s' J' al'/\(J' W0'/\a'.defers=[]/\IOk Ow n0 al' M' W0')/\Sim N W0' noX M' M' σ' (get s'.t) (get s'.h) a' w') f (L.setIfInBounds l1.length true) (a1.put o.dst (.bool b)) w2:=by
  intro b w2 T Mn S2 cx J2 al2 hiok2 hdvT hT himm2 hrun2 hcx hQ2 hJ2
  have hs4:Sim N w2 noX Mn Mn σ1 (get ((d,tB b)::T)) (get []) (a1.put o.dst (.bool b)) w2:=⟨rfl,rfl,rfl,Nat.le_refl _,fun _ _ _=>rfl,fun _ _ h=>h,fun b o h h'=>(by rw [h] at h';cases h'),fun m x hx=>(by cases hx),⟨by rw [hdef b];trivial,fun _=>hdef b⟩,hsize b,hput b T Mn σ1 hT,himm2,fun n b hb=>(by cases hb),fun n b hb=>(by cases hb),fun n m b c hb=>(by cases hb)⟩
  have hdv2:∀ i v,get ((d,tB b)::T) i=some v->v.dv=true:=fun i v hv=>by
   simp only [get,CS] at hv
   by_cases hi:d=i
   ·subst hi;simp at hv;subst hv;rfl
   simp [hi] at hv;exact hdvT i v hv
  have hs5:=IL (s:=⟨(d,tB b)::T,[]⟩) hdv2 rfl (hdef b) hs4
  refine VB hback h2 hsz hall hcnt (fun x hx=>hguard x (by simp [hx])) (fun h0 => ?_) (fun u h0 => ?_)
  ·subst h0
   obtain ⟨b1,hb1,hb2⟩:=hK hrun2
   simp only [Mh,Option.some.injEq,Prod.mk.injEq] at hb1
   obtain ⟨_,rfl⟩:=hb1
   refine ⟨S2,J2,al2,w2,Mn,σ1,hQ2,⟨hJ2,hdef b,hiok2⟩,?_⟩
   rw [<- hb2]
   exact EA (s:=⟨(d,tB b)::T,[]⟩) hs4 ts2 []
  subst h0
  obtain ⟨b1,hb1,hb2⟩:=hK hrun2
  have hlist:=PN (rd:=none) hV (ops:=[u].toArray) (Q':=fun e a' w'=>∃ s' J' al' W0' M' σ',Q e s' J' al'/\(J' W0'/\a'.defers=[]/\IOk Ow n0 al' M' W0')/\Sim N W0' noX M' M' σ' (get s'.t) (get s'.h) a' w') [u] _ b1 cx hb1 hcx _ _ _ _ hs5 fun M' σ' a' w' hs6=>by
   have hs6:=EA hs6 ts2 []
   rw [hb2] at hs6
   obtain ⟨hd6,hs7⟩:=Fj hs6
   exact ⟨S2,J2,al2,w2,M',σ',hQ2,⟨hJ2,hd6,Hj hiok2 hO hs6⟩,hs7⟩
  have hwu:∀ ys,Region.wanted u ys=true:=fun ys=>by simp [Region.wanted,hguard u (by simp)]
  unfold wpListIn at hlist
  simp only [hwu,if_true] at hlist
  exact hlist
 refine U9 hs3.tmps ho hcf hf hxs hv (hY w1 hJ1) fun e w2 he => ?_
 rcases he with ⟨rfl,h5,h6⟩ | ⟨rfl,h5⟩
 ·have hst:∀ b,Ow w1 b->Ow W0 b:=hO.st W0 w1 (hiok rfl).1 fun b hb=>hs3.old b hb (Ec b)
  refine ⟨_,rfl,hgo true w2 T1 (Rm M1) St c2 Jt true (fun _=>⟨?_,fun b h=>(h6.2.2 b h).elim (fun h7=>Nat.lt_of_lt_of_le ((hiok rfl).2.1 b (hst b h7)) (Nat.le_trans hs3.size h6.1)) And.right,fun b o' h hw2 => ?_⟩) (fun i v hv=>(hT1 i v hv).1) (fun i v hv=>RL Jc (hs3.tmps i v hv) (hT1 i v hv).2) (fun b o' h => ?_) h2t hc2 hQt h5⟩
  ·exact Nat.le_trans (hiok rfl).1 (Nat.le_trans hs3.size h6.1)
  ·rcases h6.2.2 b hw2 with h7 | h7
   ·exact (hiok rfl).2.2 b o' (DQ h).1 (hst b h7)
   have:=(Array.getElem?_eq_some_iff.1 (hs3.imm b o' (DQ h).1)).1;omega
  exact h6.2.1 b o' (hs3.imm b o' (DQ h).1) (DQ h).2 fun h7=>(hiok rfl).2.2 b o' (DQ h).1 (hst b h7)
 exact ⟨_,rfl,hgo false w2 [] noM Sf c3 Jf false (fun h=>by cases h) (fun i v hv=>by cases hv) (fun i v hv=>by cases hv) (fun b o' h=>by cases h) h2f hc3 hQf h5⟩
theorem SL (hO:OwS Ow n0) (hm:P.follows .mixedOrders=true) {E:TypeId->Option (List Kd)} (hE:Io P ⟨fun _=>none,E,fun _=>false,fun _=>none⟩) {id:Nat} {l:List Oper} (k:Nat) {o:Oper} (ho1:l[k]? = some o) (ow:List Nat) (qs:List (Nat×(Bool×Nat))) (ts ts2:List Nat) (cs:List Prop) (T1:List (Nat×Tv))
  (hr:H5 P ⟨EI [],E,Au ow,get qs⟩ N (l.take k) ts [] s=some (cs,⟨T1,[]⟩)) (hdraw:Q9 P ⟨EI [],E,Au ow,get qs⟩ N (l.take k) s=true) (hc:Bi cs) (hms:Vw (l.take k) o (l.drop (k+1))=true) (h2:Nat.ble (l.drop (k+1)).length 1=true) {c:Call} {f:Operand} {ly d:Nat} (xs:List Av) (ho:o.op=.call c) (hcf:c.callee=.value f)
  (hf:evT (get T1) f=some (.av (.one (.val (.func (.yield ly) #[] #[]))))) (hxs:EB (evT (get T1)) c.args.toList=some xs) (hv:xs.all Av.isV=true) (hod:o.dst=some d) (hdN:Nat.blt d N=true) (hT1:∀ i v,get T1 i=some v->v.dv=true/\TvM v)
  (hJg:∀ A B,J A->A.grownBy B none->J B) (Jt Jf:World->Prop)
  (hY:∀ W,J W->YieldAt (FW none) 0 P ly (xs.map Av.toV).toArray W (fun e W'=>(e=.returned (.bool true)/\Jt W'/\KpS Ow W W')\/(e=.returned (.bool false)/\Jf W')))
  (c2 c3:List Prop) (St Sf:AS) (h2t:H5 P ⟨EI [],E,Au ow,get qs⟩ N (l.drop (k+1)) ts2 [] ⟨(d,tB true)::T1,[]⟩=some (c2,St)) (hc2:Bi c2) (h2f:H5 P ⟨EI [],E,Au ow,get qs⟩ N (l.drop (k+1)) ts2 [] ⟨[(d,tB false)],[]⟩=some (c3,Sf)) (hc3:Bi c3)
  (hQt:Q .normal St Jt true) (hQf:Q .normal Sf Jf false) (hdv:∀ i v,get s.t i=some v->v.dv=true) (hh:s.h=[]):IWp P N Ow n0 (.region id l.toArray true) Q s J true:=by
 have e:l=l.take k++o::l.drop (k+1):=by
  obtain ⟨hk,ho2⟩:=List.getElem?_eq_some_iff.1 ho1
  rw [<- ho2,List.getElem_cons_drop,List.take_append_drop]
 have:=kV (id:=id) hO hm hE (l.take k) o (l.drop (k+1)) ow qs ts ts2 cs T1 hr hdraw hc hms (Nat.le_of_ble_eq_true h2) xs ho hcf hf hxs hv hod hdN hT1 hJg Jt Jf hY c2 c3 St Sf h2t hc2 h2f hc3 hQt hQf hdv hh
 rwa [<- e] at this
theorem CW {K:AS->(World->Prop)->Bool->Prop} {Q:IQ} {s:AS} {J:World->Prop} {al:Bool} (h:K s J al):ITh K Q .normal s J al:=h
theorem LN {K:AS->(World->Prop)->Bool->Prop} {Q:IQ} {s:AS} {J:World->Prop} {al:Bool} {id:Nat} (h:Q (.exit id) s J al):ITh K Q (.exit id) s J al:=h
theorem SO {Q:IQ} {s:AS} {J:World->Prop} {al:Bool} {id:Nat} (h:Q .normal s J al):IBl id Q .normal s J al:=h
theorem M8 {Q:IQ} {s:AS} {J:World->Prop} {al:Bool} {id:Nat} (h:Q .normal s J al):IBl id Q (.exit id) s J al:=by simp only [IBl,if_true];exact h
theorem BO {α:Type} {p:α->Prop}:∀ {l:List (Nat×α)},(∀ x∈l,p x.2)->∀ i v,get l i=some v->p v
 | [],_,_,_,h=>by cases h
 | (k,x)::l,h,i,v,hv=>by
  simp only [get,CS] at hv
  by_cases hi:k=i
  ·subst hi;simp at hv;subst hv;exact h (k,x) (List.mem_cons_self ..)
  simp [hi] at hv;exact BO (fun y hy=>h y (List.mem_cons_of_mem _ hy)) i v hv
theorem B5 {α:Type} [Inhabited α] {sz:Nat} {c:α->List Cl} {xs:List α} (h:∀ x,∀ y∈c x,NM y):NM (lst sz c xs):=by
 refine .list _ _ _ _ fun i j => ?_
 rw [List.getD_eq_getElem?_getD]
 cases hj:(c (xs.getD i default))[j]? with
 | none=>exact .val _
 | some y=>exact h _ y (List.mem_of_getElem? hj)
theorem Dg {L:List Cl} {sz len i off:Nat} (h:∀ y∈L,NM y):NM (.eptr sz len (fun _ j=>(L:List Cl).getD j default) i off):=by
 refine .eptr _ _ _ _ _ fun _ j => ?_
 show NM (L.getD j default)
 rw [List.getD_eq_getElem?_getD]
 cases hj:L[j]? with
 | none=>exact .val _
 | some y=>exact h y (List.mem_of_getElem? hj)
theorem bkM {l:List Cl} {ty:TypeId} (h:∀ c∈l,NM c):BkM (.cells l ty):=h
theorem UJ {g:FuncId} {k:Nat} {L:List Cl} (h:∀ y∈L,NM y):NM (.clo g k (Aw L)):=by
 refine .clo _ _ _ fun i => ?_
 show NM (L.getD i default)
 rw [List.getD_eq_getElem?_getD]
 cases hj:L[i]? with
 | none=>exact .val _
 | some y=>exact h y (List.mem_of_getElem? hj)
theorem A8 {c:Cl} (h:NM c):TvM (.av (.one c)):=fun y hy=>by simp only [Av.cells,List.mem_singleton] at hy;subst hy;exact h
end
end
def IEnd (n:Nat) (JJ Jx:Nat->World->Prop):IQ:=fun e s' J' al'=>(e=.ret\/e=.normal)/\(J'=JJ n\/∃ j,j<n/\J'=Jx (j+1))
theorem rR {P:Program} {gf:FuncId} {fn:Func} {c:Code} (hf:P.funcs[gf]? = some fn) (hb:fn.body=some c) (hnr:fn.results.toList=[]) {k:Nat} {caps:Nat->Cl} {n:Nat} {E:Fin n->List Av} (hE:∀ x,(E x).all Av.isV=true) (hE1:∀ x,∀ e∈E x,∀ c∈e.cells,c.toV.oneCell'=true) (hN:Nat.ble (k+1) fn.ntmps=true) (hcd:∀ i,i<k->(caps i).dv=true)
  (h:∀ (Ow:World->Nat->Prop) (n0 ly:Nat) (JJ Jx:Nat->World->Prop),OwS Ow n0->(∀ j A B,JJ j A->A.grownBy B none->JJ j B) ->
   (∀ j (hj:j<n) W,JJ j W->YieldAt (FW none) 0 P ly ((E ⟨j,hj⟩).map Av.toV).toArray W (fun e W'=>(e=.returned (.bool true)/\JJ (j+1) W'/\KpS Ow W W')\/(e=.returned (.bool false)/\Jx (j+1) W'))) ->
   IWp P fn.ntmps Ow n0 c (IEnd n JJ Jx) ⟨Dw 0 (.one (.val (.func (.yield ly) #[] #[]))::B4 k caps),[]⟩ (JJ 0) true):U0 P gf k caps n E:=by
 intro M w cs Ow himm hOs hOw hcs hcaps
 refine ⟨fun x=>((E x).map Av.toV).toArray,fun x => ?_,?_⟩
 ·have h1:=hE x
  have h2:=hE1 x
  show L2 _ (E x) ((E x).map Av.toV)
  generalize E x=l at h1 h2 ⊢
  induction l with
  | nil=>exact .nil
  | cons e l ih =>
   simp only [List.all_cons,Bool.and_eq_true] at h1
   exact .cons (fun σ=>gR h1.1 (h2 e (List.mem_cons_self ..))) (ih h1.2 fun e he=>h2 e (List.mem_cons_of_mem _ he))
 intro l J Jx W hB hJ hJx hY h0
 have hJg:∀ s A B,J s A->A.grownBy B none->J s B:=fun s A B h1 h2=>hJ s A B none h1 h2 (fun r e=>by cases e)
 have hlt:∀ b o,M b=some o->b<w.heap.size:=fun b o hb=>(Array.getElem?_eq_some_iff.1 (himm b o hb)).1
 have himmW:∀ b o,M b=some o->W.heap[b]? = some o:=fun b o hb=>(hB.block b (hlt b o hb)).trans (himm b o hb)
 have hst:∀ b,Ow W b->Ow w b:=hOs.st w W (Nat.le_refl _) fun b hb=>hB.block b hb
 have hbody:=h Ow w.heap.size l (fun j W=>∃ pre:List (Fin n),pre.map Fin.val=List.range j/\J pre W) (fun j W=>∃ pre:List (Fin n),pre.map Fin.val=List.range j/\Jx pre W) hOs (fun j A B ⟨pre,h1,h2⟩ h3=>⟨pre,h1,hJg pre A B h2 h3⟩) (fun j hj W1 ⟨pre,h1,h2⟩=>by
  have hlen:pre.length=j:=by
   have:=congrArg List.length h1
   simpa using this
  have hstep:(pre++[(⟨j,hj⟩:Fin n)]).map Fin.val=List.range (j+1):=by rw [List.map_append,h1,List.range_succ];rfl
  obtain ⟨fn',tm,as',bd,hy,hR⟩:=hY pre (⟨j,hj⟩:Fin n) W1 h2 (by omega)
  refine ⟨fn',tm,as',bd,hy,hR.mono ?_⟩
  rintro e W' (⟨rfl,h3,h4⟩ | ⟨rfl,h3⟩)
  ·exact Or.inl (And.intro rfl (And.intro (Exists.intro _ (And.intro hstep h3)) h4))
  exact Or.inr (And.intro rfl (Exists.intro _ (And.intro hstep h3))))
 obtain ⟨a0,ha0⟩:∃ a0:Act,a0={ tmps:=(#[Value.func (.yield l) #[] #[]]++cs)++Array.replicate (fn.ntmps-(#[Value.func (.yield l) #[] #[]]++cs).size) undef,defers:=[] }:=⟨_,rfl⟩
 have hs0:Sim fn.ntmps W noX M M (fun _=>⟨0,0,false⟩) (get (Dw 0 (.one (.val (.func (.yield l) #[] #[]))::B4 k caps))) (get []) a0 W := ?hs0
 ·have hbod:=hbody W M (fun _=>⟨0,0,false⟩) a0 W ⟨⟨[],rfl,h0⟩,by rw [ha0],fun _=>⟨hB.size,fun b hb=>Nat.lt_of_lt_of_le (hOw b (hst b hb)).1 hB.size,fun b o hb ho=>by rw [(hOw b (hst b ho)).2] at hb;cases hb⟩⟩ hs0
  rw [ha0] at hbod
  refine callsIn_wide.2 (callsIn_wide.1 (callsIn_of_wp_marks (F:=FW none) (n:=0) hf hb trivial (wpIn_mono hbod ?_)))
  clear hbod hs0
  rintro e a' w' ⟨s',J',al',W0',M',σ',⟨he,hend⟩,⟨hJ',hd,_⟩,hs'⟩
  have hgrow:W0'.grownBy w' none:={ os:=hs'.os,tape:=hs'.tape,output:=hs'.output,size:=hs'.size,block:=fun b hb _=>hs'.old b hb (Ec b) }
  have hres:(∃ xs:List (Fin n),xs.map Fin.val=List.range n/\J xs w')\/(∃ pre:List (Fin n),(∃ j,j<n/\pre.map Fin.val=List.range (j+1))/\Jx pre w'):=by
   rcases hend with rfl | ⟨j,hj,rfl⟩
   ·obtain ⟨pre,h1,h2⟩:=hJ'
    exact .inl ⟨pre,h1,hJg pre _ _ h2 hgrow⟩
   obtain ⟨pre,h1,h2⟩:=hJ'
   exact .inr ⟨pre,⟨j,hj,h1⟩,hJx pre _ _ none h2 hgrow (fun r e=>by cases e)⟩
  obtain ⟨U,hU,_⟩:=Tx (P:=P) (fn:=fn) (r:=.tup []) hs' (by rw [hnr];rfl)
  have key:LeavesInM (FW none) 0 P fn a'.tmps (fun e W'=>(∃ v,e=.returned v)/\((∃ xs:List (Fin n),xs.map Fin.val=List.range n/\J xs W')\/(∃ pre:List (Fin n),(∃ j,j<n/\pre.map Fin.val=List.range (j+1))/\Jx pre W'))) a'.defers .returning w':=by
   rw [hd]
   exact ⟨U,hU,⟨U,rfl⟩,hres⟩
  rcases he with rfl | rfl
  ·exact key
  exact key
 case hs0 =>
  subst ha0
  have hsz:(#[Value.func (.yield l) #[] #[]]++cs).size=k+1:=by simp [hcs];omega
  have hNk:=Nat.le_of_ble_eq_true hN
  refine ⟨rfl,rfl,rfl,Nat.le_refl _,fun _ _ _=>rfl,fun _ _ h=>h,fun b o h h'=>(by rw [h] at h';cases h'),fun m x hx=>(by cases hx),Hu.nil,?_,fun i v hv => ?_,himmW,fun m b hb=>(by cases hb),fun m b hb=>(by cases hb),fun m m' b c hb=>(by cases hb)⟩
  ·simp only [Array.size_append,Array.size_replicate] at hsz ⊢
   omega
  obtain ⟨_,x,hx,rfl⟩:=JQ _ _ _ _ hv
  rw [Nat.sub_zero] at hx
  have hargs:L2 (RA M fun _=>⟨0,0,false⟩) (.one (.val (.func (.yield l) #[] #[]))::B4 k caps) (.func (.yield l) #[] #[]::cs.toList):=by
   refine .cons ⟨rfl,rfl⟩ (L2.of (by simp [B4,hcs]) fun i x y hx hy => ?_)
   have hi:i<k:=by have:=(List.getElem?_eq_some_iff.1 hx).1;simpa [B4] using this
   have:=(Jw (σ:=fun _=>⟨0,0,false⟩) (hcd i hi)).2 (hcaps i hi)
   simp only [B4,List.getElem?_map,List.getElem?_range hi,Option.map_some,Option.some.injEq] at hx
   subst hx
   have hy':cs.getD i undef=y:=by
    simp only [Array.getD_eq_getD_getElem?]
    rw [<- Array.getElem?_toList,hy];rfl
   rw [hy'] at this
   exact this
  obtain ⟨u,hu,hRu⟩:=hargs.get i x hx
  have:((#[Value.func (.yield l) #[] #[]]++cs)++Array.replicate (fn.ntmps-(#[Value.func (.yield l) #[] #[]]++cs).size) undef).getD i undef=u:=by
   have hu2:(#[Value.func (.yield l) #[] #[]]++cs)[i]? = some u:=by
    rw [<- Array.getElem?_toList]
    simpa using hu
   have hi:i<(#[Value.func (.yield l) #[] #[]]++cs).size:=(Array.getElem?_eq_some_iff.1 hu2).1
   rw [Array.getD_eq_getD_getElem?,Array.getElem?_append_left hi,hu2];rfl
  show RA M _ x _
  rw [this]
  exact hRu
section
open Go.RowKit
theorem GG:∀ {l:List Nat} {n:Nat},n∈l->Au l n=true
 | k::r,n,h=>by
  simp only [Au]
  cases hk:Nat.beq k n with
  | true=>rfl
  | false =>
   rcases List.mem_cons.1 h with e | h
   ·rw [e,Nat.beq_refl] at hk;cases hk
   exact GG h
def iF (N:Nat) (pids:List Nat) (fid q:Nat) (t0:List (Nat×Tv)) (h0:List (Nat×Blk)) (ps:Array Tmp):Bool :=
 t0.all (fun p=>pvT pids p.2)&&(h0.all (fun p=>Au pids p.1&&(p.2.isC&&(p.2.no fid && !Nat.beq p.1 fid)))&&(pids.all (fun q=>(get h0 q).isSome&&Nat.ble N q)&&(!Au pids fid&&(Nat.ble N fid&&(Au pids q&&ps.toList.all (fun p=>Nat.blt p N))))))
theorem QS {fid:Nat}:∀ (ps:List Tmp) (es:List Av) (t:List (Nat×Tv)),(∀ i v,get t i=some v->v.no fid=true)->es.all Av.dv=true->∀ i v,get (LH t ps es) i=some v->v.no fid=true
 | [],_,t,h,_,i,v,hv=>h i v (by cases ‹List Av› <;> exact hv)
 | p::ps,[],t,h,_,i,v,hv=>h i v hv
 | p::ps,e::es,t,h,he,i,v,hv=>by
  simp only [List.all_cons,Bool.and_eq_true] at he
  refine QS ps es ((p,.av e)::t) (fun j u hu => ?_) he.2 i v hv
  simp only [get,CS] at hu
  by_cases hj:p=j
  ·subst hj;simp at hu;subst hu;exact Ka he.1
  simp [hj] at hu;exact h j u hu
section
variable {P:Program} {N:Nat} {W0:World} {X:Nat→Option Loc} {M0:Nat→Option Obj}
theorem dU {Q:Exit->AS->Prop} {g:Operand} {ps:Array Tmp} {assign body:Code} {t0:List (Nat×Tv)} {h0:List (Nat×Blk)} (pids:List Nat) (fid q:Nat) {gf:FuncId} {k:Nat} {caps:Nat->Cl} {n:Nat} {E:Fin n->List Av} (t1:Fin n->List (Nat×Tv)) (Fm:Nat->Prop)
  (hX0:∀ m,X m=none) (hg:evT (get t0) g=some (.av (.one (.clo gf k caps)))) (hcd:(Cl.clo gf k caps).dv=true) (eg:∀ args w,(callFunc gf args).run P w=.ok (.enter gf args) w)
  (It:U0 P gf k caps n E) (hck:iF N pids fid q t0 h0 ps=true) (hE:∀ x,(E x).length=ps.size) (hEd:∀ x,(E x).all Av.dv=true) (hm:HsM h0) (ht1:∀ x,TsM (t1 x)) (hF:Fm 0)
  (hassign:∀ l W1 M1 X1 x,PX pids X1->AWp P (some l) N W1 X1 M1 assign (fun e s'=>e=.normal/\s'=⟨t1 x,h0⟩) ⟨LH t0 ps.toList (E x),h0⟩)
  (hbody:∀ l W1 M1 X1 (x:Fin n),PX pids X1->AWp P (some l) N W1 X1 M1 body (uE Q t0 h0 Fm x.val) ⟨t1 x,h0⟩)
  (hdone:Fm n->Q .normal ⟨t0,h0⟩):AWp P none N W0 X M0 (.rangeFunc g ps assign body) Q ⟨t0,h0⟩:=by
 unfold iF at hck
 simp only [Bool.and_eq_true] at hck
 obtain ⟨c1,c2,c3,c4,c5,c6,c7⟩:=hck
 have hfp:Au pids fid=false:=by simpa using c4
 have hh:∀ m b,get h0 m=some b->Au pids m=true/\b.isC=true/\b.no fid=true/\m≠fid:=fun m b hb=>by
  have:=List.all_eq_true.1 c2 (m,b) (C6 hb)
  simp only [Bool.and_eq_true] at this
  refine ⟨this.1,this.2.1,this.2.2.1,fun e => ?_⟩
  have h4:=this.2.2.2
  rw [e,Nat.beq_refl] at h4
  cases h4
 have hpv:∀ i v,get t0 i=some v->pvT pids v=true/\v.no fid=true:=fun i v hv=>by
  have h1:=List.all_eq_true.1 c1 (i,v) (C6 hv)
  refine ⟨h1,?_⟩
  cases hn:v.no fid with
  | true=>rfl
  | false=>have:=GG (Lz h1 hn);rw [hfp] at this;cases this
 refine mZ pids fid q (fun x=>⟨t1 x,h0⟩) Fm (fun ⟨m,x,h1,_⟩=>by rw [hX0] at h1;cases h1) (hX0 fid) (fun m x h1=>by rw [hX0] at h1;cases h1) hg hcd eg It hE (fun p hp => ?_) hpv hh (fun m hm' => ?_) hfp (Nat.le_of_ble_eq_true c5) (fun m hm' => ?_) (fun m hm'=>GG hm') c6 (fun x i v hv=>QS _ _ _ (fun j u hu=>(hpv j u hu).2) (hEd x) i v hv) hm (fun x=>⟨ht1 x,hm,fun _ _ h=>h,fun m b hb=>⟨(hh m b hb).1,(hh m b hb).2.1⟩⟩) hF hassign hbody hdone
 ·have:=Nat.le_of_ble_eq_true (List.all_eq_true.1 c7 p hp)
  exact this
 ·have:=List.all_eq_true.1 c3 m (DE hm')
  simp only [Bool.and_eq_true] at this
  exact Option.isSome_iff_exists.1 this.1
 have:=List.all_eq_true.1 c3 m hm'
 simp only [Bool.and_eq_true] at this
 exact Nat.le_of_ble_eq_true this.2
end
end
section
open Go.RowKit
section
variable {P:Program}
def Fr (P:Program) (f:FuncId) (xs:List Av) (b:Blk) (v:Nat->Tv):Prop:=∀ (M:Nat->Option Obj) (σ:Nat->Loc) (w:World) (args:List Value),(∀ b o,M b=some o->w.heap[b]? = some o)->L2 (RA M σ) xs args ->
 Calls P f args.toArray w fun en w'=>∃ U,en=.returned U/\∃ M' x,Gg w w' M M' Ql/\(x.nil=true\/(w.heap.size<=x.b/\M' x.b=none))/\(∀ σ',BX M' σ' w' x b)/\∀ (σ':Nat->Loc) d,σ' d=x->RT M' σ' (v d) U
theorem Dy {f:FuncId} {xs:List Av} {b:Blk} {v:Nat->Tv} (h1:∀ args w,(callFunc f args).run P w=.ok (.enter f args) w) (h:Fr P f xs b v):Eo P f xs (.new [] b v):=by
 refine .inl ⟨h1,fun M σ w h' args cs' g hs hargs hr hc => ?_⟩
 simp only [res,Option.some.injEq,Prod.mk.injEq] at hr
 obtain ⟨rfl,rfl⟩:=hr
 refine (h M σ w args hs.imm hargs).mono ?_
 rintro en w' ⟨U,hU,M',x,hk,hx,hb,hR⟩
 refine ⟨U,hU,fun dst ⟨d,hd,hno⟩=>⟨M',upd σ d x,x,d,hd,hk,hx,rfl,hb _,hR _ _ (BH _ _ _)⟩⟩
def OwnV (v:Nat->Tv):Prop:=∀ (M:Nat->Option Obj) (σ σ':Nat->Loc) (n d:Nat) (U:Value),σ' d=σ n->RT M σ (v n) U->RT M σ' (v d) U
theorem Er (sz len:Nat):OwnV fun d=>.av (.one (.own d sz len)):=fun M σ σ' n d U h hR=>by
 have hR:R M σ (.own n sz len) U:=hR
 show R M σ' (.own d sz len) U
 simp only [R] at *
 rw [h];exact hR
theorem ED {f:FuncId} {fn:Func} {c:Code} (hf:P.funcs[f]? = some fn) (hb:fn.body=some c) {xs:List Av} {sz len:Nat} {g:Nat->Nat->Cl} {ty:TypeId} {v:Nat->Tv} (hN:Nat.ble xs.length fn.ntmps=true) (hv:OwnV v)
  (h:∀ (W0:World) (M0:Nat->Option Obj),AWp P none fn.ntmps W0 noX M0 c (Rg P fn.ntmps W0 noX M0 fn fun r' s'=>∃ n,TvE r' (v n)/\∃ b,get s'.h n=some b/\ID b (.row sz len g ty)) ⟨Dw 0 xs,[]⟩):Fr P f xs (.row sz len g ty) v:=by
 intro M σ w args himm hargs
 refine EW (X:=noX) (σ:=σ) (h0:=[]) hf hb (Nat.le_of_ble_eq_true hN) himm hargs (fun n b h=>by cases h) (fun n b h=>by cases h) (fun n x h=>by cases h) (fun n m b c h=>by cases h) (DH (h w M)) ?_
 rintro r' s' M' σ' a' w' U ⟨n,he,b,hb1,hbe⟩ hs hR
 have hbk:=Jm hbe (hs.blk n _ hb1)
 refine ⟨U,rfl,M',σ' n,⟨hs.os,hs.tape,hs.output,hs.size,fun b hb _=>hs.old b hb (Ec b),hs.sub,hs.new,hs.imm⟩,?_,fun σ'' => ?_,fun σ'' d hd=>hv M' σ' σ'' n d U hd (MR he hR)⟩
 ·rcases hs.loc n _ hb1 with h1 | ⟨h1,h2 | h2⟩
  ·exact .inl h1
  ·exact .inr ⟨h2,h1⟩
  exact absurd h2 (Ec _)
 exact hbk
theorem frE {α:Type} [Inhabited α] {c:α->List Cl} {sz n:Nat} {ty:TypeId} {xs ys:List α} {s':AS} (h:xs=ys) (hg:get s'.h n=some (.row sz xs.length (AO c xs) ty)) :
  ∃ m,TvE (.av (.one (.own n sz xs.length))) (.av (.one (.own m sz ys.length)))/\∃ b,get s'.h m=some b/\ID b (.row sz ys.length (AO c ys) ty):=by subst h;exact ⟨n,.refl _,_,hg,.refl _⟩
theorem Yd {f:FuncId} {sz len:Nat} {F:Nat->Nat->Cl} {b:Blk} {v:Nat->Tv} (h0:len=0->Fr P f [.one (.val (.slice none 0 0))] b v) (h1:Fr P f [.one (.list true sz len F)] b v) (hsz:sz≠0:=by decide):Fr P f [.one (.list false sz len F)] b v:=by
 intro M σ w args himm hargs
 cases hargs with
 | cons ha ht =>
  cases ht with
  | nil =>
   have ha:RC M (.list false sz len F) _:=ha
   cases ha with
   | nil=>exact h0 rfl M σ w _ himm (.cons ⟨rfl,rfl⟩ .nil)
   | mt _ _ _ a cap=>exact h1 M σ w _ himm (.cons (RC.mt true sz F a cap (fun _ h=>absurd h hsz)) .nil)
   | list _ _ _ _ b off cap g e1 e2 e3=>exact h1 M σ w _ himm (.cons (RC.list true sz len F b off cap g e1 e2 e3 (fun _ h=>absurd h hsz)) .nil)
end
end
end Go.Proofs.YtheobjkgllmnmaaGreat
