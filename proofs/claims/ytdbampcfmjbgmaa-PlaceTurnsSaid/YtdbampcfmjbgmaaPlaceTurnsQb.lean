/-
  No statement is proved in this text. It holds a part of what the proof of PlaceTurns needs.
-/
import Derived.Test.YtdbampcfmjbgmaaPlaceTurnsQa
namespace Go.Proofs.Ytdbampcfmjbgmaa
set_option maxRecDepth 100000
set_option linter.unusedVariables false
set_option linter.unusedSimpArgs false
open Go.RowKit
section
open Go.RowKit
def GO (t:Nat->Option Tv) (ops:Array Oper) (j:Nat) (want:Bool):Option Prop:=match ops[j]? with
 | some o=>match o.dst with
  | some d=>match t d with
   | some (.av (.one (.val (.bool b))))=>some (b=want)
   | some (.grd g (.one (.val (.bool b))))=>some (g/\b=want)
   | _=>none
  | none=>none
 | none=>none
def I6:List Operand->List Nat
 | []=>[]
 | .tmp i::r=>i::I6 r
 | _::r=>I6 r
def strip:Tv->Tv
 | .grd _ x=>.av x
 | v=>v
def evG (t:Nat->Option Tv) (l:List Nat):Operand->Option Tv
 | .tmp i=>bif l.any (Nat.beq i) then (t i).map strip else t i
 | x=>evT t x
def Ib (t:Nat->Option Tv) (G:Prop):List Nat->List Prop
 | []=>[]
 | i::r=>match t i with
  | some (.grd g _)=>(G->g)::Ib t G r
  | _=>Ib t G r
def Fq:Op->List Nat
 | .pick c _ _=>I6 [c]
 | op=>I6 op.operands.toList
def Hk (P:Program) (V:Env P) (N:Nat) (ops:Array Oper) (o:Oper) (s:AS):Option (List Prop×AS):=match o.guard with
 | none=>match eff P V o.dst o.op (evT (get s.t)) with
  | some e=>match res (get s.h) e with
   | some (cs,g)=>bif G1 N s o.dst g then some (cs,Ri s o.dst g) else none
   | none=>none
  | none=>none
 | some (j,want)=>match GO (get s.t) ops j want with
  | some G=>match eff P V o.dst o.op (evG (get s.t) (Fq o.op)) with
   | some e=>match res (get s.h) e with
    | some (cs,.val (.av v))=>bif G1 N s o.dst (.val (.av v)) then some (Ib (get s.t) G (Fq o.op)++cs.map (fun p=>G->p),Lb s o.dst (.grd G v)) else none
    | _=>none
   | none=>bif G1 N s o.dst (.val (.av (.one (.val (.bool false))))) then some ([¬ G],Lb s o.dst (.grd G (.one (.val (.bool false))))) else none
  | none=>none
def LZ (P:Program) (V:Env P) (N:Nat) (ops:Array Oper):List Oper->AS->Option (List Prop×AS)
 | [],s=>some ([],s)
 | o::l,s=>match Hk P V N ops o s with
  | some (cs,s1)=>match LZ P V N ops l s1 with
   | some (ds,s2)=>some (cs++ds,s2)
   | none=>none
  | none=>none
section
variable {P:Program} {V:Env P} {N:Nat} {ops:Array Oper} {W0:World} {X:Nat→Option Loc} {M0 M:Nat→Option Obj} {σ:Nat→Loc} {w:World} {a:Act}
theorem Rj {h:Nat->Option Blk}:∀ {ns:List Nat} {bs:List Blk},GP h ns=some bs->∀ n∈ns,(h n).isSome
 | [],_,_,n,hn=>by cases hn
 | k::r,bs,hg,n,hn=>by
  simp only [GP] at hg
  split at hg
  ·rename_i b0 bs0 h1 h2
   rcases List.mem_cons.1 hn with rfl | hn
   ·rw [h1];rfl
   exact Rj h2 n hn
  cases hg
theorem Sb {h:Nat->Option Blk} {e:Ef} {cs:List Prop} {n:Nat} {v:Tv} {b:Blk} (hr:res h e=some (cs,.wr n v b)):(h n).isSome:=by
 cases e <;> simp only [res] at hr
 case wr =>
  split at hr
  ·rename_i b0 bs h1 h2
   split at hr
   ·simp only [Option.some.injEq,Prod.mk.injEq,Eg.wr.injEq] at hr
    obtain ⟨_,rfl,_,_⟩:=hr
    rw [h1];rfl
   cases hr
  cases hr
 all_goals ((repeat' split at hr) <;> simp at hr)
theorem Pi {h:Nat->Option Blk} {e:Ef} {cs:List Prop} {l:List (Nat×Blk)} {v:Tv} (hr:res h e=some (cs,.wrs l v)):∀ n b,get l n=some b->(h n).isSome:=by
 cases e <;> simp only [res] at hr
 case wrs =>
  split at hr
  ·rename_i b0 bs h1 h2
   split at hr
   ·rename_i cs1 v1 b1 _
    cases hl:Nat.beq _ b1.length with
    | false=>rw [hl] at hr;cases hr
    | true =>
     rw [hl] at hr
     simp only [Option.some.injEq,Prod.mk.injEq,Eg.wrs.injEq] at hr
     obtain ⟨_,rfl,_⟩:=hr
     intro n b hg
     exact Rj h1 n (List.of_mem_zip (De hg)).1
   cases hr
  cases hr
 all_goals ((repeat' split at hr) <;> simp at hr)
theorem Sc {h:Nat->Option Blk} {e:Ef} {cs:List Prop} {n q:Nat} {v:Tv} {b bq:Blk} (hr:res h e=some (cs,.wq n q v b bq)):(h n).isSome/\h q=some bq/\n≠q:=by
 cases e <;> simp only [res] at hr
 case wq =>
  split at hr
  ·rename_i b0 b1 h1 h2
   split at hr
   ·split at hr
    ·cases hr
    rename_i hne
    simp only [Option.some.injEq,Prod.mk.injEq,Eg.wq.injEq] at hr
    obtain ⟨_,rfl,rfl,_,_,rfl⟩:=hr
    exact ⟨by rw [h1];rfl,h2,fun e=>by rw [e,Nat.beq_refl] at hne;cases hne⟩
   cases hr
  cases hr
 all_goals ((repeat' split at hr) <;> simp at hr)
theorem Pj {h:Nat->Option Blk} {e:Ef} {cs:List Prop} {n:Nat} {v:Nat->Tv} {b:Blk} (hr:res h e=some (cs,.app n b v)):(h n).isSome:=by
 cases e <;> simp only [res] at hr
 case app =>
  split at hr
  ·rename_i b0 h1
   split at hr
   ·simp only [Option.some.injEq,Prod.mk.injEq,Eg.app.injEq] at hr
    obtain ⟨_,rfl,_,_⟩:=hr
    rw [h1];rfl
   cases hr
  cases hr
 all_goals ((repeat' split at hr) <;> simp at hr)
theorem UO {T:Nat->Option Tv} {H:Nat->Option Blk} {dst:Option Nat} {g:Eg} (h:Zv N T H dst g):Zf dst g:=by
 cases g with
 | val=>trivial
 | wr=>trivial
 | wrs=>trivial
 | wq=>trivial
 | new b v=>obtain ⟨_,d,hd,_,hn⟩:=h;exact ⟨d,hd,hn⟩
 | app n b v=>obtain ⟨_,d,hd,_⟩:=h;exact ⟨d,hd⟩
theorem FX {t:Nat->Option Tv} (ht:∀ i v,t i=some v->RT M σ v (a.tmps.getD i undef)) (hroom:a.tmps.size=N) {o:Oper} {j:Nat} {want:Bool} {G:Prop} (hg:o.guard=some (j,want)) (hG:GO t ops j want=some G):Region.wanted o (yielded ops a.tmps)=true↔G:=by
 unfold GO at hG
 split at hG
 ·rename_i oj hj
  split at hG
  ·rename_i d hd
   have hy:yielded ops a.tmps j=match a.tmps[d]? with | some (.bool b)=>some b | _=>none:=by
    simp only [yielded,hj,Option.bind_some,hd]
    rfl
   unfold Region.wanted
   rw [hg]
   simp only [hy]
   split at hG
   ·rename_i b hb
    injection hG with hG
    subst hG
    have hv:a.tmps.getD d undef=.bool b:=(ht d _ hb).1
    have:a.tmps[d]? = some (.bool b):=by
     rw [Array.getD_eq_getD_getElem?] at hv
     cases hq:a.tmps[d]? with
     | none=>rw [hq] at hv;cases hv
     | some y=>rw [hq] at hv;simp only [Option.getD_some] at hv;rw [hv]
    rw [this]
    simp
   ·rename_i g b hb
    injection hG with hG
    subst hG
    have hR:=ht d _ hb
    by_cases hgp:g
    ·have hv:a.tmps.getD d undef=.bool b:=(hR.1 hgp).1
     have:a.tmps[d]? = some (.bool b):=by
      rw [Array.getD_eq_getD_getElem?] at hv
      cases hq:a.tmps[d]? with
      | none=>rw [hq] at hv;cases hv
      | some y=>rw [hq] at hv;simp only [Option.getD_some] at hv;rw [hv]
     rw [this]
     simp [hgp]
    have hv:a.tmps.getD d undef=undef:=hR.2 hgp
    have:∀ b,a.tmps[d]? ≠ some (.bool b):=fun b hb=>by
     rw [Array.getD_eq_getD_getElem?,hb] at hv
     simp only [Option.getD_some] at hv
     cases hv
    simp only [hgp,false_and,iff_false,Bool.not_eq_true]
    cases hq:a.tmps[d]? with
    | none=>rfl
    | some y =>
     cases y <;> first | rfl | exact absurd hq (this _)
   cases hG
  cases hG
 cases hG
theorem Mz {t:Nat->Option Tv} {G:Prop} (hG:G):∀ {l:List Nat},Bs (Ib t G l)->∀ i∈l,∀ g y,t i=some (.grd g y)->g
 | x::r,hc,z,hz,g,y,hy=>by
  unfold Ib at hc
  cases hz with
  | head =>
   rw [hy] at hc
   exact hc.head hG
  | tail _ hm =>
   split at hc
   ·exact Mz hG hc.tail z hm g y hy
   exact Mz hG hc z hm g y hy
theorem X4 {t:Nat->Option Tv} {l:List Nat} {G:Prop} (hG:G) (hc:Bs (Ib t G l)) (ht:∀ i v,t i=some v->RT M σ v (a.tmps.getD i undef)) {x:Operand} {v:Tv} (hv:evG t l x=some v):RT M σ v (a.eval x):=by
 cases x with
 | tmp i =>
  simp only [evG] at hv
  cases hm:l.any (Nat.beq i) with
  | false=>rw [hm] at hv;exact ht i v hv
  | true =>
   rw [hm] at hv
   simp only [cond_true] at hv
   obtain ⟨u,hu,rfl⟩:=Option.map_eq_some_iff.1 hv
   have hR:=ht i u hu
   obtain ⟨k,hk,hik⟩:=List.any_eq_true.1 hm
   have:=Nat.eq_of_beq_eq_true hik
   subst this
   cases u with
   | av x=>exact hR
   | tup x=>exact hR
   | grd g y=>exact hR.1 (Mz hG hc i hk g y hu)
 | const c=>exact Fz ht (x:=.const c) hv
 | global g=>exact Fz ht (x:=.global g) hv
 | func f=>exact Fz ht (x:=.func f) hv
theorem Gx {ev ev':Operand->Option Tv}:∀ (l:List (Nat×Operand)),(∀ p∈l,ev p.2=ev' p.2)->Gy ev l=Gy ev' l
 | [],_=>rfl
 | (i,x)::r,h=>by
  simp only [Gy]
  rw [h (i,x) (by simp),Gx r fun p hp=>h p (by simp [hp])]
theorem Hv {ev ev':Operand->Option Tv}:∀ (l:List Operand),(∀ x∈l,ev x=ev' x)->EG ev l=EG ev' l
 | [],_=>rfl
 | x::r,h=>by
  simp only [EG]
  rw [h x (by simp),Hv r fun p hp=>h p (by simp [hp])]
theorem Of {dst:Option Nat} {op:Op} {ev ev':Operand->Option Tv} (h:∀ x∈op.operands.toList,ev x=ev' x):eff P V dst op ev=eff P V dst op ev':=by
 cases op <;> simp only [eff,GE] <;> simp only [Op.operands] at h
 case move x=>rw [h x (by simp)]
 case assign x=>rw [h x (by simp)]
 case pick c a b=>rw [h c (by simp),h a (by simp),h b (by simp)]
 case box T x=>rw [h x (by simp)]
 case build T ps=>unfold J3;rw [Gx _ fun p hp=>h p.2 (by simp;exact ⟨p.1,by simpa using hp⟩)]
 case buildSlice T n ps=>unfold E6;rw [Gx _ fun p hp=>h p.2 (by simp;exact ⟨p.1,by simpa using hp⟩)]
 case load T x=>rw [h x (by simp)]
 case store T x y=>rw [h x (by simp),h y (by simp)]
 case fieldAddr T x k=>rw [h x (by simp)]
 case field T x k=>rw [h x (by simp)]
 case indexAddr T x y=>rw [h x (by simp),h y (by simp)]
 case binOp b T x y yT=>rw [h x (by simp),h y (by simp)]
 case unOp b T x=>rw [h x (by simp)]
 case convert a b x=>rw [h x (by simp)]
 case extract x i=>rw [h x (by simp)]
 case nilCheck x=>rw [h x (by simp)]
 case makeFunc fn first captured =>
  cases fn <;> simp only [eff,GE]
  rw [Hv _ fun x hx=>h x (by simp at hx ⊢;exact .inr hx)]
 case index T x y=>rw [h x (by simp),h y (by simp)]
 case makeSlice T x y=>rw [h x (by simp),h y (by simp)]
 case lookup T x k ok=>rw [h x (by simp),h k (by simp)]
 case makeMap T r=>cases r <;> rfl
 case mapUpdate T m k x=>rw [h m (by simp),h k (by simp),h x (by simp)]
 case slice T x lo hi mx =>
  cases mx <;> simp only [eff,GE]
  rw [h x (by simp)]
  have e1:lo.map ev=lo.map ev':=by
   cases lo with
   | none=>rfl
   | some y=>simp only [Option.map_some];rw [h y (by simp)]
  have e2:hi.map ev=hi.map ev':=by
   cases hi with
   | none=>rfl
   | some y=>simp only [Option.map_some];rw [h y (by simp)]
  rw [e1,e2]
 case call c =>
  have ha:EG ev c.args.toList=EG ev' c.args.toList:=Hv _ fun x hx=>h x (by simp [Call.operands];exact .inr (by simpa using hx))
  rw [ha]
  cases hc:c.callee with
  | value f =>
   have hf:=h f (by simp [Call.operands,hc])
   cases EG ev' c.args.toList with
   | none=>rfl
   | some xs=>simp only [hf]
  | _=>cases EG ev' c.args.toList <;> rfl
def OX:Ef->List Nat
 | .rd ns _=>ns
 | .wr n ns _=>n::ns
 | .wrs ns rs _=>ns++rs
 | .wq n q _=>[n,q]
 | .app n _=>[n]
 | _=>[]
theorem Fw {h h':Nat->Option Blk}:∀ (l:List Nat),(∀ n∈l,h n=h' n)->GP h l=GP h' l
 | [],_=>rfl
 | n::r,k=>by
  simp only [GP]
  rw [k n (by simp),Fw r fun m hm=>k m (by simp [hm])]
theorem N9 {h h':Nat->Option Blk} {e:Ef} (k:∀ n∈OX e,h n=h' n):res h e=res h' e:=by
 cases e <;> simp only [res] <;> simp only [OX] at k
 case rd ns q=>rw [Fw ns k]
 case wr n ns q=>rw [k n (by simp),Fw ns fun m hm=>k m (by simp [hm])]
 case wq n q _=>rw [k n (by simp),k q (by simp)]
 case wrs ns rs q=>rw [Fw ns fun m hm=>k m (by simp [hm]),Fw rs fun m hm=>k m (by simp [hm])]
 case app n q=>rw [k n (by simp)]
theorem Jz {t t':Nat->Option Tv} {ops:Array Oper} {j:Nat} {want:Bool} (h:∀ d,(ops[j]?).bind (·.dst)=some d->t d=t' d):GO t ops j want=GO t' ops j want:=by
 unfold GO
 cases ho:ops[j]? with
 | none=>rfl
 | some o =>
  simp only
  cases hd:o.dst with
  | none=>rfl
  | some d=>simp only;rw [h d (by simp [ho,hd])]
theorem JB:∀ {l:List Operand} {i:Nat},i∈I6 l↔.tmp i∈l
 | [],i=>by simp [I6]
 | x::r,i=>by
  have:=JB (l:=r) (i:=i)
  cases x <;> simp [I6,this]
theorem S0 {op:Op} {i:Nat} (h:i∈Fq op) : .tmp i∈op.operands.toList:=by
 unfold Fq at h
 split at h
 ·rw [JB] at h
  simp only [List.mem_singleton] at h
  simp [Op.operands,h]
 exact JB.1 h
theorem LG {t t':Nat->Option Tv} {G:Prop}:∀ (l:List Nat),(∀ i∈l,t i=t' i)->Ib t G l=Ib t' G l
 | [],_=>rfl
 | i::r,h=>by
  unfold Ib
  rw [h i (by simp),LG r fun k hk=>h k (by simp [hk])]
def Hp (P:Program) (V:Env P) (ops:Array Oper) (o:Oper) (s:AS):List Nat:=match o.guard with
 | none=>match eff P V o.dst o.op (evT (get s.t)) with
  | some e=>OX e
  | none=>[]
 | some _=>match eff P V o.dst o.op (evG (get s.t) (Fq o.op)) with
  | some e=>OX e
  | none=>[]
def DT (P:Program) (V:Env P) (o:Oper) (s:AS):List Nat:=match o.guard with
 | none=>match eff P V o.dst o.op (evT (get s.t)) with
  | some (.wr n _ _)=>[n]
  | some (.wrs ns _ _)=>ns
  | some (.wq n _ _)=>[n]
  | some (.new _ _ _)=>o.dst.toList
  | some (.app n _)=>n::o.dst.toList
  | _=>[]
 | some _=>[]
def Gf (P:Program) (V:Env P) (o:Oper) (s:AS):Bool:=match o.guard with
 | none=>match eff P V o.dst o.op (evT (get s.t)) with
  | some (.new _ _ _)=>true
  | some (.app _ _)=>true
  | _=>false
 | some _=>false
theorem Hm {ops:Array Oper} {o:Oper} {i:Nat} (h:Operand.tmp i∈o.op.operands.toList):i∈o.looksAt ops:=by
 unfold Oper.looksAt
 exact List.mem_append_left _ (List.mem_filterMap.2 ⟨.tmp i,h,rfl⟩)
theorem Ic {ops:Array Oper} {o:Oper} {j:Nat} {want:Bool} (hg:o.guard=some (j,want)) {d:Nat} (hd:(ops[j]?).bind (·.dst)=some d):d∈o.looksAt ops:=by
 unfold Oper.looksAt
 rw [hg]
 exact List.mem_append_right _ (by simp [hd])
def LY (dst:Option Nat):Eg->List Nat
 | .val _=>[]
 | .wr n _ _=>[n]
 | .wrs l _=>l.map (·.1)
 | .wq n _ _ _ _=>[n]
 | .new _ _=>dst.toList
 | .app n _ _=>n::dst.toList
theorem OW {h:Nat->Option Blk} {o:Oper} {s:AS} {e:Ef} {cs:List Prop} {g:Eg} (hg:o.guard=none) (he:eff P V o.dst o.op (evT (get s.t))=some e) (hr:res h e=some (cs,g)):DT P V o s=LY o.dst g:=by
 unfold DT
 split
 ·rw [he]
  cases e <;> simp only [res] at hr
  case val=>simp only [Option.some.injEq,Prod.mk.injEq] at hr;obtain ⟨_,rfl⟩:=hr;rfl
  case rd =>
   split at hr
   ·split at hr
    ·simp only [Option.some.injEq,Prod.mk.injEq] at hr;obtain ⟨_,rfl⟩:=hr;rfl
    cases hr
   cases hr
  case wr =>
   split at hr
   ·split at hr
    ·simp only [Option.some.injEq,Prod.mk.injEq] at hr;obtain ⟨_,rfl⟩:=hr;rfl
    cases hr
   cases hr
  case wq =>
   split at hr
   ·split at hr
    ·split at hr
     ·cases hr
     simp only [Option.some.injEq,Prod.mk.injEq] at hr;obtain ⟨_,rfl⟩:=hr;rfl
    cases hr
   cases hr
  case wrs ns rs k =>
   split at hr
   ·split at hr
    ·rename_i cs1 v1 b1 _
     cases hl:Nat.beq ns.length b1.length with
     | false=>rw [hl] at hr;cases hr
     | true =>
      rw [hl] at hr
      simp only [Option.some.injEq,Prod.mk.injEq] at hr
      obtain ⟨_,rfl⟩:=hr
      have:=Nat.eq_of_beq_eq_true hl
      simp only [LY]
      rw [List.map_fst_zip (by omega)]
    cases hr
   cases hr
  case new=>simp only [Option.some.injEq,Prod.mk.injEq] at hr;obtain ⟨_,rfl⟩:=hr;rfl
  case app =>
   split at hr
   ·split at hr
    ·simp only [Option.some.injEq,Prod.mk.injEq] at hr;obtain ⟨_,rfl⟩:=hr;rfl
    cases hr
   cases hr
 rename_i hg';rw [hg] at hg';cases hg'
theorem OP {N:Nat} {s:AS} {dst:Option Nat} {g:Eg} (hok:G1 N s dst g=true) (H:Nat->Option Blk):(fun n=>if n∈LY dst g then get (Ri s dst g).h n else H n)=goH H dst g:=by
 funext n
 rw [(Fx s dst g).2]
 cases g with
 | val v=>simp [goH,LY]
 | wr m v b =>
  simp only [goH,Cx,List.mem_singleton,LY]
  by_cases h:m=n
  ·simp [h]
  simp [h,Ne.symm h]
 | wq m q v b bq =>
  simp only [goH,Cx,List.mem_singleton,LY]
  by_cases h:m=n
  ·simp [h]
  simp [h,Ne.symm h]
 | wrs l v =>
  have hwo:LY dst (.wrs l v)=l.map (·.1):=rfl
  simp only [goH]
  by_cases hn:n∈LY dst (.wrs l v)
  ·rw [if_pos hn]
   rw [hwo] at hn
   cases hg:get l n with
   | none =>
    exfalso
    obtain ⟨⟨k,b⟩,hm,rfl⟩:=List.mem_map.1 hn
    clear hn hok hwo
    induction l with
    | nil=>cases hm
    | cons p r ih =>
     obtain ⟨k',b'⟩:=p
     simp only [get,Ce] at hg
     by_cases e:k'=k
     ·simp [e] at hg
     simp only [e,decide_false,cond_false] at hg
     rcases List.mem_cons.1 hm with hm | hm
     ·injection hm with h1 _;exact e h1.symm
     exact ih hm hg
   | some b=>simp only [orL,hg]
  rw [if_neg hn]
  rw [hwo] at hn
  cases hg:get l n with
  | none=>simp only [orL,hg]
  | some b=>exact absurd (List.mem_map.2 ⟨_,De hg,rfl⟩) hn
 | new b v =>
  cases dst with
  | none=>simp [goH,LY]
  | some d =>
   simp only [goH,Cx,Option.toList_some,List.mem_singleton,LY]
   by_cases h:d=n
   ·simp [h]
   simp [h,Ne.symm h]
 | app m b v =>
  cases dst with
  | none=>cases hok
  | some d =>
   simp only [goH,Cx,Option.toList_some,List.mem_cons,List.not_mem_nil,or_false,LY]
   by_cases h1:d=n
   ·simp [h1]
   by_cases h2:m=n
   ·simp [h2]
   simp [h1,h2,Ne.symm h1,Ne.symm h2]
theorem H9 {s:AS} {dst:Option Nat} {g:Eg} (T:Nat->Option Tv):(fun i=>if dst=some i then get (Ri s dst g).t i else T i)=goT T dst g:=by
 funext i
 rw [(Fx s dst g).1]
 cases g <;> cases dst <;> simp only [goT,Nj,Cx,Option.some.injEq,reduceCtorEq,if_false] <;> split <;> simp_all
theorem MX {rd:Option Nat} (hV:KE P V) {o:Oper} {s s1:AS} {cs:List Prop} (hst:Hk P V N ops o s=some (cs,s1)) (hc:Bs cs) {T:Nat->Option Tv} {H:Nat->Option Blk} (hs:Sim N W0 X M0 M σ T H a w) (hT:∀ i∈o.looksAt ops,T i=get s.t i) (hH:∀ n∈Hp P V ops o s,H n=get s.h n)
  (hfr:Gf P V o s=true->∀ d,o.dst=some d->Nc T H d) {K:Act->World->Prop} {Q:Exit->Act->World->Prop} (hK:∀ M' σ' a' w',Sim N W0 X M0 M' σ' (fun i=>if o.dst=some i then get s1.t i else T i) (fun n=>if n∈DT P V o s then get s1.h n else H n) a' w'->K a' w') :
  if Region.wanted o (yielded ops a.tmps) then o.wpIn (FW rd) 0 P a w K Q else (∀ f,o.about P w a.eval=some f->(FW rd).fn f)/\K (a.put o.dst undef) w:=by
 unfold Hk at hst
 split at hst
 ·rename_i hg
  rw [if_pos (by simp [Region.wanted,hg])]
  split at hst
  ·rename_i e he
   split at hst
   ·rename_i cs' g hr
    cases hok:G1 N s o.dst g with
    | false=>rw [hok] at hst;cases hst
    | true =>
     rw [hok] at hst
     simp only [cond_true,Option.some.injEq,Prod.mk.injEq] at hst
     obtain ⟨rfl,rfl⟩:=hst
     have hev:∀ x∈o.op.operands.toList,evT T x=evT (get s.t) x:=fun x hx=>by
      cases x with
      | tmp i=>exact hT i (Hm hx)
      | _=>rfl
     have he':eff P V o.dst o.op (evT T)=some e:=by rw [Of hev];exact he
     have hfoot:Hp P V ops o s=OX e:=by unfold Hp;rw [hg,he]
     have hr':res H e=some (cs',g):=by rw [N9 (h':=get s.h) fun n hn=>hH n (by rw [hfoot];exact hn)];exact hr
     have hgo0:=J0 hok (fun n v b hg=>by subst hg;exact Sb hr) (fun l v hg=>by subst hg;exact Pi hr) (fun n q v b bq hg=>by subst hg;exact Sc hr) (fun n b v hg=>by subst hg;exact Pj hr)
     have hkind:(∃ b v,g=.new b v)\/(∃ n b v,g=.app n b v)->Gf P V o s=true:=fun hk=>by
      unfold Gf
      rw [hg,he]
      cases e <;> simp only [res] at hr <;> first
       | rfl
       | (exfalso;rcases hk with ⟨b,v,rfl⟩ | ⟨n,b,v,rfl⟩ <;> (repeat' split at hr) <;> simp at hr)
     have hgo:Zv N T H o.dst g:=by
      refine ⟨hgo0.1,?_⟩
      cases g with
      | val v=>trivial
      | wr n v b=>exact Sb hr'
      | wrs l v=>exact Pi hr'
      | wq n q v b bq=>exact Sc hr'
      | new b v =>
       obtain ⟨_,d,hd,hf,hn⟩:=hgo0
       exact ⟨d,hd,hfr (hkind (.inl ⟨_,_,rfl⟩)) d hd,hn⟩
      | app n b v =>
       obtain ⟨_,d,hd,hf,hn,_⟩:=hgo0
       exact ⟨d,hd,hfr (hkind (.inr ⟨_,_,_,rfl⟩)) d hd,hn,Pj hr'⟩
     refine (TL hV (fun x v hv=>Fz hs.tmps hv) he' hs.std hr' hc (UO hgo)).wp ?_ (fun c hc=>by rw [hc] at he';cases he')
     rintro U w' ⟨M',σ',ho⟩
     have hsim:=MZ hs ho hgo
     refine hK M' σ' _ _ ?_
     rw [OW hg he hr,H9,OP hok]
     exact hsim
   cases hst
  cases hst
 rename_i j want hg
 split at hst
 ·rename_i G hG
  split at hst
  ·rename_i e he
   split at hst
   ·rename_i cs' v hr
    cases hok:G1 N s o.dst (.val (.av v)) with
    | false=>rw [hok] at hst;cases hst
    | true =>
     rw [hok] at hst
     simp only [cond_true,Option.some.injEq,Prod.mk.injEq] at hst
     obtain ⟨rfl,rfl⟩:=hst
     obtain ⟨hc1,hc2⟩:=hc.append
     have htm:∀ i∈Fq o.op,T i=get s.t i:=fun i hi=>hT i (Hm (S0 hi))
     have hG':GO T ops j want=some G:=by rw [Jz fun d hd=>hT d (Ic hg hd)];exact hG
     have hw:=FX hs.tmps hs.room hg hG'
     have hev:∀ x∈o.op.operands.toList,evG T (Fq o.op) x=evG (get s.t) (Fq o.op) x:=fun x hx=>by
      cases x with
      | tmp i=>simp only [evG];rw [hT i (Hm hx)]
      | _=>rfl
     have he':eff P V o.dst o.op (evG T (Fq o.op))=some e:=by rw [Of hev];exact he
     have hfoot:Hp P V ops o s=OX e:=by unfold Hp;rw [hg];simp only [he]
     have hr':res H e=some (cs',.val (.av v)):=by rw [N9 (h':=get s.h) fun n hn=>hH n (by rw [hfoot];exact hn)];exact hr
     rw [<- LG (t:=T) _ htm] at hc1
     have hgo0:=J0 hok (fun n v b hg=>by cases hg) (fun l v hg=>by cases hg) (fun n q v b bq hg=>by cases hg) (fun n b v hg=>by cases hg)
     have fin:∀ (U:Value) (w':World) (M':Nat->Option Obj) (σ':Nat->Loc),Zt M σ w o.dst U w' M' σ' (.val (.grd G v))->K (a.put o.dst U) w':=fun U w' M' σ' ho=>by
      have hsim:=MZ hs (g:=.val (.grd G v)) ho ⟨hgo0.1,trivial⟩
      refine hK M' σ' _ _ ?_
      have e1:(fun i=>if o.dst=some i then get (Lb s o.dst (.grd G v)).t i else T i)=goT T o.dst (.val (.grd G v)):=H9 (s:=s) (g:=.val (.grd G v)) T
      have e2:(fun n=>if n∈DT P V o s then get (Lb s o.dst (.grd G v)).h n else H n)=H:=by
       funext n
       unfold DT
       rw [hg]
       simp
      rw [e1,e2]
      exact hsim
     by_cases hGp:G
     ·rw [if_pos (hw.2 hGp)]
      have hcs:Bs cs':=by
       have:∀ l:List Prop,Bs (l.map fun p=>G->p)->Bs l:=fun l=>by
        induction l with
        | nil=>intro _;exact .nil
        | cons p l ih=>intro h;exact .cons (h.head hGp) (ih h.tail)
       exact this _ hc2
      have:=TL hV (o:=o) (a:=a) (fun x v hv=>X4 hGp hc1 hs.tmps hv) he' hs.std hr' hcs trivial
      refine this.wp ?_ (fun c hc=>by rw [hc] at he';cases he')
      rintro U w' ⟨M',σ',ho⟩
      obtain ⟨k,hσ,hR⟩:=ho
      exact fin U w' M' σ' ⟨k,hσ,fun _=>hR,fun h=>absurd hGp h⟩
     rw [if_neg (fun h=>hGp (hw.1 h))]
     refine ⟨fun _ _=>trivial,?_⟩
     exact fin undef w M σ ⟨F8.refl hs.imm _,rfl,fun h=>absurd h hGp,fun _=>rfl⟩
   cases hst
  cases hok:G1 N s o.dst (.val (.av (.one (.val (.bool false))))) with
  | false=>rw [hok] at hst;cases hst
  | true =>
   rw [hok] at hst
   simp only [cond_true,Option.some.injEq,Prod.mk.injEq] at hst
   obtain ⟨rfl,rfl⟩:=hst
   have hGp:¬ G:=hc.head
   have hG':GO T ops j want=some G:=by rw [Jz fun d hd=>hT d (Ic hg hd)];exact hG
   have hw:=FX hs.tmps hs.room hg hG'
   rw [if_neg (fun h=>hGp (hw.1 h))]
   refine ⟨fun _ _=>trivial,?_⟩
   have hgo0:=J0 hok (fun n v b hg=>by cases hg) (fun l v hg=>by cases hg) (fun n q v b bq hg=>by cases hg) (fun n b v hg=>by cases hg)
   have hsim:=MZ hs (g:=.val (.grd G (.one (.val (.bool false))))) (V:=undef) (w':=w) (M':=M) (σ':=σ) ⟨F8.refl hs.imm _,rfl,fun h=>absurd h hGp,fun _=>rfl⟩ ⟨hgo0.1,trivial⟩
   refine hK M σ _ _ ?_
   have e1:(fun i=>if o.dst=some i then get (Lb s o.dst (.grd G (.one (.val (.bool false))))).t i else T i)=goT T o.dst (.val (.grd G (.one (.val (.bool false))))):=H9 (s:=s) (g:=.val (.grd G (.one (.val (.bool false))))) T
   have e2:(fun n=>if n∈DT P V o s then get (Lb s o.dst (.grd G (.one (.val (.bool false))))).h n else H n)=H:=by
    funext n
    unfold DT
    rw [hg]
    simp
   rw [e1,e2]
   exact hsim
 cases hst
theorem MV {o:Oper} {s s1:AS} {cs:List Prop} (hst:Hk P V N ops o s=some (cs,s1)):∃ g,G1 N s o.dst g=true/\s1=Ri s o.dst g/\DT P V o s=LY o.dst g/\(Gf P V o s=true->(∃ b v,g=.new b v)\/∃ n b v,g=.app n b v):=by
 unfold Hk at hst
 split at hst
 ·rename_i hg
  split at hst
  ·rename_i e he
   split at hst
   ·rename_i cs' g hr
    cases hok:G1 N s o.dst g with
    | false=>rw [hok] at hst;cases hst
    | true =>
     rw [hok] at hst
     simp only [cond_true,Option.some.injEq,Prod.mk.injEq] at hst
     obtain ⟨rfl,rfl⟩:=hst
     refine ⟨g,hok,rfl,OW hg he hr,fun hn => ?_⟩
     unfold Gf at hn
     rw [hg] at hn
     simp only [he] at hn
     cases e <;> simp only [res] at hr <;> simp only at hn <;> try (cases hn;done)
     case new=>simp only [Option.some.injEq,Prod.mk.injEq] at hr;obtain ⟨_,rfl⟩:=hr;exact .inl ⟨_,_,rfl⟩
     case app =>
      split at hr
      ·split at hr
       ·simp only [Option.some.injEq,Prod.mk.injEq] at hr;obtain ⟨_,rfl⟩:=hr;exact .inr ⟨_,_,_,rfl⟩
       cases hr
      cases hr
   cases hst
  cases hst
 rename_i j want hg
 split at hst
 ·rename_i G hG
  split at hst
  ·rename_i e he
   split at hst
   ·rename_i cs' v hr
    cases hok:G1 N s o.dst (.val (.av v)) with
    | false=>rw [hok] at hst;cases hst
    | true =>
     rw [hok] at hst
     simp only [cond_true,Option.some.injEq,Prod.mk.injEq] at hst
     obtain ⟨rfl,rfl⟩:=hst
     refine ⟨.val (.grd G v),hok,rfl,?_,fun hn => ?_⟩
     ·unfold DT;rw [hg];rfl
     unfold Gf at hn;rw [hg] at hn;cases hn
   cases hst
  cases hok:G1 N s o.dst (.val (.av (.one (.val (.bool false))))) with
  | false=>rw [hok] at hst;cases hst
  | true =>
   rw [hok] at hst
   simp only [cond_true,Option.some.injEq,Prod.mk.injEq] at hst
   obtain ⟨rfl,rfl⟩:=hst
   refine ⟨.val (.grd G (.one (.val (.bool false)))),hok,rfl,?_,fun hn => ?_⟩
   ·unfold DT;rw [hg];rfl
   unfold Gf at hn;rw [hg] at hn;cases hn
 cases hst
theorem Dq {o:Oper} {s s1:AS} {cs:List Prop} (hst:Hk P V N ops o s=some (cs,s1)):(get s1.t=fun i=>if o.dst=some i then get s1.t i else get s.t i)/\(get s1.h=fun n=>if n∈DT P V o s then get s1.h n else get s.h n):=by
 obtain ⟨g,hok,rfl,hfw,_⟩:=MV hst
 rw [hfw,H9,OP hok]
 exact Fx s o.dst g
theorem MU {o:Oper} {s s1:AS} {cs:List Prop} (hst:Hk P V N ops o s=some (cs,s1)) (hn:Gf P V o s=true) {d:Nat} (hd:o.dst=some d):Nc (get s.t) (get s.h) d:=by
 obtain ⟨g,hok,rfl,_,hk⟩:=MV hst
 rcases hk hn with ⟨b,v,rfl⟩ | ⟨n,b,v,rfl⟩
 ·rw [hd] at hok
  simp only [G1,Option.any_some,Bool.and_eq_true] at hok
  exact Ho hok.1.2
 rw [hd] at hok
 simp only [G1,Option.any_some,Bool.and_eq_true] at hok
 exact Ho hok.1.2
end
end
section
open Go.RowKit
def AWp (P:Program) (rd:Option Nat) (N:Nat) (W0:World) (X:Nat->Option Loc) (M0:Nat->Option Obj) (c:Code) (Q:Exit->AS->Prop) (s:AS):Prop :=
 ∀ M σ a w,Sim N W0 X M0 M σ (get s.t) (get s.h) a w->c.wpIn (FW rd) 0 P (fun e a' w'=>∃ s' M' σ',Q e s'/\Sim N W0 X M0 M' σ' (get s'.t) (get s'.h) a' w') a w
def ATh (K:AS->Prop) (Q:Exit->AS->Prop):Exit->AS->Prop
 | .normal,s=>K s
 | e,s=>Q e s
def ABl (id:Nat) (Q:Exit->AS->Prop):Exit->AS->Prop
 | .exit id',s=>if id'=id then Q .normal s else Q (.exit id') s
 | e,s=>Q e s
def Hn {α:Type} (l:List (Nat×α)):List Nat->List (Nat×α)
 | []=>[]
 | n::r=>match get l n with
  | some v=>(n,v)::Hn l r
  | none=>Hn l r
def Js (ts hs:List Nat) (s:AS):AS:=⟨Hn s.t ts,Hn s.h hs⟩
theorem Gh {α:Type} (l:List (Nat×α)):∀ (ns:List Nat) (n:Nat) (v:α),get (Hn l ns) n=some v->get l n=some v
 | [],n,v,h=>by cases h
 | k::r,n,v,h=>by
  simp only [Hn] at h
  split at h
  ·rename_i u hu
   simp only [get,Ce] at h
   by_cases hk:k=n
   ·subst hk;simp at h;subst h;exact hu
   simp [hk] at h;exact Gh l r n v h
  exact Gh l r n v h
def G5 (l:List (Nat×FuncId×List Av×Ef)) (d:Nat):Option (FuncId×List Av×Ef):=get l d
inductive Gp (P:Program):List (Nat×FuncId×List Av×Ef)->Prop
 | nil:Gp P []
 | cons {d:Nat} {c:FuncId×List Av×Ef} {l:List (Nat×FuncId×List Av×Ef)}:EB P c.1 c.2.1 c.2.2->Gp P l->Gp P ((d,c)::l)
theorem Gp.env {P:Program} {E:TypeId->Option (List Kd)} (hE:IW P ⟨fun _=>none,E,fun _=>false,fun _=>none⟩) {O:Nat->Bool} {q:Nat->Option (Bool×Nat)} {l:List (Nat×FuncId×List Av×Ef)} (hl:Gp P l):KE P ⟨G5 l,E,O,q⟩:=by
 refine ⟨hE,fun d f xs e h => ?_⟩
 have hm:(d,f,xs,e)∈l:=De h
 clear h
 induction hl with
 | nil=>cases hm
 | cons h1 _ ih =>
  cases hm with
  | head=>exact h1
  | tail _ hm=>exact ih hm
def BM:List Nat->Nat->Bool
 | [],_=>false
 | k::r,n=>bif Nat.beq k n then true else BM r n
def Aw (x:List Av):Prop:=x=x
def QY (b:List Blk):Prop:=b=b
def Bu (b:Blk):Prop:=b=b
def A64 (a b:Int):Int:=IntKind.i64.wrap ((BitVec.ofInt 64 a &&& BitVec.ofInt 64 b).toNat)
def W64 (x:Int):Int:=IntKind.i64.wrap x
theorem Dd {p:Prop} [Decidable p] (h:(!decide p)=true):¬ p:=by simpa using h
theorem DR {p:Prop} [Decidable p] (h:(!decide p)=false):p:=by simpa using h
theorem C9 (x:Int):W64 x=(x+9223372036854775808) % 18446744073709551616-9223372036854775808:=by
 unfold W64;rw [IntKind.wrap_i64]
theorem Ao {x:Int} (h1 : -9223372036854775808<=x) (h2:x<=9223372036854775807):W64 x=x:=by
 unfold W64;rw [IntKind.wrap_i64];omega
def lst {α:Type} [Inhabited α] (sz:Nat) (c:α->List Cl) (xs:List α):Cl:=.list false sz xs.length fun i j=>(c (xs.getD i default)).getD j default
def wrI (n:Nat) (b0:Blk) (r:Tv) (b1:Blk):Ef:=.wr n [] fun b _=>some ([b=b0],r,b1)
def rdI (ns:List Nat) (bs:List Blk) (r:Tv):Ef:=.rd ns fun b=>some ([b=bs],r)
def Ni (P:Program) (V:Env P) (N:Nat) (l:List Oper) (ts hs:List Nat) (s:AS):Option (List Prop×AS):=match LZ P V N l.toArray l s with
 | some (cs,s1)=>some (cs,Js ts hs s1)
 | none=>none
theorem AH {K:AS->Prop} {Q:Exit->AS->Prop} {s:AS} (h:K s):ATh K Q .normal s:=h
theorem A4 {K:AS->Prop} {Q:Exit->AS->Prop} {s:AS} {id:Nat} (h:Q (.exit id) s):ATh K Q (.exit id) s:=h
theorem Bb {K:AS->Prop} {Q:Exit->AS->Prop} {s:AS} (h:Q .ret s):ATh K Q .ret s:=h
theorem Bd {Q:Exit->AS->Prop} {s:AS} {id:Nat} (h:Q .normal s):ABl id Q .normal s:=h
theorem Cq {Q:Exit->AS->Prop} {s:AS} {id:Nat} (h:Q .ret s):ABl id Q .ret s:=h
theorem BK {Q:Exit->AS->Prop} {s:AS} {id:Nat} (h:Q .normal s):ABl id Q (.exit id) s:=by simp only [ABl,if_true];exact h
section
variable {P:Program} {V:Env P} {rd:Option Nat} {N:Nat} {W0:World} {X:Nat→Option Loc} {M0 M:Nat→Option Obj} {σ:Nat→Loc} {w:World} {a:Act} {Q:Exit→AS→Prop} {s:AS}
theorem Yn {S:AS} (hs:Sim N W0 X M0 M σ (get s.t) (get s.h) a w) (ht:∀ i v,get S.t i=some v->get s.t i=some v) (hh:∀ i v,get S.h i=some v->get s.h i=some v):Sim N W0 X M0 M σ (get S.t) (get S.h) a w :=
 ⟨hs.os,hs.tape,hs.output,hs.size,hs.old,hs.sub,hs.new,hs.pin,hs.defers,hs.room,fun i v h=>hs.tmps i v (ht i v h),hs.imm,fun n b h=>hs.blk n b (hh n b h),fun n b h=>hs.loc n b (hh n b h),fun n m b c h1 h2=>hs.inj n m b c (hh n b h1) (hh m c h2)⟩
theorem FA (hs:Sim N W0 X M0 M σ (get s.t) (get s.h) a w) (ts ns:List Nat):Sim N W0 X M0 M σ (get (Js ts ns s).t) (get (Js ts ns s).h) a w:=Yn hs (fun i v h=>Gh _ _ _ _ h) (fun i v h=>Gh _ _ _ _ h)
theorem AB {x y:Code} (h:AWp P rd N W0 X M0 x (ATh (AWp P rd N W0 X M0 y Q) Q) s):AWp P rd N W0 X M0 (.seq x y) Q s:=by
 intro M σ a w hs
 refine wpIn_seq (wpIn_mono (h M σ a w hs) ?_)
 rintro e a' w' ⟨s',M',σ',h1,h2⟩
 cases e with
 | normal=>exact h1 M' σ' a' w' h2
 | _=>exact ⟨s',M',σ',h1,h2⟩
theorem Ac (h:Q .normal s):AWp P rd N W0 X M0 .skip Q s:=fun M σ a w hs=>wpIn_skip ⟨s,M,σ,h,hs⟩
theorem Ae (h:Q .ret s):AWp P rd N W0 X M0 .ret Q s:=fun M σ a w hs=>wpIn_ret ⟨s,M,σ,h,hs⟩
theorem BJ {id:Nat} (h:Q (.exit id) s):AWp P rd N W0 X M0 (.exit id) Q s:=fun M σ a w hs=>wpIn_exit ⟨s,M,σ,h,hs⟩
theorem AX {id:Nat} {c:Code} (h:AWp P rd N W0 X M0 c (ABl id Q) s):AWp P rd N W0 X M0 (.block id c) Q s:=by
 intro M σ a w hs
 refine wpIn_block (wpIn_mono (h M σ a w hs) ?_)
 rintro e a' w' ⟨s',M',σ',h1,h2⟩
 cases e with
 | exit id' =>
  simp only [ABl] at h1
  simp only [Exit.inBlock]
  split
  ·rename_i he;rw [if_pos he] at h1;exact ⟨s',M',σ',h1,h2⟩
  rename_i he;rw [if_neg he] at h1;exact ⟨s',M',σ',h1,h2⟩
 | _=>exact ⟨s',M',σ',h1,h2⟩
theorem Aa {c:Operand} {x y:Code} (b:Bool) (hc:evT (get s.t) c=some (.av (.one (.val (.bool b))))) (h1:b=true->AWp P rd N W0 X M0 x Q s) (h2:b=false->AWp P rd N W0 X M0 y Q s):AWp P rd N W0 X M0 (.cond c x y) Q s:=by
 intro M σ a w hs
 have hv:a.eval c=.bool b:=(Fz hs.tmps hc).1
 exact wpIn_cond_split hv (fun hb=>h1 hb M σ a w hs) (fun hb=>h2 hb M σ a w hs)
theorem DX {c:Operand} {x y:Code} (hc:evT (get s.t) c=some (.av (.one (.val (.bool true))))) (h1:AWp P rd N W0 X M0 x Q s):AWp P rd N W0 X M0 (.cond c x y) Q s:=Aa true hc (fun _=>h1) (fun h=>by cases h)
theorem Di {c:Operand} {x y:Code} (hc:evT (get s.t) c=some (.av (.one (.val (.bool false))))) (h1:AWp P rd N W0 X M0 y Q s):AWp P rd N W0 X M0 (.cond c x y) Q s:=Aa false hc (fun h=>by cases h) (fun _=>h1)
theorem Ph (hV:KE P V) {ops:Array Oper} {Q':Exit->Act->World->Prop}:∀ (l:List Oper) (s s1:AS) (cs:List Prop),LZ P V N ops l s=some (cs,s1)->Bs cs->∀ M σ a w,Sim N W0 X M0 M σ (get s.t) (get s.h) a w->(∀ M' σ' a' w',Sim N W0 X M0 M' σ' (get s1.t) (get s1.h) a' w'->Q' .normal a' w')->wpListIn (FW rd) 0 P ops Q' l a w
 | [],s,s1,cs,hr,hc,M,σ,a,w,hs,hK=>by
  simp only [LZ,Option.some.injEq,Prod.mk.injEq] at hr
  obtain ⟨_,rfl⟩:=hr
  exact hK M σ a w hs
 | o::l,s,s1,cs,hr,hc,M,σ,a,w,hs,hK=>by
  simp only [LZ] at hr
  split at hr
  ·rename_i cs1 s2 h1
   split at hr
   ·rename_i ds s3 h2
    simp only [Option.some.injEq,Prod.mk.injEq] at hr
    obtain ⟨rfl,rfl⟩:=hr
    obtain ⟨hc1,hc2⟩:=hc.append
    refine wpListIn_step fun K hK' => ?_
    refine MX hV h1 hc1 hs (fun _ _=>rfl) (fun _ _=>rfl) (fun hn d hd=>MU h1 hn hd) fun M' σ' a' w' hs'=>hK' _ _ (Ph hV l s2 s3 ds h2 hc2 M' σ' a' w' ?_ hK)
    rw [(Dq h1).1,(Dq h1).2]
    exact hs'
   cases hr
  cases hr
theorem DW {E:TypeId->Option (List Kd)} (hE:IW P ⟨fun _=>none,E,fun _=>false,fun _=>none⟩) {id:Nat} {l:List Oper} (ow:List Nat) (qs:List (Nat×(Bool×Nat))) (tbl:List (Nat×FuncId×List Av×Ef)) (ts ns:List Nat) (cs:List Prop) (S:AS) (htbl:Gp P tbl) (hr:Ni P ⟨G5 tbl,E,BM ow,get qs⟩ N l ts ns s=some (cs,S)) (hc:Bs cs) (h:Q .normal S):AWp P rd N W0 X M0 (.region id l.toArray false) Q s:=by
 have hV:=htbl.env (O:=BM ow) (q:=get qs) hE
 intro M σ a w hs
 unfold Ni at hr
 split at hr
 ·rename_i cs1 s1 h1
  simp only [Option.some.injEq,Prod.mk.injEq] at hr
  obtain ⟨rfl,rfl⟩:=hr
  exact wpIn_region_lit (Ph hV l s s1 cs1 h1 hc M σ a w hs fun M' σ' a' w' hs'=>⟨_,M',σ',h,FA hs' ts ns⟩)
 cases hr
theorem Zq {ι:Type} {c:Code} (S:ι->AS) (Inv:ι->Prop) (μ:ι->Nat) (round:∀ x,Inv x->AWp P rd N W0 X M0 c (ATh (fun s'=>∃ y,Inv y/\μ y<μ x/\s'=S y) Q) (S x)) (x:ι) (hx:Inv x):AWp P rd N W0 X M0 (.loop c) Q (S x):=by
 have key:∀ n x,μ x<n->Inv x->∀ M σ a w,Sim N W0 X M0 M σ (get (S x).t) (get (S x).h) a w->Code.roundsIn (FW rd) 0 P c (fun e a' w'=>∃ s' M' σ',Q e s'/\Sim N W0 X M0 M' σ' (get s'.t) (get s'.h) a' w') n a w:=by
  intro n
  induction n with
  | zero=>intro x h;omega
  | succ n ih =>
   intro x hlt hx M σ a w hs
   rw [roundsIn_succ]
   refine wpIn_mono (round x hx M σ a w hs) ?_
   rintro e a' w' ⟨s',M',σ',h1,h2⟩
   cases e with
   | normal =>
    obtain ⟨y,hy,hm,rfl⟩:=h1
    exact ih y (by omega) hy M' σ' a' w' h2
   | _=>exact ⟨s',M',σ',h1,h2⟩
 intro M σ a w hs
 exact wpIn_loop_rounds (μ x+1) (key _ x (Nat.lt_succ_self _) hx M σ a w hs)
def Tv.dv:Tv->Bool
 | .av x=>x.dv
 | .tup l=>l.all Av.dv
 | .grd _ _=>false
def Yw (P:Program) (s:AS):ResultVar->Option Av
 | .tmp t=>match get s.t t with
  | some (.av x)=>some x
  | _=>none
 | .cell p T=>match get s.t p,ti P T with
  | some (.av (.one (.ptr n off))),some t=>match get s.h n with
   | some (.cells l _)=>Fu t l off
   | _=>none
  | _,_=>none
def Uw (P:Program) (s:AS):List ResultVar->Option (List Av)
 | []=>some []
 | r::rs=>match Yw P s r,Uw P s rs with
  | some x,some l=>some (x::l)
  | _,_=>none
def Sd (P:Program) (s:AS) (rs:List ResultVar):Option Tv:=match Uw P s rs with
 | some [x]=>some (.av x)
 | some l=>some (.tup l)
 | none=>none
theorem Yv (hs:Sim N W0 X M0 M σ (get s.t) (get s.h) a w) {F:ResultVar->Sem Value} (hF1:∀ t,F (.tmp t)=pure (a.tmps.getD t undef)) (hF2:∀ p T,F (.cell p T)=(do loadVar T (<- asAddr (a.tmps.getD p undef)))) {r:ResultVar} {x:Av} (h:Yw P s r=some x):∃ U,(F r).run P w=.ok U w/\RA M σ x U:=by
 cases r with
 | tmp t =>
  simp only [Yw] at h
  split at h
  ·rename_i y hy
   injection h with h;subst h
   exact ⟨_,by rw [hF1];rfl,hs.tmps t _ hy⟩
  cases h
 | cell p T =>
  simp only [Yw] at h
  split at h
  ·rename_i n off t h1 h2
   split at h
   ·rename_i l ty hb
    obtain ⟨hnil,c,hblk,hl⟩:=hs.blk n _ hb
    have hp:a.tmps.getD p undef=.pointer (some ⟨(σ n).b,off,none⟩):=hs.tmps p _ h1
    obtain ⟨U,hU,hR⟩:=FB (w:=w) h2 (b:=(σ n).b) (off:=0) hl off (fun j u _ _ hj=>by simp only [World.cell?,hblk];simpa using hj) h
    rw [Nat.zero_add] at hU
    refine ⟨U,?_,hR⟩
    rw [hF2]
    simp only [hp,asAddr,Sem.run_bind,Sem.run_pure,Result.andThen_ok,hU]
   cases h
  cases h
theorem Tq (hs:Sim N W0 X M0 M σ (get s.t) (get s.h) a w) {F:ResultVar->Sem Value} (hF1:∀ t,F (.tmp t)=pure (a.tmps.getD t undef)) (hF2:∀ p T,F (.cell p T)=(do loadVar T (<- asAddr (a.tmps.getD p undef)))):∀ {rs:List ResultVar} {l:List Av},Uw P s rs=some l->∃ vs:List Value,(rs.mapM F).run P w=.ok vs w/\L2 (RA M σ) l vs
 | [],l,h=>by simp only [Uw,Option.some.injEq] at h;subst h;exact ⟨[],by simp,.nil⟩
 | r::rs,l,h=>by
  simp only [Uw] at h
  split at h
  ·rename_i x l' h1 h2
   injection h with h;subst h
   obtain ⟨U,hU,hR⟩:=Yv hs hF1 hF2 h1
   obtain ⟨vs,hvs,hL⟩:=Tq hs hF1 hF2 h2
   refine ⟨U::vs,?_,.cons hR hL⟩
   rw [List.mapM_cons]
   simp only [Sem.run_bind,Sem.run_pure]
   rw [hU]
   simp only [Result.andThen_ok]
   rw [hvs]
   rfl
  cases h
theorem Tp (hs:Sim N W0 X M0 M σ (get s.t) (get s.h) a w) {fn:Func} {r:Tv} (h:Sd P s fn.results.toList=some r):∃ U,(results fn a.tmps).run P w=.ok U w/\RT M σ r U:=by
 unfold Sd at h
 have hm:∀ l,Uw P s fn.results.toList=some l->∃ vs:List Value,(results fn a.tmps).run P w=.ok (if h:vs.toArray.size=1 then vs.toArray[0] else .tuple vs.toArray) w/\L2 (RA M σ) l vs:=by
  intro l hl
  unfold results
  rw [Array.mapM_eq_mapM_toList]
  simp only [Sem.run_bind,Sem.run_map]
  have key:∀ F:ResultVar->Sem Value,(∀ t,F (.tmp t)=pure (a.tmps.getD t undef))->(∀ p T,F (.cell p T)=(do loadVar T (<- asAddr (a.tmps.getD p undef))))->∃ vs:List Value,(((fn.results.toList.mapM F).run P w).andThen fun a w'=>.ok a.toArray w').andThen (fun a w'=>(pure (if h:a.size=1 then a[0] else Value.tuple a):Sem Value).run P w')=.ok (if h:vs.toArray.size=1 then vs.toArray[0] else .tuple vs.toArray) w/\L2 (RA M σ) l vs:=fun F hF1 hF2=>by
   obtain ⟨vs,h1,h2⟩:=Tq hs hF1 hF2 hl
   refine ⟨vs,?_,h2⟩
   rw [h1]
   rfl
  exact key _ (fun _=>rfl) (fun _ _=>rfl)
 split at h
 ·rename_i x hx
  injection h with h;subst h
  obtain ⟨vs,h1,h2⟩:=hm _ hx
  cases h2 with | cons h3 h4 =>
  cases h4
  exact ⟨_,h1,h3⟩
 ·rename_i l hne hl
  injection h with h;subst h
  obtain ⟨vs,h1,h2⟩:=hm _ hl
  have:¬ vs.toArray.size=1:=by
   have:=h2.length
   intro e
   simp at e
   match l,this with
   | [x],_=>exact hne x rfl
   | [],h=>simp at h;omega
   | _::_::_,h=>simp at h;omega
  rw [dif_neg this] at h1
  exact ⟨_,h1,vs,rfl,h2⟩
 cases h
def RetQ (P:Program) (fn:Func) (φ:Tv->AS->Prop):Exit->AS->Prop:=fun e s=>(e=.ret\/e=.normal)/\∃ r,Sd P s fn.results.toList=some r/\φ r s
def EN:Nat->List Av->List (Nat×Tv)
 | _,[]=>[]
 | k,x::r=>(k,.av x)::EN (k+1) r
theorem JC:∀ (l:List Av) (k i:Nat) (v:Tv),get (EN k l) i=some v->k<=i/\∃ x,l[i-k]? = some x/\v=.av x
 | [],k,i,v,h=>by cases h
 | y::r,k,i,v,h=>by
  simp only [EN,get,Ce] at h
  by_cases hk:k=i
  ·subst hk;simp at h;subst h;exact ⟨Nat.le_refl _,y,by simp,rfl⟩
  simp [hk] at h
  obtain ⟨h1,x,h2,h3⟩:=JC r (k+1) i v h
  refine ⟨by omega,x,?_,h3⟩
  rw [show i-k=(i-(k+1))+1 by omega,List.getElem?_cons_succ]
  exact h2
theorem Wa {T:Nat->Option Tv} {H:Nat->Option Blk} {tm:Array Value} {d:Deferred} {ds:List Deferred} (hs:Sim N W0 X M0 M σ T H { tmps:=tm,defers:=d::ds } w) :
  ∃ D w' M',d.target=.collected D/\(Instr.takeDeferred D).run P w=.ok [] w'/\Sim N W0 X M0 M' σ T H { tmps:=tm,defers:=ds } w':=by
 obtain ⟨⟨⟨D,rfl,hD,h0,hne⟩,hds⟩,hfl⟩:=hs.defers
 have hw:=hs.imm D _ hD
 have hlt:D<w.heap.size:=(Array.getElem?_eq_some_iff.1 hw).1
 have hother:∀ b,b≠D->(w.putObj D (.deferred none)).heap[b]? = w.heap[b]? := fun b hb=>World.putObj_heap_other (fun e=>hb e)
 obtain ⟨M',hM⟩:∃ M':Nat->Option Obj,M'=fun b=>if b=D then none else M b:=⟨_,rfl⟩
 have hM1:∀ b,b≠D->M' b=M b:=fun b hb=>by subst hM;simp [hb]
 have hMD:M' D=none:=by subst hM;simp
 have hcell:∀ b o v,D4 M b o=some v->D4 M' b o=some v:=fun b o v hc=>by
  by_cases hb:b=D
  ·subst hb;simp [D4,hD] at hc
  unfold D4 at *;rw [hM1 b hb];exact hc
 have hRC:∀ {c:Cl} {V:Value},RC M c V->RC M' c V:=fun h=>by
  induction h with
  | val v h=>exact .val v h
  | nil t sz f h0=>exact .nil t sz f h0
  | mt t sz f a cap h5=>exact .mt t sz f a cap h5
  | clo f k caps cs h1 _ ih=>exact .clo f k caps cs h1 ih
  | list t sz len f b off cap g h1 _ h4 h5 ih=>exact .list t sz len f b off cap g (fun i j hi hj=>hcell _ _ _ (h1 i j hi hj)) ih h4 h5
  | eptr sz len f i off b base g h1 _ ih=>exact .eptr sz len f i off b base g (fun j hj=>hcell _ _ _ (h1 j hj)) ih
  | mp agg nv len kf vf b es clock g k0 h1 h2 _ ih=>exact .mp agg nv len kf vf b es clock g (by rw [hM1 b (fun e=>by subst e;rw [hD] at k0;cases k0)];exact k0) h1 h2 ih
  | any V h=>exact .any V h
 have hR:∀ {c:Cl} {V:Value},R M σ c V->R M' σ c V:=by
  intro c
  induction c with
  | list=>intro V h;exact hRC h
  | eptr=>intro V h;exact hRC h
  | mp=>intro V h;exact hRC h
  | clo f k caps ih =>
   intro V h
   obtain ⟨cs,h1,h2,h3⟩:=h
   exact ⟨cs,h1,h2,fun i hi=>ih i (h3 i hi)⟩
  | val v=>intro V h;exact h
  | ptr=>intro V h;exact h
  | own=>intro V h;exact h
  | rptr=>intro V h;exact h
  | om=>intro V h;exact h
  | any=>intro V h;exact h
 have hRA:∀ {x:Av} {V:Value},RA M σ x V->RA M' σ x V:=fun {x V} h=>by
  cases x with
  | one c=>exact hR h
  | agg l=>obtain ⟨vs,h1,h2⟩:=h;exact ⟨vs,h1,h2.mono fun _ _ _ h=>hR h⟩
 have hRT:∀ {x:Tv} {V:Value},RT M σ x V->RT M' σ x V:=fun {x V} h=>by
  cases x with
  | av x=>exact hRA h
  | tup l=>obtain ⟨vs,h1,h2⟩:=h;exact ⟨vs,h1,h2.mono fun _ _ _ h=>hRA h⟩
  | grd g x=>exact ⟨fun hg=>hRA (h.1 hg),h.2⟩
 have hblkne:∀ n b,H n=some b->(σ n).nil=false->(σ n).b≠D:=fun n b hb hn e=>by
  rcases hs.loc n b hb with h | ⟨h1,_⟩
  ·rw [hn] at h;cases h
  rw [e,hD] at h1;cases h1
 refine ⟨D,_,M',rfl,run_takeDeferred hw,⟨hs.os,hs.tape,hs.output,by simpa using hs.size,fun b hb hx => ?_,fun b o h => ?_,fun b o h h' => ?_,hs.pin,?_,hs.room,fun i v h=>hRT (hs.tmps i v h),fun b o h => ?_,fun n b h => ?_,fun n b h => ?_,hs.inj⟩⟩
 ·have:b≠D:=fun e=>by subst e;have:=hs.new _ _ hD h0;omega
  rw [hother b this];exact hs.old b hb hx
 ·have:b≠D:=fun e=>by subst e;rw [h0] at h;cases h
  rw [hM1 b this];exact hs.sub b o h
 ·by_cases e:b=D
  ·subst e;rw [hMD] at h;cases h
  rw [hM1 b e] at h;exact hs.new b o h h'
 ·have:∀ l:List Deferred,(∀ d'∈l,d'≠{ target:=.collected D,args := #[] })->F7 M0 M l->F7 M0 M' l:=by
   intro l
   induction l with
   | nil=>intro _ _;trivial
   | cons d l ih =>
    rintro hl ⟨⟨D',h1,h2,h3,h4⟩,h5⟩
    refine ⟨⟨D',h1,?_,h3,h4⟩,ih (fun d' hd=>hl d' (by simp [hd])) h5⟩
    have:D'≠D:=fun e=>by subst e;exact hl d (by simp) h1
    rw [hM1 _ this];exact h2
  exact ⟨this ds hne hds,fun hf=>by cases hfl hf⟩
 ·by_cases e:b=D
  ·subst e;rw [hMD] at h;cases h
  rw [hM1 b e] at h;rw [hother b e];exact hs.imm b o h
 ·have h1:=hs.blk n b h
  cases b with
  | cells l ty =>
   obtain ⟨g0,c,g1,g2⟩:=h1
   exact ⟨g0,c,(hother _ (hblkne n _ h g0)).trans g1,g2.mono fun _ _ _ h=>hR h⟩
  | row sz len f ty =>
   rcases h1 with h1 | ⟨g0,c,g1,g2,g3,g4,g,g5⟩
   ·exact .inl h1
   exact .inr ⟨g0,c,(hother _ (hblkne n _ h g0)).trans g1,g2,g3,g4,g,fun i j hi hj=>⟨(g5 i j hi hj).1,hRC (g5 i j hi hj).2⟩⟩
  | omap agg nv len kf vf =>
   obtain ⟨g0,es,ck,g,g1,g2,g3,g4⟩:=h1
   exact ⟨g0,es,ck,g,(hother _ (hblkne n _ h g0)).trans g1,g2,g3,fun i j hi hj=>hRC (g4 i j hi hj)⟩
  | rowx sz len f ty hh =>
   obtain ⟨g0,c,g1,g2,g3,g4,g,g5,g6⟩:=h1
   exact ⟨g0,c,(hother _ (hblkne n _ h g0)).trans g1,g2,g3,g4,g,fun i j hi hj=>⟨(g5 i j hi hj).1,fun hn=>hRC ((g5 i j hi hj).2 hn)⟩,fun i l hl=>⟨(g6 i l hl).1,(g6 i l hl).2.mono fun _ _ _ h=>hR h⟩⟩
 rcases hs.loc n b h with h1 | ⟨h1,h2⟩
 ·exact .inl h1
 by_cases hn:(σ n).nil=true
 ·exact .inl hn
 refine .inr ⟨?_,h2⟩
 rw [hM1 _ (hblkne n b h (by simpa using hn))];exact h1
theorem Jr {fn:Func} {R:Ending->World->Prop} {T:Nat->Option Tv} {H:Nat->Option Blk} {tm:Array Value}:∀ (ds:List Deferred) {M:Nat->Option Obj} {w:World},Sim N W0 X M0 M σ T H { tmps:=tm,defers:=ds } w ->
  (∀ M'' w'',Sim N W0 X M0 M'' σ T H { tmps:=tm,defers:=[] } w''->∃ U,(results fn tm).run P w''=.ok U w''/\R (.returned U) w'')->LeavesInM (FW none) 0 P fn tm R ds .returning w
 | [],M,w,hs,hR=>hR M w hs
 | d::ds,M,w,hs,hR=>by
  obtain ⟨D,w',M',h1,h2,h3⟩:=Wa (P:=P) hs
  exact ⟨by simp,.inl ⟨D,w',h1,h2,Jr ds h3 hR⟩⟩
theorem EU {f:FuncId} {fn:Func} {c:Code} (hf:P.funcs[f]? = some fn) (hb:fn.body=some c) {xs:List Av} {h0:List (Nat×Blk)} {args:List Value} {φ:Tv->AS->Prop} (hN:xs.length<=fn.ntmps)
  (himm:∀ b o,M b=some o->w.heap[b]? = some o) (hargs:L2 (RA M σ) xs args) (hblk:∀ n b,get h0 n=some b->Bv M σ w (σ n) b) (hloc:∀ n b,get h0 n=some b->(σ n).nil=true\/(M (σ n).b=none/\inX X (σ n).b)) (hpin:∀ n x,X n=some x->fn.ntmps<=n/\σ n=x) (hinj:∀ n m b c,get h0 n=some b->get h0 m=some c->n≠m->(σ n).nil=true\/(σ m).nil=true\/(σ n).b≠(σ m).b)
  (h:AWp P none fn.ntmps w X M c (RetQ P fn φ) ⟨EN 0 xs,h0⟩) {R':Ending->World->Prop} (hR:∀ r s' M' σ' a' w' U,φ r s'->Sim fn.ntmps w X M M' σ' (get s'.t) (get s'.h) a' w'->RT M' σ' r U->R' (.returned U) w'):Calls P f args.toArray w R':=by
 have hlen:=hargs.length
 refine callsIn_wide.1 (callsIn_of_wp_marks (F:=FW none) (n:=0) hf hb trivial (wpIn_mono (h M σ _ w ⟨rfl,rfl,rfl,Nat.le_refl _,fun _ _ _=>rfl,fun _ _ h=>h,fun _ _ h h'=>by (rw [h] at h';cases h'),hpin,H4.nil,by simp;omega,fun i v hv => ?_,himm,hblk,fun n b hb=>(hloc n b hb).imp id fun ⟨h1,h2⟩=>⟨h1,.inr h2⟩,hinj⟩) ?_))
 ·obtain ⟨_,x,hx,rfl⟩:=JC _ _ _ _ hv
  rw [Nat.sub_zero] at hx
  obtain ⟨u,hu,hRu⟩:=hargs.get i x hx
  have:(args.toArray++Array.replicate (fn.ntmps-args.toArray.size) undef).getD i undef=u:=by
   have hi:i<args.length:=(List.getElem?_eq_some_iff.1 hu).1
   rw [Array.getD_eq_getD_getElem?,Array.getElem?_append_left (by simpa using hi)]
   simp [hu]
  show RA M σ x _
  rw [this]
  exact hRu
 rintro e a' w' ⟨s',M',σ',⟨he,r,hr,hφ⟩,hs'⟩
 have key:=Jr (fn:=fn) (R:=R') a'.defers hs' fun M'' w'' hs''=>by
  obtain ⟨U,hU,hRU⟩:=Tp hs'' hr
  exact ⟨U,hU,hR r s' M'' σ' _ w'' U hφ hs'' hRU⟩
 rcases he with rfl | rfl
 ·exact key
 exact key
def FG (P:Program) (f:FuncId) (xs:List Av) (r:Tv):Prop:=∀ (M:Nat->Option Obj) (σ:Nat->Loc) (w:World) (args:List Value),(∀ b o,M b=some o->w.heap[b]? = some o)->L2 (RA M σ) xs args ->
 Calls P f args.toArray w fun en w'=>∃ U,en=.returned U/\∃ M',F8 w w' M M' Mx/\∀ σ',RT M' σ' r U
theorem GR {M:Nat->Option Obj} {σ σ':Nat->Loc} {r:Tv} {U:Value} (hd:r.dv=true) (h:RT M σ r U):RT M σ' r U:=by
 have cl:∀ {c:Cl} {U:Value},c.dv=true->R M σ c U->R M σ' c U:=fun hd h=>(HS hd).2 ((HS hd).1 h)
 have av:∀ {x:Av} {U:Value},x.dv=true->RA M σ x U->RA M σ' x U:=fun {x U} hd h=>by
  cases x with
  | one c=>exact cl hd h
  | agg l=>obtain ⟨vs,h1,h2⟩:=h;exact ⟨vs,h1,h2.mono fun c hc b hb=>cl ((List.all_eq_true.1 hd) c hc) hb⟩
 cases r with
 | av x=>exact av hd h
 | tup l=>obtain ⟨vs,h1,h2⟩:=h;exact ⟨vs,h1,h2.mono fun c hc b hb=>av ((List.all_eq_true.1 hd) c hc) hb⟩
 | grd g x=>cases hd
theorem Rw {f:FuncId} {xs:List Av} {cs:List Prop} {r:Tv} (h1:∀ args w,(callFunc f args).run P w=.ok (.enter f args) w) (h:Bs cs->FG P f xs r):EB P f xs (.val cs r):=by
 refine .inl ⟨h1,fun M σ w h' args cs' g hs hargs hr hc => ?_⟩
 obtain ⟨rfl,rfl⟩:=BU hr
 refine (h hc M σ w args hs.imm hargs).mono ?_
 rintro en w' ⟨U,hU,M',hk,hR⟩
 exact ⟨U,hU,fun dst _=>⟨M',σ,hk,rfl,hR σ⟩⟩
end
end
section
open Go.RowKit
structure Rec where
 rd:List Nat
 dst:Option Nat
 hr:List Nat
 hw:List Nat
 new:Bool
 out:Nat->Bool
def GZ (P:Program) (V:Env P) (ops:Array Oper) (o:Oper) (s s1:AS):Rec :=
 ⟨o.looksAt ops,o.dst,Hp P V ops o s,DT P V o s,Gf P V o s,fun d=>(match o.dst with | some x=>(match get s1.t x with | some v=>v.no d | none=>true) | none=>true)&&(DT P V o s).all fun n=>match get s1.h n with | some b=>b.no d && !Nat.beq n d | none=>true⟩
def Wj (P:Program) (V:Env P) (N:Nat) (ops:Array Oper):List Oper->AS->Option (List Rec)
 | [],_=>some []
 | o::l,s=>match Hk P V N ops o s with
  | some (_,s1)=>(Wj P V N ops l s1).map (GZ P V ops o s s1::·)
  | none=>none
def Uh (acc:List Nat) (o:Oper):Nat:=o.after.toList.foldl (fun m e=>bif Region.binds .any e then m ||| (1 <<< e.on) ||| acc.getD e.on 0 else m) 0
def DP:List Oper->List Nat->List Nat
 | [],acc=>acc
 | o::l,acc=>DP l (acc++[Uh acc o])
def Nn (l:List Nat) (n:Nat):Bool:=l.any (Nat.beq n)
def TP (a b:Rec):Bool :=
 (match a.dst with | some d=>Nn b.rd d||(match b.dst with | some e=>Nat.beq e d | none=>false) | none=>false) ||
 (match b.dst with | some d=>Nn a.rd d | none=>false)||(a.hw.any fun n=>Nn b.hr n||Nn b.hw n)||(b.hw.any fun n=>Nn a.hr n)
def aZ (A:List Nat) (R:List Rec):Bool :=
 R.zipIdx.all fun (b,j)=>R.zipIdx.all fun (a,i) =>
  (Nat.ble j i || !TP a b||(A.getD j 0).testBit i) &&
  (Nat.beq i j || !a.new||(A.getD j 0).testBit i||(match a.dst with | some d=>b.out d | none=>true))
def Rz (l:List Oper):Bool:=l.zipIdx.all fun (o,j)=>o.after.toList.all fun e => !Region.binds .any e||Nat.ble (e.on+1) j
def UW (P:Program) (V:Env P) (N:Nat) (l:List Oper) (s:AS):Bool:=match Wj P V N l.toArray l s with
 | some R=>Rz l&&aZ (DP l []) R&&R.all fun r => !r.new||(match r.dst with | some d=>NF s d | none=>true)
 | none=>false
theorem Jq:∀ (l:List Oper) (acc:List Nat),(DP l acc).length=acc.length+l.length
 | [],acc=>rfl
 | o::l,acc=>by simp [DP,Jq l];omega
theorem Kc:∀ (l:List Oper) (acc:List Nat) (i:Nat),i<acc.length->(DP l acc)[i]? = acc[i]?
 | [],acc,i,_=>rfl
 | o::l,acc,i,h=>by
  simp only [DP]
  rw [Kc l _ i (by simp;omega),List.getElem?_append_left h]
theorem OE:∀ (l:List Oper) (acc:List Nat) (j:Nat) (o:Oper),l[j]? = some o->(DP l acc)[acc.length+j]? = some (Uh ((DP l acc).take (acc.length+j)) o)
 | [],acc,j,o,h=>by simp at h
 | o'::l,acc,0,o,h=>by
  simp at h;subst h
  simp only [DP,Nat.add_zero]
  rw [Kc l _ _ (by simp)]
  have:(DP l (acc++[Uh acc o'])).take acc.length=acc:=by
   apply List.ext_getElem?
   intro i
   rw [List.getElem?_take]
   split
   ·rename_i hi;rw [Kc l _ i (by simp;omega),List.getElem?_append_left hi]
   rename_i hi;rw [List.getElem?_eq_none (by omega)]
  rw [this]
  simp
 | o'::l,acc,j+1,o,h=>by
  simp only [DP]
  have:=OE l (acc++[Uh acc o']) j o (by simpa using h)
  simp only [List.length_append,List.length_singleton] at this
  rw [show acc.length+(j+1)=acc.length+1+j by omega]
  exact this
theorem Rq (acc:List Nat) (i:Nat):∀ (es:List Edge) (m:Nat),(es.foldl (fun m e=>bif Region.binds .any e then m ||| (1 <<< e.on) ||| acc.getD e.on 0 else m) m).testBit i=true->m.testBit i=true\/∃ e∈es,Region.binds .any e=true/\(i=e.on\/(acc.getD e.on 0).testBit i=true)
 | [],m,h=>.inl h
 | e::es,m,h=>by
  simp only [List.foldl_cons] at h
  rcases Rq acc i es _ h with h | ⟨e',he,hb⟩
  ·cases hb:Region.binds .any e with
   | false=>rw [hb] at h;exact .inl h
   | true =>
    rw [hb] at h
    simp only [cond_true,Nat.testBit_or,Bool.or_eq_true] at h
    rcases h with (h | h) | h
    ·exact .inl h
    ·refine .inr ⟨e,by simp,hb,.inl ?_⟩
     rw [Nat.testBit_shiftLeft] at h
     simp only [Bool.and_eq_true,decide_eq_true_eq] at h
     have:(1:Nat).testBit (i-e.on)=true:=h.2
     have h1:i-e.on=0:=by
      rcases Nat.eq_zero_or_pos (i-e.on) with h0 | h0
      ·exact h0
      rw [Nat.testBit_one_eq_true_iff_self_eq_zero] at this;exact this
     omega
    exact .inr ⟨e,by simp,hb,.inr h⟩
  exact .inr ⟨e',by simp [he],hb⟩
theorem Hl {l:List Nat} {n:Nat}:Nn l n=true↔n∈l:=by
 simp only [Nn,List.any_eq_true,Ce,decide_eq_true_eq]
 exact ⟨fun ⟨x,hx,he⟩=>he▸hx,fun h=>⟨n,h,rfl⟩⟩
section
variable {P:Program} {V:Env P} {rd:Option Nat} {N:Nat} {W0:World} {X:Nat→Option Loc} {M0:Nat→Option Obj} {l:List Oper} {s0:AS}
def Qj (l:List Oper) (L:Array Bool):Prop:=∀ j o,l[j]? = some o->L.getD j false=true->∀ e∈o.after,Region.binds .any e=true->L.getD e.on false=true
theorem JH (hb:Rz l=true) {L:Array Bool} (hL:Qj l L):∀ (n j:Nat),j<n->∀ o,l[j]? = some o->(∀ e∈o.after,Region.binds .any e=true->L.getD e.on false=true)->∀ i,((DP l []).getD j 0).testBit i=true->L.getD i false=true/\i<j
 | n+1,j,hj,o,ho,hd,i,hi=>by
  have hm:=OE l [] j o ho
  simp only [List.length_nil,Nat.zero_add] at hm
  rw [List.getD_eq_getElem?_getD,hm,Option.getD_some] at hi
  have hlt:∀ e∈o.after,Region.binds .any e=true->e.on<j:=fun e he hbe=>by
   have h1:=(List.all_eq_true.1 hb) (o,j) (List.mem_zipIdx_iff_getElem?.2 (by simpa using ho))
   have h2:=(List.all_eq_true.1 h1) e (by simpa using he)
   simp only [hbe,Bool.not_true,Bool.false_or] at h2
   exact Nat.le_of_ble_eq_true h2
  rcases Rq _ i _ 0 hi with h | ⟨e,he,hbe,h⟩
  ·simp at h
  have he':e∈o.after:=by simpa using he
  have hon:=hd e he' hbe
  have helt:=hlt e he' hbe
  rcases h with rfl | h
  ·exact ⟨hon,helt⟩
  have hget:((DP l []).take j).getD e.on 0=(DP l []).getD e.on 0:=by
   rw [List.getD_eq_getElem?_getD,List.getD_eq_getElem?_getD,List.getElem?_take_of_lt helt]
  rw [hget] at h
  cases hoo:l[e.on]? with
  | none =>
   have:(DP l []).getD e.on 0=0:=by
    rw [List.getD_eq_getElem?_getD,List.getElem?_eq_none (by rw [Jq];simp;exact List.getElem?_eq_none_iff.1 hoo)];rfl
   rw [this] at h;simp at h
  | some o2 =>
   have:=JH hb hL n e.on (by omega) o2 hoo (hL e.on o2 hoo hon) i h
   exact ⟨this.1,by omega⟩
def stN (P:Program) (V:Env P) (N:Nat) (l:List Oper) (s0:AS):Nat->AS
 | 0=>s0
 | k+1=>match l[k]? with
  | some o=>(match Hk P V N l.toArray o (stN P V N l s0 k) with
   | some (_,s1)=>s1
   | none=>stN P V N l s0 k)
  | none=>stN P V N l s0 k
theorem MY:∀ (r:List Oper) (k:Nat) (s s1:AS) (cs:List Prop),(∀ j,r[j]? = l[k+j]?)->s=stN P V N l s0 k->LZ P V N l.toArray r s=some (cs,s1)->Bs cs ->
  s1=stN P V N l s0 (k+r.length)/\∀ j o,r[j]? = some o->∃ ds,Hk P V N l.toArray o (stN P V N l s0 (k+j))=some (ds,stN P V N l s0 (k+j+1))/\Bs ds
 | [],k,s,s1,cs,_,hs,hr,_=>by
  simp only [LZ,Option.some.injEq,Prod.mk.injEq] at hr
  exact ⟨by rw [<- hr.2];exact hs,fun j o h=>by simp at h⟩
 | o::r,k,s,s1,cs,hl,hs,hr,hc=>by
  simp only [LZ] at hr
  split at hr
  ·rename_i cs1 s2 h1
   split at hr
   ·rename_i ds s3 h2
    simp only [Option.some.injEq,Prod.mk.injEq] at hr
    obtain ⟨rfl,rfl⟩:=hr
    obtain ⟨hc1,hc2⟩:=hc.append
    have h0:l[k]? = some o:=by simpa using (hl 0).symm
    have hst:stN P V N l s0 (k+1)=s2:=by
     simp only [stN,h0]
     rw [<- hs,h1]
    obtain ⟨h3,h4⟩:=MY r (k+1) s2 s3 ds (fun j=>by have:=hl (j+1);simpa [Nat.add_assoc,Nat.add_comm 1 j] using this) hst.symm h2 hc2
    refine ⟨by rw [h3];congr 1;simp;omega,fun j o' hj => ?_⟩
    cases j with
    | zero =>
     simp at hj;subst hj
     exact ⟨cs1,by rw [Nat.add_zero,<- hs,hst];exact h1,hc1⟩
    | succ j =>
     have:=h4 j o' (by simpa using hj)
     rwa [show k+1+j=k+(j+1) by omega] at this
   cases hr
  cases hr
theorem Q4:∀ (r:List Oper) (k:Nat) (R:List Rec),(∀ j,r[j]? = l[k+j]?)->Wj P V N l.toArray r (stN P V N l s0 k)=some R->R.length=r.length/\∀ j o,r[j]? = some o->R[j]? = some (GZ P V l.toArray o (stN P V N l s0 (k+j)) (stN P V N l s0 (k+j+1)))
 | [],k,R,_,h=>by simp only [Wj,Option.some.injEq] at h;subst h;exact ⟨rfl,fun j o h=>by simp at h⟩
 | o::r,k,R,hl,h=>by
  simp only [Wj] at h
  split at h
  ·rename_i cs s1 h1
   obtain ⟨R',hR',rfl⟩:=Option.map_eq_some_iff.1 h
   have h0:l[k]? = some o:=by simpa using (hl 0).symm
   have hst:stN P V N l s0 (k+1)=s1:=by simp only [stN,h0,h1]
   rw [<- hst] at hR'
   obtain ⟨h2,h3⟩:=Q4 r (k+1) R' (fun j=>by have:=hl (j+1);simpa [Nat.add_assoc,Nat.add_comm 1 j] using this) hR'
   refine ⟨by simp [h2],fun j o' hj => ?_⟩
   cases j with
   | zero=>simp at hj;subst hj;simp [hst]
   | succ j =>
    have:=h3 j o' (by simpa using hj)
    rw [show k+1+j=k+(j+1) by omega] at this
    simpa using this
  cases h
end
end
section
open Go.RowKit
section
variable {P:Program} {V:Env P} {rd:Option Nat} {N:Nat} {W0:World} {X:Nat→Option Loc} {M0:Nat→Option Obj} {l:List Oper} {s0:AS}
def AgT (l:List Oper) (L:Array Bool) (x k:Nat):Prop:=∀ j o,l[j]? = some o->o.dst=some x->(L.getD j false=true↔j<k)
def AgH (P:Program) (V:Env P) (N:Nat) (l:List Oper) (s0:AS) (L:Array Bool) (m k:Nat):Prop:=∀ j o,l[j]? = some o->m∈DT P V o (stN P V N l s0 j)->(L.getD j false=true↔j<k)
def Hy (P:Program) (V:Env P) (N:Nat) (l:List Oper) (s0:AS):Prop:=∀ (j:Nat) o,l[j]? = some o->∃ ds,Hk P V N l.toArray o (stN P V N l s0 j)=some (ds,stN P V N l s0 (j+1))/\Bs ds
theorem SU (h:Hy P V N l s0) {x:Nat}:∀ (d i k:Nat),k=i+d->k<=l.length->(∀ (j:Nat) o,i<=j->j<k->l[j]? = some o->o.dst≠some x)->get (stN P V N l s0 k).t x=get (stN P V N l s0 i).t x
 | 0,i,k,hk,_,_=>by subst hk;rfl
 | d+1,i,k,hk,hkl,hno=>by
  subst hk
  have hlt:i+d<l.length:=by omega
  obtain ⟨ds,hst,_⟩:=h (i+d) _ (List.getElem?_eq_getElem hlt)
  have hf:=congrFun (Dq hst).1 x
  rw [show i+(d+1)=i+d+1 by omega,hf,if_neg (hno (i+d) _ (by omega) (by omega) (List.getElem?_eq_getElem hlt))]
  exact SU h d i (i+d) rfl (by omega) fun j o h1 h2 h3=>hno j o h1 (by omega) h3
theorem SV (h:Hy P V N l s0) {m:Nat}:∀ (d i k:Nat),k=i+d->k<=l.length->(∀ (j:Nat) o,i<=j->j<k->l[j]? = some o->m ∉ DT P V o (stN P V N l s0 j))->get (stN P V N l s0 k).h m=get (stN P V N l s0 i).h m
 | 0,i,k,hk,_,_=>by subst hk;rfl
 | d+1,i,k,hk,hkl,hno=>by
  subst hk
  have hlt:i+d<l.length:=by omega
  obtain ⟨ds,hst,_⟩:=h (i+d) _ (List.getElem?_eq_getElem hlt)
  have hf:=congrFun (Dq hst).2 m
  rw [show i+(d+1)=i+d+1 by omega,hf,if_neg (hno (i+d) _ (by omega) (by omega) (List.getElem?_eq_getElem hlt))]
  exact SV h d i (i+d) rfl (by omega) fun j o h1 h2 h3=>hno j o h1 (by omega) h3
theorem Wd (h:Hy P V N l s0) {L:Array Bool} {x k i:Nat} (hk:k<=l.length) (hi:i<=l.length) (h1:AgT l L x k) (h2:AgT l L x i):get (stN P V N l s0 k).t x=get (stN P V N l s0 i).t x:=by
 rcases Nat.le_total k i with hle | hle
 ·exact (SU h (i-k) k i (by omega) hi fun j o a b c d=>by have:=(h1 j o c d).symm.trans (h2 j o c d);omega).symm
 exact SU h (k-i) i k (by omega) hk fun j o a b c d=>by have:=(h1 j o c d).symm.trans (h2 j o c d);omega
theorem We (h:Hy P V N l s0) {L:Array Bool} {m k i:Nat} (hk:k<=l.length) (hi:i<=l.length) (h1:AgH P V N l s0 L m k) (h2:AgH P V N l s0 L m i):get (stN P V N l s0 k).h m=get (stN P V N l s0 i).h m:=by
 rcases Nat.le_total k i with hle | hle
 ·exact (SV h (i-k) k i (by omega) hi fun j o a b c d=>by have:=(h1 j o c d).symm.trans (h2 j o c d);omega).symm
 exact SV h (k-i) i k (by omega) hk fun j o a b c d=>by have:=(h1 j o c d).symm.trans (h2 j o c d);omega
theorem Xu (h:Hy P V N l s0) {x:Nat} {v:Tv}:∀ k,k<=l.length->get (stN P V N l s0 k).t x=some v->get s0.t x=some v\/∃ (j:Nat) (o:Oper),j<k/\l[j]? = some o/\o.dst=some x/\get (stN P V N l s0 (j+1)).t x=some v
 | 0,_,hv=>.inl hv
 | k+1,hk,hv=>by
  have hlt:k<l.length:=by omega
  obtain ⟨ds,hst,_⟩:=h k _ (List.getElem?_eq_getElem hlt)
  have hf:=congrFun (Dq hst).1 x
  by_cases hd:l[k].dst=some x
  ·exact .inr ⟨k,_,by omega,List.getElem?_eq_getElem hlt,hd,hv⟩
  rw [hf,if_neg hd] at hv
  rcases Xu h k (by omega) hv with h' | ⟨j,o,h1,h2⟩
  ·exact .inl h'
  exact .inr ⟨j,o,by omega,h2⟩
theorem Xv (h:Hy P V N l s0) {m:Nat} {b:Blk}:∀ k,k<=l.length->get (stN P V N l s0 k).h m=some b->get s0.h m=some b\/∃ (j:Nat) (o:Oper),j<k/\l[j]? = some o/\m∈DT P V o (stN P V N l s0 j)/\get (stN P V N l s0 (j+1)).h m=some b
 | 0,_,hv=>.inl hv
 | k+1,hk,hv=>by
  have hlt:k<l.length:=by omega
  obtain ⟨ds,hst,_⟩:=h k _ (List.getElem?_eq_getElem hlt)
  have hf:=congrFun (Dq hst).2 m
  by_cases hd:m∈DT P V l[k] (stN P V N l s0 k)
  ·exact .inr ⟨k,_,by omega,List.getElem?_eq_getElem hlt,hd,hv⟩
  rw [hf,if_neg hd] at hv
  rcases Xv h k (by omega) hv with h' | ⟨j,o,h1,h2⟩
  ·exact .inl h'
  exact .inr ⟨j,o,by omega,h2⟩
structure Qd (P:Program) (V:Env P) (N:Nat) (l:List Oper) (s0:AS) (A:Nat->Nat->Prop):Prop where
 tt:∀ (i j:Nat) oi oj,l[i]? = some oi->l[j]? = some oj->i<j->∀ d,oi.dst=some d->d∈oj.looksAt l.toArray\/oj.dst=some d->A j i
 tr:∀ (i j:Nat) oi oj,l[i]? = some oi->l[j]? = some oj->i<j->∀ d,oj.dst=some d->d∈oi.looksAt l.toArray->A j i
 hh:∀ (i j:Nat) oi oj,l[i]? = some oi->l[j]? = some oj->i<j->∀ n,n∈DT P V oi (stN P V N l s0 i)->n∈Hp P V l.toArray oj (stN P V N l s0 j)\/n∈DT P V oj (stN P V N l s0 j)->A j i
 hr:∀ (i j:Nat) oi oj,l[i]? = some oi->l[j]? = some oj->i<j->∀ n,n∈DT P V oj (stN P V N l s0 j)->n∈Hp P V l.toArray oi (stN P V N l s0 i)->A j i
 new0:∀ (i:Nat) oi,l[i]? = some oi->Gf P V oi (stN P V N l s0 i)=true->∀ d,oi.dst=some d->Nc (get s0.t) (get s0.h) d
 newT:∀ (i j:Nat) oi oj,l[i]? = some oi->l[j]? = some oj->i≠j->Gf P V oi (stN P V N l s0 i)=true->∀ d,oi.dst=some d->A j i\/((∀ x v,oj.dst=some x->get (stN P V N l s0 (j+1)).t x=some v->v.no d=true)/\∀ n b,n∈DT P V oj (stN P V N l s0 j)->get (stN P V N l s0 (j+1)).h n=some b->n≠d/\b.no d=true)
theorem Sq (hb:UW P V N l s0=true):Rz l=true/\Qd P V N l s0 (fun j i=>((DP l []).getD j 0).testBit i=true):=by
 unfold UW at hb
 split at hb
 ·rename_i R hR
  simp only [Bool.and_eq_true] at hb
  obtain ⟨⟨hback,hp⟩,hn⟩:=hb
  obtain ⟨hlen,hget⟩:=Q4 (V:=V) (s0:=s0) l 0 R (fun j=>by rw [Nat.zero_add]) hR
  simp only [Nat.zero_add] at hget
  have pair:∀ (i j:Nat) oi oj,l[i]? = some oi->l[j]? = some oj->((Nat.ble j i || !TP (GZ P V l.toArray oi (stN P V N l s0 i) (stN P V N l s0 (i+1))) (GZ P V l.toArray oj (stN P V N l s0 j) (stN P V N l s0 (j+1)))||((DP l []).getD j 0).testBit i)=true /\
    (Nat.beq i j || !Gf P V oi (stN P V N l s0 i)||((DP l []).getD j 0).testBit i||(match oi.dst with | some d=>(GZ P V l.toArray oj (stN P V N l s0 j) (stN P V N l s0 (j+1))).out d | none=>true))=true):=fun i j oi oj hi hj=>by
   have h1:=(List.all_eq_true.1 hp) (_,j) (List.mem_zipIdx_iff_getElem?.2 (by simpa using hget j oj hj))
   have h2:=(List.all_eq_true.1 h1) (_,i) (List.mem_zipIdx_iff_getElem?.2 (by simpa using hget i oi hi))
   simp only [Bool.and_eq_true] at h2
   exact h2
  have nle:∀ {i j:Nat},i<j->Nat.ble j i=false:=fun {i j} h=>by
   cases hq:Nat.ble j i with
   | false=>rfl
   | true=>have:=Nat.le_of_ble_eq_true hq;omega
  have cf:∀ (i j:Nat) oi oj,l[i]? = some oi->l[j]? = some oj->i<j->TP (GZ P V l.toArray oi (stN P V N l s0 i) (stN P V N l s0 (i+1))) (GZ P V l.toArray oj (stN P V N l s0 j) (stN P V N l s0 (j+1)))=true->((DP l []).getD j 0).testBit i=true:=fun i j oi oj hi hj hlt hc=>by
   have:=(pair i j oi oj hi hj).1
   rw [nle hlt,hc] at this
   simpa using this
  refine ⟨hback,⟨fun i j oi oj hi hj hlt d hd hor=>cf i j oi oj hi hj hlt ?_,fun i j oi oj hi hj hlt d hd hor=>cf i j oi oj hi hj hlt ?_,fun i j oi oj hi hj hlt n hn hor=>cf i j oi oj hi hj hlt ?_,fun i j oi oj hi hj hlt n hn hor=>cf i j oi oj hi hj hlt ?_,fun i oi hi hnew d hd => ?_,fun i j oi oj hi hj hne hnew d hd => ?_⟩⟩
  ·simp only [TP,GZ,hd]
   rcases hor with h | h
   ·simp [Hl.2 h]
   simp [h,Nat.beq_refl]
  ·simp only [TP,GZ,hd]
   simp [Hl.2 hor]
  ·have:((DT P V oi (stN P V N l s0 i)).any fun n=>Nn (Hp P V l.toArray oj (stN P V N l s0 j)) n||Nn (DT P V oj (stN P V N l s0 j)) n)=true:=by
    rw [List.any_eq_true]
    refine ⟨n,hn,?_⟩
    rcases hor with h | h
    ·simp [Hl.2 h]
    simp [Hl.2 h]
   simp only [TP,GZ,this]
   simp
  ·have:((DT P V oj (stN P V N l s0 j)).any fun n=>Nn (Hp P V l.toArray oi (stN P V N l s0 i)) n)=true:=by
    rw [List.any_eq_true]
    exact ⟨n,hn,Hl.2 hor⟩
   simp only [TP,GZ,this]
   simp
  ·have h1:=(List.all_eq_true.1 hn) _ (List.mem_of_getElem? (hget i oi hi))
   simp only [GZ,hnew,Bool.not_true,Bool.false_or,hd] at h1
   exact Ho h1
  have h1:=(pair i j oi oj hi hj).2
  have hbn:Nat.beq i j=false:=by rw [Ce];simp [hne]
  simp only [hbn,hnew,hd,Bool.not_true,Bool.false_or,Bool.or_eq_true] at h1
  rcases h1 with h1 | h1
  ·exact .inl h1
  refine .inr ?_
  simp only [GZ,Bool.and_eq_true] at h1
  refine ⟨fun x v hx hv => ?_,fun n b hn hv => ?_⟩
  ·have:=h1.1
   simp only [hx,hv] at this
   exact this
  have:=(List.all_eq_true.1 h1.2) n hn
  simp only [hv,Bool.and_eq_true] at this
  exact ⟨Kx this.2,this.1⟩
 cases hb
theorem Oh {α:Type} {p q:α->Bool}:∀ {l:List α},(∀ x∈l,p x=true->q x=true)->∀ {y:α},y∈l->q y=true->p y=false->l.countP p<l.countP q
 | [],_,_,hy,_,_=>by cases hy
 | x::l,h,y,hy,hq,hp=>by
  have hle:l.countP p<=l.countP q:=List.countP_mono_left fun z hz=>h z (by simp [hz])
  rw [List.countP_cons,List.countP_cons]
  rcases List.mem_cons.1 hy with rfl | hy
  ·simp [hq,hp];omega
  have:=Oh (fun z hz=>h z (by simp [hz])) hy hq hp
  have hx:(if p x=true then 1 else 0)<=(if q x=true then 1 else 0):=by
   by_cases hpx:p x=true
   ·simp [hpx,h x (by simp) hpx]
   simp [hpx]
  omega
def Yg (P:Program) (V:Env P) (N:Nat) (W0:World) (X:Nat->Option Loc) (M0:Nat->Option Obj) (l:List Oper) (s0:AS) (L:Array Bool) (a:Act) (w:World):Prop :=
 ∃ M σ T H,Sim N W0 X M0 M σ T H a w/\(∀ x,∃ k,k<=l.length/\AgT l L x k/\T x=get (stN P V N l s0 k).t x)/\∀ m,∃ k,k<=l.length/\AgH P V N l s0 L m k/\H m=get (stN P V N l s0 k).h m
theorem VW (hV:KE P V) (hrun:Hy P V N l s0) (hback:Rz l=true) (hord:Qd P V N l s0 (fun j i=>((DP l []).getD j 0).testBit i=true)) {L:Array Bool} (hsz:l.length<=L.size) (hcl:Qj l L) {a:Act} {w:World} (hinv:Yg P V N W0 X M0 l s0 L a w) {i:Nat} {o:Oper} (ho:l[i]? = some o) (hun:L.getD i false=false) (hpre:∀ e∈o.after,Region.binds .any e=true->L.getD e.on false=true)
  {K:Act->World->Prop} {Q:Exit->Act->World->Prop} (hK:∀ a' w',Yg P V N W0 X M0 l s0 (L.setIfInBounds i true) a' w'->K a' w'):if Region.wanted o (yielded l.toArray a.tmps) then o.wpIn (FW rd) 0 P a w K Q else (∀ f,o.about P w a.eval=some f->(FW rd).fn f)/\K (a.put o.dst undef) w:=by
 obtain ⟨M,σ,T,H,hs,hT,hH⟩:=hinv
 have hil:i<l.length:=(List.getElem?_eq_some_iff.1 ho).1
 obtain ⟨ds,hst,hds⟩:=hrun i o ho
 have anc:∀ j,((DP l []).getD i 0).testBit j=true->L.getD j false=true/\j<i:=fun j hj=>JH hback hcl (i+1) i (by omega) o ho hpre j hj
 -- an operation that is done,or that comes behind
 have notdone:∀ j oj,l[j]? = some oj->((DP l []).getD j 0).testBit i=true->L.getD j false=false:=fun j oj hj hbit=>by
  cases hd:L.getD j false with
  | false=>rfl
  | true =>
   have:=JH hback hcl (j+1) j (by omega) oj hj (hcl j oj hj hd) i hbit
   rw [hun] at this;cases this.1
 have set_get:∀ j,(L.setIfInBounds i true).getD j false=true↔(j=i\/L.getD j false=true):=fun j=>by
  by_cases hji:i=j
  ·subst hji;simp [show i<L.size by omega]
  rw [getD_set_ne false hji];simp [Ne.symm hji]
 -- the reads
 have agT:∀ x,(∀ j oj,l[j]? = some oj->oj.dst=some x->j<i->((DP l []).getD i 0).testBit j=true)->(∀ j oj,l[j]? = some oj->oj.dst=some x->i<j->((DP l []).getD j 0).testBit i=true)->AgT l L x i:=fun x h1 h2 j oj hj hd=>by
  constructor
  ·intro hdone
   rcases Nat.lt_trichotomy j i with h | h | h
   ·exact h
   ·subst h;rw [hun] at hdone;cases hdone
   have:=notdone j oj hj (h2 j oj hj hd h);rw [hdone] at this;cases this
  intro hlt;exact (anc j (h1 j oj hj hd hlt)).1
 have agH:∀ m,(∀ j oj,l[j]? = some oj->m∈DT P V oj (stN P V N l s0 j)->j<i->((DP l []).getD i 0).testBit j=true)->(∀ j oj,l[j]? = some oj->m∈DT P V oj (stN P V N l s0 j)->i<j->((DP l []).getD j 0).testBit i=true)->AgH P V N l s0 L m i:=fun x h1 h2 j oj hj hd=>by
  constructor
  ·intro hdone
   rcases Nat.lt_trichotomy j i with h | h | h
   ·exact h
   ·subst h;rw [hun] at hdone;cases hdone
   have:=notdone j oj hj (h2 j oj hj hd h);rw [hdone] at this;cases this
  intro hlt;exact (anc j (h1 j oj hj hd hlt)).1
 have readT:∀ x∈o.looksAt l.toArray,T x=get (stN P V N l s0 i).t x:=fun x hx=>by
  obtain ⟨k,hk,hag,he⟩:=hT x
  rw [he]
  exact Wd hrun hk (by omega) hag (agT x (fun j oj hj hd hlt=>hord.tt j i oj o hj ho hlt x hd (.inl hx)) (fun j oj hj hd hlt=>hord.tr i j o oj ho hj hlt x hd hx))
 have readH:∀ m∈Hp P V l.toArray o (stN P V N l s0 i),H m=get (stN P V N l s0 i).h m:=fun m hm=>by
  obtain ⟨k,hk,hag,he⟩:=hH m
  rw [he]
  exact We hrun hk (by omega) hag (agH m (fun j oj hj hd hlt=>hord.hh j i oj o hj ho hlt m hd (.inl hm)) (fun j oj hj hd hlt=>hord.hr i j o oj ho hj hlt m hd hm))
 have hfresh:Gf P V o (stN P V N l s0 i)=true->∀ d,o.dst=some d->Nc T H d:=fun hn d hd=>by
  have h0:=hord.new0 i o ho hn d hd
  have notA:∀ j,L.getD j false=true->∀ oj,l[j]? = some oj->¬ ((DP l []).getD j 0).testBit i=true:=fun j hj oj hoj hb=>by
   have:=notdone j oj hoj hb;rw [hj] at this;cases this
  refine ⟨fun x v hv => ?_,fun m b hb => ?_⟩
  ·obtain ⟨k,hk,hag,he⟩:=hT x
   rw [he] at hv
   rcases Xu hrun k hk hv with h | ⟨j,oj,hjk,hj,hjd,hjv⟩
   ·exact h0.1 x v h
   have hdone:=(hag j oj hj hjd).2 hjk
   have hne:i≠j:=fun e=>by subst e;rw [hun] at hdone;cases hdone
   rcases hord.newT i j o oj ho hj hne hn d hd with h | h
   ·exact absurd h (notA j hdone oj hj)
   exact h.1 x v hjd hjv
  obtain ⟨k,hk,hag,he⟩:=hH m
  rw [he] at hb
  rcases Xv hrun k hk hb with h | ⟨j,oj,hjk,hj,hjd,hjv⟩
  ·exact h0.2 m b h
  have hdone:=(hag j oj hj hjd).2 hjk
  have hne:i≠j:=fun e=>by subst e;rw [hun] at hdone;cases hdone
  rcases hord.newT i j o oj ho hj hne hn d hd with h | h
  ·exact absurd h (notA j hdone oj hj)
  exact h.2 m b hjd hjv
 refine MX hV hst hds hs readT readH hfresh fun M' σ' a' w' hs'=>hK a' w' ⟨M',σ',_,_,hs',fun x => ?_,fun m => ?_⟩
 ·by_cases hx:o.dst=some x
  ·simp only [hx,if_true]
   refine ⟨i+1,by omega,fun j oj hj hd => ?_,rfl⟩
   rw [set_get]
   rcases Nat.lt_trichotomy j i with h | h | h
   ·have:=(anc j (hord.tt j i oj o hj ho h x hd (.inr hx))).1
    exact ⟨fun _=>by omega,fun _=>.inr this⟩
   ·exact ⟨fun _=>by omega,fun _=>.inl h⟩
   have:=notdone j oj hj (hord.tt i j o oj ho hj h x hx (.inr hd))
   refine ⟨fun hh => ?_,fun hh=>by omega⟩
   rcases hh with hh | hh
   ·omega
   rw [this] at hh;cases hh
  simp only [hx,if_false]
  obtain ⟨k,hk,hag,he⟩:=hT x
  refine ⟨k,hk,fun j oj hj hd => ?_,he⟩
  rw [set_get]
  have hji:j≠i:=fun e=>by subst e;rw [ho] at hj;injection hj with hj;subst hj;exact hx hd
  simpa [hji] using hag j oj hj hd
 by_cases hm:m∈DT P V o (stN P V N l s0 i)
 ·simp only [hm,if_true]
  refine ⟨i+1,by omega,fun j oj hj hd => ?_,rfl⟩
  rw [set_get]
  rcases Nat.lt_trichotomy j i with h | h | h
  ·have:=(anc j (hord.hh j i oj o hj ho h m hd (.inr hm))).1
   exact ⟨fun _=>by omega,fun _=>.inr this⟩
  ·exact ⟨fun _=>by omega,fun _=>.inl h⟩
  have:=notdone j oj hj (hord.hh i j o oj ho hj h m hm (.inr hd))
  refine ⟨fun hh => ?_,fun hh=>by omega⟩
  rcases hh with hh | hh
  ·omega
  rw [this] at hh;cases hh
 simp only [hm,if_false]
 obtain ⟨k,hk,hag,he⟩:=hH m
 refine ⟨k,hk,fun j oj hj hd => ?_,he⟩
 rw [set_get]
 have hji:j≠i:=fun e=>by subst e;rw [ho] at hj;injection hj with hj;subst hj;exact hm hd
 simpa [hji] using hag j oj hj hd
theorem YB (hV:KE P V) (hrun:Hy P V N l s0) (hback:Rz l=true) (hord:Qd P V N l s0 (fun j i=>((DP l []).getD j 0).testBit i=true)) {Q:Exit->Act->World->Prop} (hQ:∀ M' σ' a' w',Sim N W0 X M0 M' σ' (get (stN P V N l s0 l.length).t) (get (stN P V N l s0 l.length).h) a' w'->Q .normal a' w') :
  ∀ (f:Nat) (L:Array Bool) (a:Act) (w:World),L.size=l.length->Qj l L->(List.range l.length).countP (fun j => !L.getD j false)<=f->Yg P V N W0 X M0 l s0 L a w->wpAnyIn (FW rd) 0 P .any l.toArray Q f L a w:=by
 have hdone:∀ (L:Array Bool) (a:Act) (w:World),L.size=l.length->Qj l L->Region.ready .any l.toArray L=[]->Yg P V N W0 X M0 l s0 L a w->Q .normal a w:=by
  intro L a w hsz hcl hr hinv
  have all:∀ n j,j<n->j<l.length->L.getD j false=true:=by
   intro n
   induction n with
   | zero=>intro j h;omega
   | succ n ih =>
    intro j hj hjl
    cases hd:L.getD j false with
    | true=>rfl
    | false =>
     have ho:=List.getElem?_eq_getElem hjl
     have:j∈Region.ready .any l.toArray L:=by
      rw [mem_ready]
      refine ⟨?_,l[j],by simp,fun e he hb => ?_⟩
      ·have hj':j<L.size:=by omega
       simp [hj'] at hd ⊢;exact hd
      have h1:=(List.all_eq_true.1 hback) (l[j],j) (List.mem_zipIdx_iff_getElem?.2 (by simp))
      have h2:=(List.all_eq_true.1 h1) e (by simpa using he)
      simp only [hb,Bool.not_true,Bool.false_or] at h2
      have hlt:=Nat.le_of_ble_eq_true h2
      exact ih e.on (by omega) (by omega)
     rw [hr] at this;cases this
  obtain ⟨M,σ,T,H,hs,hT,hH⟩:=hinv
  have eT:T=get (stN P V N l s0 l.length).t:=by
   funext x
   obtain ⟨k,hk,hag,he⟩:=hT x
   rw [he]
   refine Wd hrun hk (Nat.le_refl _) hag fun j oj hj hd => ?_
   have hjl:j<l.length:=(List.getElem?_eq_some_iff.1 hj).1
   exact ⟨fun _=>hjl,fun _=>all (j+1) j (by omega) hjl⟩
  have eH:H=get (stN P V N l s0 l.length).h:=by
   funext x
   obtain ⟨k,hk,hag,he⟩:=hH x
   rw [he]
   refine We hrun hk (Nat.le_refl _) hag fun j oj hj hd => ?_
   have hjl:j<l.length:=(List.getElem?_eq_some_iff.1 hj).1
   exact ⟨fun _=>hjl,fun _=>all (j+1) j (by omega) hjl⟩
  rw [eT,eH] at hs
  exact hQ M σ a w hs
 intro f
 induction f with
 | zero =>
  intro L a w hsz hcl hcnt hinv
  have hr:Region.ready .any l.toArray L=[]:=by
   rw [List.eq_nil_iff_forall_not_mem]
   intro j hj
   rw [mem_ready] at hj
   obtain ⟨h1,o,ho,_⟩:=hj
   have hjl:j<l.length:=by have:=(List.getElem?_eq_some_iff.1 (by simpa using ho:l[j]? = some o)).1;exact this
   have h0:(List.range l.length).countP (fun j => !L.getD j false)=0:=by omega
   rw [List.countP_eq_zero] at h0
   have:=h0 j (List.mem_range.2 hjl)
   have hj':j<L.size:=by omega
   simp [hj'] at h1 this
   rw [h1] at this;cases this
  exact ⟨hr,hdone L a w hsz hcl hr hinv⟩
 | succ f ih =>
  intro L a w hsz hcl hcnt hinv
  refine ⟨fun hr=>hdone L a w hsz hcl hr hinv,fun i hi => ?_⟩
  rw [mem_ready] at hi
  obtain ⟨h1,o,ho,hpre⟩:=hi
  have ho':l[i]? = some o:=by simpa using ho
  have hil:i<l.length:=(List.getElem?_eq_some_iff.1 ho').1
  have hun:L.getD i false=false:=by
   have hi':i<L.size:=by omega
   simp [hi'] at h1 ⊢;exact h1
  unfold wpOpIn
  rw [ho]
  have hfin:=VW (rd:=rd) (a:=a) (w:=w) (Q:=Q) (K:=wpAnyIn (FW rd) 0 P .any l.toArray Q f (L.setIfInBounds i true)) hV hrun hback hord (Nat.le_of_eq hsz.symm) hcl hinv ho' hun hpre fun a' w' hinv'=>by
   refine ih _ a' w' (by simp [hsz]) ?_ ?_ hinv'
   ·intro j oj hj hd e he hb
    by_cases hji:j=i
    ·subst hji
     rw [ho'] at hj;injection hj with hj;subst hj
     exact getD_set_true (hpre e he hb)
    rw [getD_set_ne false (Ne.symm hji)] at hd
    exact getD_set_true (hcl j oj hj hd e he hb)
   have hlt:(List.range l.length).countP (fun j => !(L.setIfInBounds i true).getD j false)<(List.range l.length).countP (fun j => !L.getD j false):=by
    refine Oh ?_ (List.mem_range.2 hil) ?_ ?_
    ·intro j _ hj
     by_cases hji:i=j
     ·subst hji;simp [show i<L.size by omega] at hj
     rwa [getD_set_ne false hji] at hj
    ·rw [hun];rfl
    simp [show i<L.size by omega]
   omega
  by_cases hw:Region.wanted o (yielded l.toArray a.tmps)=true
  ·simp only [hw,if_true] at hfin ⊢
   exact hfin
  simp only [hw] at hfin ⊢
  exact hfin
end
section
variable {P:Program} {V:Env P} {rd:Option Nat} {N:Nat} {W0:World} {X:Nat→Option Loc} {M0 M:Nat→Option Obj} {σ:Nat→Loc} {w:World} {a:Act} {Q:Exit→AS→Prop} {s:AS}
theorem Ug (hm:P.follows .mixedOrders=true) {E:TypeId->Option (List Kd)} (hE:IW P ⟨fun _=>none,E,fun _=>false,fun _=>none⟩) {id:Nat} {l:List Oper} (ow:List Nat) (qs:List (Nat×(Bool×Nat))) (tbl:List (Nat×FuncId×List Av×Ef)) (ts ns:List Nat) (cs:List Prop) (S:AS) (htbl:Gp P tbl) (hr:Ni P ⟨G5 tbl,E,BM ow,get qs⟩ N l ts ns s=some (cs,S)) (hd:UW P ⟨G5 tbl,E,BM ow,get qs⟩ N l s=true) (hc:Bs cs) (h:Q .normal S):AWp P rd N W0 X M0 (.region id l.toArray true) Q s:=by
 have hV:=htbl.env (O:=BM ow) (q:=get qs) hE
 intro M σ a w hs
 unfold Ni at hr
 split at hr
 ·rename_i cs1 s1 h1
  simp only [Option.some.injEq,Prod.mk.injEq] at hr
  obtain ⟨rfl,rfl⟩:=hr
  obtain ⟨e1,hruns⟩:=MY (s0:=s) l 0 s s1 cs1 (fun j=>by rw [Nat.zero_add]) rfl h1 hc
  simp only [Nat.zero_add] at e1 hruns
  obtain ⟨hback,hord⟩:=Sq hd
  have hrep:∀ j,¬ ((Array.replicate l.toArray.size false).getD j false=true):=fun j hh=>by
   by_cases hj':j<l.length
   ·simp [hj'] at hh
   simp [hj'] at hh
  have hs0:Sim N W0 X M0 M σ (get s.t) (get s.h) a { w with drawn:=w.drawn+1 }:=⟨hs.os,hs.tape,hs.output,hs.size,hs.old,hs.sub,hs.new,hs.pin,hs.defers,hs.room,hs.tmps,hs.imm,fun n b hb=>(hs.blk n b hb).mono (fun _ _ h=>h) (fun _ _=>rfl) (fun _=>rfl),hs.loc,hs.inj⟩
  have hinv:Yg P ⟨G5 tbl,E,BM ow,get qs⟩ N W0 X M0 l s (Array.replicate l.toArray.size false) a { w with drawn:=w.drawn+1 } :=
   ⟨M,σ,get s.t,get s.h,hs0,fun x=>⟨0,Nat.zero_le _,fun j o hj hd=>⟨fun hh=>absurd hh (hrep j),fun hh=>absurd hh (by omega)⟩,rfl⟩,fun m=>⟨0,Nat.zero_le _,fun j o hj hd=>⟨fun hh=>absurd hh (hrep j),fun hh=>absurd hh (by omega)⟩,rfl⟩⟩
  have hfin:∀ M' σ' a' w',Sim N W0 X M0 M' σ' (get (stN P ⟨G5 tbl,E,BM ow,get qs⟩ N l s l.length).t) (get (stN P ⟨G5 tbl,E,BM ow,get qs⟩ N l s l.length).h) a' w'->∃ s' M'' σ'',Q .normal s'/\Sim N W0 X M0 M'' σ'' (get s'.t) (get s'.h) a' w':=fun M' σ' a' w' hs'=>by
   rw [<- e1] at hs'
   exact ⟨_,M',σ',h,FA hs' ts ns⟩
  refine wpIn_region_any hm ?_
  exact YB hV hruns hback hord (Q:=fun e a' w'=>∃ s' M' σ',Q e s'/\Sim N W0 X M0 M' σ' (get s'.t) (get s'.h) a' w') hfin _ _ _ _ (by simp) (fun j o hj hd=>absurd hd (hrep j)) (Nat.le_trans List.countP_le_length (by simp)) hinv
 cases hr
end
end
section
open Go.RowKit
def Cl.sc:Cl->Bool
 | .val _=>true
 | .clo _ k _=>Nat.beq k 0
 | _=>false
def Av.sc:Av->Bool
 | .one c=>c.sc
 | .agg l=>l.all Cl.sc
def Tv.sc:Tv->Bool
 | .av x=>x.sc
 | .tup l=>l.all Av.sc
 | .grd _ _=>false
theorem RT_sc {M M':Nat->Option Obj} {σ σ':Nat->Loc} {r:Tv} {U:Value} (hd:r.sc=true) (h:RT M σ r U):RT M' σ' r U:=by
 have cl:∀ {c:Cl} {U:Value},c.sc=true->R M σ c U->R M' σ' c U:=fun {c U} hd h=>by
  cases c with
  | val v=>exact h
  | clo f k caps =>
   have:=Nat.eq_of_beq_eq_true hd
   subst this
   obtain ⟨cs,h1,h2,_⟩:=h
   exact ⟨cs,h1,h2,fun i hi=>absurd hi (by omega)⟩
  | list=>cases hd
  | eptr=>cases hd
  | mp=>cases hd
  | ptr=>cases hd
  | own=>cases hd
  | rptr=>cases hd
  | om=>cases hd
  | any=>exact h
 have av:∀ {x:Av} {U:Value},x.sc=true->RA M σ x U->RA M' σ' x U:=fun {x U} hd h=>by
  cases x with
  | one c=>exact cl hd h
  | agg l=>obtain ⟨vs,h1,h2⟩:=h;exact ⟨vs,h1,h2.mono fun c hc b hb=>cl ((List.all_eq_true.1 hd) c hc) hb⟩
 cases r with
 | av x=>exact av hd h
 | tup l=>obtain ⟨vs,h1,h2⟩:=h;exact ⟨vs,h1,h2.mono fun c hc b hb=>av ((List.all_eq_true.1 hd) c hc) hb⟩
 | grd g x=>cases hd
section
variable {P:Program}
theorem Kf (g:Nat->Cl) {k i:Nat} (hi:i<k):CU ((List.range k).map g) i=g i:=by
 simp [CU,List.getD_eq_getElem?_getD,hi]
def toC (cs:List (Nat×Blk)):Cl->Cl
 | .ptr n off=>match get cs n with
  | some (.cells l _)=>.eptr l.length 1 (fun _ j=>l.getD j default) 0 off
  | _=>.ptr n off
 | .clo f k caps=>.clo f k (CU ((List.range k).map fun i=>toC cs (caps i)))
 | x=>x
def toE (cs:List (Nat×Blk)):Av->Av
 | .one c=>.one (toC cs c)
 | .agg l=>.agg (l.map (toC cs))
def Ht:Blk->Bool
 | .cells l _=>l.all Cl.dv
 | _=>false
theorem Rk {h:Nat->Option Blk}:∀ {ns:List Nat} {bs:List Blk},GP h ns=some bs->∀ n b,get (ns.zip bs) n=some b->h n=some b
 | [],bs,hg,n,b,hz=>by simp [get] at hz
 | m::ns,bs,hg,n,b,hz=>by
  simp only [GP] at hg
  split at hg
  ·rename_i b0 bs0 h1 h2
   injection hg with hg
   subst hg
   simp only [List.zip_cons_cons,get,Ce] at hz
   by_cases hmn:m=n
   ·subst hmn;simp at hz;subst hz;exact h1
   simp [hmn] at hz;exact Rk h2 n b hz
  cases hg
theorem Kr {f:FuncId} {xs:List Av} {ns:List Nat} {bs:List Blk} {r:Tv} (h1:∀ args w,(callFunc f args).run P w=.ok (.enter f args) w) (hb:bs.all Ht=true) (hr:r.sc=true) (h:FG P f (xs.map (toE (ns.zip bs))) r):EB P f xs (rdI ns bs r):=by
 classical
 refine .inl ⟨h1,fun M σ w hh args cs' g hs hargs hres hc => ?_⟩
 simp only [rdI,res] at hres
 split at hres
 ·rename_i bs' hg
  simp only [Option.some.injEq,Prod.mk.injEq] at hres
  obtain ⟨rfl,rfl⟩:=hres
  have:=hc.head
  subst this
  let M':Nat->Option Obj:=fun b=>if ∃ n bl,get (ns.zip bs') n=some bl/\(σ n).b=b then w.heap[b]? else M b
  have himm:∀ b o,M' b=some o->w.heap[b]? = some o:=fun b o hm=>by
   simp only [M'] at hm
   split at hm
   ·exact hm
   exact hs.imm b o hm
  have hsub:∀ b o,M b=some o->M' b=some o:=fun b o hm=>by
   simp only [M']
   split
   ·exact hs.imm b o hm
   exact hm
  have hC:∀ {c:Cl} {V:Value},R M σ c V->R M' σ (toC (ns.zip bs') c) V:=by
   intro c
   induction c with
   | ptr n off =>
    intro V hR
    simp only [toC]
    split
    ·rename_i l T hgl
     have hh:=Rk hg n _ hgl
     obtain ⟨hnil,c,hblk,hl⟩:=hs.blk n _ hh
     have hcap:l.all Cl.dv=true:=by
      have:(Blk.cells l T)∈bs':=by
       have:=De hgl
       exact (List.of_mem_zip this).2
      exact (List.all_eq_true.1 hb) _ this
     have hV0:V=.pointer (some ⟨(σ n).b,off,none⟩):=hR
     subst hV0
     have hM':M' (σ n).b=some (.cells c.toArray T):=by
      simp only [M']
      rw [if_pos ⟨n,_,hgl,rfl⟩];exact hblk
     show RC M' _ _
     have:=RC.eptr (M:=M') l.length 1 (fun _ j=>l.getD j default) 0 off (σ n).b 0 (fun j=>c.getD j undef) (fun j hj=>by
      have hjc:j<c.length:=by rw [<- hl.length];exact hj
      simp only [D4,hM',Nat.zero_add,List.getElem?_toArray]
      simp [List.getD,hjc]) (fun j hj=>by
      obtain ⟨u,hu,hRu⟩:=hl.get j _ (List.getElem?_eq_getElem hj)
      simp only [List.getD,List.getElem?_eq_getElem hj,hu,Option.getD_some]
      exact Dl hsub ((HS ((List.all_eq_true.1 hcap) _ (List.getElem_mem _))).1 hRu))
     rw [Nat.zero_add] at this
     exact this
    exact hR
   | clo f k caps ih =>
    intro V hR
    obtain ⟨cs,e1,e2,e3⟩:=hR
    exact ⟨cs,e1,e2,fun i hi=>by rw [Kf _ hi];exact ih i (e3 i hi)⟩
   | val v=>intro V hR;exact hR
   | own=>intro V hR;exact DM hsub (fun _ _=>rfl) hR
   | rptr=>intro V hR;exact DM hsub (fun _ _=>rfl) hR
   | om=>intro V hR;exact DM hsub (fun _ _=>rfl) hR
   | any=>intro V hR;exact hR
   | list=>intro V hR;exact DM hsub (fun _ _=>rfl) hR
   | eptr=>intro V hR;exact DM hsub (fun _ _=>rfl) hR
   | mp=>intro V hR;exact DM hsub (fun _ _=>rfl) hR
  have hx:L2 (RA M' σ) (xs.map (toE (ns.zip bs'))) args:=by
   refine L2.of (by rw [List.length_map];exact hargs.length) fun i x V hx hV => ?_
   rw [List.getElem?_map] at hx
   obtain ⟨x0,hx0,rfl⟩:=Option.map_eq_some_iff.1 hx
   obtain ⟨V',hV',hR⟩:=hargs.get i x0 hx0
   rw [hV] at hV';injection hV' with hV';subst hV'
   cases x0 with
   | one c=>exact hC hR
   | agg l =>
    obtain ⟨vs,e1,e2⟩:=hR
    refine ⟨vs,e1,?_⟩
    clear hx0 e1 hx
    induction e2 with
    | nil=>exact .nil
    | cons e3 _ ih=>exact .cons (hC e3) ih
  refine (h M' σ w args himm hx).mono ?_
  rintro en w' ⟨U,hU,M'',hk,hRU⟩
  exact ⟨U,hU,fun dst _=>⟨M,σ,⟨hk.os,hk.tape,hk.output,hk.size,hk.old,fun _ _ h=>h,fun _ _ h h'=>by (rw [h] at h';cases h'),fun b o hm=>hk.imm b o (hk.sub b o (hsub b o hm))⟩,rfl,RT_sc hr (hRU σ)⟩⟩
 cases hres
theorem Jp (k:Nat):BM [k] k=true:=by unfold BM;rw [Nat.beq_refl];rfl
def Wr (P:Program) (f:FuncId) (K:Nat) (xs:List Av) (b0:Blk) (r:Tv) (b1:Blk):Prop:=∀ (M:Nat->Option Obj) (σ:Nat->Loc) (w:World) (args:List Value),(∀ b o,M b=some o->w.heap[b]? = some o)->Bv M σ w (σ K) b0->(σ K).nil=false->M (σ K).b=none->L2 (RA M σ) xs args ->
 Calls P f args.toArray w fun en w'=>∃ U,en=.returned U/\∃ M',F8 w w' M M' (only (σ K))/\(∀ σ',RT M' σ' r U)/\∀ σ',Bv M' σ' w' (σ K) b1
theorem E2 {M:Nat->Option Obj} {σ σ':Nat->Loc} {w:World} {x:Loc} {b:Blk} (hd:Ht b=true) (h:Bv M σ w x b):Bv M σ' w x b:=by
 cases b with
 | row=>cases hd
 | omap=>cases hd
 | rowx=>cases hd
 | cells l ty =>
  obtain ⟨h0,c,hc,hl⟩:=h
  exact ⟨h0,c,hc,hl.mono fun a ha b hb=>(HS ((List.all_eq_true.1 hd) a ha)).2 ((HS ((List.all_eq_true.1 hd) a ha)).1 hb)⟩
def Bq (K n:Nat):Av->Av
 | .one (.ptr m off)=>bif Nat.beq m K then .one (.ptr n off) else .one (.ptr m off)
 | x=>x
def Wi (K:Nat):Av->Bool
 | .one (.ptr m _)=>Nat.beq m K
 | x=>x.dv
theorem VZ {f:FuncId} {K n:Nat} {xs:List Av} {b0 b1:Blk} {r:Tv} (h1:∀ args w,(callFunc f args).run P w=.ok (.enter f args) w) (hx:xs.all (Wi K)=true) (hd0:Ht b0=true) (h:Wr P f K xs b0 r b1):EB P f (xs.map (Bq K n)) (wrI n b0 r b1):=by
 refine .inl ⟨h1,fun M σ w hh args cs' g hs hargs hres hc => ?_⟩
 simp only [wrI,res,GP] at hres
 cases hn:hh n with
 | none=>rw [hn] at hres;cases hres
 | some b =>
  rw [hn] at hres
  simp only [Option.some.injEq,Prod.mk.injEq] at hres
  obtain ⟨rfl,rfl⟩:=hres
  have:=hc.head
  subst this
  have hblk:=hs.blk n _ hn
  have hnil:(σ n).nil=false:=by
   cases b with
   | row=>cases hd0
   | omap=>cases hd0
   | rowx=>cases hd0
   | cells l ty=>exact hblk.1
  have hM:M (σ n).b=none:=by
   rcases hs.loc n _ hn with h | h
   ·rw [hnil] at h;cases h
   exact h
  let σ2:Nat->Loc:=upd σ K (σ n)
  have hK:σ2 K=σ n:=BP _ _ _
  have hargs2:L2 (RA M σ2) xs args:=by
   refine L2.of (by have:=hargs.length;simpa using this) fun i x V hxi hV => ?_
   obtain ⟨V',hV',hR⟩:=hargs.get i (Bq K n x) (by rw [List.getElem?_map,hxi];rfl)
   rw [hV] at hV';injection hV' with hV';subst hV'
   have hok:=(List.all_eq_true.1 hx) x (List.mem_of_getElem? hxi)
   unfold Wi at hok
   split at hok
   ·rename_i m off
    simp only [Bq,hok,cond_true] at hR
    have:=Nat.eq_of_beq_eq_true hok
    subst this
    have hR':V=.pointer (some ⟨(σ n).b,off,none⟩):=hR
    show V=.pointer (some ⟨(σ2 m).b,off,none⟩)
    rw [hK];exact hR'
   rename_i hne
   have:Bq K n x=x:=by
    unfold Bq
    split
    ·rename_i m off;exact (hne m off rfl).elim
    rfl
   rw [this] at hR
   have:=GR (σ':=σ2) (r:=.av x) hok hR
   exact this
  refine (h M σ2 w args hs.imm (by rw [hK];exact E2 hd0 hblk) (by rw [hK];exact hnil) (by rw [hK];exact hM) hargs2).mono ?_
  rintro en w' ⟨U,hU,M',hk,hR,hb⟩
  rw [hK] at hk
  refine ⟨U,hU,fun dst _=>⟨M',σ,hk,rfl,hR σ,?_⟩⟩
  have:=hb σ
  rw [hK] at this
  exact this
end
def KF (P:Program) (rd:Option Nat) (N:Nat) (W0:World) (X:Nat->Option Loc) (M0:Nat->Option Obj) (c:Code) (Q:Exit->AS->Prop):Nat->AS->Prop
 | 0,_=>False
 | n+1,s=>AWp P rd N W0 X M0 c (ATh (KF P rd N W0 X M0 c Q n) Q) s
theorem DF {P:Program} {rd:Option Nat} {N:Nat} {W0:World} {X:Nat->Option Loc} {M0:Nat->Option Obj} {c:Code} {Q:Exit->AS->Prop} {n:Nat} {s:AS} (h:AWp P rd N W0 X M0 c (ATh (KF P rd N W0 X M0 c Q n) Q) s):KF P rd N W0 X M0 c Q (n+1) s:=h
theorem Ex {P:Program} {rd:Option Nat} {N:Nat} {W0:World} {X:Nat->Option Loc} {M0:Nat->Option Obj} {c:Code} {Q:Exit->AS->Prop} {s:AS} (n:Nat) (h:KF P rd N W0 X M0 c Q n s):AWp P rd N W0 X M0 (.loop c) Q s:=by
 have key:∀ n s,KF P rd N W0 X M0 c Q n s->∀ M σ a w,Sim N W0 X M0 M σ (get s.t) (get s.h) a w->Code.roundsIn (FW rd) 0 P c (fun e a' w'=>∃ s' M' σ',Q e s'/\Sim N W0 X M0 M' σ' (get s'.t) (get s'.h) a' w') n a w:=by
  intro n
  induction n with
  | zero=>intro s h;exact h.elim
  | succ n ih =>
   intro s h M σ a w hs
   rw [roundsIn_succ]
   refine wpIn_mono (h M σ a w hs) ?_
   rintro e a' w' ⟨s',M',σ',h1,h2⟩
   cases e with
   | normal=>exact ih s' h1 M' σ' a' w' h2
   | _=>exact ⟨s',M',σ',h1,h2⟩
 intro M σ a w hs
 exact wpIn_loop_rounds n (key n s h M σ a w hs)
inductive ClE:Cl->Cl->Prop
 | refl (c:Cl):ClE c c
 | list (t t':Bool) (sz len:Nat) (f f':Nat->Nat->Cl) (h:∀ i j,i<len->j<sz->ClE (f i j) (f' i j)) (ht:t'=true->t=true):ClE (.list t sz len f) (.list t' sz len f')
 | nil (sz:Nat) (f:Nat->Nat->Cl):ClE (.val (.slice none 0 0)) (.list false sz 0 f)
 | own (n sz:Nat) {l l':Nat} (h:l=l'):ClE (.own n sz l) (.own n sz l')
 | clo (f:FuncId) (k:Nat) (c c':Nat->Cl) (h:∀ i,i<k->c i=c' i):ClE (.clo f k c) (.clo f k c')
 | any (c:Cl):ClE c .any
theorem TZ {M:Nat->Option Obj} {c c':Cl} (he:ClE c c'):∀ V,RC M c V->RC M c' V:=by
 induction he with
 | refl=>exact fun _ h=>h
 | nil sz f=>intro V h;cases h with | val _ _=>exact RC.nil _ _ _ rfl
 | own n sz hl=>intro V h;cases h
 | any c=>intro V h;exact .any V (NZ (σ:=fun _=>⟨0,0,false⟩) (Lh h))
 | clo f k c c' hc =>
  intro V h
  cases h with
  | clo _ _ _ cs h1 h2=>exact .clo _ _ _ cs h1 fun i hi=>by rw [<- hc i hi];exact h2 i hi
 | list t t' sz len f f' hf ht ih =>
  intro V h
  cases h with
  | nil _ _ _ h0 =>
   refine .nil _ _ _ ?_
   cases t' with
   | false=>rfl
   | true=>rw [ht rfl] at h0;cases h0
  | mt _ _ _ p0 cap h5=>exact .mt _ _ _ p0 cap (fun h=>h5 (ht h))
  | list _ _ _ _ b off cap g h1 h2 h4 h5=>exact .list _ _ _ _ b off cap g h1 (fun i j hi hj=>ih i j hi hj _ (h2 i j hi hj)) h4 (fun h=>h5 (ht h))
theorem Uk {M:Nat->Option Obj} {σ:Nat->Loc} {c c':Cl} {V:Value} (he:ClE c c') (h:R M σ c V):R M σ c' V:=by
 cases he with
 | refl=>exact h
 | nil sz f=>obtain ⟨rfl,_⟩:=h;exact RC.nil _ _ _ rfl
 | own n sz hl=>subst hl;exact h
 | any c=>exact NZ h
 | clo f k c c' hc =>
  obtain ⟨cs,h1,h2,h3⟩:=h
  exact ⟨cs,h1,h2,fun i hi=>by rw [<- hc i hi];exact h3 i hi⟩
 | list t t' sz len f f' hf ht=>exact TZ (.list t t' sz len f f' hf ht) V h
section
variable {P:Program} {rd:Option Nat} {N:Nat} {W0:World} {X:Nat→Option Loc} {M0 M:Nat→Option Obj} {Q:Exit→AS→Prop} {s:AS}
end
end
section
open Go.ChangeShapes Go.WideShapes Go.ChangeAt Go.RowKit
def MW (w:World):Nat->Option Obj:=fun b=>w.heap[b]?
def HQ (P:Program) (t:TypeId) {T:Type} (c:T->List Cl) (ok:T->Prop):Prop :=
 ∀ {H:Type} (enc:TypeId×Value->H) (w:World) (base:Nat) (spare:Nat->Bool) (held:Bool) (fuel:Nat) (cs:List Value) (x:DataW H×List MemPlace),
  DataW.trod enc P w base spare held fuel t cs=some x->∃ a:T,ok a/\L2 (RC (MW w)) (c a) cs
def WF (k:IntKind) (n:Int):Prop:=(Lit.int k n).wf=true
section
variable {P:Program} {t:TypeId}
theorem H5 {k:IntKind} (ht:P.underlying t=some (.int k)):HQ P t (fun n:Int=>[.val (.int k n)]) (WF k):=by
 intro H enc w base spare held fuel cs x h
 obtain ⟨n,rfl,_,hw⟩:=DataW.trod_int ht h
 exact ⟨n,hw,.cons (.val _ rfl) .nil⟩
theorem VD {T S:Type} {c:T->List Cl} {ok:T->Prop} {c':S->List Cl} {ok':S->Prop} (h:HQ P t c ok) (g:∀ a,ok a->∃ s,ok' s/\c' s=c a):HQ P t c' ok':=by
 intro H enc w base spare held fuel cs x hx
 obtain ⟨a,h1,h2⟩:=h enc w base spare held fuel cs x hx
 obtain ⟨s,h3,h4⟩:=g a h1
 exact ⟨s,h3,by rw [h4];exact h2⟩
def Qt (P:Program):List Field->Nat
 | []=>0
 | f::r=>P.cellsOf f.type+Qt P r
def Qe (P:Program) (off:Nat) (fs:List Field) {T:Type} (c:T->List Cl) (ok:T->Prop):Prop :=
 ∀ {H:Type} (enc:TypeId×Value->H) (w:World) (base:Nat) (spare:Nat->Bool) (held:Bool) (fuel:Nat) (cs:List Value),
  (∀ f∈fs,∃ y,DataW.trod enc P w base spare held fuel f.type ((cs.drop f.offset).take (P.cellsOf f.type))=some y)->off+Qt P fs=cs.length->∃ a:T,ok a/\L2 (RC (MW w)) (c a) (cs.drop off)
theorem Sr {off:Nat}:Qe P off [] (fun _:Unit=>[]) (fun _=>True):=by
 intro H enc w base spare held fuel cs _ hl
 simp only [Qt,Nat.add_zero] at hl
 refine ⟨(),trivial,?_⟩
 rw [List.drop_eq_nil_of_le (by omega)]
 exact .nil
theorem LD {off:Nat} {f:Field} {fs:List Field} {T S:Type} {c:T->List Cl} {ok:T->Prop} {c':S->List Cl} {ok':S->Prop} (n:Nat) (hn:P.cellsOf f.type=n) (ho:f.offset=off) (h:HQ P f.type c ok) (h':Qe P (off+n) fs c' ok') :
  Qe P off (f::fs) (fun p:T×S=>c p.1++c' p.2) (fun p=>ok p.1/\ok' p.2):=by
 subst hn
 intro H enc w base spare held fuel cs hf hl
 obtain ⟨y,hy⟩:=hf f (List.mem_cons_self ..)
 obtain ⟨a,h1,h2⟩:=h enc w base spare held fuel _ _ hy
 simp only [Qt] at hl
 obtain ⟨b,h3,h4⟩:=h' enc w base spare held fuel cs (fun f' hm=>hf f' (List.mem_cons_of_mem _ hm)) (by omega)
 refine ⟨(a,b),⟨h1,h3⟩,?_⟩
 rw [ho] at h2
 have:=h2.append h4
 rwa [<- List.drop_drop,List.take_append_drop] at this
theorem Py {fs:Array Field} {T:Type} {c:T->List Cl} {ok:T->Prop} (ht:P.underlying t=some (.struct fs)) (htot:Qt P fs.toList=P.cellsOf t) (h:Qe P 0 fs.toList c ok):HQ P t c ok:=by
 intro H enc w base spare held fuel cs x hx
 obtain ⟨xs,n,_,_,hcs,hxs,hi⟩:=DataW.trod_struct ht hx
 obtain ⟨a,h1,h2⟩:=h enc w base spare held n cs (fun f hm=>by
  obtain ⟨i,hi',hfi⟩:=List.getElem_of_mem hm
  have h1:=hi i f (by rw [<- hfi];simp)
  have h2:xs[i]? = some (xs[i]'(by rw [hxs];simpa using hi')):=List.getElem?_eq_getElem _
  exact ⟨_,h1.trans h2⟩) (by omega)
 exact ⟨a,h1,by simpa using h2⟩
theorem Ko {w:World} {base:Nat} {a:Addr} {n:Nat} {ci:List Value} (h:w.cells? base a n=some ci):ci.length=n/\∀ j,j<n->w.cell? (a.add j)=ci[j]? := by
 unfold World.cells? at h
 split at h
 ·exact ⟨by simpa using mapM_some_length h,fun j hj=>mapM_some_get h j j (by simp [hj])⟩
 cases h
theorem Ol {w:World} {a:Addr} {v:Value} (h:w.cell? a=some v):a.spot=none/\D4 (MW w) a.block a.off=some v:=by
 unfold World.cell? at h
 unfold D4 MW
 split at h
 ·rename_i c t f hh
  rw [hh]
  split at h
  ·cases h
  rename_i hs;exact ⟨by simpa using hs,h⟩
 cases h
def SQ (S:Bool) (P:Program) (t:TypeId) {H:Type} (d:DataW H):Prop:=S=true->∀ n∈d.weights P t,n<=reachBytes
theorem sq_no {P:Program} {t:TypeId} {H:Type} {d:DataW H}:SQ false P t d:=fun h=>by cases h
theorem LB {P:Program} {e:TypeId} {H:Type} {d:DataW H}:∀ {l:List (DataW H)},d∈l->∀ n∈d.weights P e,n∈DataW.weightsAll P e l
 | [],h,_,_=>by cases h
 | x::l,h,n,hn=>by
  simp only [DataW.weightsAll,List.mem_append]
  rcases List.mem_cons.1 h with rfl | h
  ·exact .inl hn
  exact .inr (LB h n hn)
theorem Yl {S:Bool} {P:Program} {t e:TypeId} {H:Type} {elems spare:List (DataW H)} {d:DataW H} (ht:P.underlying t=some (.slice e)) (h:SQ S P t (.slice elems spare)) (hd:d∈elems):SQ S P e d:=fun hs n hn =>
 h hs n (by simp only [DataW.weights,ht,List.mem_cons,List.mem_append];exact .inr (.inl (LB hd n hn)))
def Ye (S:Bool) (fuel:Nat) (P:Program) (t:TypeId) {T:Type} (c:T->List Cl) (ok:T->Prop):Prop :=
 ∀ {H:Type} (enc:TypeId×Value->H) (w:World) (base:Nat) (spare:Nat->Bool) (held:Bool) (cs:List Value) (x:DataW H×List MemPlace),
  DataW.trod enc P w base spare held fuel t cs=some x->SQ S P t x.1->∃ a:T,ok a/\L2 (RC (MW w)) (c a) cs
theorem Ms {S:Bool} {e:TypeId} {T:Type} [Inhabited T] {c:T->List Cl} {ok:T->Prop} (sz:Nat) (ht:P.underlying t=some (.slice e)) (hsz:P.cellsOf e=sz) (hpos:0<sz) (fuel:Nat) (h:∀ n,fuel=n+1->Ye S n P e c ok):Ye S fuel P t (fun xs:List T=>[lst sz c xs]) (fun xs=>xs.length<=maxLen/\∀ x∈xs,ok x):=by
 subst hsz
 intro H enc w base spare held cs x hx hq
 rcases DataW.trod_slice ht hx with ⟨rfl,_⟩ | ⟨a,len,cap,elems,rest,n,hfu,rfl,hx2,_,hlc,hcm,hel,hi,_,_⟩
 ·exact ⟨[],⟨Nat.zero_le _,fun x hx=>by cases hx⟩,.cons (show RC _ (.list false _ 0 _) _ from .nil _ _ _ rfl) .nil⟩
 have hex:∀ i,∃ a':T,i<len->ok a'/\∃ ci,w.cells? base (a.add (i*P.cellsOf e)) (P.cellsOf e)=some ci/\L2 (RC (MW w)) (c a') ci:=fun i=>by
  by_cases hil:i<len
  ·have h1:=hi i hil
   have h2:elems[i]? = some (elems[i]'(by omega)):=List.getElem?_eq_getElem _
   rw [h2] at h1
   cases hci:w.cells? base (a.add (i*P.cellsOf e)) (P.cellsOf e) with
   | none=>rw [hci] at h1;cases h1
   | some ci =>
    rw [hci] at h1
    obtain ⟨a',h3,h4⟩:=h n hfu enc w base spare held ci _ h1 (Yl ht (by rw [hx2] at hq;exact hq) (List.mem_map.2 ⟨_,List.getElem_mem _,rfl⟩))
    exact ⟨a',fun _=>⟨h3,ci,rfl,h4⟩⟩
  exact ⟨default,fun k=>absurd k hil⟩
 let A:Nat->T:=fun i=>Classical.choose (hex i)
 have hA:∀ i,i<len->ok (A i)/\∃ ci,w.cells? base (a.add (i*P.cellsOf e)) (P.cellsOf e)=some ci/\L2 (RC (MW w)) (c (A i)) ci:=fun i=>Classical.choose_spec (hex i)
 refine ⟨(List.range len).map A,⟨by simp;omega,fun x hx => ?_⟩,.cons ?_ .nil⟩
 ·obtain ⟨i,hi,rfl⟩:=List.mem_map.1 hx
  exact (hA i (List.mem_range.1 hi)).1
 unfold lst
 rw [List.length_map,List.length_range]
 by_cases hl0:len=0
 ·subst hl0
  exact .mt _ _ _ _ _ (fun h=>by cases h)
 have hsp:a.spot=none:=by
  obtain ⟨_,ci,h1,_⟩:=hA 0 (by omega)
  obtain ⟨h2,h3⟩:=Ko h1
  have h4:=h3 0 hpos
  have h5:ci[0]? = some (ci[0]'(by omega)):=List.getElem?_eq_getElem _
  rw [h5] at h4
  have:=(Ol h4).1
  simpa [Addr.add] using this
 obtain ⟨b,off,sp⟩:=a
 simp only at hsp
 subst hsp
 refine .list false _ _ _ b off cap (fun i j=>((w.cells? base (Addr.add ⟨b,off,none⟩ (i*P.cellsOf e)) (P.cellsOf e)).getD []).getD j undef) (fun i j hil hj => ?_) (fun i j hil hj => ?_) hlc (fun h=>by cases h)
 ·obtain ⟨_,ci,h1,_⟩:=hA i hil
  obtain ⟨h2,h3⟩:=Ko h1
  have h4:=h3 j hj
  have h5:ci[j]? = some (ci[j]'(by omega)):=List.getElem?_eq_getElem _
  rw [h5] at h4
  have h6:=(Ol h4).2
  rw [Addr.add_lit,Addr.add_lit] at h6
  rw [h1]
  simp only [Option.getD_some,List.getD_eq_getElem?_getD,h5]
  simpa [Nat.add_assoc] using h6
 obtain ⟨_,ci,h1,h7⟩:=hA i hil
 obtain ⟨h2,_⟩:=Ko h1
 have h5:ci[j]? = some (ci[j]'(by omega)):=List.getElem?_eq_getElem _
 obtain ⟨k,h8,h9⟩:=h7.get' j _ h5
 have e1:((List.range len).map A).getD i default=A i:=by
  rw [List.getD_eq_getElem?_getD]
  simp [hil]
 rw [e1,h1]
 simp only [Option.getD_some,List.getD_eq_getElem?_getD,h5,h8]
 exact h9
theorem LC {e:TypeId} {T:Type} [Inhabited T] {c:T->List Cl} {ok:T->Prop} (sz:Nat) (ht:P.underlying t=some (.slice e)) (hsz:P.cellsOf e=sz) (hpos:0<sz) (h:HQ P e c ok):HQ P t (fun xs:List T=>[lst sz c xs]) (fun xs=>xs.length<=maxLen/\∀ x∈xs,ok x) :=
 fun enc w base spare held fuel cs x hx=>Ms (S:=false) sz ht hsz hpos fuel (fun n _=>fun enc w base spare held cs x hx _=>h enc w base spare held n cs x hx) enc w base spare held cs x hx sq_no
end
theorem L2_RC {M:Nat->Option Obj} {σ:Nat->Loc} {l:List Cl} {cs:List Value} (h:L2 (RC M) l cs):L2 (R M σ) l cs:=h.mono fun _ _ _ hc=>Lh hc
section
variable {H:Type} {enc:TypeId×Value→H} {P:Program} {W:World} {base b0:Nat} {spare:Nat→Bool} {held:Bool} {r:Reach} {t:TypeId} {v:Value} {d:DataW H} {ps:List MemPlace}
theorem W6 {T:Type} {c:T->List Cl} {ok:T->Prop} (ho:HQ P t c ok) (hs:(∃ fs,P.underlying t=some (.struct fs))\/∃ n e,P.underlying t=some (.array n e)) (hv:Value.okWide P W r b0 t v) (h:DataW.Trod enc P W base spare held t v d ps):∃ a:T,ok a/\∀ σ,RA (MW W) σ (.agg (c a)) v:=by
 have:∃ cs,v=.agg cs:=by
  rcases hs with ⟨fs,hs⟩ | ⟨n,e,hs⟩ <;> simp only [Value.okWide,hs] at hv <;> obtain ⟨cs,h1,_⟩:=hv <;> exact ⟨cs,h1⟩
 obtain ⟨⟨cs⟩,rfl⟩:=this
 obtain ⟨fuel,hx⟩:=h
 obtain ⟨a,h1,h2⟩:=ho enc W base spare held fuel cs _ hx
 exact ⟨a,h1,fun σ=>⟨cs,rfl,L2_RC h2⟩⟩
theorem RH {T:Type} {k:T->Cl} {ok:T->Prop} (ho:HQ P t (fun a=>[k a]) ok) (hs:(∃ e,P.underlying t=some (.slice e))\/(∃ e,P.underlying t=some (.int e))\/P.underlying t=some .bool\/P.underlying t=some .string) (hv:Value.okWide P W r b0 t v) (h:DataW.Trod enc P W base spare held t v d ps):∃ a:T,ok a/\∀ σ,RA (MW W) σ (.one (k a)) v:=by
 have:v.cells.toList=[v]:=by
  rcases hs with ⟨e,hs⟩ | ⟨e,hs⟩ | hs | hs
  ·obtain ⟨p,l,c,rfl⟩:=okWide_slice hs hv;rfl
  ·obtain ⟨n,rfl⟩:=okWide_int hs hv;rfl
  ·obtain ⟨n,rfl⟩:=okWide_bool hs hv;rfl
  obtain ⟨n,rfl⟩:=okWide_string hs hv;rfl
 obtain ⟨fuel,hx⟩:=h
 rw [this] at hx
 obtain ⟨a,h1,h2⟩:=ho enc W base spare held fuel _ _ hx
 refine ⟨a,h1,fun σ => ?_⟩
 cases h2 with | cons h3 _=>exact Lh h3
theorem Jc (hl:laidOutB P=true) {W W':World} (hb:Below W.heap.size W W'):∀ (ts:List TypeId) (vs:List Value) (ds:List (DataW H)) (ps:List MemPlace),(∀ t∈ts,P.readableRec t=true/\t<P.types.size) ->
  DataW.TrodAll enc P W 0 (fun _=>true) true ts vs ds ps->(∀ x∈ps,x.block<W.heap.size)->∀ sp:Nat->Bool,(∀ x∈ps,sp x.block=true)->DataW.TrodAll enc P W' 0 sp true ts vs ds ps
 | [],[],[],ps,_,h,_,_,_=>h
 | [],[],_::_,_,_,h,_,_,_=>h.elim
 | [],_::_,_,_,_,h,_,_,_=>by cases h
 | _::_,[],_,_,_,h,_,_,_=>by cases h
 | _::_,_::_,[],_,_,h,_,_,_=>h.elim
 | t::ts,v::vs,d::ds,ps,hr,h,hlt,sp,hsp=>by
  obtain ⟨p,q,h1,h2,rfl⟩:=h
  have hr1:=hr t (List.mem_cons_self ..)
  exact ⟨p,q,WideElems.Trod_stays hl hr1.1 hr1.2 h1 (fun x hx=>hb.same (hlt x (List.mem_append_left _ hx))) (fun x hx=>hsp x (List.mem_append_left _ hx)),
   Jc hl hb ts vs ds q (fun t' ht=>hr t' (List.mem_cons_of_mem _ ht)) h2 (fun x hx=>hlt x (List.mem_append_right _ hx)) sp (fun x hx=>hsp x (List.mem_append_right _ hx)),rfl⟩
theorem XZ {f:Func} {s:ChangeSpec} {W W':World} {args:Array Value} {ds gs:List (DataW H)} {before:List MemPlace} {tb:TypeId}
  (hW:DataW.Whole enc P f.params.toList s.vars false W args.toList ds gs before) (hvars:s.vars=[]) (hspec:s.fn H (ds++[])={ results:=[.lit (.bool true)],args:=ds })
  (hl:laidOutB P=true) (hr:∀ t∈f.params.toList,P.readableRec t=true/\t<P.types.size) (hres:f.resultTypes = #[tb]) (htb:P.underlying tb=some .bool) (hb:Below W.heap.size W W') :
  s.post enc P f false true false false W args (.bool true) W':=by
 have hlt:∀ p∈before,p.block<W.heap.size:=fun p hp=>hW.lt p hp
 have hW':=hW
 obtain ⟨p,q,hA,hV,rfl,hz,hn⟩:=hW
 rw [hvars] at hV
 obtain ⟨rfl,rfl⟩:=trodVars_none hV
 refine ⟨ds,[],p++[],[],p,[],hW',?_,?_,?_,World.keptBut_mono (fun x hx=>⟨hx,?_⟩) (hb.frame (·∈p++[])),fun h=>by cases h⟩
 ·rw [hspec,hres]
  exact trodAll_cons_mk (shut_bool htb true) trodAll_mk0
 ·rw [hspec]
  exact Jc hl hb _ _ _ _ hr hA (fun x hx=>hlt x (List.mem_append_left _ hx)) _ (fun x hx=>by simpa using hlt x (List.mem_append_left _ hx))
 ·rw [hspec,hvars]
  exact rfl
 rw [List.mem_append] at hx
 exact Or.inr (by simpa using hx)
theorem Rb {f:FuncId} {xs:List Av} {args:List Value} {ans:Bool} (h:FG P f xs (.av (.one (.b ans)))) (ha:ans=true) (hx:L2 (fun x v=>∀ σ,RA (MW W) σ x v) xs args):Calls P f args.toArray W fun e W'=>e=.returned (.bool true)/\Below W.heap.size W W':=by
 subst ha
 refine (h (MW W) (fun _=>⟨0,0,false⟩) W args (fun _ _ h=>h) (hx.mono fun _ _ _ h=>h _)).mono ?_
 rintro en w' ⟨U,rfl,M',hk,hR⟩
 have:U=.bool true:=(hR (fun _=>⟨0,0,false⟩)).1
 subst this
 exact ⟨rfl,hk.os,hk.tape,hk.output,hk.size,fun b hb=>hk.old b hb (fun h=>h)⟩
theorem RU {n:Nat} (h:n<=maxLen):(n:Int)<=9223372036854775807:=by
 have:maxLen<=9223372036854775807:=by decide
 omega
end
end
section
open Go.RowKit
def Av.map (g:Cl->Cl):Av->Av
 | .one c=>.one (g c)
 | .agg l=>.agg (l.map g)
def Tv.map (g:Cl->Cl):Tv->Tv
 | .av x=>.av (x.map g)
 | .tup l=>.tup (l.map (Av.map g))
 | .grd p x=>.grd p (x.map g)
def Blk.map (g:Cl->Cl):Blk->Blk
 | .cells l ty=>.cells (l.map g) ty
 | .rowx sz len f ty hs=>.rowx sz len f ty (hs.map fun p=>(p.1,p.2.map g))
 | b=>b
def RV {α:Type} (F:α->α):List (Nat×α)->List (Nat×α)
 | []=>[]
 | (k,v)::r=>(k,F v)::RV F r
theorem Rn {α β:Type} (F:α->β) (l:List (Nat×α)) (n:Nat):get (l.map fun p=>(p.1,F p.2)) n=(get l n).map F:=by
 induction l with
 | nil=>rfl
 | cons p r ih =>
  obtain ⟨k,v⟩:=p
  simp only [List.map_cons,get,Ce]
  by_cases h:k=n
  ·simp [h]
  simp only [h,decide_false,cond_false,ih]
theorem Ee {α:Type} (F:α->α) (l:List (Nat×α)) (n:Nat):get (RV F l) n=(get l n).map F:=by
 induction l with
 | nil=>rfl
 | cons p r ih =>
  obtain ⟨k,v⟩:=p
  simp only [RV,get,Ce]
  by_cases h:k=n
  ·simp [h]
  simp only [h,decide_false,cond_false,ih]
def Nr (p:Cl->Prop):Av->Prop
 | .one c=>p c
 | .agg l=>∀ c∈l,p c
def Ya (p:Cl->Prop):Tv->Prop
 | .av x=>Nr p x
 | .tup l=>∀ x∈l,Nr p x
 | .grd _ x=>Nr p x
def dE (p:Cl->Prop):Blk->Prop
 | .cells l _=>∀ c∈l,p c
 | .rowx _ _ _ _ hs=>∀ i l,get hs i=some l->∀ c∈l,p c
 | _=>True
section
variable {M M':Nat→Option Obj} {σ σ':Nat→Loc} {g:Cl→Cl} {p:Cl→Prop}
theorem Ta (h:∀ c V,p c->R M σ c V->R M' σ' (g c) V):∀ {x:Av} {V:Value},Nr p x->RA M σ x V->RA M' σ' (x.map g) V
 | .one c,V,hp,hx=>h c V hp hx
 | .agg l,V,hp,⟨vs,h1,h2⟩=>by
  refine ⟨vs,h1,?_⟩
  replace hp:∀ c∈l,p c:=hp
  clear h1
  induction h2 with
  | nil=>exact .nil
  | cons h3 _ ih=>exact .cons (h _ _ (hp _ (by simp)) h3) (ih fun c hc=>hp c (by simp [hc]))
theorem TX (h:∀ c V,p c->R M σ c V->R M' σ' (g c) V):∀ {x:Tv} {V:Value},Ya p x->RT M σ x V->RT M' σ' (x.map g) V
 | .av x,V,hp,hx=>Ta h hp hx
 | .tup l,V,hp,⟨vs,h1,h2⟩=>by
  refine ⟨vs,h1,?_⟩
  replace hp:∀ c∈l,Nr p c:=hp
  clear h1
  induction h2 with
  | nil=>exact .nil
  | cons h3 _ ih=>exact .cons (Ta h (hp _ (by simp)) h3) (ih fun c hc=>hp c (by simp [hc]))
 | .grd q x,V,hp,hx=>⟨fun hq=>Ta h hp (hx.1 hq),hx.2⟩
theorem Qf (h:∀ c V,p c->R M σ c V->R M' σ' (g c) V) {l:List Cl} {vs:List Value} (hp:∀ c∈l,p c) (h2:L2 (R M σ) l vs):L2 (R M' σ') (l.map g) vs:=by
 induction h2 with
 | nil=>exact .nil
 | cons h3 _ ih=>exact .cons (h _ _ (hp _ (by simp)) h3) (ih fun c hc=>hp c (by simp [hc]))
end
theorem Mf {M M':Nat->Option Obj} {σ σ':Nat->Loc} {g:Cl->Cl} {p:Cl->Prop} {w:World} {x:Loc} {sz len:Nat} {f:Nat->Nat->Cl} {ty:TypeId} {hs:List (Nat×List Cl)} (hM:∀ b o,M b=some o->M' b=some o) (h:∀ c V,p c->R M σ c V->R M' σ' (g c) V) (hp:dE p (.rowx sz len f ty hs)) (h0:Bv M σ w x (.rowx sz len f ty hs)) :
  Bv M' σ' w x (Blk.map g (.rowx sz len f ty hs)):=by
 obtain ⟨e0,c,e1,e2,e3,e4,gv,e5,e6⟩:=h0
 refine ⟨e0,c,e1,e2,e3,e4,gv,fun i j hi hj=>⟨(e5 i j hi hj).1,fun hn=>Dl hM ((e5 i j hi hj).2 ?_)⟩,fun i l hl => ?_⟩
 ·rw [Rn] at hn
  cases hg:get hs i with
  | none=>rfl
  | some l=>rw [hg] at hn;cases hn
 rw [Rn] at hl
 cases hg:get hs i with
 | none=>rw [hg] at hl;cases hl
 | some l0 =>
  rw [hg] at hl
  simp only [Option.map_some,Option.some.injEq] at hl
  subst hl
  exact ⟨(e6 i l0 hg).1,Qf h (hp i l0 hg) (e6 i l0 hg).2⟩
def fzC (n sz len:Nat) (f:Nat->Nat->Cl):Cl->Cl
 | .own m s l=>bif Nat.beq m n then .list false sz len f else .own m s l
 | c=>c
def fzP (n sz len:Nat):Cl->Prop
 | .own m s l=>bif Nat.beq m n then l=len/\s=sz else True
 | _=>True
def fzS (n sz len:Nat) (f:Nat->Nat->Cl) (s:AS):AS:=⟨RV (Tv.map (fzC n sz len f)) s.t,del (RV (Blk.map (fzC n sz len f)) s.h) n⟩
def Td (p:Cl->Prop):List (Nat×Tv)->Prop
 | []=>True
 | (_,v)::r=>Ya p v/\Td p r
def Te (p:Cl->Prop):List (Nat×Blk)->Prop
 | []=>True
 | (_,v)::r=>dE p v/\Te p r
theorem Td.get {p:Cl->Prop}:∀ {l:List (Nat×Tv)},Td p l->∀ i v,get l i=some v->Ya p v
 | [],_,i,v,h=>by cases h
 | (k,u)::r,h,i,v,hg=>by
  simp only [Go.Proofs.Ytdbampcfmjbgmaa.get,Ce] at hg
  by_cases hk:k=i
  ·simp [hk] at hg;subst hg;exact h.1
  simp [hk] at hg;exact Td.get h.2 i v hg
theorem Te.get {p:Cl->Prop}:∀ {l:List (Nat×Blk)},Te p l->∀ i v,get l i=some v->dE p v
 | [],_,i,v,h=>by cases h
 | (k,u)::r,h,i,v,hg=>by
  simp only [Go.Proofs.Ytdbampcfmjbgmaa.get,Ce] at hg
  by_cases hk:k=i
  ·simp [hk] at hg;subst hg;exact h.1
  simp [hk] at hg;exact Te.get h.2 i v hg
section
variable {P:Program} {rd:Option Nat} {N:Nat} {W0:World} {X:Nat→Option Loc} {M0 M:Nat→Option Obj} {σ:Nat→Loc} {w:World} {a:Act} {Q:Exit→AS→Prop} {s:AS}
theorem ZZ:∀ {l:List Nat} {n:Nat},BM l n=true->n∈l
 | [],n,h=>by cases h
 | k::r,n,h=>by
  unfold BM at h
  cases hb:Nat.beq k n with
  | true=>rw [Nat.eq_of_beq_eq_true hb];exact List.mem_cons_self ..
  | false=>rw [hb] at h;exact List.mem_cons_of_mem _ (ZZ h)
def xok (K:List Nat) (n:Nat) (s:AS):Bool:=K.all fun k => !Nat.beq k n&&(match get s.h k with
  | some (.cells ..)=>true
  | _=>false)
theorem WU {K:List Nat} {n:Nat} (hX:∀ k x,X k=some x->BM K k=true) (hK:xok K n s=true) (hs:Sim N W0 X M0 M σ (get s.t) (get s.h) a w) {b0:Blk} (hn:get s.h n=some b0) (hnil:(σ n).nil=false):¬ inX X (σ n).b:=by
 rintro ⟨k,x,hk,hx⟩
 have h0:=List.all_eq_true.1 hK k (ZZ (hX k x hk))
 simp only [Bool.and_eq_true] at h0
 obtain ⟨h1,h2⟩:=h0
 have hne:n≠k:=(Kx h1).symm
 split at h2
 ·rename_i l ty hg
  have hnk:(σ k).nil=false:=(hs.blk k _ hg).1
  have hp:=(hs.pin k x hk).2
  rcases hs.inj n k _ _ hn hg hne with h3 | h3 | h3
  ·rw [hnil] at h3;cases h3
  ·rw [hnk] at h3;cases h3
  rw [hp] at h3;exact h3 hx.symm
 cases h2
theorem SX {K:List Nat} (n sz len:Nat) (f:Nat->Nat->Cl) (ty:TypeId) (hX:∀ k x,X k=some x->BM K k=true) (hK:xok K n s=true) (hn:get s.h n=some (.row sz len f ty)) (ht:Td (fzP n sz len) s.t) (hb:Te (fzP n sz len) s.h) (hs:Sim N W0 X M0 M σ (get s.t) (get s.h) a w):∃ M',Sim N W0 X M0 M' σ (get (fzS n sz len f s).t) (get (fzS n sz len f s).h) a w:=by
 have hrow:=hs.blk n _ hn
 -- the new M
 obtain ⟨M',hsub,hnew,himm,hother,hR⟩:∃ M':Nat->Option Obj,(∀ b o,M b=some o->M' b=some o)/\(∀ b o,M' b=some o->M b=none->W0.heap.size<=b)/\(∀ b o,M' b=some o->w.heap[b]? = some o)/\(∀ b,((σ n).nil=true\/b≠(σ n).b)->M' b=M b) /\
   (∀ c V,fzP n sz len c->R M σ c V->R M' σ (fzC n sz len f c) V):=by
  cases hnil:(σ n).nil with
  | true =>
   have hl0:len=0:=by
    rcases hrow with ⟨_,h⟩ | ⟨h,_⟩
    ·exact h
    rw [hnil] at h;cases h
   subst hl0
   refine ⟨M,fun _ _ h=>h,fun b o h1 h2=>(by rw [h1] at h2;cases h2),hs.imm,fun _ _=>rfl,fun c V hp hc => ?_⟩
   cases c with
   | own m s' l =>
    simp only [fzC,fzP] at *
    cases hm:Nat.beq m n with
    | false=>exact hc
    | true =>
     rw [hm] at hp
     obtain ⟨rfl,rfl⟩:=hp
     have:=Nat.eq_of_beq_eq_true hm
     subst this
     simp only [R,hnil,if_true] at hc
     rw [hc.2]
     exact .nil _ _ _ rfl
   | _=>exact hc
  | false =>
   rcases hrow with ⟨h,_⟩ | ⟨_,cc,hcc,hsz,hlc,hcm,gg,hgg⟩
   ·rw [hnil] at h;cases h
   have hloc:M (σ n).b=none/\W0.heap.size<=(σ n).b:=by
    rcases hs.loc n _ hn with h | ⟨h1,h2 | h2⟩
    ·rw [hnil] at h;cases h
    ·exact ⟨h1,h2⟩
    exact absurd h2 (WU hX hK hs hn hnil)
   refine ⟨fun b=>if b=(σ n).b then w.heap[b]? else M b,fun b o h1 => ?_,fun b o h1 h2 => ?_,fun b o h1 => ?_,fun b hb => ?_,fun c V hp hc => ?_⟩
   ·by_cases hb:b=(σ n).b
    ·subst hb;rw [hloc.1] at h1;cases h1
    simp only [hb,if_false];exact h1
   ·by_cases hb:b=(σ n).b
    ·subst hb;exact hloc.2
    simp only [hb,if_false] at h1;rw [h1] at h2;cases h2
   ·by_cases hb:b=(σ n).b
    ·simp only [hb,if_true] at h1;rw [hb];exact h1
    simp only [hb,if_false] at h1;exact hs.imm b o h1
   ·rcases hb with hb | hb
    ·cases hb
    simp only [hb,if_false]
   have hsub:∀ b o,M b=some o->(fun b=>if b=(σ n).b then w.heap[b]? else M b) b=some o:=fun b o h1=>by
    by_cases hb:b=(σ n).b
    ·subst hb;rw [hloc.1] at h1;cases h1
    simp only [hb,if_false];exact h1
   have hmono:∀ c V,R M σ c V->R (fun b=>if b=(σ n).b then w.heap[b]? else M b) σ c V:=fun c V h=>DM hsub (fun _ _=>rfl) h
   cases c with
   | own m s' l =>
    simp only [fzC,fzP] at *
    cases hm:Nat.beq m n with
    | false=>exact hmono _ _ hc
    | true =>
     rw [hm] at hp
     obtain ⟨rfl,rfl⟩:=hp
     have:=Nat.eq_of_beq_eq_true hm
     subst this
     simp only [R,hnil,Bool.false_eq_true,if_false] at hc
     rw [hc]
     refine .list _ _ _ _ _ 0 _ gg (fun i j hi hj => ?_) (fun i j hi hj=>Dl hsub (hgg i j hi hj).2) hlc (fun h=>by cases h)
     unfold D4
     simp only [if_true,hcc,Nat.zero_add]
     exact (hgg i j hi hj).1
   | _=>exact hmono _ _ hc
 refine ⟨M',hs.os,hs.tape,hs.output,hs.size,hs.old,fun b o h1=>hsub b o (hs.sub b o h1),fun b o h1 h2 => ?_,hs.pin,hs.defers.mono hsub,hs.room,fun i v hv => ?_,himm,fun m b hb' => ?_,fun m b hb' => ?_,fun m k b c h1 h2 => ?_⟩
 ·cases hM:M b with
  | none=>exact hnew b o h1 hM
  | some o'=>exact hs.new b o' hM h2
 ·simp only [fzS,Ee] at hv
  cases hg:get s.t i with
  | none=>rw [hg] at hv;cases hv
  | some v0 =>
   rw [hg] at hv
   simp only [Option.map_some,Option.some.injEq] at hv
   subst hv
   exact TX hR (ht.get i v0 hg) (hs.tmps i v0 hg)
 ·simp only [fzS,G3,Ee] at hb'
  split at hb'
  ·cases hb'
  rename_i hne
  cases hg:get s.h m with
  | none=>rw [hg] at hb';cases hb'
  | some b0 =>
   rw [hg] at hb'
   simp only [Option.map_some,Option.some.injEq] at hb'
   subst hb'
   have h0:=hs.blk m b0 hg
   cases b0 with
   | cells l ty' =>
    obtain ⟨h1,cc,h2,h3⟩:=h0
    exact ⟨h1,cc,h2,Qf hR (hb.get m _ hg) h3⟩
   | row=>exact Bv.mono hsub (fun _ _=>rfl) (fun _=>rfl) h0
   | omap=>exact Bv.mono hsub (fun _ _=>rfl) (fun _=>rfl) h0
   | rowx=>exact Mf hsub hR (hb.get m _ hg) h0
 ·simp only [fzS,G3,Ee] at hb'
  split at hb'
  ·cases hb'
  rename_i hne
  cases hg:get s.h m with
  | none=>rw [hg] at hb';cases hb'
  | some b0 =>
   rcases hs.loc m b0 hg with h1 | ⟨h1,h2⟩
   ·exact .inl h1
   by_cases hmn:(σ m).nil=true
   ·exact .inl hmn
   refine .inr ⟨?_,h2⟩
   rw [hother]
   ·exact h1
   rcases hs.inj n m _ _ hn hg hne with h3 | h3 | h3
   ·exact .inl h3
   ·exact absurd h3 hmn
   exact .inr (Ne.symm h3)
 simp only [fzS,G3,Ee] at h1 h2
 split at h1
 ·cases h1
 split at h2
 ·cases h2
 intro hne
 cases hg:get s.h m with
 | none=>rw [hg] at h1;cases h1
 | some b0 =>
  cases hg2:get s.h k with
  | none=>rw [hg2] at h2;cases h2
  | some c0=>exact hs.inj m k b0 c0 hg hg2 hne
def Cv (N:Nat) (W0:World) (X:Nat->Option Loc) (M0:Nat->Option Obj) (s t:AS):Prop:=∀ M σ a w,Sim N W0 X M0 M σ (get s.t) (get s.h) a w->∃ M' σ',Sim N W0 X M0 M' σ' (get t.t) (get t.h) a w
theorem Cv.refl (s:AS):Cv N W0 X M0 s s:=fun M σ _ _ hs=>⟨M,σ,hs⟩
theorem Cv.trans {s t u:AS} (h:Cv N W0 X M0 s t) (k:Cv N W0 X M0 t u):Cv N W0 X M0 s u:=fun M σ a w hs=>(h M σ a w hs).elim fun M' h1=>h1.elim fun σ' h2=>k M' σ' a w h2
theorem UY {s:AS} (ts ns:List Nat) (S:AS) (hS:Js ts ns s=S):Cv N W0 X M0 s S:=fun M σ _ _ hs=>⟨M,σ,hS▸FA hs ts ns⟩
theorem cR {s:AS} {K:List Nat} (S:AS) (n sz len:Nat) (f:Nat->Nat->Cl) (ty:TypeId) (hX:∀ k x,X k=some x->BM K k=true) (hK:xok K n s=true) (hn:get s.h n=some (.row sz len f ty)) (ht:Td (fzP n sz len) s.t) (hb:Te (fzP n sz len) s.h) (hS:fzS n sz len f s=S):Cv N W0 X M0 s S:=by
 subst hS
 intro M σ a w hs
 obtain ⟨M',h1⟩:=SX n sz len f ty hX hK hn ht hb hs
 exact ⟨M',σ,h1⟩
theorem BN {c:Code} {s S:AS} (h:Cv N W0 X M0 s S) (k:AWp P rd N W0 X M0 c Q S):AWp P rd N W0 X M0 c Q s:=fun M σ a w hs=>(h M σ a w hs).elim fun M' h1=>h1.elim fun σ' h2=>k M' σ' a w h2
theorem EF {c:Code} {s:AS} (h:AWp P rd N W0 X M0 c (fun e s=>∃ t,Cv N W0 X M0 s t/\Q e t) s):AWp P rd N W0 X M0 c Q s:=by
 intro M σ a w hs
 refine wpIn_mono (h M σ a w hs) ?_
 rintro e a' w' ⟨s',M',σ',⟨t,h1,h2⟩,h3⟩
 obtain ⟨M'',σ'',h4⟩:=h1 M' σ' a' w' h3
 exact ⟨t,M'',σ'',h2,h4⟩
theorem Bz {c:Code} {K:AS->Prop} {s:AS} (S:AS) (h1:AWp P rd N W0 X M0 c (ATh (fun s'=>Cv N W0 X M0 s' S) Q) s) (h2:K S):AWp P rd N W0 X M0 c (ATh K Q) s:=by
 intro M σ a w hs
 refine wpIn_mono (h1 M σ a w hs) ?_
 rintro e a' w' ⟨s',M',σ',h3,h4⟩
 cases e with
 | normal =>
  obtain ⟨M'',σ'',h5⟩:=(show Cv N W0 X M0 s' S from h3) M' σ' a' w' h4
  exact ⟨_,M'',σ'',h2,h5⟩
 | _=>exact ⟨s',M',σ',h3,h4⟩
theorem BH {ι:Type} {c:Code} (S:ι->AS) (Inv:ι->Prop) (μ:ι->Nat) (round:∀ x,Inv x->AWp P rd N W0 X M0 c (ATh (fun s'=>∃ y,Inv y/\μ y<μ x/\Cv N W0 X M0 s' (S y)) Q) (S x)) (x:ι) (hx:Inv x):AWp P rd N W0 X M0 (.loop c) Q (S x):=by
 refine Zq S Inv μ (fun x hx => ?_) x hx
 intro M σ a w hs
 refine wpIn_mono (round x hx M σ a w hs) ?_
 rintro e a' w' ⟨s',M',σ',h1,h2⟩
 cases e with
 | normal =>
  obtain ⟨y,hy,hm,hc⟩:=h1
  obtain ⟨M'',σ'',h5⟩:=hc M' σ' a' w' h2
  exact ⟨S y,M'',σ'',⟨y,hy,hm,rfl⟩,h5⟩
 | _=>exact ⟨s',M',σ',h1,h2⟩
end
end
section
open Go.RowKit
def Pk (q d:Nat):Cl->Cl
 | .ptr n off=>.ptr (bif Nat.beq n q then d else n) off
 | .own n sz len=>.own (bif Nat.beq n q then d else n) sz len
 | .rptr n sz i off=>.rptr (bif Nat.beq n q then d else n) sz i off
 | .om n=>.om (bif Nat.beq n q then d else n)
 | .clo f k caps=>.clo f k (CU ((List.range k).map fun i=>Pk q d (caps i)))
 | c=>c
theorem T8 {n d:Nat} (h:(!Nat.beq n d)=true):n≠d:=Kx h
theorem Li {M:Nat->Option Obj} {σ:Nat->Loc} (q d:Nat):∀ {c:Cl} {V:Value},c.no d=true->R M σ c V->R M (upd σ d (σ q)) (Pk q d c) V
 | .val _,_,_,h=>h
 | .ptr n off,V,hd,h=>by
  have hne:=T8 hd
  simp only [Pk,R,Ce] at *
  by_cases hq:n=q
  ·subst hq;simp only [decide_true,cond_true,BP];exact h
  simp only [hq,decide_false,cond_false,CS _ _ hne];exact h
 | .own n sz len,V,hd,h=>by
  have hne:=T8 hd
  simp only [Pk,R,Ce] at *
  by_cases hq:n=q
  ·subst hq;simp only [decide_true,cond_true,BP];exact h
  simp only [hq,decide_false,cond_false,CS _ _ hne];exact h
 | .rptr n sz i off,V,hd,h=>by
  have hne:=T8 hd
  simp only [Pk,R,Ce] at *
  by_cases hq:n=q
  ·subst hq;simp only [decide_true,cond_true,BP];exact h
  simp only [hq,decide_false,cond_false,CS _ _ hne];exact h
 | .om n,V,hd,h=>by
  have hne:=T8 hd
  simp only [Pk,R,Ce] at *
  by_cases hq:n=q
  ·subst hq;simp only [decide_true,cond_true,BP];exact h
  simp only [hq,decide_false,cond_false,CS _ _ hne];exact h
 | .list ..,_,_,h=>h
 | .eptr ..,_,_,h=>h
 | .mp ..,_,_,h=>h
 | .any,_,_,h=>h
 | .clo f k caps,V,hd,h=>by
  obtain ⟨cs,h1,h2,h3⟩:=h
  refine ⟨cs,h1,h2,fun i hi => ?_⟩
  rw [Kf _ hi]
  refine Li q d ?_ (h3 i hi)
  simp only [Cl.no,List.all_eq_true] at hd
  exact hd i (by simpa using hi)
def Yy (q d:Nat):List (Nat×Blk)->List (Nat×Blk)
 | []=>[]
 | (k,v)::r=>(bif Nat.beq k q then d else k,v.map (Pk q d))::Yy q d r
theorem Gg {q d:Nat}:∀ {l:List (Nat×Blk)},get l d=none->∀ m b,get (Yy q d l) m=some b->∃ m0 b0,get l m0=some b0/\b=b0.map (Pk q d)/\((m0=q/\m=d)\/(m0≠q/\m0=m/\m≠d))
 | [],_,m,b,h=>by cases h
 | (k,v)::r,hd,m,b,h=>by
  simp only [get,Ce] at hd
  by_cases hkd:k=d
  ·simp [hkd] at hd
  simp only [hkd,decide_false,cond_false] at hd
  simp only [Yy,get,Ce] at h
  by_cases hkq:k=q
  ·simp only [hkq,decide_true,cond_true] at h
   by_cases hdm:d=m
   ·simp only [hdm,decide_true,cond_true,Option.some.injEq] at h
    exact ⟨q,v,by simp [get,Ce,hkq],by rw [hdm];exact h.symm,.inl ⟨rfl,hdm.symm⟩⟩
   simp only [hdm,decide_false,cond_false] at h
   obtain ⟨m0,b0,h1,h2,h3⟩:=Gg hd m b h
   refine ⟨m0,b0,?_,h2,h3⟩
   rcases h3 with ⟨_,h4⟩ | ⟨h4,_⟩
   ·exact absurd h4.symm hdm
   simp only [get,Ce]
   have:¬ k=m0:=fun e=>h4 (e▸hkq)
   simp [this,h1]
  simp only [hkq,decide_false,cond_false] at h
  by_cases hkm:k=m
  ·simp only [hkm,decide_true,cond_true,Option.some.injEq] at h
   exact ⟨k,v,by simp [get,Ce],h.symm,.inr ⟨hkq,hkm,hkm▸hkd⟩⟩
  simp only [hkm,decide_false,cond_false] at h
  obtain ⟨m0,b0,h1,h2,h3⟩:=Gg hd m b h
  refine ⟨m0,b0,?_,h2,h3⟩
  simp only [get,Ce]
  have:¬ k=m0:=by
   rcases h3 with ⟨h4,_⟩ | ⟨_,h4,_⟩
   ·rw [h4];exact hkq
   rw [h4];exact hkm
  simp [this,h1]
def noD (d:Nat) (s:AS):Bool:=s.t.all (fun p=>p.2.no d)&&s.h.all (fun p=>p.2.no d)&&(match get s.h d with
 | none=>true
 | _=>false)
def P5 (K:List Nat) (n:Nat):Bool:=K.all fun k => !Nat.beq k n
def Yx (q d:Nat) (s:AS):AS:=⟨RV (Tv.map (Pk q d)) s.t,Yy q d s.h⟩
theorem Zr {d:Nat} {v:Tv} (h:v.no d=true):Ya (fun c=>c.no d=true) v:=by
 have av:∀ x:Av,x.no d=true->Nr (fun c=>c.no d=true) x:=fun x hx=>by
  cases x with
  | one c=>exact hx
  | agg l=>exact fun c hc=>(List.all_eq_true.1 hx) c hc
 cases v with
 | av x=>exact av x h
 | tup l=>exact fun x hx=>av x ((List.all_eq_true.1 h) x hx)
 | grd g x=>exact av x h
section
variable {P:Program} {rd:Option Nat} {N:Nat} {W0:World} {X:Nat→Option Loc} {M0 M:Nat→Option Obj} {σ:Nat→Loc} {w:World} {a:Act} {Q:Exit→AS→Prop} {s:AS}
theorem aB {d:Nat} (h:noD d s=true) {i:Nat} {v:Tv} (hg:get s.t i=some v):v.no d=true:=by
 simp only [noD,Bool.and_eq_true,List.all_eq_true] at h
 exact h.1.1 _ (De hg)
theorem aC {d:Nat} (h:noD d s=true) {i:Nat} {v:Blk} (hg:get s.h i=some v):v.no d=true:=by
 simp only [noD,Bool.and_eq_true,List.all_eq_true] at h
 exact h.1.2 _ (De hg)
theorem aD {d:Nat} (h:noD d s=true):get s.h d=none:=by
 simp only [noD,Bool.and_eq_true] at h
 have:=h.2
 split at this
 ·assumption
 cases this
theorem cQ {K:List Nat} (S:AS) (q d:Nat) (hX:∀ k x,X k=some x->BM K k=true) (h1:P5 K q=true) (h2:P5 K d=true) (hd:noD d s=true) (hS:Yx q d s=S):Cv N W0 X M0 s S:=by
 subst hS
 intro M σ a w hs
 have hg:=aD hd
 have hu:∀ n,n≠d->upd σ d (σ q) n=σ n:=fun n hn=>CS _ _ hn
 have hud:upd σ d (σ q) d=σ q:=BP _ _ _
 refine ⟨M,upd σ d (σ q),⟨hs.os,hs.tape,hs.output,hs.size,hs.old,hs.sub,hs.new,fun n x hx => ?_,hs.defers,hs.room,fun i v hv => ?_,hs.imm,fun m b hb => ?_,fun m b hb => ?_,fun m k b b' hb hb' hne => ?_⟩⟩
 ·have hne:n≠d:=Kx (List.all_eq_true.1 h2 n (ZZ (hX n x hx)))
  rw [hu n hne]
  exact hs.pin n x hx
 ·simp only [Yx,Ee] at hv
  cases hgi:get s.t i with
  | none=>rw [hgi] at hv;cases hv
  | some v0 =>
   rw [hgi] at hv
   simp only [Option.map_some,Option.some.injEq] at hv
   subst hv
   exact TX (p:=fun c=>c.no d=true) (fun c V hp hc=>Li q d hp hc) (Zr (aB hd hgi)) (hs.tmps i v0 hgi)
 ·obtain ⟨m0,b0,g1,rfl,g3⟩:=Gg hg m b hb
  have hloc:upd σ d (σ q) m=σ m0:=by
   rcases g3 with ⟨rfl,rfl⟩ | ⟨_,rfl,h4⟩
   ·exact hud
   exact hu _ h4
  rw [hloc]
  have h0:=hs.blk m0 b0 g1
  have hno:=aC hd g1
  cases b0 with
  | cells l ty =>
   obtain ⟨e1,cc,e2,e3⟩:=h0
   exact ⟨e1,cc,e2,Qf (p:=fun c=>c.no d=true) (fun c V hp hc=>Li q d hp hc) (fun c hc=>(List.all_eq_true.1 hno) c hc) e3⟩
  | row=>exact h0
  | omap=>exact h0
  | rowx=>exact Mf (p:=fun c=>c.no d=true) (fun _ _ h=>h) (fun c V hp hc=>Li q d hp hc) (fun i l hl c hc=>List.all_eq_true.1 (List.all_eq_true.1 hno _ (De hl)) c hc) h0
 ·obtain ⟨m0,b0,g1,rfl,g3⟩:=Gg hg m b hb
  have hloc:upd σ d (σ q) m=σ m0:=by
   rcases g3 with ⟨rfl,rfl⟩ | ⟨_,rfl,h4⟩
   ·exact hud
   exact hu _ h4
  rw [hloc]
  exact hs.loc m0 b0 g1
 obtain ⟨m0,b0,g1,rfl,g3⟩:=Gg hg m b hb
 obtain ⟨k0,b0',g1',rfl,g3'⟩:=Gg hg k b' hb'
 have hl1:upd σ d (σ q) m=σ m0:=by
  rcases g3 with ⟨rfl,rfl⟩ | ⟨_,rfl,h4⟩
  ·exact hud
  exact hu _ h4
 have hl2:upd σ d (σ q) k=σ k0:=by
  rcases g3' with ⟨rfl,rfl⟩ | ⟨_,rfl,h4⟩
  ·exact hud
  exact hu _ h4
 rw [hl1,hl2]
 refine hs.inj m0 k0 b0 b0' g1 g1' ?_
 rintro rfl
 rcases g3 with ⟨e1,e2⟩ | ⟨e1,e2,_⟩ <;> rcases g3' with ⟨e3,e4⟩ | ⟨e3,e4,_⟩
 ·exact hne (e2.trans e4.symm)
 ·exact e3 e1
 ·exact e1 e3
 exact hne (e2.symm.trans e4)
def cA (n:Nat):List Nat->Bool
 | []=>false
 | k::r=>Nat.beq k n||cA n r
def RO (d sz:Nat):Cl->Cl
 | .val (.slice none 0 0)=>.own d sz 0
 | c=>c
def mapIx (g:Cl->Cl) (is:List Nat):Nat->List Cl->List Cl
 | _,[]=>[]
 | k,c::r=>(bif cA k is then g c else c)::mapIx g is (k+1) r
def Av.mapIx (g:Cl->Cl) (is:List Nat):Av->Av
 | .one c=>.one (bif cA 0 is then g c else c)
 | .agg l=>.agg (Go.Proofs.Ytdbampcfmjbgmaa.mapIx g is 0 l)
def Tv.mapIx (g:Cl->Cl) (is:List Nat):Tv->Tv
 | .av x=>.av (x.mapIx g is)
 | v=>v
def VS (g:Cl->Cl) (is:List Nat):Nat->List (Nat×List Cl)->List (Nat×List Cl)
 | _,[]=>[]
 | k,(m,l)::r=>(m,Go.Proofs.Ytdbampcfmjbgmaa.mapIx g is k l)::VS g is (k+l.length) r
def Blk.mapIx (g:Cl->Cl) (is:List Nat):Blk->Blk
 | .cells l ty=>.cells (Go.Proofs.Ytdbampcfmjbgmaa.mapIx g is 0 l) ty
 | .rowx sz len f ty hs=>.rowx sz len f ty (VS g is 0 hs)
 | b=>b
theorem Ro (g:Cl->Cl) (is:List Nat):∀ (hs:List (Nat×List Cl)) (k i:Nat) (l:List Cl),get (VS g is k hs) i=some l->∃ k' l0,get hs i=some l0/\l=Go.Proofs.Ytdbampcfmjbgmaa.mapIx g is k' l0
 | [],k,i,l,h=>by cases h
 | (m,l0)::r,k,i,l,h=>by
  simp only [VS,get,Ce] at h ⊢
  by_cases e:m=i
  ·simp [e] at h;exact ⟨k,l0,by simp [e],h.symm⟩
  simp only [e,decide_false,cond_false] at h ⊢
  exact Ro g is r _ i l h
theorem Ig (g:Cl->Cl) (is:List Nat):∀ (hs:List (Nat×List Cl)) (k i:Nat),get (VS g is k hs) i=none->get hs i=none
 | [],k,i,h=>rfl
 | (m,l0)::r,k,i,h=>by
  simp only [VS,get,Ce] at h ⊢
  by_cases e:m=i
  ·simp [e] at h
  simp only [e,decide_false,cond_false] at h ⊢
  exact Ig g is r _ i h
def OG {α:Type} (F:List Nat->α->α) (is:List (Nat×List Nat)):List (Nat×α)->List (Nat×α)
 | []=>[]
 | (k,v)::r=>(k,F ((get is k).getD []) v)::OG F is r
theorem OQ {α:Type} (F:List Nat->α->α) (is:List (Nat×List Nat)) (l:List (Nat×α)) (n:Nat):get (OG F is l) n=(get l n).map (F ((get is n).getD [])):=by
 induction l with
 | nil=>rfl
 | cons p r ih =>
  obtain ⟨k,v⟩:=p
  simp only [OG,get,Ce]
  by_cases h:k=n
  ·simp [h]
  simp only [h,decide_false,cond_false,ih]
theorem T9 {d sz:Nat} {x:Loc} (hx:x.nil=true):∀ {c:Cl} {V:Value},c.no d=true->R M σ c V->∀ t:Bool,R M (upd σ d x) (bif t then RO d sz c else c) V:=by
 intro c V hd hc t
 have keep:R M (upd σ d x) c V:=DM (fun _ _ h=>h) (fun n hn=>by
  by_cases e:n=d
  ·subst e;rw [hd] at hn;cases hn
  exact CS _ _ e) hc
 cases t with
 | false=>exact keep
 | true =>
  show R M (upd σ d x) (RO d sz c) V
  unfold RO
  split
  ·obtain ⟨rfl,_⟩:=hc
   simp only [R,BP,hx,if_true]
   exact ⟨trivial,trivial⟩
  exact keep
theorem KA {d sz:Nat} {x:Loc} (hx:x.nil=true) (is:List Nat):∀ (k:Nat) {l:List Cl} {vs:List Value},(∀ c∈l,c.no d=true)->L2 (R M σ) l vs->L2 (R M (upd σ d x)) (mapIx (RO d sz) is k l) vs
 | k,[],vs,hp,h=>by cases h;exact .nil
 | k,c::r,vs,hp,h=>by
  cases h with | cons h1 h2 =>
  exact .cons (T9 hx (hp c (by simp)) h1 _) (KA hx is (k+1) (fun c hc=>hp c (by simp [hc])) h2)
def ghS (d sz:Nat) (f:Nat->Nat->Cl) (ty:TypeId) (it ih:List (Nat×List Nat)) (s:AS):AS:=⟨OG (Tv.mapIx (RO d sz)) it s.t,(d,.row sz 0 f ty)::OG (Blk.mapIx (RO d sz)) ih s.h⟩
theorem YD {K:List Nat} (S:AS) (d sz:Nat) (f:Nat->Nat->Cl) (ty:TypeId) (it ih:List (Nat×List Nat)) (hX:∀ k x,X k=some x->BM K k=true) (h2:P5 K d=true) (hd:noD d s=true) (hS:ghS d sz f ty it ih s=S):Cv N W0 X M0 s S:=by
 subst hS
 intro M σ a w hs
 have hg:=aD hd
 have hu:∀ n,n≠d->upd σ d ⟨0,0,true⟩ n=σ n:=fun n hn=>CS _ _ hn
 have hud:(upd σ d ⟨0,0,true⟩ d)=⟨0,0,true⟩:=BP _ _ _
 have hkey:∀ m b,get ((d,Blk.row sz 0 f ty)::OG (Blk.mapIx (RO d sz)) ih s.h) m=some b->(m=d/\b=.row sz 0 f ty)\/(m≠d/\∃ b0,get s.h m=some b0/\b=b0.mapIx (RO d sz) ((get ih m).getD [])):=fun m b hb=>by
  simp only [get,Ce] at hb
  by_cases e:d=m
  ·simp [e] at hb;exact .inl ⟨e.symm,by rw [<- hb]⟩
  simp only [e,decide_false,cond_false,OQ] at hb
  cases hg0:get s.h m with
  | none=>rw [hg0] at hb;cases hb
  | some b0 =>
   rw [hg0] at hb
   simp only [Option.map_some,Option.some.injEq] at hb
   exact .inr ⟨Ne.symm e,b0,rfl,hb.symm⟩
 refine ⟨M,upd σ d ⟨0,0,true⟩,⟨hs.os,hs.tape,hs.output,hs.size,hs.old,hs.sub,hs.new,fun n x hx => ?_,hs.defers,hs.room,fun i v hv => ?_,hs.imm,fun m b hb => ?_,fun m b hb => ?_,fun m k b b' hb hb' hne => ?_⟩⟩
 ·have hne:n≠d:=Kx (List.all_eq_true.1 h2 n (ZZ (hX n x hx)))
  rw [hu n hne]
  exact hs.pin n x hx
 ·simp only [ghS,OQ] at hv
  cases hgi:get s.t i with
  | none=>rw [hgi] at hv;cases hv
  | some v0 =>
   rw [hgi] at hv
   simp only [Option.map_some,Option.some.injEq] at hv
   subst hv
   have h0:=hs.tmps i v0 hgi
   have hno:=aB hd hgi
   have hmono:RT M (upd σ d ⟨0,0,true⟩) v0 (a.tmps.getD i undef):=Dk (fun _ _ h=>h) (fun n hn=>by
    by_cases e:n=d
    ·subst e;rw [hno] at hn;cases hn
    exact hu n e) h0
   cases v0 with
   | av x =>
    cases x with
    | one c=>exact T9 rfl hno h0 _
    | agg l =>
     obtain ⟨vs,e1,e2⟩:=h0
     exact ⟨vs,e1,KA rfl _ 0 (fun c hc=>(List.all_eq_true.1 hno) c hc) e2⟩
   | tup l=>exact hmono
   | grd g x=>exact hmono
 ·rcases hkey m b hb with ⟨rfl,rfl⟩ | ⟨hne,b0,g1,rfl⟩
  ·rw [hud];exact .inl ⟨rfl,rfl⟩
  rw [hu m hne]
  have h0:=hs.blk m b0 g1
  have hno:=aC hd g1
  cases b0 with
  | cells l ty' =>
   obtain ⟨e1,cc,e2,e3⟩:=h0
   exact ⟨e1,cc,e2,KA rfl _ 0 (fun c hc=>(List.all_eq_true.1 hno) c hc) e3⟩
  | row=>exact h0
  | omap=>exact h0
  | rowx sz' len' f' ty' hh =>
   obtain ⟨e0,c,e1,e2,e3,e4,gv,e5,e6⟩:=h0
   refine ⟨e0,c,e1,e2,e3,e4,gv,fun i j hi hj=>⟨(e5 i j hi hj).1,fun hn=>(e5 i j hi hj).2 (Ig _ _ _ _ _ hn)⟩,fun i l hl => ?_⟩
   obtain ⟨k',l0,hl0,rfl⟩:=Ro _ _ _ _ _ _ hl
   exact ⟨(e6 i l0 hl0).1,KA rfl _ k' (fun c hc=>List.all_eq_true.1 (List.all_eq_true.1 hno _ (De hl0)) c hc) (e6 i l0 hl0).2⟩
 ·rcases hkey m b hb with ⟨rfl,rfl⟩ | ⟨hne,b0,g1,rfl⟩
  ·rw [hud];exact .inl rfl
  rw [hu m hne];exact hs.loc m b0 g1
 rcases hkey m b hb with ⟨rfl,rfl⟩ | ⟨h3,b0,g1,rfl⟩
 ·rw [hud];exact .inl rfl
 rcases hkey k b' hb' with ⟨rfl,rfl⟩ | ⟨h4,b0',g1',rfl⟩
 ·rw [hud];exact .inr (.inl rfl)
 rw [hu m h3,hu k h4];exact hs.inj m k b0 b0' g1 g1' hne
end
def AU {α:Type} [Inhabited α] (c:α->List Cl) (xs:List α):Nat->Nat->Cl:=fun i j=>(c (xs.getD i default)).getD j default
theorem Yu {α:Type} [Inhabited α] (c:α->List Cl) (xs ys:List α) (sz:Nat) (g:Nat->Nat->Cl) (hg:∀ i j,i<ys.length->j<sz->g i j=AU c ys i j):∀ i j,i<(xs++ys).length->j<sz->(if i<xs.length then AU c xs i j else g (i-xs.length) j)=AU c (xs++ys) i j:=by
 intro i j hi hj
 rw [List.length_append] at hi
 unfold AU at *
 by_cases h:i<xs.length
 ·rw [if_pos h]
  simp only [List.getD_eq_getElem?_getD,List.getElem?_append_left h]
 rw [if_neg h,hg _ _ (by omega) hj]
 simp only [List.getD_eq_getElem?_getD,List.getElem?_append_right (Nat.le_of_not_lt h)]
theorem Yt {α:Type} [Inhabited α] (c:α->List Cl) (xs:List α) (k:Nat) (v:α) (l:List Cl) (sz off m:Nat) (hk:k<xs.length) (hv:∀ j,j<sz->(if off<=j/\j<off+m then l.getD (j-off) default else (c (xs.getD k default)).getD j default)=(c v).getD j default) :
  ∀ i j,i<(xs.set k v).length->j<sz->(if i=k/\off<=j/\j<off+m then l.getD (j-off) default else AU c xs i j)=AU c (xs.set k v) i j:=by
 intro i j hi hj
 unfold AU
 by_cases h:i=k
 ·subst h
  have:=hv j hj
  simp only [List.getD_eq_getElem?_getD,List.getElem?_set_self hk,Option.getD_some,true_and] at *
  exact this
 rw [if_neg (fun k=>h k.1)]
 simp only [List.getD_eq_getElem?_getD,List.getElem?_set_ne (Ne.symm h)]
end
section
open Go.RowKit
def fxC (n:Nat) (l:List Cl):Cl->Cl
 | .ptr m off=>bif Nat.beq m n then .eptr l.length 1 (fun _ j=>l.getD j default) 0 off else .ptr m off
 | .clo f k caps=>.clo f k (CU ((List.range k).map fun i=>fxC n l (caps i)))
 | c=>c
def fxS (n:Nat) (l:List Cl) (s:AS):AS:=⟨RV (Tv.map (fxC n l)) s.t,del (RV (Blk.map (fxC n l)) s.h) n⟩
theorem Vc:∀ v:Tv,Ya (fun _=>True) v:=by
 have av:∀ x:Av,Nr (fun _=>True) x:=fun x=>by cases x <;> simp [Nr]
 intro v
 cases v with
 | av x=>exact av x
 | tup l=>exact fun x _=>av x
 | grd g x=>exact av x
section
variable {P:Program} {rd:Option Nat} {N:Nat} {W0:World} {X:Nat→Option Loc} {M0 M:Nat→Option Obj} {σ:Nat→Loc} {w:World} {a:Act} {Q:Exit→AS→Prop} {s:AS}
theorem Tm (n:Nat) (l:List Cl) (ty:TypeId) (hnx:(σ n).nil=false->¬ inX X (σ n).b) (hn:get s.h n=some (.cells l ty)) (hdv:l.all Cl.dv=true) (hs:Sim N W0 X M0 M σ (get s.t) (get s.h) a w):∃ M',Sim N W0 X M0 M' σ (get (fxS n l s).t) (get (fxS n l s).h) a w:=by
 obtain ⟨hnil,cc,hcc,hl⟩:=hs.blk n _ hn
 have hloc:M (σ n).b=none/\W0.heap.size<=(σ n).b:=by
  rcases hs.loc n _ hn with h | ⟨h1,h2 | h2⟩
  ·rw [hnil] at h;cases h
  ·exact ⟨h1,h2⟩
  exact absurd h2 (hnx hnil)
 obtain ⟨M',hM'⟩:∃ M':Nat->Option Obj,M'=fun b=>if b=(σ n).b then w.heap[b]? else M b:=⟨_,rfl⟩
 have hsub:∀ b o,M b=some o->M' b=some o:=fun b o h1=>by
  subst hM'
  by_cases hb:b=(σ n).b
  ·subst hb;rw [hloc.1] at h1;cases h1
  simp only [hb,if_false];exact h1
 have himm:∀ b o,M' b=some o->w.heap[b]? = some o:=fun b o h1=>by
  subst hM'
  by_cases hb:b=(σ n).b
  ·simp only [hb,if_true] at h1;rw [hb];exact h1
  simp only [hb,if_false] at h1;exact hs.imm b o h1
 have hother:∀ b,b≠(σ n).b->M' b=M b:=fun b hb=>by subst hM';simp only [hb,if_false]
 have hself:M' (σ n).b=w.heap[(σ n).b]? := by subst hM';simp only [if_true]
 have hR:∀ {c:Cl} {V:Value},R M σ c V->R M' σ (fxC n l c) V:=by
  intro c
  induction c with
  | ptr m off =>
   intro V hc
   simp only [fxC]
   cases hm:Nat.beq m n with
   | false=>exact hc
   | true =>
    have:=Nat.eq_of_beq_eq_true hm
    subst this
    simp only [R] at hc
    rw [hc]
    have key:=RC.eptr (M:=M') l.length 1 (fun _ j=>l.getD j default) 0 off (σ m).b 0 (fun j=>cc.getD j undef) (fun j hj=>by
     have hjc:j<cc.length:=by have:=hl.length;omega
     unfold D4
     rw [hself,hcc,Nat.zero_add]
     simp [List.getD_eq_getElem?_getD,hjc]) (fun j hj=>by
     have hjl:l[j]? = some (l[j]'hj):=List.getElem?_eq_getElem hj
     obtain ⟨v,hv,hRv⟩:=hl.get j _ hjl
     simp only [List.getD_eq_getElem?_getD,hjl,hv,Option.getD_some]
     exact Dl hsub ((HS ((List.all_eq_true.1 hdv) _ (List.getElem_mem hj))).1 hRv))
    rw [Nat.zero_add] at key
    exact key
  | clo f k caps ih =>
   intro V hc
   obtain ⟨cs,h1,h2,h3⟩:=hc
   exact ⟨cs,h1,h2,fun i hi=>by rw [Kf _ hi];exact ih i (h3 i hi)⟩
  | val v=>intro V hc;exact hc
  | own=>intro V hc;exact DM hsub (fun _ _=>rfl) hc
  | rptr=>intro V hc;exact DM hsub (fun _ _=>rfl) hc
  | list=>intro V hc;exact DM hsub (fun _ _=>rfl) hc
  | eptr=>intro V hc;exact DM hsub (fun _ _=>rfl) hc
  | mp=>intro V hc;exact DM hsub (fun _ _=>rfl) hc
  | om=>intro V hc;exact DM hsub (fun _ _=>rfl) hc
  | any=>intro V hc;exact hc
 refine ⟨M',hs.os,hs.tape,hs.output,hs.size,hs.old,fun b o h1=>hsub b o (hs.sub b o h1),fun b o h1 h2 => ?_,hs.pin,hs.defers.mono hsub,hs.room,fun i v hv => ?_,himm,fun m b hb' => ?_,fun m b hb' => ?_,fun m k b c h1 h2 => ?_⟩
 ·by_cases hb:b=(σ n).b
  ·subst hb;exact hloc.2
  rw [hother b hb] at h1;exact hs.new b o h1 h2
 ·simp only [fxS,Ee] at hv
  cases hg:get s.t i with
  | none=>rw [hg] at hv;cases hv
  | some v0 =>
   rw [hg] at hv
   simp only [Option.map_some,Option.some.injEq] at hv
   subst hv
   exact TX (p:=fun _=>True) (fun c V _ hc=>hR hc) (Vc v0) (hs.tmps i v0 hg)
 ·simp only [fxS,G3,Ee] at hb'
  split at hb'
  ·cases hb'
  cases hg:get s.h m with
  | none=>rw [hg] at hb';cases hb'
  | some b0 =>
   rw [hg] at hb'
   simp only [Option.map_some,Option.some.injEq] at hb'
   subst hb'
   have h0:=hs.blk m b0 hg
   cases b0 with
   | cells l' ty' =>
    obtain ⟨h1,cc',h2,h3⟩:=h0
    exact ⟨h1,cc',h2,Qf (p:=fun _=>True) (fun c V _ hc=>hR hc) (fun _ _=>trivial) h3⟩
   | row=>exact Bv.mono hsub (fun _ _=>rfl) (fun _=>rfl) h0
   | omap=>exact Bv.mono hsub (fun _ _=>rfl) (fun _=>rfl) h0
   | rowx=>exact Mf (p:=fun _=>True) hsub (fun c V _ hc=>hR hc) (fun _ _ _ _ _=>trivial) h0
 ·simp only [fxS,G3,Ee] at hb'
  split at hb'
  ·cases hb'
  rename_i hne
  cases hg:get s.h m with
  | none=>rw [hg] at hb';cases hb'
  | some b0 =>
   rcases hs.loc m b0 hg with h1 | ⟨h1,h2⟩
   ·exact .inl h1
   by_cases hmn:(σ m).nil=true
   ·exact .inl hmn
   refine .inr ⟨?_,h2⟩
   rw [hother]
   ·exact h1
   rcases hs.inj n m _ _ hn hg hne with h3 | h3 | h3
   ·rw [hnil] at h3;cases h3
   ·exact absurd h3 hmn
   exact Ne.symm h3
 simp only [fxS,G3,Ee] at h1 h2
 split at h1
 ·cases h1
 split at h2
 ·cases h2
 intro hne
 cases hg:get s.h m with
 | none=>rw [hg] at h1;cases h1
 | some b0 =>
  cases hg2:get s.h k with
  | none=>rw [hg2] at h2;cases h2
  | some c0=>exact hs.inj m k b0 c0 hg hg2 hne
theorem Km {K:List Nat} (S:AS) (n:Nat) (l:List Cl) (ty:TypeId) (hX:∀ k x,X k=some x->BM K k=true) (hK:xok K n s=true) (hn:get s.h n=some (.cells l ty)) (hdv:l.all Cl.dv=true) (hS:fxS n l s=S):Cv N W0 X M0 s S:=by
 subst hS
 intro M σ a w hs
 obtain ⟨M',h1⟩:=Tm n l ty (fun hnil=>WU hX hK hs hn hnil) hn hdv hs
 exact ⟨M',σ,h1⟩
theorem UB:∀ {l:List Nat} {n:Nat},BM l n=true->n∈l
 | [],_,h=>by cases h
 | k::r,n,h=>by
  simp only [BM] at h
  cases hk:Nat.beq k n with
  | true=>have:=Nat.eq_of_beq_eq_true hk;subst this;exact List.mem_cons_self ..
  | false=>rw [hk] at h;exact List.mem_cons_of_mem _ (UB h)
end
end
section
open Go.RowKit
inductive AvE:Av->Av->Prop
 | one {c c':Cl} (h:ClE c c'):AvE (.one c) (.one c')
 | agg {l l':List Cl} (h:L2 ClE l l'):AvE (.agg l) (.agg l')
inductive TvE:Tv->Tv->Prop
 | refl (v:Tv):TvE v v
 | av {x x':Av} (h:AvE x x'):TvE (.av x) (.av x')
 | tup {l l':List Av} (h:L2 AvE l l'):TvE (.tup l) (.tup l')
inductive GS:Blk->Blk->Prop
 | refl (b:Blk):GS b b
 | cells {l l':List Cl} (ty:TypeId) (h:L2 ClE l l'):GS (.cells l ty) (.cells l' ty)
 | row (sz:Nat) {len len':Nat} {f f':Nat->Nat->Cl} (ty:TypeId) (hl:len=len') (h:∀ i j,i<len'->j<sz->ClE (f i j) (f' i j)):GS (.row sz len f ty) (.row sz len' f' ty)
 | omap (agg:Bool) (nv:Nat) {len len':Nat} {kf kf':Nat->Value} {f f':Nat->Nat->Cl} (hl:len=len') (hk:∀ i,i<len'->kf i=kf' i) (h:∀ i j,i<len'->j<nv->ClE (f i j) (f' i j)):GS (.omap agg nv len kf f) (.omap agg nv len' kf' f')
 | rowx (sz len:Nat) (f:Nat->Nat->Cl) (ty:TypeId) {hs hs':List (Nat×List Cl)} (h:L2 (fun p q=>p.1=q.1/\L2 ClE p.2 q.2) hs hs'):GS (.rowx sz len f ty hs) (.rowx sz len f ty hs')
theorem AvE.refl:∀ x:Av,AvE x x
 | .one c=>.one (.refl c)
 | .agg l=>.agg (by
   induction l with
   | nil=>exact .nil
   | cons c l ih=>exact .cons (.refl c) ih)
theorem L2.trans3 {α β:Type} {r:α->β->Prop} {q:α->α->Prop} {r':α->β->Prop} (hq:∀ a a' b,q a a'->r a b->r' a' b) {l l':List α} {m:List β} (h:L2 q l l') (k:L2 r l m):L2 r' l' m:=by
 induction h generalizing m with
 | nil=>cases k;exact .nil
 | cons h1 _ ih=>cases k with | cons k1 k2=>exact .cons (hq _ _ _ h1 k1) (ih k2)
section
variable {P:Program} {rd:Option Nat} {N:Nat} {W0:World} {X:Nat→Option Loc} {M0 M:Nat→Option Obj} {σ:Nat→Loc} {w:World} {a:Act} {Q:Exit→AS→Prop} {s S:AS}
theorem Na {x x':Av} {V:Value} (he:AvE x x') (h:RA M σ x V):RA M σ x' V:=by
 cases he with
 | one h1=>exact Uk h1 h
 | agg h1 =>
  obtain ⟨vs,e1,e2⟩:=h
  exact ⟨vs,e1,L2.trans3 (r:=R M σ) (r':=R M σ) (fun _ _ _=>Uk) h1 e2⟩
theorem JS {x x':Tv} {V:Value} (he:TvE x x') (h:RT M σ x V):RT M σ x' V:=by
 cases he with
 | refl=>exact h
 | av h1=>exact Na h1 h
 | tup h1 =>
  obtain ⟨vs,e1,e2⟩:=h
  exact ⟨vs,e1,L2.trans3 (r:=RA M σ) (r':=RA M σ) (fun _ _ _=>Na) h1 e2⟩
theorem Kh {α:Type} {r:α->α->Prop} {l l':List (Nat×α)} (h:L2 (fun p q=>p.1=q.1/\r p.2 q.2) l l') (i:Nat) {v':α} (hv:get l' i=some v'):∃ v,get l i=some v/\r v v':=by
 induction h with
 | nil=>cases hv
 | @cons p q l l' h1 _ ih =>
  obtain ⟨k,v⟩:=p
  obtain ⟨k',u⟩:=q
  obtain ⟨rfl,h2⟩:=h1
  simp only [get,Ce] at hv ⊢
  by_cases hk:k=i
  ·simp [hk] at hv ⊢;subst hv;exact h2
  simp only [hk,decide_false,cond_false] at hv ⊢;exact ih hv
theorem Rp {α:Type} {r:α->α->Prop} {l l':List (Nat×α)} (h:L2 (fun p q=>p.1=q.1/\r p.2 q.2) l l') (i:Nat) (hv:get l' i=none):get l i=none:=by
 induction h with
 | nil=>rfl
 | @cons p q l l' h1 _ ih =>
  obtain ⟨k,v⟩:=p
  obtain ⟨k',u⟩:=q
  obtain ⟨h3,h2⟩:=h1
  simp only at h3
  subst h3
  simp only [get,Ce] at hv ⊢
  by_cases hk:k=i
  ·simp [hk] at hv
  simp only [hk,decide_false,cond_false] at hv ⊢;exact ih hv
theorem IU {x:Loc} {b b':Blk} (he:GS b b') (h:Bv M σ w x b):Bv M σ w x b':=by
 cases he with
 | refl=>exact h
 | cells ty h1 =>
  obtain ⟨h0,c,hc,hl⟩:=h
  exact ⟨h0,c,hc,L2.trans3 (r:=R M σ) (r':=R M σ) (fun _ _ _=>Uk) h1 hl⟩
 | row sz ty hl hf =>
  subst hl
  rcases h with h0 | ⟨e0,cc,e1,e2,e3,e4,g,e5⟩
  ·exact .inl h0
  exact .inr ⟨e0,cc,e1,e2,e3,e4,g,fun i j hi hj=>⟨(e5 i j hi hj).1,TZ (hf i j hi hj) _ (e5 i j hi hj).2⟩⟩
 | omap agg nv hl hk hf =>
  subst hl
  obtain ⟨e0,es,ck,g,e1,e2,e3,e4⟩:=h
  exact ⟨e0,es,ck,g,e1,e2,fun i e he=>by
   have hi:i<es.size:=(Array.getElem?_eq_some_iff.1 he).1
   rw [<- hk i (by omega)];exact e3 i e he,fun i j hi hj=>TZ (hf i j hi hj) _ (e4 i j hi hj)⟩
 | rowx sz len f ty h1 =>
  obtain ⟨e0,c,e1,e2,e3,e4,gv,e5,e6⟩:=h
  refine ⟨e0,c,e1,e2,e3,e4,gv,fun i j hi hj=>⟨(e5 i j hi hj).1,fun hn=>(e5 i j hi hj).2 (Rp h1 i hn)⟩,fun i l hl => ?_⟩
  obtain ⟨l0,hl0,he⟩:=Kh h1 i hl
  exact ⟨(e6 i l0 hl0).1,L2.trans3 (r:=R M σ) (r':=R M σ) (fun _ _ _=>Uk) he (e6 i l0 hl0).2⟩
def TE:List (Nat×Tv)->List (Nat×Tv)->Prop:=L2 fun p q=>p.1=q.1/\TvE p.2 q.2
def HE:List (Nat×Blk)->List (Nat×Blk)->Prop:=L2 fun p q=>p.1=q.1/\GS p.2 q.2
theorem aW (ht:TE s.t S.t) (hh:HE s.h S.h) (hs:Sim N W0 X M0 M σ (get s.t) (get s.h) a w):Sim N W0 X M0 M σ (get S.t) (get S.h) a w :=
 ⟨hs.os,hs.tape,hs.output,hs.size,hs.old,hs.sub,hs.new,hs.pin,hs.defers,hs.room,fun i v h=>(Kh ht i h).elim fun u hu=>JS hu.2 (hs.tmps i u hu.1),hs.imm,
  fun n b h=>(Kh hh n h).elim fun u hu=>IU hu.2 (hs.blk n u hu.1),fun n b h=>(Kh hh n h).elim fun u hu=>hs.loc n u hu.1,
  fun n m b c h1 h2=>(Kh hh n h1).elim fun u hu=>(Kh hh m h2).elim fun v hv=>hs.inj n m u v hu.1 hv.1⟩
theorem BF (S:AS) (ht:TE s.t S.t) (hh:HE s.h S.h):Cv N W0 X M0 s S:=fun M σ _ _ hs=>⟨M,σ,aW ht hh hs⟩
theorem Cd {f:FuncId} {xs xs':List Av} {e:Ef} (h:EB P f xs' e) (hx:L2 AvE xs xs'):EB P f xs e :=
 match h with
 | .inl h=>.inl ⟨h.1,fun M σ w hh args cs g hs hargs hr hc=>h.2 M σ w hh args cs g hs (L2.trans3 (r:=RA M σ) (r':=RA M σ) (fun _ _ _=>Na) hx hargs) hr hc⟩
 | .inr ⟨cs,v,he,h⟩=>.inr ⟨cs,v,he,fun M σ w args himm hc hargs=>h M σ w args himm hc (L2.trans3 (r:=RA M σ) (r':=RA M σ) (fun _ _ _=>Na) hx hargs)⟩
theorem Pl {f:FuncId} {xs xs':List Av} {r:Tv} (h:FG P f xs' r) (hx:L2 AvE xs xs'):FG P f xs r :=
 fun M σ w args himm hargs=>h M σ w args himm (L2.trans3 (r:=RA M σ) (r':=RA M σ) (fun _ _ _=>Na) hx hargs)
def ceI (xs:List Av) (c:FuncId×List Av×Ef):FuncId×List Av×Ef:=(c.1,xs,c.2.2)
def Nt (P:Program) (N:Nat) (W0:World) (X:Nat->Option Loc) (M0:Nat->Option Obj) (fn:Func) (φ:Tv->AS->Prop):Exit->AS->Prop:=fun e s=>∃ t,Cv N W0 X M0 s t/\RetQ P fn φ e t
theorem Q5 {f:FuncId} {fn:Func} {c:Code} (hf:P.funcs[f]? = some fn) (hb:fn.body=some c) {xs:List Av} {r:Tv} (hN:Nat.ble xs.length fn.ntmps=true) (hd:r.dv=true)
  (h:∀ (W0:World) (M0:Nat->Option Obj),AWp P none fn.ntmps W0 noX M0 c (Nt P fn.ntmps W0 noX M0 fn fun r' _=>TvE r' r) ⟨EN 0 xs,[]⟩):FG P f xs r:=by
 intro M σ w args himm hargs
 refine EU (X:=noX) (σ:=σ) (h0:=[]) hf hb (Nat.le_of_ble_eq_true hN) himm hargs (fun n b h=>by cases h) (fun n b h=>by cases h) (fun n x h=>by cases h) (fun n m b c h=>by cases h) (EF (h w M)) ?_
 rintro r' s' M' σ' a' w' U he hs hR
 exact ⟨U,rfl,M',⟨hs.os,hs.tape,hs.output,hs.size,fun b hb _=>hs.old b hb (E4 b),hs.sub,hs.new,hs.imm⟩,fun σ''=>GR hd (JS he hR)⟩
theorem GX {f:FuncId} {fn:Func} {c:Code} (hf:P.funcs[f]? = some fn) (hb:fn.body=some c) {K:Nat} {xs:List Av} {b0 b1:Blk} {r:Tv} (hN:Nat.ble xs.length fn.ntmps=true) (hK:Nat.ble fn.ntmps K=true) (hd:r.dv=true) (hd1:Ht b1=true)
  (h:∀ (W0:World) (M0:Nat->Option Obj) (X:Nat->Option Loc),(∀ k x,X k=some x->BM [K] k=true)->AWp P none fn.ntmps W0 X M0 c (Nt P fn.ntmps W0 X M0 fn fun r' s'=>TvE r' r/\∃ b,get s'.h K=some b/\GS b b1) ⟨EN 0 xs,[(K,b0)]⟩):Wr P f K xs b0 r b1:=by
 intro M σ w args himm hblk hnil hM hargs
 let X:Nat->Option Loc:=upd noX K (some (σ K))
 have hX:X K=some (σ K):=BP _ _ _
 have one:∀ n b,get [(K,b0)] n=some b->n=K/\b=b0:=fun n b hn=>by
  simp only [get,Ce] at hn
  by_cases hk:K=n
  ·simp [hk] at hn;exact ⟨hk.symm,hn.symm⟩
  simp [hk] at hn
 have pins:∀ n x,X n=some x->n=K/\x=σ K:=fun n x hx=>by
  by_cases hk:n=K
  ·subst hk;rw [hX] at hx;injection hx with hx;exact ⟨rfl,hx.symm⟩
  simp only [X] at hx;rw [CS _ _ hk] at hx;cases hx
 have hXK:∀ k x,X k=some x->BM [K] k=true:=fun k x hk=>by rw [(pins k x hk).1];exact Jp _
 refine EU (X:=X) (σ:=σ) (h0:=[(K,b0)]) hf hb (Nat.le_of_ble_eq_true hN) himm hargs (fun n b hn => ?_) (fun n b hn => ?_) (fun n x hx => ?_) (fun n m b c hn hm hne => ?_) (EF (h w M X hXK)) ?_
 ·obtain ⟨rfl,rfl⟩:=one n b hn;exact hblk
 ·obtain ⟨rfl,rfl⟩:=one n b hn;exact .inr ⟨hM,n,σ n,hX,rfl⟩
 ·obtain ⟨rfl,rfl⟩:=pins n x hx;exact ⟨Nat.le_of_ble_eq_true hK,rfl⟩
 ·exact absurd ((one n b hn).1.trans (one m c hm).1.symm) hne
 rintro r' s' M' σ' a' w' U ⟨he,b,hb1,hbe⟩ hs hR
 have hpin:=(hs.pin K _ hX).2
 have hbk:=hs.blk K _ hb1
 rw [hpin] at hbk
 refine ⟨U,rfl,M',⟨hs.os,hs.tape,hs.output,hs.size,fun b hb hne=>hs.old b hb ?_,hs.sub,hs.new,hs.imm⟩,fun σ''=>GR hd (JS he hR),fun σ''=>E2 hd1 (IU hbe hbk)⟩
 rintro ⟨n,x,hx,rfl⟩
 obtain ⟨rfl,rfl⟩:=pins n x hx
 exact hne ⟨hnil,rfl⟩
end
def ZL (n sz len:Nat):Cl->List Prop->List Prop
 | .own m s l,r=>bif Nat.beq m n then (l=len/\s=sz)::r else r
 | _,r=>r
def RD (n sz len:Nat):List Cl->List Prop->List Prop
 | [],r=>r
 | c::l,r=>ZL n sz len c (RD n sz len l r)
def ZM (n sz len:Nat):Av->List Prop->List Prop
 | .one c,r=>ZL n sz len c r
 | .agg l,r=>RD n sz len l r
def W5 (n sz len:Nat):List Av->List Prop->List Prop
 | [],r=>r
 | c::l,r=>ZM n sz len c (W5 n sz len l r)
def Sp (n sz len:Nat):List (Nat×Tv)->List Prop->List Prop
 | [],r=>r
 | (_,.av x)::l,r=>ZM n sz len x (Sp n sz len l r)
 | (_,.tup x)::l,r=>W5 n sz len x (Sp n sz len l r)
 | (_,.grd _ x)::l,r=>ZM n sz len x (Sp n sz len l r)
def W4 (n sz len:Nat):List (Nat×List Cl)->List Prop->List Prop
 | [],r=>r
 | (_,l)::hs,r=>RD n sz len l (W4 n sz len hs r)
def RF (n sz len:Nat):List (Nat×Blk)->List Prop
 | []=>[]
 | (_,.cells l _)::r=>RD n sz len l (RF n sz len r)
 | (_,.row ..)::r=>RF n sz len r
 | (_,.omap ..)::r=>RF n sz len r
 | (_,.rowx _ _ _ _ hs)::r=>W4 n sz len hs (RF n sz len r)
section
variable {n sz len:Nat}
theorem Tx {c:Cl} {r:List Prop} (h:Bs (ZL n sz len c r)):fzP n sz len c/\Bs r:=by
 cases c with
 | own m s l =>
  simp only [ZL,fzP] at *
  cases hb:Nat.beq m n with
  | true=>rw [hb] at h;exact ⟨h.head,h.tail⟩
  | false=>rw [hb] at h;exact ⟨trivial,h⟩
 | _=>exact ⟨trivial,h⟩
theorem Jk:∀ {l:List Cl} {r:List Prop},Bs (RD n sz len l r)->(∀ c∈l,fzP n sz len c)/\Bs r
 | [],r,h=>⟨fun c hc=>(by cases hc),h⟩
 | c::l,r,h=>by
  obtain ⟨h1,h2⟩:=Tx h
  obtain ⟨h3,h4⟩:=Jk h2
  exact ⟨fun d hd=>by
   cases hd with
   | head=>exact h1
   | tail _ hd=>exact h3 d hd,h4⟩
theorem Px {x:Av} {r:List Prop} (h:Bs (ZM n sz len x r)):Nr (fzP n sz len) x/\Bs r:=by
 cases x with
 | one c=>exact Tx h
 | agg l=>exact Jk h
theorem RG:∀ {l:List Av} {r:List Prop},Bs (W5 n sz len l r)->(∀ c∈l,Nr (fzP n sz len) c)/\Bs r
 | [],r,h=>⟨fun c hc=>(by cases hc),h⟩
 | c::l,r,h=>by
  obtain ⟨h1,h2⟩:=Px h
  obtain ⟨h3,h4⟩:=RG h2
  exact ⟨fun d hd=>by
   cases hd with
   | head=>exact h1
   | tail _ hd=>exact h3 d hd,h4⟩
theorem Jj:∀ {l:List (Nat×Tv)} {r:List Prop},Bs (Sp n sz len l r)->Td (fzP n sz len) l/\Bs r
 | [],r,h=>⟨trivial,h⟩
 | (_,.av x)::l,r,h=>by
  obtain ⟨h1,h2⟩:=Px (x:=x) h
  obtain ⟨h3,h4⟩:=Jj h2
  exact ⟨⟨h1,h3⟩,h4⟩
 | (_,.tup x)::l,r,h=>by
  obtain ⟨h1,h2⟩:=RG (l:=x) h
  obtain ⟨h3,h4⟩:=Jj h2
  exact ⟨⟨h1,h3⟩,h4⟩
 | (_,.grd _ x)::l,r,h=>by
  obtain ⟨h1,h2⟩:=Px (x:=x) h
  obtain ⟨h3,h4⟩:=Jj h2
  exact ⟨⟨h1,h3⟩,h4⟩
theorem RE:∀ {hs:List (Nat×List Cl)} {r:List Prop},Bs (W4 n sz len hs r)->(∀ i l,get hs i=some l->∀ c∈l,fzP n sz len c)/\Bs r
 | [],r,h=>⟨fun i l hl=>(by cases hl),h⟩
 | (k,l0)::hs,r,h=>by
  obtain ⟨h1,h2⟩:=Jk (l:=l0) h
  obtain ⟨h3,h4⟩:=RE (hs:=hs) h2
  refine ⟨fun i l hl => ?_,h4⟩
  simp only [get,Ce] at hl
  by_cases e:k=i
  ·simp [e] at hl;subst hl;exact h1
  simp only [e,decide_false,cond_false] at hl;exact h3 i l hl
theorem Jl:∀ {l:List (Nat×Blk)},Bs (RF n sz len l)->Te (fzP n sz len) l
 | [],h=>trivial
 | (_,.cells l _)::r,h=>by
  obtain ⟨h1,h2⟩:=Jk (l:=l) h
  exact ⟨h1,Jl h2⟩
 | (_,.row ..)::r,h=>⟨trivial,Jl (l:=r) h⟩
 | (_,.omap ..)::r,h=>⟨trivial,Jl (l:=r) h⟩
 | (_,.rowx _ _ _ _ hs)::r,h=>by
  obtain ⟨h1,h2⟩:=RE (hs:=hs) h
  exact ⟨h1,Jl h2⟩
end
section
variable {N:Nat} {W0:World} {X:Nat→Option Loc} {M0:Nat→Option Obj} {s:AS}
theorem cv_fz {K:List Nat} (S:AS) (n sz len:Nat) (f:Nat->Nat->Cl) (ty:TypeId) (hX:∀ k x,X k=some x->BM K k=true) (hK:xok K n s=true) (hn:get s.h n=some (.row sz len f ty)) (ho:Bs (Sp n sz len s.t (RF n sz len s.h))) (hS:fzS n sz len f s=S):Cv N W0 X M0 s S :=
 cR S n sz len f ty hX hK hn (Jj ho).1 (Jl (Jj ho).2) hS
theorem A6 {S:AS} (h:s=S):Cv N W0 X M0 s S:=h▸Cv.refl s
end
theorem An {x y:Tv} (h:x=y):TvE x y:=h▸.refl x
theorem DI {x y z:Tv} (h:TvE x y) (e:y=z):TvE x z:=e▸h
theorem DV {x y:Blk} (h:x=y):GS x y:=h▸.refl x
theorem QW {x y z:Blk} (h:GS x y) (e:y=z):GS x z:=e▸h
def Hx {α:Type} [Inhabited α] (sz len:Nat) (f:Nat->Nat->Cl) (c:α->List Cl) (xs:List α):Prop:=len=xs.length/\∀ i j,i<xs.length->j<sz->ClE (f i j) (AU c xs i j)
section
variable {α:Type} [Inhabited α] {sz n m:Nat} {f g:Nat→Nat→Cl} {c:α→List Cl} {xs ys:List α}
theorem BA (sz:Nat) (c:α->List Cl) (xs:List α):Hx sz xs.length (AU c xs) c xs:=⟨rfl,fun _ _ _ _=>.refl _⟩
theorem B8 (sz:Nat) (f:Nat->Nat->Cl) (c:α->List Cl):Hx sz 0 f c []:=⟨rfl,fun _ _ h=>absurd h (Nat.not_lt_zero _)⟩
theorem BO (h:Hx sz n f c xs) (k:Hx sz m g c ys):Hx sz (n+m) (fun i j=>if i<n then f i j else g (i-n) j) c (xs++ys):=by
 obtain ⟨rfl,h⟩:=h
 obtain ⟨rfl,k⟩:=k
 refine ⟨List.length_append.symm,fun i j hi hj => ?_⟩
 rw [<- Yu c xs ys sz (AU c ys) (fun _ _ _ _=>rfl) i j hi hj]
 show ClE (if i<xs.length then f i j else g (i-xs.length) j) _
 by_cases hl:i<xs.length
 ·rw [if_pos hl,if_pos hl];exact h i j hl hj
 rw [if_neg hl,if_neg hl];exact k (i-xs.length) j (by rw [List.length_append] at hi;omega) hj
theorem Hj {l:List Cl} {off q k:Nat} (h:Hx sz n f c xs) (hk:k<n) (v:α) (hv:∀ j,j<sz->(if off<=j/\j<off+q then l.getD (j-off) default else (c (xs.getD k default)).getD j default)=(c v).getD j default) :
  Hx sz n (fun i j=>if i=k/\off<=j/\j<off+q then l.getD (j-off) default else f i j) c (xs.set k v):=by
 obtain ⟨rfl,h⟩:=h
 refine ⟨by simp,fun i j hi hj => ?_⟩
 rw [<- Yt c xs k v l sz off q hk hv i j hi hj]
 show ClE (if i=k/\off<=j/\j<off+q then l.getD (j-off) default else f i j) _
 have hi':i<xs.length:=by simpa using hi
 by_cases hc:i=k/\off<=j/\j<off+q
 ·rw [if_pos hc,if_pos hc];exact .refl _
 rw [if_neg hc,if_neg hc];exact h i j hi' hj
theorem I5 (h:Hx sz n f c xs) {a b:Int} (ha:0<=a) (hab:a<=b) (hb:b<=(n:Int)):Hx sz (b.toNat-a.toNat) (fun i j=>f (i+a.toNat) j) c ((xs.take b.toNat).drop a.toNat):=by
 obtain ⟨rfl,h⟩:=h
 refine ⟨by simp;omega,fun i j hi hj => ?_⟩
 have hi':i<min b.toNat xs.length-a.toNat:=by simpa using hi
 suffices e:AU c xs (i+a.toNat) j=AU c ((xs.take b.toNat).drop a.toNat) i j by rw [<- e];exact h (i+a.toNat) j (by omega) hj
 unfold AU
 rw [List.getD_eq_getElem?_getD,List.getD_eq_getElem?_getD,List.getD_eq_getElem?_getD,List.getD_eq_getElem?_getD,List.getElem?_drop,List.getElem?_take_of_lt (show a.toNat+i<b.toNat by omega),Nat.add_comm]
theorem Ut (h:Hx sz n f c xs) {a:Int} (ha:0<=a) (hab:a<=((n:Nat):Int)):Hx sz (((n:Nat):Int).toNat-a.toNat) (fun i j=>f (i+a.toNat) j) c (xs.drop a.toNat):=by
 have:=I5 h ha hab (Int.le_refl _)
 rwa [show xs.take ((n:Nat):Int).toNat=xs from by rw [h.1];simp] at this
theorem Us (h:Hx sz n f c xs) {b:Int} (hab:0<=b) (hb:b<=(n:Int)):Hx sz (b.toNat-(0:Int).toNat) (fun i j=>f (i+(0:Int).toNat) j) c (xs.take b.toNat):=by
 have:=I5 h (Int.le_refl 0) hab hb
 rwa [show (xs.take b.toNat).drop (0:Int).toNat=xs.take b.toNat from by simp] at this
def tab (n:Nat) (p:Nat->Cl):List Cl:=(List.range n).map p
def ST (n sz:Nat) (p:Nat->Nat->Cl):List (List Cl):=(List.range n).map fun i=>tab sz (p i)
theorem FY {n:Nat} {p q:Nat->Cl} (h:tab n p=tab n q):∀ j,j<n->p j=q j:=by
 intro j hj
 have:=congrArg (fun l=>l[j]?) h
 simpa [tab,hj] using this
theorem Ar (hl:n=xs.length) (h:ST n sz f=ST n sz (AU c xs)):Hx sz n f c xs:=by
 refine ⟨hl,fun i j hi hj => ?_⟩
 subst hl
 have:=congrArg (fun l=>l[i]?) h
 simp only [ST,List.getElem?_map,List.getElem?_range hi,Option.map_some,Option.some.injEq] at this
 rw [FY this j hj]
 exact .refl _
theorem ES {y z:List (List Cl)} (hl:n=xs.length) (e1:ST n sz f=y) (e2:ST n sz (AU c xs)=z) (h:L2 (L2 ClE) y z):Hx sz n f c xs:=by
 refine ⟨hl,fun i j hi hj => ?_⟩
 subst hl
 subst e1
 subst e2
 obtain ⟨b,hb,hL⟩:=h.get i (tab sz (f i)) (by simp [ST,hi])
 obtain ⟨b',hb',hR⟩:=hL.get j (f i j) (by simp [tab,hj])
 have e3:b=tab sz (AU c xs i):=by
  simp only [ST,List.getElem?_map,List.getElem?_range hi,Option.map_some,Option.some.injEq] at hb
  exact hb.symm
 subst e3
 simp only [tab,List.getElem?_map,List.getElem?_range hj,Option.map_some,Option.some.injEq] at hb'
 rw [hb']
 exact hR
theorem Bk (t:Bool) (h:Hx sz n f c xs):ClE (.list t sz n f) (lst sz c xs):=by
 obtain ⟨rfl,h⟩:=h
 exact .list _ _ _ _ _ _ h (fun h=>by cases h)
theorem Ai (ty:TypeId) (h:Hx sz n f c xs):GS (.row sz n f ty) (.row sz xs.length (AU c xs) ty):=.row _ _ h.1 h.2
theorem CZ (sz:Nat) (c:α->List Cl):ClE (.val (.slice none 0 0)) (lst sz c []):=.nil _ _
end
def tI (x:Int):Tv:=.av (.one (.i x))
def tB (x:Bool):Tv:=.av (.one (.b x))
def tP (a b:Nat):Tv:=.av (.one (.ptr a b))
theorem Jy {a n:Int} (ha:0<=a) (hn:0<n):0<=Int.tmod a n/\Int.tmod a n<n:=⟨Int.tmod_nonneg _ ha,Int.tmod_lt_of_pos _ hn⟩
end
section
open Go.RowKit
inductive NM:Cl->Prop
 | val (v:Value):NM (.val v)
 | ptr (n off:Nat):NM (.ptr n off)
 | own (n sz len:Nat):NM (.own n sz len)
 | rptr (n sz i off:Nat):NM (.rptr n sz i off)
 | om (n:Nat):NM (.om n)
 | any:NM .any
 | list (t:Bool) (sz len:Nat) (f:Nat->Nat->Cl) (h:∀ i j,NM (f i j)):NM (.list t sz len f)
 | eptr (sz len:Nat) (f:Nat->Nat->Cl) (i off:Nat) (h:∀ i j,NM (f i j)):NM (.eptr sz len f i off)
 | clo (g:FuncId) (k:Nat) (caps:Nat->Cl) (h:∀ i,NM (caps i)):NM (.clo g k caps)
section
variable {M M':Nat→Option Obj}
theorem LV (h:∀ b c t f,M b=some (.cells c t f)->M' b=some (.cells c t f)) {b o:Nat} {v:Value} (hv:D4 M b o=some v):D4 M' b o=some v:=by
 unfold D4 at *
 cases hb:M b with
 | none=>rw [hb] at hv;cases hv
 | some x =>
  rw [hb] at hv
  cases x with
  | cells c t f=>rw [h b c t f hb];exact hv
  | _=>cases hv
theorem Qa (h:∀ b c t f,M b=some (.cells c t f)->M' b=some (.cells c t f)) {c:Cl} {V:Value} (hr:RC M c V):NM c->RC M' c V:=by
 induction hr with
 | val v h0=>intro _;exact .val v h0
 | nil t sz f h0=>intro _;exact .nil t sz f h0
 | mt t sz f a cap h5=>intro _;exact .mt t sz f a cap h5
 | list t sz len f b off cap g h1 h2 h4 h5 ih =>
  intro hn
  cases hn with
  | list _ _ _ _ hf=>exact .list t sz len f b off cap g (fun i j hi hj=>LV h (h1 i j hi hj)) (fun i j hi hj=>ih i j hi hj (hf i j)) h4 h5
 | clo f k caps cs h1 h2 ih =>
  intro hn
  cases hn with
  | clo _ _ _ hf=>exact .clo f k caps cs h1 fun i hi=>ih i hi (hf i)
 | eptr sz len f i off b base g h1 h2 ih =>
  intro hn
  cases hn with
  | eptr _ _ _ _ _ hf=>exact .eptr sz len f i off b base g (fun j hj=>LV h (h1 j hj)) (fun j hj=>ih j hj (hf i j))
 | mp=>intro hn;cases hn
 | any V h0=>intro _;exact .any V h0
theorem Uj (h:∀ b c t f,M b=some (.cells c t f)->M' b=some (.cells c t f)) {σ:Nat->Loc}:∀ {c:Cl} {V:Value},R M σ c V->NM c->R M' σ c V
 | .val _,_,hr,_=>hr
 | .ptr ..,_,hr,_=>hr
 | .own ..,_,hr,_=>hr
 | .rptr ..,_,hr,_=>hr
 | .list ..,_,hr,hn=>Qa h hr hn
 | .eptr ..,_,hr,hn=>Qa h hr hn
 | .mp ..,_,_,hn=>by cases hn
 | .om ..,_,hr,_=>hr
 | .any,_,hr,_=>hr
 | .clo g k caps,_,hr,hn=>by
  obtain ⟨cs,h1,h2,h3⟩:=hr
  cases hn with
  | clo _ _ _ hf=>exact ⟨cs,h1,h2,fun i hi=>Uj h (h3 i hi) (hf i)⟩
def AvM (x:Av):Prop:=∀ c∈x.cells,NM c
def TvM:Tv->Prop
 | .av x=>AvM x
 | .tup l=>∀ x∈l,AvM x
 | .grd _ x=>AvM x
def TsM (t:List (Nat×Tv)):Prop:=∀ n b,get t n=some b->TvM b
theorem Qc (h:∀ b c t f,M b=some (.cells c t f)->M' b=some (.cells c t f)) {σ:Nat->Loc} {x:Av} {V:Value} (hr:RA M σ x V) (hn:AvM x):RA M' σ x V:=by
 cases x with
 | one c=>exact Uj h hr (hn c (by simp [Av.cells]))
 | agg l =>
  obtain ⟨vs,h1,h2⟩:=hr
  exact ⟨vs,h1,h2.mono fun c hc b hb=>Uj h hb (hn c (by simpa [Av.cells] using hc))⟩
theorem TY (h:∀ b c t f,M b=some (.cells c t f)->M' b=some (.cells c t f)) {σ:Nat->Loc} {x:Tv} {V:Value} (hr:RT M σ x V) (hn:TvM x):RT M' σ x V:=by
 cases x with
 | av x=>exact Qc h hr hn
 | tup l =>
  obtain ⟨vs,h1,h2⟩:=hr
  exact ⟨vs,h1,h2.mono fun c hc b hb=>Qc h hb (hn c hc)⟩
 | grd g x=>exact ⟨fun hg=>Qc h (hr.1 hg) hn,hr.2⟩
end
theorem YA {d:Nat}:∀ {c:Cl},c.dv=true->c.no d=true
 | .val _,_=>rfl
 | .any,_=>rfl
 | .list ..,_=>rfl
 | .eptr ..,_=>rfl
 | .mp ..,_=>rfl
 | .clo _ k caps,h=>by
  simp only [Cl.dv,Cl.no,List.all_eq_true] at *
  exact fun i hi=>YA (h i hi)
def pvT (ids:List Nat):Tv->Bool
 | .av (.one (.ptr n _))=>BM ids n
 | .av x=>x.dv
 | .tup l=>l.all Av.dv
 | .grd _ x=>x.dv
theorem Hu {d:Nat} {x:Av} (h:x.dv=true):x.no d=true:=by
 cases x with
 | one c=>exact YA h
 | agg l=>simp only [Av.dv,Av.no,List.all_eq_true] at *;exact fun c hc=>YA (h c hc)
theorem EC:∀ {l:List Nat} {n:Nat},BM l n=true->n∈l
 | [],_,h=>by cases h
 | k::r,n,h=>by
  simp only [BM] at h
  cases hk:Nat.beq k n with
  | true=>have:=Nat.eq_of_beq_eq_true hk;subst this;exact List.mem_cons_self ..
  | false=>rw [hk] at h;exact List.mem_cons_of_mem _ (EC h)
theorem Mh {ids:List Nat} {d:Nat} {v:Tv} (h:pvT ids v=true) (hd:v.no d=false):d∈ids:=by
 have key:∀ x:Av,x.dv=true->x.no d=false->False:=fun x h1 h2=>by rw [Hu h1] at h2;cases h2
 cases v with
 | av x =>
  cases x with
  | one c =>
   cases c with
   | ptr n off =>
    have hn:n=d:=by simp [Tv.no,Av.no,Cl.no] at hd;exact hd
    subst hn
    exact EC h
   | _=>exact (key (.one _) h hd).elim
  | agg l=>exact (key (.agg l) h hd).elim
 | tup l =>
  simp only [pvT,List.all_eq_true] at h
  simp only [Tv.no] at hd
  have:l.all (Av.no d)=true:=by rw [List.all_eq_true];exact fun x hx=>Hu (h x hx)
  rw [this] at hd;cases hd
 | grd g x=>exact (key x h hd).elim
def N2 (t:List (Nat×Tv)):List Tmp->List Av->List (Nat×Tv)
 | p::ps,e::es=>N2 ((p,.av e)::t) ps es
 | _,_=>t
theorem UR {M:Nat->Option Obj} {σ:Nat->Loc} {N:Nat}:∀ (ps:List Tmp) (es:List Av) (vs:List Value) (t:List (Nat×Tv)) (tm:Array Value),(∀ i v,get t i=some v->RT M σ v (tm.getD i undef))->tm.size=N->L2 (RA M σ) es vs->ps.length=es.length->(∀ p∈ps,p<N) ->
  ((ps.zip vs).foldl (fun t (x:Tmp×Value)=>t.setIfInBounds x.1 x.2) tm).size=N/\∀ i v,get (N2 t ps es) i=some v->RT M σ v (((ps.zip vs).foldl (fun t (x:Tmp×Value)=>t.setIfInBounds x.1 x.2) tm).getD i undef)
 | [],[],_,t,tm,h,hs,hl,_,_=>⟨hs,h⟩
 | [],_::_,_,_,_,_,_,_,hn,_=>by simp at hn
 | _::_,[],_,_,_,_,_,_,hn,_=>by simp at hn
 | p::ps,e::es,vs,t,tm,h,hs,hl,hn,hp=>by
  cases hl with
  | cons h1 h2 =>
   rename_i v vs
   refine UR ps es vs ((p,.av e)::t) (tm.setIfInBounds p v) (fun i u hu => ?_) (by simpa using hs) h2 (by simpa using hn) (fun q hq=>hp q (List.mem_cons_of_mem _ hq))
   have hpN:=hp p (List.mem_cons_self ..)
   simp only [get,Ce] at hu
   by_cases hi:p=i
   ·subst hi
    simp at hu;subst hu
    have hpt:p<tm.size:=by rw [hs];exact hpN
    have:(tm.setIfInBounds p v).getD p undef=v:=by simp [Array.getD_eq_getD_getElem?,hpt]
    rw [this];exact h1
   simp [hi] at hu
   have:(tm.setIfInBounds p v).getD i undef=tm.getD i undef:=by simp [Array.getD_eq_getD_getElem?,Array.getElem?_setIfInBounds,hi]
   rw [this];exact h i u hu
structure OwS (Ow:World->Nat->Prop) (n0:Nat):Prop where
 st:∀ W W':World,n0<=W.heap.size->(∀ b,b<W.heap.size->W'.heap[b]? = W.heap[b]?)->∀ b,Ow W' b->Ow W b
def KpS (Ow:World->Nat->Prop) (W W':World):Prop:=W.heap.size<=W'.heap.size/\(∀ b (o:Obj),W.heap[b]? = some o->o.isCells=true->¬ Ow W b->W'.heap[b]? = some o)/\∀ b,Ow W' b->Ow W b\/(W.heap.size<=b/\b<W'.heap.size)
theorem KpS.trans {Ow:World->Nat->Prop} {A B C:World} (h1:KpS Ow A B) (h2:KpS Ow B C):KpS Ow A C:=by
 refine ⟨Nat.le_trans h1.1 h2.1,fun b o hb hc ho => ?_,fun b hb => ?_⟩
 ·refine h2.2.1 b o (h1.2.1 b o hb hc ho) hc fun h => ?_
  have hl:=(Array.getElem?_eq_some_iff.1 hb).1
  rcases h1.2.2 b h with h3 | h3
  ·exact ho h3
  omega
 rcases h2.2.2 b hb with h3 | ⟨h3,h4⟩
 ·exact (h1.2.2 b h3).imp id fun h5=>⟨h5.1,Nat.lt_of_lt_of_le h5.2 h2.1⟩
 exact .inr ⟨Nat.le_trans h1.1 h3,h4⟩
section
variable {P:Program} {N:Nat} {W0 W W':World} {X:Nat→Option Loc} {M0 M:Nat→Option Obj} {σ:Nat→Loc} {T:Nat→Option Tv} {H:Nat→Option Blk} {a:Act}
def Blk.isM:Blk->Bool
 | .omap .. => true
 | _=>false
end
end
section
open Go.RowKit
def Nk (pids:List Nat) (σ:Nat->Loc) (X:Nat->Option Loc) (n:Nat):Option Loc:=bif BM pids n then some (σ n) else X n
def LQ (fid:Nat) (fl:Loc) (X:Nat->Option Loc) (n:Nat):Option Loc:=bif Nat.beq n fid then some fl else X n
def IV (M1 M3:Nat->Option Obj) (b:Nat):Option Obj:=match M1 b with
 | some o=>some o
 | none=>match M3 b with
  | some (.cells c t f)=>some (.cells c t f)
  | _=>none
def Cln (M M':Nat->Option Obj):Prop:=(∀ b o,M b=some o->M' b=some o)/\∀ b o,M' b=some o->o.isCells=false->M b=some o
theorem Gk {M1 M3:Nat->Option Obj} (h:∀ b o,M1 b=some o->M3 b=some o) {b:Nat} {o:Obj} (hb:IV M1 M3 b=some o):M3 b=some o:=by
 unfold IV at hb
 cases h1:M1 b with
 | some o'=>rw [h1] at hb;injection hb with hb;subst hb;exact h b _ h1
 | none =>
  rw [h1] at hb
  cases h3:M3 b with
  | none=>rw [h3] at hb;cases hb
  | some o' =>
   rw [h3] at hb
   cases o' with
   | cells c t f=>exact hb
   | _=>cases hb
theorem Og {M1 M3:Nat->Option Obj} {b:Nat} {o:Obj} (h:M1 b=some o):IV M1 M3 b=some o:=by unfold IV;rw [h]
theorem NP {M1 M3:Nat->Option Obj} (h:∀ b o,M1 b=some o->M3 b=some o) (b:Nat) (c:Array Value) (t:TypeId) (f:Nat×Nat) (h3:M3 b=some (.cells c t f)):IV M1 M3 b=some (.cells c t f):=by
 unfold IV
 cases h1:M1 b with
 | some o'=>have:=h b _ h1;rw [h3] at this;injection this with this;rw [this]
 | none=>simp only [h3]
theorem YG {M M1 M3:Nat->Option Obj} (hc:Cln M M1) (h:∀ b o,M1 b=some o->M3 b=some o):Cln M (IV M1 M3):=by
 refine ⟨fun b o hb=>Og (hc.1 b o hb),fun b o hb ho => ?_⟩
 unfold IV at hb
 cases h1:M1 b with
 | some o'=>rw [h1] at hb;injection hb with hb;subst hb;exact hc.2 b _ h1 ho
 | none =>
  rw [h1] at hb
  cases h3:M3 b with
  | none=>rw [h3] at hb;cases hb
  | some o' =>
   rw [h3] at hb
   cases o' with
   | cells c t f=>injection hb with hb;subst hb;cases ho
   | _=>cases hb
section
variable {P:Program} {N:Nat} {W0 W W' w:World} {X:Nat→Option Loc} {M0 M M' M3:Nat→Option Obj} {σ σ' σ3:Nat→Loc} {T T':Nat→Option Tv} {H H':Nat→Option Blk} {a a':Act} {pids:List Nat} {fid:Nat} {fl:Loc}
end
end
section
open Go.RowKit
def Sf (D:Nat) (M:Nat->Option Obj) (b:Nat):Option Obj:=bif Nat.beq b D then some (.deferred (some [])) else M b
theorem UX {M0 M:Nat->Option Obj}:∀ {l:List Deferred} {d:Deferred},F7 M0 M l->d∈l->∃ D,d={ target:=.collected D,args := #[] }/\M D=some (.deferred (some []))
 | d0::l,d,h,hd=>by
  rcases List.mem_cons.1 hd with rfl | hd
  ·obtain ⟨⟨D,h1,h2,_⟩,_⟩:=h
   exact ⟨D,h1,h2⟩
  exact UX h.2 hd
theorem Wc {N:Nat} {W0 W:World} {XA X:Nat->Option Loc} {M0 M:Nat->Option Obj} {σ:Nat->Loc} {T:Nat->Option Tv} {H:Nat->Option Blk} {a:Act} {D:Nat} (hs:Sim N W0 XA M0 M σ T H a W)
  (hD:W.heap[D]? = some (.deferred (some []))) (hD0:M0 D=none) (hDl:W0.heap.size<=D) (hne:∀ d'∈a.defers,d'≠{ target:=.collected D,args := #[] }) (hpin:∀ m x,X m=some x->N<=m/\σ m=x) (hXA:∀ b,inX XA b->W0.heap.size<=b\/inX X b) (hnf:¬ Zw X) :
  Sim N W0 X M0 (Sf D M) σ T H { a with defers:={ target:=.collected D,args := #[] }::a.defers } W:=by
 have hM:∀ b o,M b=some o->Sf D M b=some o:=fun b o h=>by
  unfold Sf
  cases hb:Nat.beq b D with
  | true =>
   have:=Nat.eq_of_beq_eq_true hb
   subst this
   have h2:=hs.imm b o h
   rw [hD] at h2
   exact h2
  | false=>exact h
 have hput:Sf D M D=some (.deferred (some [])):=by unfold Sf;rw [Nat.beq_refl];rfl
 have hoth:∀ b,b≠D->Sf D M b=M b:=fun b h=>by unfold Sf;rw [show Nat.beq b D=false by rw [Ce];simp [h]];rfl
 refine ⟨hs.os,hs.tape,hs.output,hs.size,fun b hb hx=>hs.old b hb fun h => ?_,fun b o h=>hM b o (hs.sub b o h),fun b o h h' => ?_,hpin,⟨⟨⟨D,rfl,hput,hD0,hne⟩,F7.mono hM hs.defers.1⟩,fun h=>absurd h hnf⟩,hs.room,fun i v h=>Dk hM (fun _ _=>rfl) (hs.tmps i v h),fun b o h => ?_,fun n b h=>(hs.blk n b h).mono hM (fun _ _=>rfl) (fun _=>rfl),fun n b h => ?_,hs.inj⟩
 ·rcases hXA b h with h | h
  ·omega
  exact hx h
 ·by_cases e:b=D
  ·subst e;exact hDl
  rw [hoth b e] at h;exact hs.new b o h h'
 ·by_cases e:b=D
  ·subst e;rw [hput] at h;injection h with h;subst h;exact hD
  rw [hoth b e] at h;exact hs.imm b o h
 by_cases hn:(σ n).nil=true
 ·exact .inl hn
 rcases hs.loc n b h with h1 | ⟨h1,h2⟩
 ·exact .inl h1
 refine .inr ⟨?_,?_⟩
 ·rw [hoth _ fun e => ?_]
  ·exact h1
  have h3:=hs.blk n b h
  cases b with
  | cells l ty=>obtain ⟨_,c,hc,_⟩:=h3;rw [e,hD] at hc;cases hc
  | row sz len f ty =>
   rcases h3 with ⟨h4,_⟩ | ⟨_,c,hc,_⟩
   ·exact hn h4
   rw [e,hD] at hc;cases hc
  | omap=>obtain ⟨_,es,ck,g,hc,_⟩:=h3;rw [e,hD] at hc;cases hc
  | rowx=>obtain ⟨_,c,hc,_⟩:=h3;rw [e,hD] at hc;cases hc
 rcases h2 with h2 | h2
 ·exact .inl h2
 exact hXA _ h2
section
variable {P:Program} {N:Nat} {W0:World} {X:Nat→Option Loc} {M0:Nat→Option Obj}
end
end
section
open Go.RowKit
abbrev IQ:=Exit->AS->(World->Prop)->Bool->Prop
def IOk (Ow:World->Nat->Prop) (n0:Nat) (al:Bool) (M:Nat->Option Obj) (W0:World):Prop:=al=true->n0<=W0.heap.size/\(∀ b,Ow W0 b->b<W0.heap.size)/\∀ b o,M b=some o->¬ Ow W0 b
def IWp (P:Program) (N:Nat) (Ow:World->Nat->Prop) (n0:Nat) (c:Code) (Q:IQ) (s:AS) (J:World->Prop) (al:Bool):Prop :=
 ∀ W0 M σ a w,(J W0/\a.defers=[]/\IOk Ow n0 al M W0)->Sim N W0 noX M M σ (get s.t) (get s.h) a w->c.wpIn (FW none) 0 P (fun e a' w'=>∃ s' J' al' W0' M' σ',Q e s' J' al'/\(J' W0'/\a'.defers=[]/\IOk Ow n0 al' M' W0')/\Sim N W0' noX M' M' σ' (get s'.t) (get s'.h) a' w') a w
def ITh (K:AS->(World->Prop)->Bool->Prop) (Q:IQ):IQ
 | .normal,s,J,M=>K s J M
 | e,s,J,M=>Q e s J M
def IBl (id:Nat) (Q:IQ):IQ
 | .exit id',s,J,M=>if id'=id then Q .normal s J M else Q (.exit id') s J M
 | e,s,J,M=>Q e s J M
theorem WW {d:Nat} {v:Tv} (h:v.dv=true):v.no d=true:=by
 cases v with
 | av x=>exact Hu h
 | tup l =>
  simp only [Tv.dv,Tv.no,List.all_eq_true] at *
  exact fun x hx=>Hu (h x hx)
 | grd g x=>cases h
section
variable {P:Program} {N:Nat} {Ow:World→Nat→Prop} {n0:Nat} {Q:IQ} {s:AS} {J:World→Prop} {al:Bool} {Mc:Nat→Option Obj}
def LS (N b:Nat) (m:Nat):Option Loc:=bif Nat.beq m N then some ⟨b,424242,true⟩ else none
theorem NH {b m:Nat} {x:Loc} (hx:LS N b m=some x):m=N/\x=⟨b,424242,true⟩:=by
 unfold LS at hx
 cases hb:Nat.beq m N with
 | true=>rw [hb] at hx;injection hx with hx;exact ⟨Nat.eq_of_beq_eq_true hb,hx.symm⟩
 | false=>rw [hb] at hx;cases hx
theorem Rr {b b':Nat} (h:inX (LS N b) b'):b'=b:=by
 obtain ⟨m,x,h1,h2⟩:=h
 rw [(NH h1).2] at h2
 exact h2.symm
theorem TG {b:Nat}:Zw (LS N b):=⟨N,⟨b,424242,true⟩,by unfold LS;rw [Nat.beq_refl];rfl,rfl,rfl⟩
theorem Ma {W0 w:World} {M:Nat->Option Obj} {σ:Nat->Loc} {a:Act} (hdv:∀ i v,get s.t i=some v->v.dv=true) (hh:s.h=[]) (hd:a.defers=[]) (hs:Sim N W0 noX Mc M σ (get s.t) (get s.h) a w) :
  Sim N W0 (LS N W0.heap.size) Mc M (upd σ N ⟨W0.heap.size,424242,true⟩) (get s.t) (get s.h) a w:=by
 refine ⟨hs.os,hs.tape,hs.output,hs.size,fun b hb _=>hs.old b hb (E4 b),hs.sub,hs.new,fun m x hx => ?_,⟨by rw [hd];trivial,fun _=>hd⟩,hs.room,fun i v hv=>Dk (fun _ _ h=>h) (fun d hd => ?_) (hs.tmps i v hv),hs.imm,fun n b hb => ?_,fun n b hb => ?_,fun n m b c hb => ?_⟩
 ·obtain ⟨rfl,rfl⟩:=NH hx
  exact ⟨Nat.le_refl _,by unfold upd;rw [Nat.beq_refl];rfl⟩
 ·rw [WW (hdv i v hv)] at hd;cases hd
 all_goals rw [hh] at hb;cases hb
theorem I7 {W0 w:World} {M:Nat->Option Obj} {σ:Nat->Loc} {a:Act} {T:Nat->Option Tv} {H:Nat->Option Blk} (h2:Sim N W0 (LS N W0.heap.size) Mc M σ T H a w):a.defers=[]/\Sim N W0 noX M M σ T H a w:=by
 have hd:=h2.defers.2 TG
 refine ⟨hd,h2.os,h2.tape,h2.output,h2.size,fun b hb _=>h2.old b hb fun h => ?_,fun _ _ h=>h,fun b o h h'=>(by rw [h] at h';cases h'),fun m x hx=>(by cases hx),⟨by rw [hd];trivial,fun _=>hd⟩,h2.room,h2.tmps,h2.imm,h2.blk,fun n b hb=>(h2.loc n b hb).imp id fun h=>⟨h.1,?_⟩,h2.inj⟩
 ·have:=Rr h;omega
 rcases h.2 with h | h
 ·exact .inl h
 exact .inl (Nat.le_of_eq (Rr h).symm)
theorem Jw {W0 w:World} {M M':Nat->Option Obj} {X:Nat->Option Loc} {σ:Nat->Loc} {T:Nat->Option Tv} {H:Nat->Option Blk} {a:Act} (h:IOk Ow n0 al M W0) (hO:OwS Ow n0) (hs:Sim N W0 X M M' σ T H a w):IOk Ow n0 al M' W0:=fun ha=>by
 obtain ⟨h1,h3,h2⟩:=h ha
 refine ⟨h1,h3,fun b o hb ho => ?_⟩
 cases hM:M b with
 | some o'=>exact h2 b o' hM ho
 | none=>have:=hs.new b o hb hM;have:=h3 b ho;omega
theorem EK (hO:OwS Ow n0) {c:Code} (hdv:∀ i v,get s.t i=some v->v.dv=true) (hh:s.h=[]) (h:∀ W0 X1 M1,AWp P none N W0 X1 M1 c (fun e s'=>Q e s' J al) s):IWp P N Ow n0 c Q s J al:=by
 intro W0 M σ a w hJ hs
 refine wpIn_mono (h W0 _ M M _ a w (Ma hdv hh hJ.2.1 hs)) ?_
 rintro e a' w' ⟨s',M',σ',h1,h2⟩
 obtain ⟨hd,h3⟩:=I7 h2
 exact ⟨s',J,al,W0,M',σ',h1,⟨hJ.1,hd,Jw hJ.2.2 hO h2⟩,h3⟩
theorem Ds {x y:Code} (h:IWp P N Ow n0 x (ITh (fun s' J' M'=>IWp P N Ow n0 y Q s' J' M') Q) s J al):IWp P N Ow n0 (.seq x y) Q s J al:=by
 intro W0 M σ a w hJ hs
 refine wpIn_seq (wpIn_mono (h W0 M σ a w hJ hs) ?_)
 rintro e a' w' ⟨s',J',al',W0',M',σ',h1,h2,h3⟩
 cases e with
 | normal=>exact h1 W0' M' σ' a' w' h2 h3
 | _=>exact ⟨s',J',al',W0',M',σ',h1,h2,h3⟩
theorem Ge {id:Nat} {c:Code} (h:IWp P N Ow n0 c (IBl id Q) s J al):IWp P N Ow n0 (.block id c) Q s J al:=by
 intro W0 M σ a w hJ hs
 refine wpIn_block (wpIn_mono (h W0 M σ a w hJ hs) ?_)
 rintro e a' w' ⟨s',J',al',W0',M',σ',h1,h2,h3⟩
 cases e with
 | exit id' =>
  simp only [IBl] at h1
  simp only [Exit.inBlock]
  split
  ·rename_i he;rw [if_pos he] at h1;exact ⟨s',J',al',W0',M',σ',h1,h2,h3⟩
  rename_i he;rw [if_neg he] at h1;exact ⟨s',J',al',W0',M',σ',h1,h2,h3⟩
 | _=>exact ⟨s',J',al',W0',M',σ',h1,h2,h3⟩
theorem H7 {c:Operand} {x y:Code} (b:Bool) (hc:evT (get s.t) c=some (.av (.one (.val (.bool b))))) (h1:b=true->IWp P N Ow n0 x Q s J al) (h2:b=false->IWp P N Ow n0 y Q s J al):IWp P N Ow n0 (.cond c x y) Q s J al:=by
 intro W0 M σ a w hJ hs
 have hv:a.eval c=.bool b:=(Fz hs.tmps hc).1
 exact wpIn_cond_split hv (fun hb=>h1 hb W0 M σ a w hJ hs) (fun hb=>h2 hb W0 M σ a w hJ hs)
theorem Jv (h:Q .normal s J al):IWp P N Ow n0 .skip Q s J al:=fun W0 M σ a w hJ hs=>wpIn_skip ⟨s,J,al,W0,M,σ,h,hJ,hs⟩
theorem cJ (h:Q .ret s J al):IWp P N Ow n0 .ret Q s J al:=fun W0 M σ a w hJ hs=>wpIn_ret ⟨s,J,al,W0,M,σ,h,hJ,hs⟩
theorem QG {id:Nat} (h:Q (.exit id) s J al):IWp P N Ow n0 (.exit id) Q s J al:=fun W0 M σ a w hJ hs=>wpIn_exit ⟨s,J,al,W0,M,σ,h,hJ,hs⟩
theorem QF {ι:Type} {c:Code} (S:ι->AS) (Jf:ι->World->Prop) (Inv:ι->Prop) (μ:ι->Nat) (round:∀ x,Inv x->IWp P N Ow n0 c (ITh (fun s' J' al'=>∃ y,Inv y/\μ y<μ x/\s'=S y/\J'=Jf y/\al'=al) Q) (S x) (Jf x) al) (x:ι) (hx:Inv x):IWp P N Ow n0 (.loop c) Q (S x) (Jf x) al:=by
 have key:∀ n x,μ x<n->Inv x->∀ W0 M σ a w,(Jf x W0/\a.defers=[]/\IOk Ow n0 al M W0)->Sim N W0 noX M M σ (get (S x).t) (get (S x).h) a w->Code.roundsIn (FW none) 0 P c (fun e a' w'=>∃ s' J' al' W0' M' σ',Q e s' J' al'/\(J' W0'/\a'.defers=[]/\IOk Ow n0 al' M' W0')/\Sim N W0' noX M' M' σ' (get s'.t) (get s'.h) a' w') n a w:=by
  intro n
  induction n with
  | zero=>intro x h;omega
  | succ n ih =>
   intro x hlt hx W0 M σ a w hJ hs
   rw [roundsIn_succ]
   refine wpIn_mono (round x hx W0 M σ a w hJ hs) ?_
   rintro e a' w' ⟨s',J',al',W0',M',σ',h1,h2,h3⟩
   cases e with
   | normal =>
    obtain ⟨y,hy,hm,rfl,rfl,rfl⟩:=h1
    exact ih y (by omega) hy W0' M' σ' a' w' h2 h3
   | _=>exact ⟨s',J',al',W0',M',σ',h1,h2,h3⟩
 intro W0 M σ a w hJ hs
 exact wpIn_loop_rounds (μ x+1) (key (μ x+1) x (Nat.lt_succ_self _) hx W0 M σ a w hJ hs)
end
def Cl.isV:Cl->Bool
 | .val _=>true
 | _=>false
def Cl.toV:Cl->Value
 | .val v=>v
 | _=>undef
def Av.isV:Av->Bool
 | .one c=>c.isV
 | .agg l=>l.all Cl.isV
def Av.toV:Av->Value
 | .one c=>c.toV
 | .agg l=>.agg (l.map Cl.toV).toArray
theorem Yf {M:Nat->Option Obj} {σ:Nat->Loc}:∀ {l:List Cl} {vs:List Value},L2 (R M σ) l vs->l.all Cl.isV=true->vs=l.map Cl.toV
 | [],_,h,_=>by cases h;rfl
 | c::l,_,h,hv=>by
  cases h with
  | cons h1 h2 =>
   simp only [List.all_cons,Bool.and_eq_true] at hv
   rw [Yf h2 hv.2]
   cases c with
   | val v=>rw [h1.1];rfl
   | _=>cases hv.1
theorem dF {M:Nat->Option Obj} {σ:Nat->Loc} {x:Av} {V:Value} (h:RA M σ x V) (hv:x.isV=true):V=x.toV:=by
 cases x with
 | one c =>
  cases c with
  | val v=>exact h.1
  | _=>cases hv
 | agg l =>
  obtain ⟨vs,rfl,h2⟩:=h
  rw [Yf h2 hv];rfl
theorem aV {M:Nat->Option Obj} {σ:Nat->Loc} {x:Av} (hv:x.isV=true) (ho:∀ c∈x.cells,c.toV.oneCell'=true):RA M σ x x.toV:=by
 cases x with
 | one c =>
  cases c with
  | val v=>exact ⟨rfl,ho (.val v) (by simp [Av.cells])⟩
  | _=>cases hv
 | agg l =>
  refine ⟨_,rfl,?_⟩
  simp only [Av.isV] at hv
  simp only [Av.cells] at ho
  induction l with
  | nil=>exact .nil
  | cons c l ih =>
   simp only [List.all_cons,Bool.and_eq_true] at hv
   refine .cons ?_ (ih hv.2 fun c hc=>ho c (List.mem_cons_of_mem _ hc))
   cases c with
   | val v=>exact ⟨rfl,ho (.val v) (List.mem_cons_self ..)⟩
   | _=>cases hv.1
section
variable {P:Program} {V:Env P} {N:Nat} {W0:World} {X:Nat→Option Loc} {M0 M:Nat→Option Obj} {σ:Nat→Loc} {w:World} {a:Act}
theorem WT {o:Oper} {c:Call} {f:Operand} {ly:Nat} {xs:List Av} {T:Nat->Option Tv} (hT:∀ i v,T i=some v->RT M σ v (a.tmps.getD i undef)) (ho:o.op=.call c) (hcf:c.callee=.value f) (hf:evT T f=some (.av (.one (.val (.func (.yield ly) #[] #[]))))) (hxs:EG (evT T) c.args.toList=some xs) (hv:xs.all Av.isV=true)
  {R:Ending->World->Prop} (hY:YieldAt (FW none) 0 P ly (xs.map Av.toV).toArray w R) {K:Act->World->Prop} {Q:Exit->Act->World->Prop} (hK:∀ e w',R e w'->∃ V,e=.returned V/\K (a.put o.dst V) w'):o.wpIn (FW none) 0 P a w K Q:=by
 obtain ⟨fn,tmps,assign,body,hy,hR⟩:=hY
 refine ⟨fun _ _=>trivial,?_⟩
 rw [Oper.semAt_eq _ _ _ (fun d h=>by rw [ho] at h;cases h)]
 have hfv:=(Fz hT hf).1
 have hargs:=II (fun x v=>Fz hT) _ _ hxs
 have hmap:c.args.map a.eval=(xs.map Av.toV).toArray:=by
  have e:c.args.toList.map a.eval=xs.map Av.toV:=by
   clear hxs hy hR
   revert hargs hv
   generalize c.args.toList.map a.eval=vs
   intro hv hargs
   induction hargs with
   | nil=>rfl
   | cons h1 _ ih =>
    simp only [List.all_cons,Bool.and_eq_true] at hv
    rw [ih hv.2,List.map_cons,dF h1 hv.1]
  rw [<- e]
  apply Array.ext';simp
 have hres:(execOp a.eval o).run P w=.ok (.round ly fn tmps assign body) w:=by
  simp only [execOp,ho,Sem.run_bind,resolve,hcf,hfv,Deferred.ofValue,hmap]
  simpa [invoke] using hy
 rw [hres,Oper.uponIn_round]
 refine ⟨fun h=>(by cases h),?_⟩
 have h1:RoundIn (FW none) (0-1) P ly fn tmps assign body w R:=hR
 refine h1.mono ?_
 rintro e w' he
 obtain ⟨V,rfl,hk⟩:=hK e w' he
 exact hk
end
end
section
open Go.RowKit
section
variable {P:Program} {V:Env P} {rd:Option Nat} {N:Nat} {W0:World} {X:Nat→Option Loc} {M0:Nat→Option Obj} {l1 l2:List Oper} {o:Oper} {s0:AS}
end
def noM:Nat->Option Obj:=fun _=>none
def QT (M:Nat->Option Obj) (b:Nat):Option Obj:=match M b with
 | some (.cells c t f)=>some (.cells c t f)
 | _=>none
theorem D1 {M:Nat->Option Obj} {b:Nat} {o:Obj} (h:QT M b=some o):M b=some o/\o.isCells=true:=by
 unfold QT at h
 cases hM:M b with
 | none=>rw [hM] at h;cases h
 | some o' =>
  rw [hM] at h
  cases o' with
  | cells c t f=>injection h with h;subst h;exact ⟨rfl,rfl⟩
  | _=>cases h
theorem JN {M:Nat->Option Obj} (b:Nat) (c:Array Value) (t:TypeId) (f:Nat×Nat) (h:M b=some (.cells c t f)):QT M b=some (.cells c t f):=by unfold QT;rw [h]
section
variable {P:Program} {N:Nat} {Ow:World→Nat→Prop} {n0:Nat} {Q:IQ} {s:AS} {J:World→Prop}
theorem ED {K:AS->(World->Prop)->Bool->Prop} {Q:IQ} {s:AS} {J:World->Prop} {al:Bool} (h:K s J al):ITh K Q .normal s J al:=h
theorem OM {K:AS->(World->Prop)->Bool->Prop} {Q:IQ} {s:AS} {J:World->Prop} {al:Bool} {id:Nat} (h:Q (.exit id) s J al):ITh K Q (.exit id) s J al:=h
theorem Xp {Q:IQ} {s:AS} {J:World->Prop} {al:Bool} {id:Nat} (h:Q .normal s J al):IBl id Q .normal s J al:=h
theorem QI {Q:IQ} {s:AS} {J:World->Prop} {al:Bool} {id:Nat} (h:Q .normal s J al):IBl id Q (.exit id) s J al:=by simp only [IBl,if_true];exact h
theorem C4 {α:Type} {p:α->Prop}:∀ {l:List (Nat×α)},(∀ x∈l,p x.2)->∀ i v,get l i=some v->p v
 | [],_,_,_,h=>by cases h
 | (k,x)::l,h,i,v,hv=>by
  simp only [get,Ce] at hv
  by_cases hi:k=i
  ·subst hi;simp at hv;subst hv;exact h (k,x) (List.mem_cons_self ..)
  simp [hi] at hv;exact C4 (fun y hy=>h y (List.mem_cons_of_mem _ hy)) i v hv
theorem CW {α:Type} [Inhabited α] {sz:Nat} {c:α->List Cl} {xs:List α} (h:∀ x,∀ y∈c x,NM y):NM (lst sz c xs):=by
 refine .list _ _ _ _ fun i j => ?_
 rw [List.getD_eq_getElem?_getD]
 cases hj:(c (xs.getD i default))[j]? with
 | none=>exact .val _
 | some y=>exact h _ y (List.mem_of_getElem? hj)
theorem GM {L:List Cl} {sz len i off:Nat} (h:∀ y∈L,NM y):NM (.eptr sz len (fun _ j=>(L:List Cl).getD j default) i off):=by
 refine .eptr _ _ _ _ _ fun _ j => ?_
 show NM (L.getD j default)
 rw [List.getD_eq_getElem?_getD]
 cases hj:L[j]? with
 | none=>exact .val _
 | some y=>exact h y (List.mem_of_getElem? hj)
theorem XL {g:FuncId} {k:Nat} {L:List Cl} (h:∀ y∈L,NM y):NM (.clo g k (CU L)):=by
 refine .clo _ _ _ fun i => ?_
 show NM (L.getD i default)
 rw [List.getD_eq_getElem?_getD]
 cases hj:L[i]? with
 | none=>exact .val _
 | some y=>exact h y (List.mem_of_getElem? hj)
theorem CB {c:Cl} (h:NM c):TvM (.av (.one c)):=fun y hy=>by simp only [Av.cells,List.mem_singleton] at hy;subst hy;exact h
end
end
def IEnd (n:Nat) (JJ Jx:Nat->World->Prop):IQ:=fun e s' J' al'=>(e=.ret\/e=.normal)/\(J'=JJ n\/∃ j,j<n/\J'=Jx (j+1))
section
open Go.RowKit
theorem Gd:∀ {l:List Nat} {n:Nat},n∈l->BM l n=true
 | k::r,n,h=>by
  simp only [BM]
  cases hk:Nat.beq k n with
  | true=>rfl
  | false =>
   rcases List.mem_cons.1 h with e | h
   ·rw [e,Nat.beq_refl] at hk;cases hk
   exact Gd h
theorem Qx {fid:Nat}:∀ (ps:List Tmp) (es:List Av) (t:List (Nat×Tv)),(∀ i v,get t i=some v->v.no fid=true)->es.all Av.dv=true->∀ i v,get (N2 t ps es) i=some v->v.no fid=true
 | [],_,t,h,_,i,v,hv=>h i v (by cases ‹List Av› <;> exact hv)
 | p::ps,[],t,h,_,i,v,hv=>h i v hv
 | p::ps,e::es,t,h,he,i,v,hv=>by
  simp only [List.all_cons,Bool.and_eq_true] at he
  refine Qx ps es ((p,.av e)::t) (fun j u hu => ?_) he.2 i v hv
  simp only [get,Ce] at hu
  by_cases hj:p=j
  ·subst hj;simp at hu;subst hu;exact Hu he.1
  simp [hj] at hu;exact h j u hu
section
variable {P:Program} {N:Nat} {W0:World} {X:Nat→Option Loc} {M0:Nat→Option Obj}
end
end
section
open Go.RowKit
section
variable {P:Program}
def Fr (P:Program) (f:FuncId) (xs:List Av) (b:Blk) (v:Nat->Tv):Prop:=∀ (M:Nat->Option Obj) (σ:Nat->Loc) (w:World) (args:List Value),(∀ b o,M b=some o->w.heap[b]? = some o)->L2 (RA M σ) xs args ->
 Calls P f args.toArray w fun en w'=>∃ U,en=.returned U/\∃ M' x,F8 w w' M M' Mx/\(x.nil=true\/(w.heap.size<=x.b/\M' x.b=none))/\(∀ σ',Bv M' σ' w' x b)/\∀ (σ':Nat->Loc) d,σ' d=x->RT M' σ' (v d) U
theorem Ks {f:FuncId} {xs:List Av} {b:Blk} {v:Nat->Tv} (h1:∀ args w,(callFunc f args).run P w=.ok (.enter f args) w) (h:Fr P f xs b v):EB P f xs (.new [] b v):=by
 refine .inl ⟨h1,fun M σ w h' args cs' g hs hargs hr hc => ?_⟩
 simp only [res,Option.some.injEq,Prod.mk.injEq] at hr
 obtain ⟨rfl,rfl⟩:=hr
 refine (h M σ w args hs.imm hargs).mono ?_
 rintro en w' ⟨U,hU,M',x,hk,hx,hb,hR⟩
 refine ⟨U,hU,fun dst ⟨d,hd,hno⟩=>⟨M',upd σ d x,x,d,hd,hk,hx,rfl,hb _,hR _ _ (BP _ _ _)⟩⟩
def dH (v:Nat->Tv):Prop:=∀ (M:Nat->Option Obj) (σ σ':Nat->Loc) (n d:Nat) (U:Value),σ' d=σ n->RT M σ (v n) U->RT M σ' (v d) U
theorem Mr (sz len:Nat):dH fun d=>.av (.one (.own d sz len)):=fun M σ σ' n d U h hR=>by
 have hR:R M σ (.own n sz len) U:=hR
 show R M σ' (.own d sz len) U
 simp only [R] at *
 rw [h];exact hR
def Nl (sz len:Nat) (d:Nat):List (Option Cl)->List Cl
 | []=>[]
 | none::l=>.own d sz len::Nl sz len d l
 | some c::l=>c::Nl sz len d l
def dvL:List (Option Cl)->Bool
 | []=>true
 | none::l=>dvL l
 | some c::l=>c.dv&&dvL l
theorem Pw {sz len:Nat} {M:Nat->Option Obj} {σ σ':Nat->Loc} {n d:Nat} (h:σ' d=σ n):∀ {l:List (Option Cl)} {vs:List Value},dvL l=true->L2 (R M σ) (Nl sz len n l) vs->L2 (R M σ') (Nl sz len d l) vs
 | [],_,_,h2=>by cases h2;exact .nil
 | none::l,_,hd,h2=>by
  cases h2 with
  | cons h3 h4=>exact .cons (by simp only [R] at *;rw [h];exact h3) (Pw h hd h4)
 | some c::l,_,hd,h2=>by
  simp only [dvL,Bool.and_eq_true] at hd
  cases h2 with
  | cons h3 h4=>exact .cons ((HS hd.1).2 ((HS hd.1).1 h3)) (Pw h hd.2 h4)
theorem W3 (sz len:Nat) (l:List (Option Cl)) (hd:dvL l=true):dH fun d=>.av (.agg (Nl sz len d l)):=fun M σ σ' n d U h hR=>by
 obtain ⟨vs,e,h2⟩:=hR
 exact ⟨vs,e,Pw h hd h2⟩
theorem ID {f:FuncId} {fn:Func} {c:Code} (hf:P.funcs[f]? = some fn) (hb:fn.body=some c) {xs:List Av} {sz len:Nat} {g:Nat->Nat->Cl} {ty:TypeId} {v:Nat->Tv} (hN:Nat.ble xs.length fn.ntmps=true) (hv:dH v)
  (h:∀ (W0:World) (M0:Nat->Option Obj),AWp P none fn.ntmps W0 noX M0 c (Nt P fn.ntmps W0 noX M0 fn fun r' s'=>∃ n,TvE r' (v n)/\∃ b,get s'.h n=some b/\GS b (.row sz len g ty)) ⟨EN 0 xs,[]⟩):Fr P f xs (.row sz len g ty) v:=by
 intro M σ w args himm hargs
 refine EU (X:=noX) (σ:=σ) (h0:=[]) hf hb (Nat.le_of_ble_eq_true hN) himm hargs (fun n b h=>by cases h) (fun n b h=>by cases h) (fun n x h=>by cases h) (fun n m b c h=>by cases h) (EF (h w M)) ?_
 rintro r' s' M' σ' a' w' U ⟨n,he,b,hb1,hbe⟩ hs hR
 have hbk:=IU hbe (hs.blk n _ hb1)
 refine ⟨U,rfl,M',σ' n,⟨hs.os,hs.tape,hs.output,hs.size,fun b hb _=>hs.old b hb (E4 b),hs.sub,hs.new,hs.imm⟩,?_,fun σ'' => ?_,fun σ'' d hd=>hv M' σ' σ'' n d U hd (JS he hR)⟩
 ·rcases hs.loc n _ hb1 with h1 | ⟨h1,h2 | h2⟩
  ·exact .inl h1
  ·exact .inr ⟨h2,h1⟩
  exact absurd h2 (E4 _)
 exact hbk
theorem frE {α:Type} [Inhabited α] {c:α->List Cl} {sz n:Nat} {ty:TypeId} {xs ys:List α} {s':AS} (h:xs=ys) (hg:get s'.h n=some (.row sz xs.length (AU c xs) ty)) :
  ∃ m,TvE (.av (.one (.own n sz xs.length))) (.av (.one (.own m sz ys.length)))/\∃ b,get s'.h m=some b/\GS b (.row sz ys.length (AU c ys) ty):=by subst h;exact ⟨n,.refl _,_,hg,.refl _⟩
theorem TF {f:FuncId} {sz len:Nat} {F:Nat->Nat->Cl} {b:Blk} {v:Nat->Tv} (h0:len=0->Fr P f [.one (.val (.slice none 0 0))] b v) (h1:Fr P f [.one (.list true sz len F)] b v) (hsz:sz≠0:=by decide):Fr P f [.one (.list false sz len F)] b v:=by
 intro M σ w args himm hargs
 cases hargs with
 | cons ha ht =>
  cases ht with
  | nil =>
   have ha:RC M (.list false sz len F) _:=ha
   cases ha with
   | nil=>exact h0 rfl M σ w _ himm (.cons ⟨rfl,rfl⟩ .nil)
   | mt _ _ _ a cap=>exact h1 M σ w _ himm (.cons (RC.mt true sz F a cap (fun _ h=>absurd h hsz)) .nil)
   | list _ _ _ _ b off cap g e1 e2 e3=>exact h1 M σ w _ himm (.cons (RC.list true sz len F b off cap g e1 e2 e3 (fun _ h=>absurd h hsz)) .nil)
end
end
section
open Go.RowKit Go.MapKept
section
variable {K V:Type} [Inhabited K] [Inhabited V]
def kfG (ck:K->Value) (l:List (K×V)):Nat->Value:=fun i=>ck (l.getD i default).1
def vfG (c:V->List Cl) (l:List (K×V)):Nat->Nat->Cl:=fun i j=>(c (l.getD i default).2).getD j default
def D7 (eq:K->K->Bool) (l:List (K×V)) (k:K):Bool:=l.any fun e=>eq e.1 k
def DE (eq:K->K->Bool) (l:List (K×V)) (k:K):Nat:=l.findIdx fun e=>eq e.1 k
def Gz (eq:K->K->Bool) (l:List (K×V)) (k:K) (v:V):List (K×V):=bif D7 eq l k then l.set (DE eq l k) (k,v) else l++[(k,v)]
theorem RS {eq:K->K->Bool} {l:List (K×V)} {k:K} (h:D7 eq l k=true):DE eq l k<l.length/\eq (l.getD (DE eq l k) default).1 k=true/\∀ j,j<DE eq l k->eq (l.getD j default).1 k=false:=by
 unfold D7 at h
 obtain ⟨x,hx,hxk⟩:=List.any_eq_true.1 h
 have hlt:l.findIdx (fun e=>eq e.1 k)<l.length:=List.findIdx_lt_length.2 ⟨x,hx,hxk⟩
 refine ⟨hlt,?_,fun j hj => ?_⟩
 ·have:=List.findIdx_getElem (w:=hlt)
  unfold DE
  rw [List.getD_eq_getElem?_getD,List.getElem?_eq_getElem hlt]
  exact this
 have:=List.not_of_lt_findIdx hj
 have hj':j<l.length:=Nat.lt_trans hj hlt
 rw [List.getD_eq_getElem?_getD,List.getElem?_eq_getElem hj']
 exact this
theorem ZY {eq:K->K->Bool} {l:List (K×V)} {k:K} (h:D7 eq l k=false):∀ j,j<l.length->eq (l.getD j default).1 k=false:=by
 intro j hj
 unfold D7 at h
 have:=(List.any_eq_false.1 h) l[j] (List.getElem_mem hj)
 rw [List.getD_eq_getElem?_getD,List.getElem?_eq_getElem hj]
 simpa using this
theorem Ra {P:Program} {E:TypeId->Option (List Kd)} {kt:TypeId} {ck:K->Value} {eq:K->K->Bool} (heq:∀ a b,eq a b=true↔ck a=ck b) (hfit:∀ k,Ei P E kt (ck k)) (l:List (K×V)) (k:K) :
  R3 P E kt l.length (kfG ck l) (ck k) (D7 eq l k) (DE eq l k):=by
 refine ⟨hfit k,fun j _=>hfit _,fun h => ?_,fun h j hj => ?_⟩
 ·obtain ⟨h1,h2,h3⟩:=RS h
  refine ⟨h1,(heq _ _).1 h2,fun j hj e => ?_⟩
  have:=(heq _ _).2 e
  rw [h3 j hj] at this
  cases this
 intro e
 have:=(heq _ _).2 e
 rw [ZY h j hj] at this
 cases this
omit [Inhabited K] [Inhabited V] in
theorem RP (eq:K->K->Bool) (l:List (K×V)) (k:K) (v:V):(bif D7 eq l k then l.length else l.length+1)=(Gz eq l k v).length:=by
 unfold Gz
 cases D7 eq l k <;> simp
theorem RQ {eq:K->K->Bool} {l:List (K×V)} {k:K} {v:V} (j:Nat) (hj:j<(Gz eq l k v).length):(Gz eq l k v).getD j default=bif Nat.beq j (bif D7 eq l k then DE eq l k else l.length) then (k,v) else l.getD j default:=by
 rw [<- RP] at hj
 unfold Gz
 cases h:D7 eq l k with
 | true =>
  rw [h] at hj
  simp only [cond_true] at *
  have hlt:=(RS h).1
  rw [List.getD_eq_getElem?_getD,List.getElem?_set,Ce]
  by_cases e:DE eq l k=j
  ·subst e;simp [hlt]
  rw [if_neg e,decide_eq_false (Ne.symm e),cond_false,List.getD_eq_getElem?_getD]
 | false =>
  rw [h] at hj
  simp only [cond_false] at *
  rw [List.getD_eq_getElem?_getD,Ce]
  by_cases e:j=l.length
  ·subst e
   rw [decide_eq_true rfl,cond_true,List.getElem?_append_right (Nat.le_refl _),Nat.sub_self]
   rfl
  rw [decide_eq_false e,cond_false,List.getElem?_append_left (by omega),List.getD_eq_getElem?_getD]
theorem YQ {ck:K->Value} {cv:V->List Cl} {eq:K->K->Bool} {agg:Bool} {nv:Nat} (l:List (K×V)) (k:K) (v:V) (cells:List Cl) (hc:cells=cv v) :
  GS (.omap agg nv (bif D7 eq l k then l.length else l.length+1) (fun j=>bif Nat.beq j (bif D7 eq l k then DE eq l k else l.length) then ck k else kfG ck l j) (fun j c=>bif Nat.beq j (bif D7 eq l k then DE eq l k else l.length) then cells.getD c default else vfG cv l j c))
   (.omap agg nv (Gz eq l k v).length (kfG ck (Gz eq l k v)) (vfG cv (Gz eq l k v))):=by
 subst hc
 refine .omap agg nv (RP eq l k v) (fun j hj => ?_) (fun j c hj _ => ?_)
 ·unfold kfG
  rw [RQ j hj]
  cases Nat.beq j (bif D7 eq l k then DE eq l k else l.length) <;> rfl
 have:(bif Nat.beq j (bif D7 eq l k then DE eq l k else l.length) then (cv v).getD c default else vfG cv l j c)=vfG cv (Gz eq l k v) j c:=by
  unfold vfG
  rw [RQ j hj]
  cases Nat.beq j (bif D7 eq l k then DE eq l k else l.length) <;> rfl
 rw [this]
 exact .refl _
theorem YR {ck:K->Value} {cv:V->List Cl} {agg:Bool} {nv:Nat}:GS (.omap agg nv 0 (fun _=>undef) (fun _ _=>default)) (.omap agg nv ([]:List (K×V)).length (kfG ck ([]:List (K×V))) (vfG cv ([]:List (K×V)))) :=
 .omap agg nv rfl (fun j hj=>absurd hj (Nat.not_lt_zero _)) (fun j c hj _=>absurd hj (Nat.not_lt_zero _))
end
def eqS (a b:ByteArray):Bool:=a.toList==b.toList
theorem X8 (a b:ByteArray):eqS a b=true↔Value.string a=Value.string b:=by
 unfold eqS
 rw [beq_iff_eq,Value.string.injEq]
 exact ⟨YU,fun h=>by rw [h]⟩
end
section
open Go.RowKit Go.MapKept
section
variable {P:Program}
def Wr2 (P:Program) (f:FuncId) (K L:Nat) (xs:List Av) (b0 d0:Blk) (r:Tv) (b1 d1:Blk):Prop:=∀ (M:Nat->Option Obj) (σ:Nat->Loc) (w:World) (args:List Value),(∀ b o,M b=some o->w.heap[b]? = some o) ->
 (Bv M σ w (σ K) b0/\(σ K).nil=false/\M (σ K).b=none)->(Bv M σ w (σ L) d0/\(σ L).nil=false/\M (σ L).b=none)->(σ K).b≠(σ L).b->L2 (RA M σ) xs args ->
 Calls P f args.toArray w fun en w'=>∃ U,en=.returned U/\∃ M',F8 w w' M M' (fun b=>only (σ K) b\/only (σ L) b)/\(∀ σ',RT M' σ' r U)/\(∀ σ',Bv M' σ' w' (σ K) b1)/\∀ σ',Bv M' σ' w' (σ L) d1
theorem MS {f:FuncId} {fn:Func} {c:Code} (hf:P.funcs[f]? = some fn) (hb:fn.body=some c) {K L:Nat} {xs:List Av} {b0 d0 b1 d1:Blk} {r:Tv} (hN:Nat.ble xs.length fn.ntmps=true) (hK:Nat.ble fn.ntmps K=true) (hL:Nat.ble fn.ntmps L=true) (hKL:Nat.beq K L=false) (hd:r.dv=true) (hd1:Ht b1=true) (hd2:Ht d1=true)
  (h:∀ (W0:World) (M0:Nat->Option Obj) (X:Nat->Option Loc),(∀ k x,X k=some x->BM [K,L] k=true)->AWp P none fn.ntmps W0 X M0 c (Nt P fn.ntmps W0 X M0 fn fun r' s'=>TvE r' r/\(∃ b,get s'.h K=some b/\GS b b1)/\∃ b,get s'.h L=some b/\GS b d1) ⟨EN 0 xs,[(K,b0),(L,d0)]⟩):Wr2 P f K L xs b0 d0 r b1 d1:=by
 intro M σ w args himm ⟨hblk,hnil,hM⟩ ⟨hblk2,hnil2,hM2⟩ hbne hargs
 have hne:K≠L:=fun e=>by rw [e,Nat.beq_refl] at hKL;cases hKL
 let X:Nat->Option Loc:=upd (upd noX K (some (σ K))) L (some (σ L))
 have hXL:X L=some (σ L):=BP _ _ _
 have hXK:X K=some (σ K):=by
  show upd _ L _ K=_
  rw [CS _ _ hne];exact BP _ _ _
 have one:∀ n b,get [(K,b0),(L,d0)] n=some b->(n=K/\b=b0)\/(n=L/\b=d0):=fun n b hn=>by
  simp only [get,Ce] at hn
  by_cases hk:K=n
  ·simp [hk] at hn;exact .inl ⟨hk.symm,hn.symm⟩
  by_cases hl:L=n
  ·simp [hk,hl] at hn;exact .inr ⟨hl.symm,hn.symm⟩
  simp [hk,hl] at hn
 have pins:∀ n x,X n=some x->(n=K/\x=σ K)\/(n=L/\x=σ L):=fun n x hx=>by
  by_cases hl:n=L
  ·subst hl;rw [hXL] at hx;injection hx with hx;exact .inr ⟨rfl,hx.symm⟩
  by_cases hk:n=K
  ·subst hk;rw [hXK] at hx;injection hx with hx;exact .inl ⟨rfl,hx.symm⟩
  simp only [X] at hx;rw [CS _ _ hl,CS _ _ hk] at hx;cases hx
 have hXm:∀ k x,X k=some x->BM [K,L] k=true:=fun k x hk=>by
  rcases pins k x hk with ⟨rfl,_⟩ | ⟨rfl,_⟩
  ·unfold BM;rw [Nat.beq_refl];rfl
  unfold BM;rw [hKL];exact Jp _
 refine EU (X:=X) (σ:=σ) (h0:=[(K,b0),(L,d0)]) hf hb (Nat.le_of_ble_eq_true hN) himm hargs (fun n b hn => ?_) (fun n b hn => ?_) (fun n x hx => ?_) (fun n m b c hn hm hnm => ?_) (EF (h w M X hXm)) ?_
 ·rcases one n b hn with ⟨rfl,rfl⟩ | ⟨rfl,rfl⟩
  ·exact hblk
  exact hblk2
 ·rcases one n b hn with ⟨rfl,rfl⟩ | ⟨rfl,rfl⟩
  ·exact .inr ⟨hM,n,σ n,hXK,rfl⟩
  exact .inr ⟨hM2,n,σ n,hXL,rfl⟩
 ·rcases pins n x hx with ⟨rfl,rfl⟩ | ⟨rfl,rfl⟩
  ·exact ⟨Nat.le_of_ble_eq_true hK,rfl⟩
  exact ⟨Nat.le_of_ble_eq_true hL,rfl⟩
 ·rcases one n b hn with ⟨rfl,rfl⟩ | ⟨rfl,rfl⟩ <;> rcases one m c hm with ⟨rfl,rfl⟩ | ⟨rfl,rfl⟩
  ·exact absurd rfl hnm
  ·exact .inr (.inr hbne)
  ·exact .inr (.inr fun e=>hbne e.symm)
  exact absurd rfl hnm
 rintro r' s' M' σ' a' w' U ⟨he,⟨b,hb1,hbe⟩,e,he1,hee⟩ hs hR
 have hpin:=(hs.pin K _ hXK).2
 have hbk:=hs.blk K _ hb1
 rw [hpin] at hbk
 have hpin2:=(hs.pin L _ hXL).2
 have hbk2:=hs.blk L _ he1
 rw [hpin2] at hbk2
 refine ⟨U,rfl,M',⟨hs.os,hs.tape,hs.output,hs.size,fun b hb hne=>hs.old b hb ?_,hs.sub,hs.new,hs.imm⟩,fun σ''=>GR hd (JS he hR),fun σ''=>E2 hd1 (IU hbe hbk),fun σ''=>E2 hd2 (IU hee hbk2)⟩
 rintro ⟨n,x,hx,rfl⟩
 rcases pins n x hx with ⟨rfl,rfl⟩ | ⟨rfl,rfl⟩
 ·exact hne (.inl ⟨hnil,rfl⟩)
 exact hne (.inr ⟨hnil2,rfl⟩)
def Eo (K n L m:Nat):Av->Av
 | .one (.ptr q off)=>.one (.ptr (bif Nat.beq q K then n else bif Nat.beq q L then m else q) off)
 | x=>x
def Mg (K L:Nat):Av->Bool
 | .one (.ptr q _)=>bif Nat.beq q K then true else Nat.beq q L
 | x=>x.dv
def aS (n m:Nat) (b0 d0:Blk) (r:Tv) (b1 d1:Blk):Ef:=.wrs [n,m] [] fun bs _=>some ([bs=[b0,d0]],r,[b1,d1])
theorem OL {w w':World} {M M':Nat->Option Obj} {p q:Nat->Prop} (h:F8 w w' M M' p) (hp:∀ b,p b->q b):F8 w w' M M' q :=
 ⟨h.os,h.tape,h.output,h.size,fun b hb hn=>h.old b hb fun h1=>hn (hp b h1),h.sub,h.new,h.imm⟩
theorem TR {f:FuncId} {K L n m:Nat} {xs:List Av} {b0 d0 b1 d1:Blk} {r:Tv} (h1:∀ args w,(callFunc f args).run P w=.ok (.enter f args) w) (hx:xs.all (Mg K L)=true) (hKL:Nat.beq K L=false) (hnm:Nat.beq n m=false) (hd0:Ht b0=true) (hd2:Ht d0=true) (h:Wr2 P f K L xs b0 d0 r b1 d1):EB P f (xs.map (Eo K n L m)) (aS n m b0 d0 r b1 d1):=by
 have hne:K≠L:=fun e=>by rw [e,Nat.beq_refl] at hKL;cases hKL
 have hnm':n≠m:=fun e=>by rw [e,Nat.beq_refl] at hnm;cases hnm
 refine .inl ⟨h1,fun M σ w hh args cs' g hs hargs hres hc => ?_⟩
 simp only [aS,res,GP] at hres
 cases hn:hh n with
 | none=>rw [hn] at hres;cases hres
 | some b =>
  cases hm:hh m with
  | none=>rw [hn,hm] at hres;cases hres
  | some d =>
   rw [hn,hm] at hres
   simp only [List.length_cons,List.length_nil,Nat.beq_refl,Option.some.injEq,Prod.mk.injEq] at hres
   obtain ⟨rfl,rfl⟩:=hres
   have hbd:=hc.head
   injection hbd with e1 e2
   injection e2 with e2 _
   subst e1;subst e2
   have hblk:=hs.blk n _ hn
   have hblk2:=hs.blk m _ hm
   have nilOf:∀ {q:Nat} {bq:Blk},Ht bq=true->Bv M σ w (σ q) bq->(σ q).nil=false:=fun {q bq} hd hb=>by
    cases bq with
    | row=>cases hd
    | omap=>cases hd
    | rowx=>cases hd
    | cells l ty=>exact hb.1
   have hnil:=nilOf hd0 hblk
   have hnil2:=nilOf hd2 hblk2
   have hM:M (σ n).b=none:=by
    rcases hs.loc n _ hn with h | h
    ·rw [hnil] at h;cases h
    exact h
   have hM2:M (σ m).b=none:=by
    rcases hs.loc m _ hm with h | h
    ·rw [hnil2] at h;cases h
    exact h
   have hbne:(σ n).b≠(σ m).b:=by
    rcases hs.inj n m _ _ hn hm hnm' with h | h | h
    ·rw [hnil] at h;cases h
    ·rw [hnil2] at h;cases h
    exact h
   let σ2:Nat->Loc:=upd (upd σ K (σ n)) L (σ m)
   have hL:σ2 L=σ m:=BP _ _ _
   have hK:σ2 K=σ n:=by
    show upd _ L _ K=_
    rw [CS _ _ hne];exact BP _ _ _
   have hargs2:L2 (RA M σ2) xs args:=by
    refine L2.of (by have:=hargs.length;simpa using this) fun i x V hxi hV => ?_
    obtain ⟨V',hV',hR⟩:=hargs.get i (Eo K n L m x) (by rw [List.getElem?_map,hxi];rfl)
    rw [hV] at hV';injection hV' with hV';subst hV'
    have hok:=(List.all_eq_true.1 hx) x (List.mem_of_getElem? hxi)
    unfold Mg at hok
    split at hok
    ·rename_i q off
     by_cases hq:q=K
     ·subst hq
      simp only [Eo,Nat.beq_refl,cond_true] at hR
      have hR':V=.pointer (some ⟨(σ n).b,off,none⟩):=hR
      show V=.pointer (some ⟨(σ2 q).b,off,none⟩)
      rw [hK];exact hR'
     have hqb:Nat.beq q K=false:=by
      cases hb:Nat.beq q K with
      | false=>rfl
      | true=>exact absurd (Nat.eq_of_beq_eq_true hb) hq
     rw [hqb] at hok
     have:=Nat.eq_of_beq_eq_true hok
     subst this
     simp only [Eo,hqb,Nat.beq_refl,cond_true,cond_false] at hR
     have hR':V=.pointer (some ⟨(σ m).b,off,none⟩):=hR
     show V=.pointer (some ⟨(σ2 q).b,off,none⟩)
     rw [hL];exact hR'
    rename_i hnp
    have:Eo K n L m x=x:=by
     unfold Eo
     split
     ·rename_i q off;exact (hnp q off rfl).elim
     rfl
    rw [this] at hR
    exact GR (σ':=σ2) (r:=.av x) hok hR
   refine (h M σ2 w args hs.imm (by rw [hK];exact ⟨E2 hd0 hblk,hnil,hM⟩) (by rw [hL];exact ⟨E2 hd2 hblk2,hnil2,hM2⟩) (by rw [hK,hL];exact hbne) hargs2).mono ?_
   rintro en w' ⟨U,hU,M',hk,hR,hb,hb2⟩
   rw [hK,hL] at hk
   have g1:get ([n,m].zip [b1,d1]) n=some b1:=by simp [get,Ce]
   have g2:get ([n,m].zip [b1,d1]) m=some d1:=by simp [get,Ce,hnm']
   refine ⟨U,hU,fun dst _=>⟨M',σ,OL hk fun b hb => ?_,rfl,hR σ,fun q bq hq => ?_⟩⟩
   ·rcases hb with h | h
    ·exact ⟨n,by rw [g1];rfl,h⟩
    exact ⟨m,by rw [g2];rfl,h⟩
   have h1:=hb σ
   have h2:=hb2 σ
   rw [hK] at h1
   rw [hL] at h2
   by_cases e:q=n
   ·subst e;rw [g1] at hq;injection hq with hq;subst hq;exact h1
   by_cases e2:q=m
   ·subst e2;rw [g2] at hq;injection hq with hq;subst hq;exact h2
   simp [get,Ce,Ne.symm e,Ne.symm e2] at hq
end
end
section
open Go.RowKit Go.MapKept
section
variable {P:Program} {rd:Option Nat} {N:Nat} {W0:World} {X:Nat→Option Loc} {M0:Nat→Option Obj} {Q:Exit→AS→Prop} {s:AS}
theorem R0 {c:Code} (b:Bool) (h1:b=true->AWp P rd N W0 X M0 c Q s) (h2:b=false->AWp P rd N W0 X M0 c Q s):AWp P rd N W0 X M0 c Q s:=by
 cases hb:b with
 | true=>exact h1 hb
 | false=>exact h2 hb
def AWL (P:Program) (rd:Option Nat) (N:Nat) (W0:World) (X:Nat->Option Loc) (M0:Nat->Option Obj) (ops:Array Oper) (l:List Oper) (K:AS->Prop) (s:AS):Prop :=
 ∀ M σ a w,Sim N W0 X M0 M σ (get s.t) (get s.h) a w->∀ Q':Exit->Act->World->Prop,(∀ s' M' σ' a' w',K s'->Sim N W0 X M0 M' σ' (get s'.t) (get s'.h) a' w'->Q' .normal a' w')->wpListIn (FW rd) 0 P ops Q' l a w
theorem Ey {id:Nat} {l:List Oper} (h:AWL P rd N W0 X M0 l.toArray l (Q .normal) s):AWp P rd N W0 X M0 (.region id l.toArray false) Q s:=by
 intro M σ a w hs
 exact wpIn_region_lit (h M σ a w hs _ fun s' M' σ' a' w' hk hs'=>⟨s',M',σ',hk,hs'⟩)
theorem Me {V:Env P} (hV:KE P V) {ops:Array Oper} {Q':Exit->Act->World->Prop} (l2:List Oper):∀ (l:List Oper) (s s1:AS) (cs:List Prop),LZ P V N ops l s=some (cs,s1)->Bs cs->∀ M σ a w,Sim N W0 X M0 M σ (get s.t) (get s.h) a w->(∀ M' σ' a' w',Sim N W0 X M0 M' σ' (get s1.t) (get s1.h) a' w'->wpListIn (FW rd) 0 P ops Q' l2 a' w')->wpListIn (FW rd) 0 P ops Q' (l++l2) a w
 | [],s,s1,cs,hr,hc,M,σ,a,w,hs,hK=>by
  simp only [LZ,Option.some.injEq,Prod.mk.injEq] at hr
  obtain ⟨_,rfl⟩:=hr
  exact hK M σ a w hs
 | o::l,s,s1,cs,hr,hc,M,σ,a,w,hs,hK=>by
  simp only [LZ] at hr
  split at hr
  ·rename_i cs1 s2 h1
   split at hr
   ·rename_i ds s3 h2
    simp only [Option.some.injEq,Prod.mk.injEq] at hr
    obtain ⟨rfl,rfl⟩:=hr
    obtain ⟨hc1,hc2⟩:=hc.append
    refine wpListIn_step fun K hK' => ?_
    refine MX hV h1 hc1 hs (fun _ _=>rfl) (fun _ _=>rfl) (fun hn d hd=>MU h1 hn hd) fun M' σ' a' w' hs'=>hK' _ _ (Me hV l2 l s2 s3 ds h2 hc2 M' σ' a' w' ?_ hK)
    rw [(Dq h1).1,(Dq h1).2]
    exact hs'
   cases hr
  cases hr
def N3 (P:Program) (V:Env P) (N:Nat) (ops:Array Oper) (l:List Oper) (ts hs:List Nat) (s:AS):Option (List Prop×AS):=match LZ P V N ops l s with
 | some (cs,s1)=>some (cs,Js ts hs s1)
 | none=>none
theorem IH {E:TypeId->Option (List Kd)} (hE:IW P ⟨fun _=>none,E,fun _=>false,fun _=>none⟩) {ops:Array Oper} {l:List Oper} {K:AS->Prop} (k:Nat) (ow:List Nat) (qs:List (Nat×(Bool×Nat))) (tbl:List (Nat×FuncId×List Av×Ef)) (ts ns:List Nat) (cs:List Prop) (S:AS) (htbl:Gp P tbl)
  (hr:N3 P ⟨G5 tbl,E,BM ow,get qs⟩ N ops (l.take k) ts ns s=some (cs,S)) (hc:Bs cs) (h:AWL P rd N W0 X M0 ops (l.drop k) K S):AWL P rd N W0 X M0 ops l K s:=by
 have hV:=htbl.env (O:=BM ow) (q:=get qs) hE
 intro M σ a w hs Q' hQ'
 unfold N3 at hr
 split at hr
 ·rename_i cs1 s1 h1
  simp only [Option.some.injEq,Prod.mk.injEq] at hr
  obtain ⟨rfl,rfl⟩:=hr
  have key:=Me (Q':=Q') (rd:=rd) hV (l.drop k) (l.take k) s s1 cs1 h1 hc M σ a w hs fun M' σ' a' w' hs'=>h M' σ' a' w' (FA hs' ts ns) Q' hQ'
  rw [List.take_append_drop] at key
  exact key
 cases hr
theorem Gl {E:TypeId->Option (List Kd)} (hE:IW P ⟨fun _=>none,E,fun _=>false,fun _=>none⟩) {ops:Array Oper} {l:List Oper} {K:AS->Prop} (ow:List Nat) (qs:List (Nat×(Bool×Nat))) (tbl:List (Nat×FuncId×List Av×Ef)) (ts ns:List Nat) (cs:List Prop) (S:AS) (htbl:Gp P tbl)
  (hr:N3 P ⟨G5 tbl,E,BM ow,get qs⟩ N ops l ts ns s=some (cs,S)) (hc:Bs cs) (h:K S):AWL P rd N W0 X M0 ops l K s:=by
 have hV:=htbl.env (O:=BM ow) (q:=get qs) hE
 intro M σ a w hs Q' hQ'
 unfold N3 at hr
 split at hr
 ·rename_i cs1 s1 h1
  simp only [Option.some.injEq,Prod.mk.injEq] at hr
  obtain ⟨rfl,rfl⟩:=hr
  exact Ph (Q':=Q') (rd:=rd) hV l s s1 cs1 h1 hc M σ a w hs fun M' σ' a' w' hs'=>hQ' _ M' σ' a' w' h (FA hs' ts ns)
 cases hr
theorem YF (n:Nat) (b b':Blk) (hn:get s.h n=some b) (hb:∀ M σ w x,Bv M σ w x b->Bv M σ w x b'):Cv N W0 X M0 s ⟨s.t,put s.h n b'⟩:=by
 intro M σ a w hs
 have hk:∀ m c,get (put s.h n b') m=some c->∃ b0,get s.h m=some b0/\(Bv M σ w (σ m) b0->Bv M σ w (σ m) c):=fun m c hm=>by
  rw [J2] at hm
  split at hm
  ·rename_i e
   subst e
   injection hm with hm
   subst hm
   exact ⟨b,hn,hb M σ w _⟩
  exact ⟨c,hm,id⟩
 refine ⟨M,σ,hs.os,hs.tape,hs.output,hs.size,hs.old,hs.sub,hs.new,hs.pin,hs.defers,hs.room,hs.tmps,hs.imm,fun m c hm => ?_,fun m c hm => ?_,fun m k c c' hm hk' hne => ?_⟩
 ·obtain ⟨b0,e1,e2⟩:=hk m c hm;exact e2 (hs.blk m b0 e1)
 ·obtain ⟨b0,e1,_⟩:=hk m c hm;exact hs.loc m b0 e1
 obtain ⟨b0,e1,_⟩:=hk m c hm;obtain ⟨b0',e1',_⟩:=hk k c' hk';exact hs.inj m k b0 b0' e1 e1' hne
def Oe:Nat->List (List Cl)->List (Nat×List Cl)
 | _,[]=>[]
 | k,l::r=>(k,l)::Oe (k+1) r
theorem IA:∀ (ls:List (List Cl)) (k i:Nat),get (Oe k ls) i=if k<=i then ls[i-k]? else none
 | [],k,i=>by simp [Oe,get]
 | l::r,k,i=>by
  simp only [Oe,get,Ce]
  by_cases h:k=i
  ·subst h;simp
  simp only [h,decide_false,cond_false]
  rw [IA r (k+1) i]
  by_cases h2:k<=i
  ·rw [if_pos (by omega),if_pos h2,show i-k=(i-(k+1))+1 by omega,List.getElem?_cons_succ]
  rw [if_neg (by omega),if_neg h2]
theorem YC {s:AS} (S:AS) (n sz len:Nat) (f:Nat->Nat->Cl) (ty:TypeId) (hn:get s.h n=some (.row sz len f ty)) (hl:Nat.blt 0 len=true) (hS:(⟨s.t,put s.h n (.rowx sz len (fun _ _=>default) ty (Oe 0 ((List.range len).map fun i=>FQ f i 0 sz)))⟩:AS)=S):Cv N W0 X M0 s S:=by
 subst hS
 have h0:0<len:=by
  have h1:Nat.ble (0+1) len=true:=hl
  exact Nat.le_of_ble_eq_true h1
 refine YF n _ _ hn fun M σ w x hb => ?_
 rcases hb with ⟨_,h⟩ | ⟨e0,c,e1,e2,e3,e4,g,e5⟩
 ·omega
 refine ⟨e0,c,e1,e2,e3,e4,g,fun i j hi hj=>⟨(e5 i j hi hj).1,fun hno => ?_⟩,fun i l hl => ?_⟩
 ·rw [IA] at hno
  simp [hi] at hno
 rw [IA,if_pos (Nat.zero_le _),Nat.sub_zero,List.getElem?_map] at hl
 by_cases hi:i<len
 ·rw [List.getElem?_range hi] at hl
  simp only [Option.map_some,Option.some.injEq] at hl
  subst hl
  refine ⟨hi,L2.of (by simp [DK]) fun j a b ha hb => ?_⟩
  have hj:j<sz:=by have:=(List.getElem?_eq_some_iff.1 ha).1;rwa [DK] at this
  rw [G4 _ _ _ _ _ hj,Nat.zero_add] at ha
  injection ha with ha
  subst ha
  rw [List.getElem?_map,List.getElem?_range hj] at hb
  simp only [Option.map_some,Option.some.injEq] at hb
  subst hb
  exact Lh (e5 i j hi hj).2
 rw [List.getElem?_eq_none (by simp;omega)] at hl
 cases hl
theorem YE {s:AS} (S:AS) (n sz len:Nat) (f:Nat->Nat->Cl) (ty:TypeId) (ls:List (List Cl)) (hn:get s.h n=some (.rowx sz len f ty (Oe 0 ls))) (hlen:Nat.beq ls.length len=true) (hsz:ls.all (fun l=>Nat.beq l.length sz&&l.all Cl.dv)=true) (hS:(⟨s.t,put s.h n (.row sz len (As sz len ls.flatten) ty)⟩:AS)=S):Cv N W0 X M0 s S:=by
 subst hS
 have hlen:=Nat.eq_of_beq_eq_true hlen
 refine YF n _ _ hn fun M σ w x hb => ?_
 obtain ⟨e0,c,e1,e2,e3,e4,g,e5,e6⟩:=hb
 refine .inr ⟨e0,c,e1,e2,e3,e4,g,fun i j hi hj=>⟨(e5 i j hi hj).1,?_⟩⟩
 have hil:i<ls.length:=by omega
 have hmem:=List.getElem_mem hil
 have hall:=(List.all_eq_true.1 hsz) _ hmem
 simp only [Bool.and_eq_true] at hall
 have hli:=Nat.eq_of_beq_eq_true hall.1
 obtain ⟨_,hL⟩:=e6 i ls[i] (by rw [IA,if_pos (Nat.zero_le _),Nat.sub_zero,List.getElem?_eq_getElem hil])
 have hflat:∀ (q:List (List Cl)) (i j:Nat) (hi:i<q.length),(∀ l∈q,l.length=sz)->j<sz->q.flatten[i*sz+j]? = q[i][j]? := by
  intro q
  induction q with
  | nil=>intro i j hi;simp at hi
  | cons l r ih =>
   intro i j hi hall hj
   have h1:=hall l (by simp)
   cases i with
   | zero=>simp [List.getElem?_append,h1,hj]
   | succ i =>
    rw [List.flatten_cons,List.getElem?_append_right (by rw [h1,Nat.add_mul];omega),h1,show (i+1)*sz+j-sz=i*sz+j by rw [Nat.add_mul];omega]
    simpa using ih i j (by simpa using hi) (fun l hl=>hall l (by simp [hl])) hj
 have hjl:j<ls[i].length:=by omega
 rw [Ru _ _ _ _ _ hi,List.getD_eq_getElem?_getD,hflat ls i j hil (fun l hl=>by
  have h:=(List.all_eq_true.1 hsz) l hl
  simp only [Bool.and_eq_true] at h
  exact Nat.eq_of_beq_eq_true h.1) hj,List.getElem?_eq_getElem hjl,Option.getD_some]
 obtain ⟨v,hv,hR⟩:=hL.get j _ (List.getElem?_eq_getElem hjl)
 rw [List.getElem?_map,List.getElem?_range hj] at hv
 simp only [Option.map_some,Option.some.injEq] at hv
 subst hv
 exact J6 ((List.all_eq_true.1 hall.2) _ (List.getElem_mem hjl)) hR
end
end
section
open Go.RowKit Go.MapKept
def Nh (is:List Nat):Nat->List Cl->List Cl->List Cl
 | k,x::a,y::b=>(bif BM is k then x else y)::Nh is (k+1) a b
 | _,_,_=>[]
def SZ (is:List Nat) (vs:Nat->Value):Nat->List Cl->List Cl
 | k,y::b=>(bif BM is k then .val (vs k) else y)::SZ is vs (k+1) b
 | _,[]=>[]
section
variable {P:Program} {M M':Nat→Option Obj} {σ σ':Nat→Loc} {w w':World}
theorem Tn (is:List Nat) (vs:Nat->Value):∀ (k:Nat) (l l0:List Cl) (c:List Value),l=Nh is k l l0->l.length=l0.length->(∀ j,j<c.length->vs (k+j)=c.getD j undef)->(∀ x∈l0,x.dv=true\/True)->L2 (R M σ) l c->L2 (R M σ) (SZ is vs k l0) c
 | k,[],[],c,_,_,_,_,h=>by cases h;exact .nil
 | k,[],_::_,c,_,hl,_,_,h=>by simp at hl
 | k,_::_,[],c,_,hl,_,_,h=>by simp at hl
 | k,x::l,y::l0,c,he,hl,hv,hd,h=>by
  cases h with
  | cons h1 h2 =>
   rename_i v c
   simp only [Nh,List.cons.injEq] at he
   refine .cons ?_ (Tn is vs (k+1) l l0 c he.2 (by simpa using hl) (fun j hj=>by
    have:=hv (j+1) (by simp;omega)
    rw [show k+1+j=k+(j+1) by omega,this];rfl) (fun x hx=>.inr trivial) h2)
   cases hm:BM is k with
   | true =>
    have:=hv 0 (by simp)
    simp only [cond_true]
    exact ⟨by rw [show k=k+0 from rfl,this];rfl,by rw [show k=k+0 from rfl,this];exact NZ h1⟩
   | false =>
    rw [hm] at he
    simp only [cond_false] at he ⊢
    rw [<- he.1];exact h1
theorem Qy (is:List Nat) (vs:Nat->Value) (hM:∀ b o,M b=some o->M' b=some o):∀ (k:Nat) (l l1:List Cl) (c c':List Value),l.length=l1.length->(∀ j,j<c.length->vs (k+j)=c.getD j undef)->L2 (R M σ) l c->L2 (R M' σ) (SZ is vs k l1) c'->L2 (R M' σ) (Nh is k l l1) c'
 | k,[],[],c,c',_,_,_,h=>by cases h;exact .nil
 | k,[],_::_,c,c',hl,_,_,h=>by simp at hl
 | k,_::_,[],c,c',hl,_,_,h=>by simp at hl
 | k,x::l,y::l1,c,c',hl,hv,h0,h=>by
  cases h0 with
  | cons h1 h2 =>
   rename_i v c
   simp only [SZ] at h
   cases h with
   | cons h3 h4 =>
    simp only [Nh]
    refine .cons ?_ (Qy is vs hM (k+1) l l1 c _ (by simpa using hl) (fun j hj=>by
     have:=hv (j+1) (by simp;omega)
     rw [show k+1+j=k+(j+1) by omega,this];rfl) h2 h4)
    cases hm:BM is k with
    | true =>
     rw [hm] at h3
     have h5:=h3.1
     have h6:=hv 0 (by simp)
     rw [h5,show k=k+0 from rfl,h6]
     exact DM hM (fun _ _=>rfl) h1
    | false=>rw [hm] at h3;exact h3
theorem Yk {hh:Nat->Option Blk} {f:FuncId} {K L n m:Nat} {xs:List Av} {args:List Value} {b d b0 d0 b1 d1:Blk} {r:Tv} (hx:xs.all (Mg K L)=true) (hKL:Nat.beq K L=false) (hnm':n≠m) (hs:Std M σ w hh) (hn:hh n=some b) (hm:hh m=some d) (hnil:(σ n).nil=false) (hnil2:(σ m).nil=false) (hblk:∀ σ',(∀ q,q≠K->q≠L->σ' q=σ q)->Bv M σ' w (σ n) b0) (hblk2:∀ σ',Bv M σ' w (σ m) d0)
  (hargs:L2 (RA M σ) (xs.map (Eo K n L m)) args) (h:Wr2 P f K L xs b0 d0 r b1 d1):Calls P f args.toArray w (fun en w'=>∃ U,en=.returned U/\∃ M',F8 w w' M M' (fun b=>only (σ n) b\/only (σ m) b)/\(∀ σ',RT M' σ' r U)/\(∀ σ',Bv M' σ' w' (σ n) b1)/\∀ σ',Bv M' σ' w' (σ m) d1):=by
 have hne:K≠L:=fun e=>by rw [e,Nat.beq_refl] at hKL;cases hKL
 have hM:M (σ n).b=none:=by
  rcases hs.loc n _ hn with h | h
  ·rw [hnil] at h;cases h
  exact h
 have hM2:M (σ m).b=none:=by
  rcases hs.loc m _ hm with h | h
  ·rw [hnil2] at h;cases h
  exact h
 have hbne:(σ n).b≠(σ m).b:=by
  rcases hs.inj n m _ _ hn hm hnm' with h | h | h
  ·rw [hnil] at h;cases h
  ·rw [hnil2] at h;cases h
  exact h
 let σ2:Nat->Loc:=upd (upd σ K (σ n)) L (σ m)
 have hL:σ2 L=σ m:=BP _ _ _
 have hK:σ2 K=σ n:=by
  show upd _ L _ K=_
  rw [CS _ _ hne];exact BP _ _ _
 have hrest:∀ q,q≠K->q≠L->σ2 q=σ q:=fun q h1 h2=>by
  show upd _ L _ q=_
  rw [CS _ _ h2,CS _ _ h1]
 have hargs2:L2 (RA M σ2) xs args:=by
  refine L2.of (by have:=hargs.length;simpa using this) fun i x V hxi hV => ?_
  obtain ⟨V',hV',hR⟩:=hargs.get i (Eo K n L m x) (by rw [List.getElem?_map,hxi];rfl)
  rw [hV] at hV';injection hV' with hV';subst hV'
  have hok:=(List.all_eq_true.1 hx) x (List.mem_of_getElem? hxi)
  unfold Mg at hok
  split at hok
  ·rename_i q off
   by_cases hq:q=K
   ·subst hq
    simp only [Eo,Nat.beq_refl,cond_true] at hR
    have hR':V=.pointer (some ⟨(σ n).b,off,none⟩):=hR
    show V=.pointer (some ⟨(σ2 q).b,off,none⟩)
    rw [hK];exact hR'
   have hqb:Nat.beq q K=false:=by
    cases hb:Nat.beq q K with
    | false=>rfl
    | true=>exact absurd (Nat.eq_of_beq_eq_true hb) hq
   rw [hqb] at hok
   have:=Nat.eq_of_beq_eq_true hok
   subst this
   simp only [Eo,hqb,Nat.beq_refl,cond_true,cond_false] at hR
   have hR':V=.pointer (some ⟨(σ m).b,off,none⟩):=hR
   show V=.pointer (some ⟨(σ2 q).b,off,none⟩)
   rw [hL];exact hR'
  rename_i hnp
  have:Eo K n L m x=x:=by
   unfold Eo
   split
   ·rename_i q off;exact (hnp q off rfl).elim
   rfl
  rw [this] at hR
  exact GR (σ':=σ2) (r:=.av x) hok hR
 refine (h M σ2 w args hs.imm (by rw [hK];exact ⟨hblk σ2 hrest,hnil,hM⟩) (by rw [hL];exact ⟨hblk2 σ2,hnil2,hM2⟩) (by rw [hK,hL];exact hbne) hargs2).mono ?_
 rintro en w' ⟨U,hU,M',hk,hR,hb,hb2⟩
 rw [hK,hL] at hk
 refine ⟨U,hU,M',hk,hR,fun σ' => ?_,fun σ' => ?_⟩
 ·have:=hb σ';rw [hK] at this;exact this
 have:=hb2 σ';rw [hL] at this;exact this
def wqV (n m:Nat) (is:List Nat) (l0:List Cl) (ty:TypeId) (d0:Blk) (r:Tv) (d1:Blk):Ef:=.wq m n fun y x=>match x with
 | .cells l ty'=>bif Nat.beq l.length l0.length then some ([Blk.cells l ty'=.cells (Nh is 0 l l0) ty,y=d0],r,d1) else none
 | _=>none
theorem HF {f:FuncId} {K L n m:Nat} {xs:List Av} {is:List Nat} {l0:List Cl} {ty:TypeId} {d0 d1:Blk} {r:Tv} {B0:(Nat->Value)->List Cl} (h1:∀ args w,(callFunc f args).run P w=.ok (.enter f args) w) (hx:xs.all (Mg K L)=true) (hKL:Nat.beq K L=false) (hnm:Nat.beq n m=false) (hd2:Ht d0=true) (hdl:∀ vs,(SZ is vs 0 l0).all Cl.dv=true)
  (e0:∀ vs,SZ is vs 0 l0=B0 vs) (h:∀ vs,Wr2 P f K L xs (.cells (B0 vs) ty) d0 r (.cells (B0 vs) ty) d1):EB P f (xs.map (Eo K n L m)) (wqV n m is l0 ty d0 r d1):=by
 have hnm':n≠m:=fun e=>by rw [e,Nat.beq_refl] at hnm;cases hnm
 refine .inl ⟨h1,fun M σ w hh args cs' g hs hargs hres hc => ?_⟩
 simp only [wqV,res] at hres
 cases hm:hh m with
 | none=>rw [hm] at hres;cases hres
 | some d =>
  cases hn:hh n with
  | none=>rw [hn,hm] at hres;cases hres
  | some b =>
   rw [hn,hm] at hres
   cases b with
   | row=>simp at hres
   | omap=>simp at hres
   | rowx=>simp at hres
   | cells l ty' =>
    simp only at hres
    cases hlen:Nat.beq l.length l0.length with
    | false=>rw [hlen] at hres;simp at hres
    | true =>
     have hmn:Nat.beq m n=false:=by
      cases hb:Nat.beq m n with
      | false=>rfl
      | true=>exact absurd (Nat.eq_of_beq_eq_true hb).symm hnm'
     rw [hlen,hmn] at hres
     simp only [cond_true,Option.some.injEq,Prod.mk.injEq] at hres
     obtain ⟨rfl,rfl⟩:=hres
     have hlen0:=Nat.eq_of_beq_eq_true hlen
     have hbd:=hc.head
     have hdd:=hc.tail.head
     subst hdd
     injection hbd with hl hty
     subst hty
     obtain ⟨hnil,c,hheap,hL⟩:=hs.blk n _ hn
     have hblk2:=hs.blk m _ hm
     have hnil2:(σ m).nil=false:=by
      cases d with
      | row=>cases hd2
      | omap=>cases hd2
      | rowx=>cases hd2
      | cells l ty=>exact hblk2.1
     let vs:Nat->Value:=fun k=>c.getD k undef
     have hvs:∀ j,j<c.length->vs (0+j)=c.getD j undef:=fun j _=>by simp only [vs,Nat.zero_add]
     have hin:L2 (R M σ) (SZ is vs 0 l0) c:=Tn is vs 0 l l0 c hl hlen0 hvs (fun _ _=>.inr trivial) hL
     have hcall:=Yk (b0:=Blk.cells (B0 vs) ty') (b1:=Blk.cells (B0 vs) ty') hx hKL hnm' hs hn hm hnil hnil2 (fun σ' _=>⟨hnil,c,hheap,by rw [<- e0 vs];exact hin.mono fun a ha v hv=>(HS ((List.all_eq_true.1 (hdl vs)) a ha)).2 ((HS ((List.all_eq_true.1 (hdl vs)) a ha)).1 hv)⟩) (fun σ'=>E2 hd2 hblk2) hargs (h vs)
     refine hcall.mono ?_
     rintro en w' ⟨U,hU,M',hk,hR,hb,hb2⟩
     refine ⟨U,hU,fun dst _=>⟨M',σ,OL hk fun b hb=>hb.symm,rfl,hR σ,hb2 σ,?_⟩⟩
     obtain ⟨k1,c',k2,k3⟩:=hb σ
     refine ⟨k1,c',k2,?_⟩
     rw [<- e0 vs] at k3
     have k4:=Qy is vs hk.sub 0 l l0 c c' hlen0 hvs hL k3
     rw [<- hl] at k4
     exact k4
end
end
section
open Go.RowKit Go.MapKept
def Z7 (P:Program) (V:Env P) (N:Nat) (o:Oper) (G:Prop) (s:AS):Option (List Prop×AS):=match eff P V o.dst o.op (evG (get s.t) (Fq o.op)) with
 | some e=>match res (get s.h) e with
  | some (cs,g)=>bif G1 N s o.dst g then some (Ib (get s.t) G (Fq o.op)++cs,Ri s o.dst g) else none
  | none=>none
 | none=>none
section
variable {P:Program} {rd:Option Nat} {N:Nat} {W0:World} {X:Nat→Option Loc} {M0:Nat→Option Obj} {s:AS}
theorem NV {E:TypeId->Option (List Kd)} (hE:IW P ⟨fun _=>none,E,fun _=>false,fun _=>none⟩) {ops:Array Oper} {o:Oper} {l:List Oper} {K:AS->Prop} (j:Nat) (want:Bool) (G:Prop) (qs:List (Nat×(Bool×Nat))) (tbl:List (Nat×FuncId×List Av×Ef)) (cs:List Prop) (S:AS) (hg:o.guard=some (j,want)) (hG:GO (get s.t) ops j want=some G) (hGp:G) (htbl:Gp P tbl)
  (hst:Z7 P ⟨G5 tbl,E,BM [],get qs⟩ N o G s=some (cs,S)) (hc:Bs cs) (h:AWL P rd N W0 X M0 ops l K S):AWL P rd N W0 X M0 ops (o::l) K s:=by
 have hV:=htbl.env (O:=BM []) (q:=get qs) hE
 intro M σ a w hs Q' hQ'
 refine wpListIn_step fun K0 hK' => ?_
 rw [if_pos ((FX hs.tmps hs.room hg hG).2 hGp)]
 unfold Z7 at hst
 split at hst
 ·rename_i e he
  split at hst
  ·rename_i cs' g hr
   cases hok:G1 N s o.dst g with
   | false=>rw [hok] at hst;cases hst
   | true =>
    rw [hok] at hst
    simp only [cond_true,Option.some.injEq,Prod.mk.injEq] at hst
    obtain ⟨rfl,rfl⟩:=hst
    obtain ⟨hc1,hc2⟩:=hc.append
    have hgo0:=J0 hok (fun n v b hg=>by subst hg;exact Sb hr) (fun l v hg=>by subst hg;exact Pi hr) (fun n q v b bq hg=>by subst hg;exact Sc hr) (fun n b v hg=>by subst hg;exact Pj hr)
    refine (TL hV (fun x v hv=>X4 hGp hc1 hs.tmps hv) he hs.std hr hc2 (UO hgo0)).wp ?_ (fun c hc=>by rw [hc] at he;cases he)
    rintro U w' ⟨M',σ',ho⟩
    have hsim:=MZ hs ho hgo0
    rw [<- (Fx s o.dst g).1,<- (Fx s o.dst g).2] at hsim
    exact hK' _ _ (h M' σ' _ w' hsim Q' hQ')
  cases hst
 cases hst
theorem NW {ops:Array Oper} {o:Oper} {l:List Oper} {K:AS->Prop} (j:Nat) (want:Bool) (G:Prop) (S:AS) (hg:o.guard=some (j,want)) (hG:GO (get s.t) ops j want=some G) (hGn:¬ G) (hok:G1 N s o.dst (.val (.av (.one (.val (.bool false)))))=true) (hS:Lb s o.dst (.grd G (.one (.val (.bool false))))=S)
  (h:AWL P rd N W0 X M0 ops l K S):AWL P rd N W0 X M0 ops (o::l) K s:=by
 subst hS
 intro M σ a w hs Q' hQ'
 refine wpListIn_step fun K0 hK' => ?_
 rw [if_neg (fun h=>hGn ((FX hs.tmps hs.room hg hG).1 h))]
 refine ⟨fun _ _=>trivial,?_⟩
 have hgo0:=J0 hok (fun n v b hg=>by cases hg) (fun l v hg=>by cases hg) (fun n q v b bq hg=>by cases hg) (fun n b v hg=>by cases hg)
 have hsim:=MZ hs (g:=.val (.grd G (.one (.val (.bool false))))) (V:=undef) (w':=w) (M':=M) (σ':=σ) ⟨F8.refl hs.imm _,rfl,fun h=>absurd h hGn,fun _=>rfl⟩ ⟨hgo0.1,trivial⟩
 rw [<- (Fx s o.dst _).1,<- (Fx s o.dst _).2] at hsim
 exact hK' _ _ (h M σ _ w hsim Q' hQ')
end
end
section
open Go.RowKit
def BkN:Blk->Prop
 | .cells l _=>∀ c∈l,NM c
 | .row _ _ f _=>∀ i j,NM (f i j)
 | .omap _ _ _ _ vf=>∀ i j,NM (vf i j)
 | .rowx .. => False
theorem Tc {M M':Nat->Option Obj} (h:∀ b c t f,M b=some (.cells c t f)->M' b=some (.cells c t f)) {σ:Nat->Loc} {w:World} {x:Loc} {b:Blk} (hr:Bv M σ w x b) (hn:BkN b):Bv M' σ w x b:=by
 cases b with
 | cells l ty =>
  obtain ⟨h0,c,hc,hl⟩:=hr
  exact ⟨h0,c,hc,hl.mono fun a ha b hb=>Uj h hb (hn a ha)⟩
 | row sz len f ty =>
  rcases hr with hr | ⟨h0,c,hc,h1,h2,h3,g,hg⟩
  ·exact .inl hr
  exact .inr ⟨h0,c,hc,h1,h2,h3,g,fun i j hi hj=>⟨(hg i j hi hj).1,Qa h (hg i j hi hj).2 (hn i j)⟩⟩
 | omap agg nv len kf vf =>
  obtain ⟨h0,es,ck,g,hc,h1,h2,h3⟩:=hr
  exact ⟨h0,es,ck,g,hc,h1,h2,fun i j hi hj=>Qa h (h3 i j hi hj) (hn i j)⟩
 | rowx=>exact hn.elim
def Blk.isP:Blk->Bool
 | .cells .. => true
 | .omap .. => true
 | _=>false
def Blk.isR:Blk->Bool
 | .row .. => true
 | _=>false
def slV:Value->Bool
 | .slice (some _) _ _=>true
 | _=>false
def P4 (o:Obj) (k:Nat):Option Value:=match o with
 | .cells c _ _=>c[k]?
 | _=>none
def HR (bq off:Nat) (W:World) (b:Nat):Prop:=∃ o len cap,W.heap[bq]? = some o/\P4 o off=some (.slice (some ⟨b,0,none⟩) len cap)
def ND (q off r:Nat) (h:List (Nat×Blk)):Bool:=match get h q with
 | some (.cells l _)=>(match get h r with
  | some (.row ..)=>(match l[off]? with
   | some (.own r' _ _)=>Nat.beq r' r
   | _=>false)
  | none=>(match l[off]? with
   | none=>true
   | some (.val v) => !slV v
   | some (.ptr ..)=>true
   | _=>false)
  | _=>false)
 | _=>false
def PXr (pids:List Nat) (r:Nat) (G:Prop) (X:Nat->Option Loc):Prop:=∀ m x,X m=some x->(∃ q,BM pids q=true/\∃ y,X q=some y/\y.b=x.b)\/(m=r/\G/\x.nil=false)
section
variable {N:Nat} {W0 W W':World} {X XA:Nat→Option Loc} {M0 M M' M3:Nat→Option Obj} {σ σ' σ3:Nat→Loc} {T T':Nat→Option Tv} {H H':Nat→Option Blk} {a a':Act} {h:List (Nat×Blk)} {q off r:Nat}
theorem QJ (hs:Sim N W0 X M0 M σ T (get h) a W) (hb:ND q off r h=true) {b:Nat} (hh:HR (σ q).b off W b):(∃ x,get h r=some x)/\(σ r).nil=false/\(σ r).b=b:=by
 unfold ND at hb
 cases hq:get h q with
 | none=>rw [hq] at hb;cases hb
 | some bq =>
  rw [hq] at hb
  cases bq with
  | cells l ty =>
   obtain ⟨hn,c,hc,hl⟩:=hs.blk q _ hq
   obtain ⟨o,len,cap,ho,hcell⟩:=hh
   rw [hc] at ho;injection ho with ho;subst ho
   have hcl:c[off]? = some (.slice (some ⟨b,0,none⟩) len cap):=by simpa [P4] using hcell
   have hoff:off<l.length:=by rw [hl.length];exact (List.getElem?_eq_some_iff.1 hcl).1
   have hcl2:l[off]? = some l[off]:=List.getElem?_eq_getElem hoff
   obtain ⟨v,hv,hR⟩:=hl.get off _ hcl2
   rw [hcl] at hv;injection hv with hv;subst hv
   generalize l[off]=cl at hcl2 hR
   cases hr:get h r with
   | none =>
    simp only [hr,hcl2] at hb
    exfalso
    cases cl with
    | val u =>
     obtain ⟨h1,_⟩:=hR
     subst h1
     simp [slV] at hb
    | ptr n o=>cases hR
    | _=>cases hb
   | some br =>
    simp only [hr,hcl2] at hb
    cases br with
    | row sz len' f ty' =>
     cases cl with
     | own r' sz' len'' =>
      have:=Nat.eq_of_beq_eq_true hb
      subst this
      unfold R at hR
      split at hR
      ·cases hR.2
      rename_i hnil
      injection hR with h1
      injection h1 with h1
      injection h1 with h1
      exact ⟨⟨_,rfl⟩,by simpa using hnil,h1.symm⟩
     | _=>cases hb
    | _=>cases hb
  | _=>cases hb
theorem Rh (hs:Sim N W0 X M0 M σ T (get h) a W) (hb:ND q off r h=true) {x:Blk} (hr:get h r=some x) (hn:(σ r).nil=false):HR (σ q).b off W (σ r).b:=by
 unfold ND at hb
 cases hq:get h q with
 | none=>rw [hq] at hb;cases hb
 | some bq =>
  rw [hq] at hb
  cases bq with
  | cells l ty =>
   obtain ⟨_,c,hc,hl⟩:=hs.blk q _ hq
   simp only [hr] at hb
   cases x with
   | row sz len' f ty' =>
    cases hcl:l[off]? with
    | none=>simp only [hcl] at hb;cases hb
    | some cl =>
     simp only [hcl] at hb
     cases cl with
     | own r' sz' len'' =>
      have:=Nat.eq_of_beq_eq_true hb
      subst this
      obtain ⟨v,hv,hR⟩:=hl.get off _ hcl
      unfold R at hR
      rw [hn] at hR
      exact ⟨_,len'',(σ r').cap,hc,by simp only [P4,List.getElem?_toArray];rw [hv];exact congrArg some hR⟩
     | _=>cases hb
   | _=>cases hb
  | _=>cases hb
theorem Wb {Xr X2:Nat->Option Loc} (hs:Sim N W0 XA M0 M' σ' T H a W) (hr:Sim N W Xr M' M3 σ3 T' H' a' W') (hin:∀ b,inX Xr b->inX XA b\/W0.heap.size<=b)
  {H2:Nat->Option Blk} (hH2:∀ n b,H2 n=some b->H' n=some b) (hH:∀ n b,H2 n=some b->BkN b) {a2:Act} {T2:Nat->Option Tv} (hsz:a2.tmps.size=N) (hT2:∀ i v,T2 i=some v->RT (IV M' M3) σ3 v (a2.tmps.getD i undef)) (hX2:∀ n x,X2 n=some x->N<=n/\σ3 n=x) (hX3:∀ b,inX XA b↔inX X2 b) (hd:H4 X2 M0 (IV M' M3) a2.defers) :
  Sim N W0 X2 M0 (IV M' M3) σ3 T2 H2 a2 W':=by
 have hsub:∀ b o,M' b=some o->M3 b=some o:=hr.sub
 refine ⟨hr.os.trans hs.os,hr.tape.trans hs.tape,hr.output.trans hs.output,Nat.le_trans hs.size hr.size,fun b hb hx => ?_,fun b o h=>Og (hs.sub b o h),fun b o h h' => ?_,hX2,hd,hsz,hT2,fun b o h=>hr.imm b o (Gk hsub h),fun n b h=>Tc (NP hsub) (hr.blk n b (hH2 n b h)) (hH n b h),fun n b h => ?_,fun n m b c hb hc hne=>hr.inj n m b c (hH2 n b hb) (hH2 m c hc) hne⟩
 ·have h1:¬ inX XA b:=fun h=>hx ((hX3 b).1 h)
  refine (hr.old b (Nat.lt_of_lt_of_le hb hs.size) fun h => ?_).trans (hs.old b hb h1)
  rcases hin b h with h | h
  ·exact h1 h
  omega
 ·cases h1:M' b with
  | some o'=>exact hs.new b o' h1 h'
  | none=>exact Nat.le_trans hs.size (hr.new b o (Gk hsub h) h1)
 refine (hr.loc n b (hH2 n b h)).imp id fun h=>⟨?_,?_⟩
 ·cases hc:IV M' M3 (σ3 n).b with
  | none=>rfl
  | some o=>have:=Gk hsub hc;rw [h.1] at this;cases this
 rcases h.2 with h | h
 ·exact .inl (Nat.le_trans hs.size h)
 rcases hin _ h with h | h
 ·exact .inr ((hX3 _).1 h)
 exact .inl h
theorem SW (hs:Sim N W0 X M0 M σ T H a W) {row:Option Nat} (hH:∀ n b,H n=some b->b.isM=true->∀ r,row=some r->(σ n).b<r) (hg:W.grownBy W' row) (hr:∀ r,row=some r->W0.heap.size<=r/\(∃ o:Obj,W.heap[r]? = some o/\o.isCells=false)/\M r=none):Sim N W0 X M0 M σ T H a W':=by
 have hsame:∀ b (o:Obj),W.heap[b]? = some o->(o.isCells=true\/M b=some o\/b<W0.heap.size)->W'.heap[b]? = some o:=fun b o hb hc=>by
  refine (hg.block b (Array.getElem?_eq_some_iff.1 hb).1 fun e => ?_).trans hb
  obtain ⟨h1,⟨o',h2,h3⟩,h4⟩:=hr b e.symm
  rw [hb] at h2;injection h2 with h2;subst h2
  rcases hc with h | h | h
  ·rw [h3] at h;cases h
  ·rw [h4] at h;cases h
  omega
 refine ⟨hg.os.trans hs.os,hg.tape.trans hs.tape,hg.output.trans hs.output,Nat.le_trans hs.size hg.size,fun b hb hx => ?_,hs.sub,hs.new,hs.pin,hs.defers,hs.room,hs.tmps,fun b o h=>hsame b o (hs.imm b o h) (.inr (.inl h)),fun n b h => ?_,hs.loc,hs.inj⟩
 ·have h1:=hs.old b hb hx
  have h2:W0.heap[b]? = some W0.heap[b]:=Array.getElem?_eq_getElem hb
  rw [h2] at h1 ⊢
  exact hsame b _ h1 (.inr (.inr hb))
 refine (hs.blk n b h).mono (fun _ _ h=>h) (fun _ _=>rfl) fun hn => ?_
 have hb:=hs.blk n b h
 cases b with
 | cells l ty=>obtain ⟨_,c,hc,_⟩:=hb;rw [hc];exact hsame _ _ hc (.inl rfl)
 | row sz len f ty =>
  rcases hb with ⟨h0,_⟩ | ⟨_,c,hc,_⟩
  ·rw [hn] at h0;cases h0
  rw [hc];exact hsame _ _ hc (.inl rfl)
 | omap =>
  obtain ⟨_,es,ck,g,hc,_⟩:=hb
  exact hg.block _ (Array.getElem?_eq_some_iff.1 hc).1 fun e=>by have:=hH n _ h rfl _ e.symm;omega
 | rowx sz len f ty hh=>obtain ⟨_,c,hc,_⟩:=hb;rw [hc];exact hsame _ _ hc (.inl rfl)
theorem N1 {fid:Nat} {XB:Nat->Option Loc} {σ2:Nat->Loc} (hs:Sim N W0 XA M0 M' σ' T H a W) {a2:Act} (hd:a2.defers=[]) (hr:a2.tmps.size=N) (hpin:∀ n x,XB n=some x->N<=n/\σ2 n=x) (hσ:∀ n,n≠fid->σ2 n=σ' n)
  (hT:∀ i v,T' i=some v->RT M' σ' v (a2.tmps.getD i undef)/\v.no fid=true) (hHf:∀ n b,H n=some b->n≠fid/\b.no fid=true/\((σ' n).nil=true\/inX XB (σ' n).b)):Sim N W XB M' M' σ2 T' H a2 W:=by
 refine ⟨rfl,rfl,rfl,Nat.le_refl _,fun _ _ _=>rfl,fun _ _ h=>h,fun b o h h'=>by (rw [h] at h';cases h'),hpin,⟨by rw [hd];trivial,fun _=>hd⟩,hr,fun i v hv=>Dk (fun _ _ h=>h) (fun d hd=>hσ d fun e => ?_) (hT i v hv).1,hs.imm,fun n b hb => ?_,fun n b hb => ?_,fun n m b c hb hc hne => ?_⟩
 ·subst e;rw [(hT i v hv).2] at hd;cases hd
 ·obtain ⟨h1,h2,h3⟩:=hHf n b hb
  rw [hσ n h1]
  exact (hs.blk n b hb).mono (fun _ _ h=>h) (fun d hd=>hσ d fun e=>by subst e;rw [h2] at hd;cases hd) (fun _=>rfl)
 ·obtain ⟨h1,h2,h3⟩:=hHf n b hb
  rw [hσ n h1]
  rcases hs.loc n b hb with h4 | h4
  ·exact .inl h4
  exact h3.imp id fun h=>⟨h4.1,.inr h⟩
 rw [hσ n (hHf n b hb).1,hσ m (hHf m c hc).1]
 exact hs.inj n m b c hb hc hne
end
end
section
open Go.RowKit
def Ts (N:Nat) (pids:List Nat) (fid q r:Nat) (t0:List (Nat×Tv)) (ps:Array Tmp):Bool :=
 t0.all (fun p=>pvT pids p.2)&&(pids.all (fun m=>Nat.ble N m)&&(!BM pids fid&&(!BM pids r&&(!Nat.beq r fid&&(Nat.ble N fid&&(Nat.ble N r&&(BM pids q&&ps.toList.all (fun p=>Nat.blt p N))))))))
def famB (pids:List Nat) (fid q off r:Nat) (h:List (Nat×Blk)):Bool :=
 h.all (fun p=>(BM pids p.1&&p.2.isP||Nat.beq p.1 r&&p.2.isR)&&p.2.no fid)&&(pids.all (fun m=>(get h m).isSome)&&ND q off r h)
def HsN (h:List (Nat×Blk)):Prop:=∀ n b,get h n=some b->BkN b
theorem Ry {l:List Cl} {ty:TypeId} (h:∀ c∈l,NM c):BkN (.cells l ty):=h
theorem bkN_r {α:Type} [Inhabited α] {sz len:Nat} {c:α->List Cl} {xs:List α} {ty:TypeId} (h:∀ x,∀ y∈c x,NM y):BkN (.row sz len (AU c xs) ty):=fun i j=>by
 unfold AU
 rw [List.getD_eq_getElem?_getD]
 cases hj:(c (xs.getD i default))[j]? with
 | none=>exact .val _
 | some y=>exact h _ y (List.mem_of_getElem? hj)
theorem aM {κ α:Type} [Inhabited κ] [Inhabited α] {agg:Bool} {nv len:Nat} {kf:Nat->Value} {c:α->List Cl} {xs:List (κ×α)} (h:∀ x,∀ y∈c x,NM y):BkN (.omap agg nv len kf (vfG c xs)):=fun i j=>by
 unfold vfG
 rw [List.getD_eq_getElem?_getD]
 cases hj:(c (xs.getD i default).2)[j]? with
 | none=>exact .val _
 | some y=>exact h _ y (List.mem_of_getElem? hj)
def YY (pids:List Nat) (n r:Nat) (s:AS):Bool := !Nat.beq r n&&pids.all fun q => !Nat.beq q n&&match get s.h q with | some (.cells ..)=>true | some (.omap ..)=>true | _=>false
section
variable {P:Program} {N:Nat} {W0:World} {X:Nat→Option Loc} {M0:Nat→Option Obj} {s:AS}
theorem NO (S:AS) (n:Nat) (l:List Cl) (ty:TypeId) (pids:List Nat) (r:Nat) {G:Prop} (hX:PXr pids r G X) (hK:YY pids n r s=true) (hG:G->∃ b,get s.h r=some b) (hn:get s.h n=some (.cells l ty)) (hdv:l.all Cl.dv=true) (hS:fxS n l s=S):Cv N W0 X M0 s S:=by
 subst hS
 intro M σ a w hs
 simp only [YY,Bool.and_eq_true,Bool.not_eq_true'] at hK
 obtain ⟨hrn,hK⟩:=hK
 obtain ⟨M',h1⟩:=Tm n l ty (fun hnil=>by
  rintro ⟨m,x,h1,h2⟩
  have key:∀ q y bk,q≠n->X q=some y->y.b=x.b->(σ q).nil=false->get s.h q=some bk->False:=fun q y bk hqn hy hyx h4 hb=>by
   have h5:=(hs.pin q y hy).2
   rcases hs.inj q n _ _ hb hn hqn with h6 | h6 | h6
   ·rw [h4] at h6;cases h6
   ·rw [hnil] at h6;cases h6
   exact h6 (by rw [h5,hyx,h2])
  rcases hX m x h1 with ⟨q,hq,y,hy,hyx⟩ | ⟨rfl,hg,hxn⟩
  ·have h3:=List.all_eq_true.1 hK q (UB hq)
   simp only [Bool.and_eq_true,Bool.not_eq_true'] at h3
   have hqn:q≠n:=fun e=>by have:=h3.1;rw [e,Nat.beq_refl] at this;cases this
   cases hb:get s.h q with
   | none=>rw [hb] at h3;cases h3.2
   | some bk =>
    rw [hb] at h3
    refine key q y bk hqn hy hyx ?_ hb
    have h4:=hs.blk q _ hb
    cases bk with
    | row=>cases h3.2
    | rowx=>cases h3.2
    | omap=>exact h4.1
    | cells lq tq=>exact h4.1
  obtain ⟨bk,hb⟩:=hG hg
  refine key m x bk (fun e=>by rw [e,Nat.beq_refl] at hrn;cases hrn) h1 rfl ?_ hb
  rw [(hs.pin m x h1).2];exact hxn) hn hdv hs
 exact ⟨M',σ,h1⟩
end
end
end Go.Proofs.Ytdbampcfmjbgmaa
