/-
  No statement is proved in this text. It holds a part of what the proof of ItemsAll needs.
-/
import Derived.CallsIn
import Derived.ChangeSlices
import Derived.ControlIn
import Derived.Laws.Cover3
import Derived.Laws.OwnMore
import Derived.Laws.StructEq
import Derived.LoopNIn
import Derived.MapKept
import Derived.Maps.AppendAt
import Derived.OpenShut
import Derived.OrdersIn
import Derived.ProofKit
import Derived.RangeFuncLeaves
import Derived.RangeFuncNested
import Derived.RangeFuncRecord
import Derived.SizedLaws
import Derived.TacticsIn
import Derived.Test.YtheobjkgllmnmaaGreatProg
import Derived.Test.YtheobjkgllmnmaaGreatRows
import Derived.WalkKit
import Derived.WalkLawsBesides
import Derived.WalkSpells
import Derived.WideKeyRuns
namespace Go.Proofs.YtheobjkgllmnmaaGreat
set_option maxRecDepth 100000
set_option linter.unusedVariables false
set_option linter.unusedSimpArgs false
open Go.RowKit
abbrev aE:=@List.getD_eq_getElem?_getD
abbrev ea:=@List.getElem?_eq_getElem
abbrev cw:=@List.getElem?_eq_none
abbrev d9:=@List.length_append
abbrev j8:=@List.length_cons
abbrev j9:=@List.length_nil
abbrev ke:=@List.length_map
abbrev kg:=@List.mem_cons
abbrev kh:=@List.mem_append
abbrev ki:=@List.length_take
abbrev kj:=@List.length_set
abbrev kl:=@List.mem_singleton
abbrev km:=@List.drop_zero
abbrev kn:=@List.nil_append
abbrev ko:=@List.append_nil
abbrev kq:=@List.length_reverse
abbrev ku:=@List.all_eq_true
abbrev kw:=@List.all_eq_false
abbrev ky:=@List.take_of_length_le
abbrev kz:=@List.getElem?_append_right
abbrev la:=@List.getElem?_append_left
abbrev lc:=@List.getElem?_range
abbrev ld:=@List.getElem?_map
abbrev lf:=@List.forall_mem_cons
abbrev lg:=@List.not_mem_nil
abbrev lh:=@List.mem_cons_of_mem
abbrev li:=@List.mem_cons_self
abbrev lj:=@decide_eq_true
abbrev lk:=@decide_eq_false
abbrev ll:=@decide_eq_true_eq
abbrev lm:=@decide_eq_false_iff_not
abbrev ln:=@Nat.le_trans
abbrev lp:=@Nat.lt_of_lt_of_le
abbrev lu:=@Nat.le_refl
abbrev lv:=@Nat.zero_le
abbrev lw:=@Nat.not_lt_zero
abbrev lx:=@Nat.eq_of_beq_eq_true
abbrev lz:=@Nat.lt_succ_self
abbrev l4:=@Array.getElem?_eq_getElem
abbrev l5:=@Array.getElem?_setIfInBounds
abbrev l6:=@Array.getD_eq_getD_getElem?
abbrev l7:=@Option.some.injEq
abbrev l8:=@Prod.mk.injEq
abbrev l9:=@Int.toNat_natCast
abbrev mb:=@beq_self_eq_true
abbrev mc:=@Bool.not_true
abbrev md:=@Bool.not_false
abbrev me:=@Bool.and_eq_true
abbrev mf:=@Bool.not_eq_true
abbrev mg:=@Bool.or_eq_true
abbrev mh:=@Bool.false_or
abbrev mi:=@cond_true
abbrev mj:=@cond_false
abbrev ml:=@decide_true
abbrev mm:=@decide_false
abbrev mo:=@List.mem_of_getElem?
abbrev mq:=@Below.heap_alloc
abbrev mr:=@Nat.le_of_ble_eq_true
abbrev mu:=@Nat.sub_self
abbrev mv:=@Nat.add_assoc
abbrev mw:=@Nat.zero_add
abbrev my:=ByteArray
theorem mz{p:Prop}(h:p:=by omega):p:=h
theorem m3{p:Prop}(h:p:=by simp):p:=h
theorem m4{p:Prop}(h:p:=by decide):p:=h
abbrev m5:=Nat→Option Obj
abbrev m7{α:Type}[Inhabited α](l:List α)(k:Int):α:=l.getD k.toNat default
abbrev m8{α β γ:Type}[Inhabited γ]:α→β→γ:=fun _ _=>default
abbrev nn2:Nat:=2
abbrev nn3:Nat:=3
abbrev nn4:Nat:=4
abbrev nn6:Nat:=6
abbrev nn7:Nat:=7
abbrev nn8:Nat:=8
abbrev kG:Nat:=24
abbrev kF:Nat:=48
abbrev kE:Nat:=56
abbrev nn68:Nat:=68
abbrev Wu:Nat:=72
abbrev nn78:Nat:=78
abbrev nn108:Nat:=108
abbrev sO:Nat:=109
abbrev nn111:Nat:=111
abbrev sN:Nat:=112
abbrev nn116:Nat:=116
abbrev sM:Nat:=117
abbrev nn121:Nat:=121
abbrev sL:Nat:=122
abbrev gG:Nat:=150
abbrev Ue:Nat:=154
abbrev dn:Nat:=156
abbrev Ud:Nat:=160
abbrev dm:Nat:=162
abbrev gF:Nat:=165
abbrev nn175:Nat:=175
abbrev nn178:Nat:=178
abbrev dl:Nat:=183
abbrev nn220:Nat:=220
abbrev nn224:Nat:=224
abbrev nn228:Nat:=228
abbrev nn233:Nat:=233
abbrev ni1:Int:=1
abbrev ni2:Int:=2
abbrev ni3:Int:=3
inductive Cl where
 | val (v:Value)
 | ptr (n off:Nat)
 | own (n sz len:Nat)
 | rptr (n sz i off:Nat)
 | osl (n sz lo len:Nat)
 | list (tight:Bool) (sz len:Nat) (f:Nat->Nat->Cl)
 | eptr (sz len:Nat) (f:Nat->Nat->Cl) (i off:Nat)
 | clo (f:FuncId) (k:Nat) (caps:Nat->Cl)
 | mp (agg:Bool) (nv len:Nat) (kf:Nat->Value) (vf:Nat->Nat->Cl)
 | om (n:Nat)
 | any
abbrev Cl.i(x:Int):Cl:=.val (.int .i64 x)
abbrev Cl.b(x:Bool):Cl:=.val (.bool x)
abbrev Cl.s(x:my):Cl:=.val (.string x)
instance:Inhabited Cl:=⟨.val (.bool false)⟩
inductive Av where
 | one (c:Cl)
 | agg (l:List Cl)
inductive Tv where
 | av (x:Av)
 | tup (l:List Av)
 | grd (g:Prop) (x:Av)
abbrev Tv.i(x:Int):Tv:=.av (.one (.val (.int .i64 x)))
abbrev Tv.b(x:Bool):Tv:=.av (.one (.val (.bool x)))
abbrev Tv.c(x:Cl):Tv:=.av (.one x)
def Av.cells:Av->List Cl
 |.one c=>[c]
 |.agg l=>l
inductive L2 {α β:Type} (r:α->β->Prop):List α->List β->Prop
 | nil:L2 r [] []
 | cons {a b l m}:r a b->L2 r l m->L2 r (a::l) (b::m)
theorem L2.length{α β:Type}{r:α->β->Prop}{l:List α}{m:List β}(h:L2 r l m):l.length=m.length:=by
 induction h with
 |nil=>rfl
 |cons _ _ ih=>simp[ih]
theorem L2.mono{α β:Type}{r r':α->β->Prop}{l:List α}{m:List β}(h:L2 r l m)(hr:∀a∈l,∀b,r a b->r' a b):L2 r' l m:=by
 induction h with
 |nil=>exact .nil
 |cons h1 _ ih=>exact .cons (hr _ m3 _ h1) (ih fun a ha b hb=>hr a (by simp[ha]) b hb)
theorem L2.get{α β:Type}{r:α->β->Prop}{l:List α}{m:List β}(h:L2 r l m):∀(i:Nat) a,l[i]? = some a->∃b,m[i]? = some b/\r a b:=by
 induction h with
 |nil=>intro i a h;simp at h
 |cons h1 _ ih =>
  intro i a h;cases i with
  |zero=>simp at h;subst h;exact⟨_,rfl,h1⟩
  |succ i=>simpa using ih i a (by simpa using h)
theorem L2.get'{α β:Type}{r:α->β->Prop}{l:List α}{m:List β}(h:L2 r l m):∀(i:Nat) b,m[i]? = some b->∃a,l[i]? = some a/\r a b:=by
 induction h with
 |nil=>intro i a h;simp at h
 |cons h1 _ ih =>
  intro i a h;cases i with
  |zero=>simp at h;subst h;exact⟨_,rfl,h1⟩
  |succ i=>simpa using ih i a (by simpa using h)
theorem L2.of{α β:Type}{r:α->β->Prop}:∀ {l:List α} {m:List β},l.length=m.length->(∀(i:Nat) a b,l[i]? = some a->m[i]? = some b->r a b)->L2 r l m
 |[],[],_,_=>.nil
 |[],_::_,h,_=>by simp at h
 |_::_,[],h,_=>by simp at h
 |_::_,_::_,h,k=>.cons (k 0 _ _ rfl rfl) (L2.of (by simpa using h) fun i a b ha hb=>k (i+1) a b (by simpa using ha) (by simpa using hb))
theorem L2.append{α β:Type}{r:α->β->Prop}{l l':List α}{m m':List β}(h:L2 r l m)(h':L2 r l' m'):L2 r (l++l') (m++m'):=by
 induction h with
 |nil=>exact h'
 |cons h1 _ ih=>exact .cons h1 ih
theorem L2.set{α β:Type}{r:α->β->Prop}{l:List α}{m:List β}(h:L2 r l m)(i:Nat){a:α}{b:β}(hab:r a b):L2 r (l.set i a) (m.set i b):=by
 induction h generalizing i with
 |nil=>exact .nil
 |cons h1 h2 ih =>
  cases i with
  |zero=>exact .cons hab h2
  |succ i=>exact .cons h1 (ih i)
theorem L2.take{α β:Type}{r:α->β->Prop}{l:List α}{m:List β}(h:L2 r l m)(i:Nat):L2 r (l.take i) (m.take i):=by
 induction h generalizing i with
 |nil=>simp;exact .nil
 |cons h1 h2 ih =>
  cases i with
  |zero=>exact .nil
  |succ i=>exact .cons h1 (ih i)
theorem L2.drop{α β:Type}{r:α->β->Prop}{l:List α}{m:List β}(h:L2 r l m)(i:Nat):L2 r (l.drop i) (m.drop i):=by
 induction h generalizing i with
 |nil=>simp;exact .nil
 |cons h1 h2 ih =>
  cases i with
  |zero=>exact .cons h1 h2
  |succ i=>exact ih i
def F2(M:m5)(b o:Nat):Option Value:=match M b with
 |some (.cells c _ _)=>c[o]?
 |_=>none
def mpV(agg:Bool)(nv:Nat)(g:Nat->Value):Value:=match agg with
 |true=>.agg ((List.range nv).map g).toArray
 |false=>g 0
inductive RC (M:Nat->Option Obj):Cl->Value->Prop
 | val (v:Value) (h:v.oneCell'=true):RC M (.val v) v
 | nil (t:Bool) (sz:Nat) (f:Nat->Nat->Cl) (h0:t=false):RC M (.list t sz 0 f) (.slice none 0 0)
 | mt (t:Bool) (sz:Nat) (f:Nat->Nat->Cl) (a:Addr) (cap:Nat) (h5:t=true->sz=0->cap=0):RC M (.list t sz 0 f) (.slice (some a) 0 cap)
 | list (t:Bool) (sz len:Nat) (f:Nat->Nat->Cl) (b off cap:Nat) (g:Nat->Nat->Value) (h1:∀ i j,i<len->j<sz->F2 M b (off+(i*sz+j))=some (g i j))
   (h2:∀ i j,i<len->j<sz->RC M (f i j) (g i j)) (h4:len<=cap) (h5:t=true->sz=0->cap=0):RC M (.list t sz len f) (.slice (some ⟨b,off,none⟩) len cap)
 | clo (f:FuncId) (k:Nat) (caps:Nat->Cl) (cs:Array Value) (h1:cs.size=k) (h2:∀ i,i<k->RC M (caps i) (cs.getD i undef)):RC M (.clo f k caps) (.func (.func f) #[] cs)
 | eptr (sz len:Nat) (f:Nat->Nat->Cl) (i off:Nat) (b base:Nat) (g:Nat->Value) (h1:∀ j,j<sz->F2 M b (base+j)=some (g j))
   (h2:∀ j,j<sz->RC M (f i j) (g j)):RC M (.eptr sz len f i off) (.pointer (some ⟨b,base+off,none⟩))
 | mp (agg:Bool) (nv len:Nat) (kf:Nat->Value) (vf:Nat->Nat->Cl) (b:Nat) (es:Array MapEntry) (clock:Nat) (g:Nat->Nat->Value) (h0:M b=some (.map es clock)) (h1:es.size=len)
   (h2:∀ i e,es[i]? = some e->e.key=kf i/\e.val=mpV agg nv (g i)) (h3:∀ i j,i<len->j<nv->RC M (vf i j) (g i j)):RC M (.mp agg nv len kf vf) (.map (some b))
 | any (V:Value) (h:V.oneCell'=true):RC M .any V
structure Loc where
 b:Nat
 cap:Nat
 nil:Bool
abbrev m6:=Nat→Option Loc
def R(M:m5)(σ:Nat->Loc):Cl->Value->Prop
 |.val v,V=>V=v/\v.oneCell'=true
 |.ptr n off,V=>V=.pointer (some ⟨(σ n).b,off,none⟩)
 |.own n _ len,V=>if (σ n).nil then len=0/\V=.slice none 0 0 else V=.slice (some ⟨(σ n).b,0,none⟩) len (σ n).cap
 |.rptr n sz i off,V=>V=.pointer (some ⟨(σ n).b,i*sz+off,none⟩)
 |.osl n sz lo len,V=>if (σ n).nil then lo=0/\len=0/\V=.slice none 0 0 else V=.slice (some ⟨(σ n).b,if (σ n).cap=lo then 0 else lo*sz,none⟩) len ((σ n).cap-lo)
 |.om n,V=>V=.map (some (σ n).b)
 |.any,V=>V.oneCell'=true
 |.list t sz len f,V=>RC M (.list t sz len f) V
 |.eptr sz len f i off,V=>RC M (.eptr sz len f i off) V
 |.mp agg nv len kf vf,V=>RC M (.mp agg nv len kf vf) V
 |.clo f k caps,V=>∃cs:Array Value,V=.func (.func f) #[] cs/\cs.size=k/\∀i,i<k->R M σ (caps i) (cs.getD i undef)
def RA(M:m5)(σ:Nat->Loc):Av->Value->Prop
 |.one c,V=>R M σ c V
 |.agg l,V=>∃vs:List Value,V=.agg vs.toArray/\L2 (R M σ) l vs
def RT(M:m5)(σ:Nat->Loc):Tv->Value->Prop
 |.av x,V=>RA M σ x V
 |.tup l,V=>∃vs:List Value,V=.tuple vs.toArray/\L2 (RA M σ) l vs
 |.grd g x,V=>(g->RA M σ x V)/\(¬ g->V=undef)
def Cl.dv:Cl->Bool
 |.val _=>true
 |.list .. => true
 |.eptr .. => true
 |.mp .. => true
 |.any=>true
 |.clo _ k caps=>(List.range k).all fun i=>(caps i).dv
 |_=>false
def Av.dv:Av->Bool
 |.one c=>c.dv
 |.agg l=>l.all Cl.dv
theorem Mx{M:m5}{σ:Nat->Loc}:∀ {c:Cl} {V:Value},c.dv=true->(R M σ c V↔RC M c V)
 |.val v,V,_=>by
  constructor
  ·rintro⟨rfl,h⟩;exact .val _ h
  intro h;cases h;exact⟨rfl,‹_›⟩
 |.list ..,_,_=>Iff.rfl
 |.eptr ..,_,_=>Iff.rfl
 |.mp ..,_,_=>Iff.rfl
 |.clo f k caps,V,hd=>by
  have hd':∀i,i<k->(caps i).dv=true:=fun i hi=>by
   simp only[Cl.dv,ku]at hd;exact hd i (by simpa using hi)
  constructor
  ·rintro⟨cs,rfl,h1,h2⟩;exact .clo f k caps cs h1 fun i hi=>(Mx (hd' i hi)).1 (h2 i hi)
  intro h;cases h with
  |clo _ _ _ cs h1 h2=>exact⟨cs,rfl,h1,fun i hi=>(Mx (hd' i hi)).2 (h2 i hi)⟩
 |.ptr ..,_,hd=>by cases hd
 |.own ..,_,hd=>by cases hd
 |.rptr ..,_,hd=>by cases hd
 |.osl ..,_,hd=>by cases hd
 |.om ..,_,hd=>by cases hd
 |.any,_,_=>⟨fun h=>.any _ h,fun h=>by cases h;assumption⟩
def Cl.no(d:Nat):Cl->Bool
 |.val _=>true
 |.ptr n _=>!Nat.beq n d
 |.own n _ _=>!Nat.beq n d
 |.rptr n _ _ _=>!Nat.beq n d
 |.osl n _ _ _=>!Nat.beq n d
 |.om n=>!Nat.beq n d
 |.any=>true
 |.list .. => true
 |.eptr .. => true
 |.mp .. => true
 |.clo _ k caps=>(List.range k).all fun i=>(caps i).no d
def Av.no(d:Nat):Av->Bool
 |.one c=>c.no d
 |.agg l=>l.all (Cl.no d)
def Tv.no(d:Nat):Tv->Bool
 |.av x=>x.no d
 |.tup l=>l.all (Av.no d)
 |.grd _ x=>x.no d
def upd{α:Type}(σ:Nat->α)(d:Nat)(x:α):Nat->α:=fun n=>bif Nat.beq n d then x else σ n
theorem BH{α:Type}(σ:Nat->α)(d:Nat)(x:α):upd σ d x d=x:=by simp[upd,Nat.beq_refl]
theorem CW{α:Type}(σ:Nat->α){d n:Nat}(x:α)(h:n≠d):upd σ d x n=σ n:=by
 have:Nat.beq n d=false:=by cases hb:Nat.beq n d;rfl;exact absurd (lx hb) h
 simp[upd,this]
theorem D4{α:Type}(σ:Nat->α)(d n:Nat)(x:α):upd σ d x n=if d=n then x else σ n:=by
 by_cases h:d=n
 ·subst h;rw[BH,if_pos rfl]
 rw[CW _ _ (Ne.symm h),if_neg h]
theorem QA{n d:Nat}(h:(!Nat.beq n d)=true):n≠d:=by
 intro e;subst e;simp[Nat.beq_refl]at h
theorem FS{M M':m5}(hM:∀b o,M b=some o->M' b=some o){c:Cl}{V:Value}(h:RC M c V):RC M' c V:=by
 have hc:∀b o v,F2 M b o=some v->F2 M' b o=some v:=fun b o v h=>by
  unfold F2 at *;cases hb:M b with
  |none=>rw[hb]at h;cases h
  |some x=>rw[hb]at h;rw[hM _ _ hb];exact h
 induction h with
 |val v h=>exact .val v h
 |nil t sz f h0=>exact .nil t sz f h0
 |mt t sz f a cap h5=>exact .mt t sz f a cap h5
 |clo f k caps cs h1 _ ih=>exact .clo f k caps cs h1 ih
 |list t sz len f b off cap g h1 _ h4 h5 ih=>exact .list t sz len f b off cap g (fun i j hi hj=>hc _ _ _ (h1 i j hi hj)) ih h4 h5
 |eptr sz len f i off b base g h1 _ ih=>exact .eptr sz len f i off b base g (fun j hj=>hc _ _ _ (h1 j hj)) ih
 |mp agg nv len kf vf b es clock g h0 h1 h2 _ ih=>exact .mp agg nv len kf vf b es clock g (hM _ _ h0) h1 h2 ih
 |any V h=>exact .any V h
theorem DO{M M':m5}{σ σ':Nat->Loc}(hM:∀b o,M b=some o->M' b=some o):∀ {c:Cl} {V:Value},(∀d,c.no d=false->σ' d=σ d)->R M σ c V->R M' σ' c V
 |.val _,_,_,h=>h
 |.ptr n _,_,hs,h=>by have:=hs n (by simp[Cl.no,Nat.beq_refl]);simp only[R]at *;rw[this];exact h
 |.own n _ _,_,hs,h=>by have:=hs n (by simp[Cl.no,Nat.beq_refl]);simp only[R]at *;rw[this];exact h
 |.rptr n _ _ _,_,hs,h=>by have:=hs n (by simp[Cl.no,Nat.beq_refl]);simp only[R]at *;rw[this];exact h
 |.osl n _ _ _,_,hs,h=>by have:=hs n (by simp[Cl.no,Nat.beq_refl]);simp only[R]at *;rw[this];exact h
 |.any,_,_,h=>h
 |.om n,_,hs,h=>by have:=hs n (by simp[Cl.no,Nat.beq_refl]);simp only[R]at *;rw[this];exact h
 |.list ..,_,_,h=>FS hM h
 |.eptr ..,_,_,h=>FS hM h
 |.mp ..,_,_,h=>FS hM h
 |.clo f k caps,V,hs,h=>by
  obtain⟨cs,h1,h2,h3⟩:=h;refine⟨cs,h1,h2,fun i hi=>DO hM (fun d hd=>hs d ?_) (h3 i hi)⟩;simp only[Cl.no];rw[kw];exact⟨i,by simpa using hi,by simp[hd]⟩
theorem RS{M M':m5}{σ σ':Nat->Loc}(hM:∀b o,M b=some o->M' b=some o){c:Av}{V:Value}(hs:∀d,c.no d=false->σ' d=σ d)(h:RA M σ c V):RA M' σ' c V:=by
 cases c with
 |one c=>exact DO hM hs h
 |agg l =>
  obtain⟨vs,h1,h2⟩:=h;exact⟨vs,h1,h2.mono fun c hc b hb=>DO hM (fun d hd=>hs d (by simp only[Av.no];rw[kw];exact⟨c,hc,by simp[hd]⟩)) hb⟩
theorem D6{M M':m5}{σ σ':Nat->Loc}(hM:∀b o,M b=some o->M' b=some o){c:Tv}{V:Value}(hs:∀d,c.no d=false->σ' d=σ d)(h:RT M σ c V):RT M' σ' c V:=by
 cases c with
 |av x=>exact RS hM hs h
 |tup l =>
  obtain⟨vs,h1,h2⟩:=h;exact⟨vs,h1,h2.mono fun c hc b hb=>RS hM (fun d hd=>hs d (by simp only[Tv.no];rw[kw];exact⟨c,hc,by simp[hd]⟩)) hb⟩
 |grd g x=>exact⟨fun hg=>RS hM hs (h.1 hg),h.2⟩
def get{α:Type}:List (Nat×α)->Nat->Option α
 |[],_=>none
 |(k,v)::r,n=>bif Nat.beq k n then some v else get r n
def put{α:Type}:List (Nat×α)->Nat->α->List (Nat×α)
 |[],n,v=>[(n,v)]
 |(k,u)::r,n,v=>bif Nat.beq k n then(n,v)::r else(k,u)::put r n v
def del{α:Type}:List (Nat×α)->Nat->List (Nat×α)
 |[],_=>[]
 |(k,u)::r,n=>bif Nat.beq k n then del r n else(k,u)::del r n
theorem Cb(a b:Nat):Nat.beq a b=decide (a=b):=by
 cases h:Nat.beq a b
 ·have:¬ a=b:=fun e=>by subst e;simp[Nat.beq_refl]at h
  simp[this]
 simp[lx h]
theorem JK{α:Type}(l:List (Nat×α))(n m:Nat)(v:α):get (put l n v) m=if n=m then some v else get l m:=by
 induction l with
 |nil=>simp only[put,get,Cb];by_cases h:n=m<;>simp[h]
 |cons p r ih =>
  obtain⟨k,u⟩:=p;simp only[put,Cb]
  by_cases h:k=n
  ·subst h;simp only[ml,mi,get,Cb];by_cases h:k=m<;>simp[h]
  simp only[h,mm,mj,get,Cb,ih]
  by_cases hk:k=m
  ·subst hk;simp[Ne.symm h]
  simp[hk]
theorem Kt{α:Type}(l:List (Nat×α))(n m:Nat):get (del l n) m=if n=m then none else get l m:=by
 induction l with
 |nil=>simp[del,get]
 |cons p r ih =>
  obtain⟨k,u⟩:=p;simp only[del,Cb]
  by_cases h:k=n
  ·subst h;simp only[ml,mi,ih,get,Cb];by_cases h:k=m<;>simp[h]
  simp only[h,mm,mj,get,Cb,ih]
  by_cases hk:k=m
  ·subst hk;simp[Ne.symm h]
  simp[hk]
theorem DH{α:Type}{l:List (Nat×α)}{n:Nat}{v:α}(h:get l n=some v):(n,v)∈l:=by
 induction l with
 |nil=>cases h
 |cons p r ih =>
  obtain⟨k,u⟩:=p;simp only[get,Cb]at h
  by_cases hk:k=n
  ·subst hk;simp at h;subst h;simp
  simp[hk]at h;simp[ih h]
inductive Blk where
 | cells (l:List Cl) (ty:TypeId)
 | row (sz len:Nat) (f:Nat->Nat->Cl) (ty:TypeId)
 | omap (agg:Bool) (nv len:Nat) (kf:Nat->Value) (vf:Nat->Nat->Cl)
 | rowx (sz len:Nat) (f:Nat->Nat->Cl) (ty:TypeId) (hs:List (Nat×List Cl))
structure AS where
 t:List (Nat×Tv)
 h:List (Nat×Blk)
def Blk.no(d:Nat):Blk->Bool
 |.cells l _=>l.all (Cl.no d)
 |.row .. => true
 |.omap .. => true
 |.rowx _ _ _ _ hs=>hs.all fun p=>p.2.all (Cl.no d)
def Bl(M:m5)(σ:Nat->Loc)(w:World)(x:Loc):Blk->Prop
 |.cells l ty=>x.nil=false/\∃c:List Value,w.heap[x.b]? = some (.cells c.toArray ty)/\L2 (R M σ) l c
 |.row sz len f ty=>(x.nil=true/\len=0)\/(x.nil=false/\∃c:Array Value,w.heap[x.b]? = some (.cells c ty)/\c.size=x.cap*sz/\len<=x.cap/\x.cap<=maxLen /\
   ∃g:Nat->Nat->Value,∀i j,i<len->j<sz->c[i*sz+j]? = some (g i j)/\RC M (f i j) (g i j))
 |.omap agg nv len kf vf=>x.nil=false/\∃(es:Array MapEntry) (clock:Nat) (g:Nat->Nat->Value),w.heap[x.b]? = some (.map es clock)/\es.size=len/\(∀i e,es[i]? = some e->e.key=kf i/\e.val=mpV agg nv (g i))/\∀i j,i<len->j<nv->RC M (vf i j) (g i j)
 |.rowx sz len f ty hs=>x.nil=false/\∃c:Array Value,w.heap[x.b]? = some (.cells c ty)/\c.size=x.cap*sz/\len<=x.cap/\x.cap<=maxLen /\
   ∃g:Nat->Nat->Value,(∀i j,i<len->j<sz->c[i*sz+j]? = some (g i j)/\(get hs i=none->RC M (f i j) (g i j)))/\∀i l,get hs i=some l->i<len/\L2 (R M σ) l ((List.range sz).map (g i))
def inX(X:m6)(b:Nat):Prop:=∃n x,X n=some x/\x.b=b
def noX:m6:=fun _=>none
theorem He(b:Nat):¬ inX noX b:=fun⟨_,_,h,_⟩=>by cases h
def JC(M0 M:m5):List Deferred->Prop
 |[]=>True
 |d::ds=>(∃D,d={ target:=.collected D,args := #[] }/\M D=some (.deferred (some []))/\M0 D=none/\∀d'∈ds,d'≠d)/\JC M0 M ds
theorem JC.mono{M0 M M':m5}(h:∀b o,M b=some o->M' b=some o):∀ {l:List Deferred},JC M0 M l->JC M0 M' l
 |[],_=>trivial
 |_::_,⟨⟨D,h1,h2,h3⟩,h4⟩=>⟨⟨D,h1,h _ _ h2,h3⟩,h4.mono h⟩
def Tu(X:m6):Prop:=∃n x,X n=some x/\x.nil=true/\x.cap=424242
def KM(X:m6)(M0 M:m5)(l:List Deferred):Prop:=JC M0 M l/\(Tu X->l=[])
theorem KM.mono{X:m6}{M0 M M':m5}{l:List Deferred}(hd:KM X M0 M l)(h:∀b o,M b=some o->M' b=some o):KM X M0 M' l:=⟨JC.mono h hd.1,hd.2⟩
theorem KM.nil{X:m6}{M0 M:m5}:KM X M0 M []:=⟨trivial,fun _=>rfl⟩
structure Sim (N:Nat) (W0:World) (X:Nat->Option Loc) (M0 M:Nat->Option Obj) (σ:Nat->Loc) (T:Nat->Option Tv) (H:Nat->Option Blk) (a:Act) (w:World):Prop where
 os:w.os=W0.os
 tape:w.tape=W0.tape
 output:w.output=W0.output
 size:W0.heap.size<=w.heap.size
 old:∀ b,b<W0.heap.size->¬ inX X b->w.heap[b]? = W0.heap[b]?
 sub:∀ b o,M0 b=some o->M b=some o
 new:∀ b o,M b=some o->M0 b=none->W0.heap.size<=b
 pin:∀ n x,X n=some x->N<=n/\σ n=x
 defers:KM X M0 M a.defers
 room:a.tmps.size=N
 tmps:∀ i v,T i=some v->RT M σ v (a.tmps.getD i undef)
 imm:∀ b o,M b=some o->w.heap[b]? = some o
 blk:∀ n b,H n=some b->Bl M σ w (σ n) b
 loc:∀ n b,H n=some b->(σ n).nil=true\/(M (σ n).b=none/\(W0.heap.size<=(σ n).b\/inX X (σ n).b))
 inj:∀ n m b c,H n=some b->H m=some c->n≠m->(σ n).nil=true\/(σ m).nil=true\/(σ n).b≠(σ m).b
theorem Bl.lt{M:m5}{σ:Nat->Loc}{w:World}{x:Loc}{b:Blk}(h:Bl M σ w x b)(hn:x.nil=false):x.b<w.heap.size:=by
 cases b with
 |cells l ty=>obtain⟨_,c,hc,_⟩:=h;exact(Array.getElem?_eq_some_iff.1 hc).1
 |row sz len f ty =>
  rcases h with ⟨h,_⟩|⟨_,c,hc,_⟩
  ·rw[hn]at h;cases h
  exact(Array.getElem?_eq_some_iff.1 hc).1
 |omap agg nv len kf vf=>obtain⟨_,es,clock,g,hc,_⟩:=h;exact(Array.getElem?_eq_some_iff.1 hc).1
 |rowx sz len f ty hs=>obtain⟨_,c,hc,_⟩:=h;exact(Array.getElem?_eq_some_iff.1 hc).1
theorem Bl.mono{M M':m5}{σ σ':Nat->Loc}{w w':World}{x:Loc}{b:Blk}(hM:∀b o,M b=some o->M' b=some o)(hs:∀d,b.no d=false->σ' d=σ d)
 (hw:x.nil=false->w'.heap[x.b]? = w.heap[x.b]?)(h:Bl M σ w x b):Bl M' σ' w' x b:=by
 cases b with
 |cells l ty =>
  obtain⟨h0,c,hc,hl⟩:=h;refine⟨h0,c,(hw h0).trans hc,hl.mono fun a ha b hb=>DO hM (fun d hd=>hs d ?_) hb⟩;simp only[Blk.no];rw[kw];exact⟨a,ha,by simp[hd]⟩
 |row sz len f ty =>
  rcases h with h|⟨h0,c,hc,h1,h2,h3,g,hg⟩
  ·exact .inl h
  exact .inr ⟨h0,c,(hw h0).trans hc,h1,h2,h3,g,fun i j hi hj=>⟨(hg i j hi hj).1,FS hM (hg i j hi hj).2⟩⟩
 |omap agg nv len kf vf =>
  obtain⟨h0,es,clock,g,hc,h1,h2,h3⟩:=h;exact⟨h0,es,clock,g,(hw h0).trans hc,h1,h2,fun i j hi hj=>FS hM (h3 i j hi hj)⟩
 |rowx sz len f ty hs0 =>
  obtain⟨h0,c,hc,h1,h2,h3,g,h4,h5⟩:=h;refine⟨h0,c,(hw h0).trans hc,h1,h2,h3,g,fun i j hi hj=>⟨(h4 i j hi hj).1,fun hn=>FS hM ((h4 i j hi hj).2 hn)⟩,fun i l hl=>⟨(h5 i l hl).1,(h5 i l hl).2.mono fun a ha b hb=>DO hM (fun d hd=>hs d ?_) hb⟩⟩;simp only[Blk.no];rw[kw];exact⟨_,DH hl,by simp only[mf,kw];exact⟨a,ha,by simp[hd]⟩⟩
section
open Go.RowKit Go.MapKept
inductive CI:List Prop->Prop
 | nil:CI []
 | cons {p:Prop} {l:List Prop}:p->CI l->CI (p::l)
theorem CI.head{p:Prop}{l:List Prop}(h:CI (p::l)):p:=by cases h;assumption
theorem CI.tail{p:Prop}{l:List Prop}(h:CI (p::l)):CI l:=by cases h;assumption
theorem CI.mem{l:List Prop}(h:CI l):∀p∈l,p:=by
 induction h with
 |nil=>intro p hp;cases hp
 |cons h1 _ ih=>intro p hp;cases hp;exact h1;exact ih _ ‹_›
theorem CI.append{l m:List Prop}(h:CI (l++m)):CI l/\CI m:=by
 induction l with
 |nil=>exact⟨.nil,h⟩
 |cons a l ih=>have:=ih h.tail;exact⟨.cons h.head this.1,this.2⟩
inductive Ef where
 | val (cs:List Prop) (v:Tv)
 | rd (ns:List Nat) (k:List Blk->Option (List Prop×Tv))
 | wr (n:Nat) (ns:List Nat) (k:Blk->List Blk->Option (List Prop×Tv×Blk))
 | wrs (ns rs:List Nat) (k:List Blk->List Blk->Option (List Prop×Tv×List Blk))
 | wq (n q:Nat) (k:Blk->Blk->Option (List Prop×Tv×Blk))
 | new (cs:List Prop) (b:Blk) (v:Nat->Tv)
 | app (n:Nat) (ns:List Nat) (k:Blk->List Blk->Option (List Prop×Blk×(Nat->Tv)))
inductive Eg where
 | val (v:Tv)
 | wr (n:Nat) (v:Tv) (b:Blk)
 | wrs (l:List (Nat×Blk)) (v:Tv)
 | wq (n q:Nat) (v:Tv) (b bq:Blk)
 | new (b:Blk) (v:Nat->Tv)
 | app (n:Nat) (b:Blk) (v:Nat->Tv)
def G3(h:Nat->Option Blk):List Nat->Option (List Blk)
 |[]=>some []
 |n::r=>match h n,G3 h r with
  |some b,some bs=>some (b::bs)
  |_,_=>none
def res(h:Nat->Option Blk):Ef->Option (List Prop×Eg)
 |.val cs v=>some (cs,.val v)
 |.rd ns k=>match G3 h ns with
  |some bs=>match k bs with
   |some (cs,v)=>some (cs,.val v)
   |none=>none
  |none=>none
 |.wr n ns k=>match h n,G3 h ns with
  |some b,some bs=>match k b bs with
   |some (cs,v,b')=>some (cs,.wr n v b')
   |none=>none
  |_,_=>none
 |.wq n q k=>match h n,h q with
  |some b,some bq=>match k b bq with
   |some (cs,v,b')=>(match Nat.beq n q with
    |true=>none
    |false=>some (cs,.wq n q v b' bq))
   |none=>none
  |_,_=>none
 |.wrs ns rs k=>match G3 h ns,G3 h rs with
  |some b,some bs=>match k b bs with
   |some (cs,v,b')=>(match Nat.beq ns.length b'.length with
    |true=>some (cs,.wrs (ns.zip b') v)
    |false=>none)
   |none=>none
  |_,_=>none
 |.new cs b v=>some (cs,.new b v)
 |.app n ns k=>match h n,G3 h ns with
  |some b,some bs=>match k b bs with
   |some (cs,b',v)=>some (cs,.app n b' v)
   |none=>none
  |_,_=>none
structure Gk (w w':World) (M M':Nat->Option Obj) (ex:Nat->Prop):Prop where
 os:w'.os=w.os
 tape:w'.tape=w.tape
 output:w'.output=w.output
 size:w.heap.size<=w'.heap.size
 old:∀ b,b<w.heap.size->¬ ex b->w'.heap[b]? = w.heap[b]?
 sub:∀ b o,M b=some o->M' b=some o
 new:∀ b o,M' b=some o->M b=none->w.heap.size<=b
 imm:∀ b o,M' b=some o->w'.heap[b]? = some o
structure Std (M:Nat->Option Obj) (σ:Nat->Loc) (w:World) (h:Nat->Option Blk):Prop where
 imm:∀ b o,M b=some o->w.heap[b]? = some o
 blk:∀ n b,h n=some b->Bl M σ w (σ n) b
 loc:∀ n b,h n=some b->(σ n).nil=true\/M (σ n).b=none
 inj:∀ n m b c,h n=some b->h m=some c->n≠m->(σ n).nil=true\/(σ m).nil=true\/(σ n).b≠(σ m).b
def M7(_:Nat):Prop:=False
def only(x:Loc)(b:Nat):Prop:=x.nil=false/\b=x.b
def b8(M:m5)(σ:Nat->Loc)(w:World)(dst:Option Nat)(V:Value)(w':World)(M':m5)(σ':Nat->Loc):Eg->Prop
 |.val v=>Gk w w' M M' M7/\σ'=σ/\RT M' σ' v V
 |.wr n v b=>Gk w w' M M' (only (σ n))/\σ'=σ/\RT M' σ' v V/\Bl M' σ' w' (σ n) b
 |.wq n q v b bq=>Gk w w' M M' (fun c=>only (σ n) c\/only (σ q) c)/\σ'=σ/\RT M' σ' v V/\Bl M' σ' w' (σ n) b/\Bl M' σ' w' (σ q) bq
 |.wrs l v=>Gk w w' M M' (fun b=>∃n,(get l n).isSome/\only (σ n) b)/\σ'=σ/\RT M' σ' v V/\∀n b,get l n=some b->Bl M' σ' w' (σ n) b
 |.new b v=>∃x d,dst=some d/\Gk w w' M M' M7/\(x.nil=true\/(w.heap.size<=x.b/\M' x.b=none))/\σ'=upd σ d x/\Bl M' σ' w' x b/\RT M' σ' (v d) V
 |.app n b v=>∃x d,dst=some d/\Gk w w' M M' (only (σ n))/\(x.nil=true\/(only (σ n) x.b/\M' x.b=none)\/(w.heap.size<=x.b/\M' x.b=none))/\σ'=upd σ d x/\Bl M' σ' w' x b/\RT M' σ' (v d) V
structure TI where
 size:Nat
 agg:Bool
 d:TypeDesc
def Pv:TypeDesc->Bool
 |.struct _=>true
 |.array _ _=>true
 |_=>false
def ti(P:Program)(T:TypeId):Option TI:=match P.info? T,P.underlying T with
 |some i,some d=>some ⟨i.size,Pv d,d⟩
 |_,_=>none
def FO(P:Program)(T:TypeId):Option (List Cl):=match P.info? T with
 |some i=>match i.zero with
  |some z=>bif z.cells.toList.all Value.oneCell' then some (z.cells.toList.map Cl.val)else none
  |none=>none
 |none=>none
theorem Bk{P:Program}{T:TypeId}{x:TI}(h:ti P T=some x)(w:World):(sizeOf T).run P w=.ok x.size w/\(isAgg T).run P w=.ok x.agg w/\(underlying T).run P w=.ok x.d w/\P.underlying T=some x.d/\∃i,P.info? T=some i/\i.size=x.size:=by
 unfold ti at h;split at h
 ·rename_i i d hi hd;injection h with h
  subst h;have hu:(underlying T).run P w=.ok d w:=run_underlying hd w;refine⟨by simp[sizeOf,typeInfo,hi],?_,hu,hd,i,hi,rfl⟩;unfold isAgg;rw[Sem.run_bind,hu];cases d<;>rfl
 cases h
def evT(t:Nat->Option Tv):Operand->Option Tv
 |.tmp i=>t i
 |.const v=>match v with
  |.agg cs=>bif cs.toList.all Value.oneCell' then some (.av (.agg (cs.toList.map Cl.val)))else none
  |.tuple _=>none
  |v=>some (.av (.one (.val v)))
 |.func f=>some (.av (.one (.clo f 0 fun _=>default)))
 |.global _=>none
theorem Oo(M:m5)(σ:Nat->Loc):∀(l:List Value),l.all Value.oneCell'=true->L2 (R M σ) (l.map Cl.val) l
 |[],_=>.nil
 |v::l,h=>by simp only[List.all_cons,me]at h;exact .cons ⟨rfl,h.1⟩ (Oo M σ l h.2)
theorem HQ{M:m5}{σ:Nat->Loc}{t:Nat->Option Tv}{a:Act}(h:∀i v,t i=some v->RT M σ v (a.tmps.getD i undef)){x:Operand}{v:Tv}(hv:evT t x=some v):RT M σ v (a.eval x):=by
 cases x with
 |tmp i=>exact h i v hv
 |const c =>
  simp only[evT]at hv;split at hv
  ·rename_i cs;cases hc:cs.toList.all Value.oneCell'<;>rw[hc]at hv
   ·cases hv
   injection hv with hv
   subst hv;exact⟨cs.toList,by simp[Act.eval],Oo M σ _ hc⟩
  ·cases hv
  rename_i h1 h2;injection hv with hv
  subst hv;refine⟨rfl,?_⟩;cases c<;>first|rfl|exact absurd rfl (h1 _)|exact absurd rfl (h2 _)
 |func f =>
  simp only[evT]at hv;injection hv with hv
  subst hv;exact⟨#[],rfl,rfl,fun i hi=>absurd hi mz⟩
 |global g=>cases hv
inductive Kd where
 | int (k:IntKind)
 | bool
 | str
def eqV:List Kd->List Cl->List Cl->Option Bool
 |[],[],[]=>some true
 |.int k::ks,.val (.int k1 a)::l,.val (.int k2 b)::m=>if k1=k/\k2=k then(eqV ks l m).map fun r=>decide (a=b)&&r else none
 |.bool::ks,.val (.bool a)::l,.val (.bool b)::m=>(eqV ks l m).map fun r=>(a==b)&&r
 |.str::ks,.val (.string a)::l,.val (.string b)::m=>(eqV ks l m).map fun r=>(a.toList==b.toList)&&r
 |_,_,_=>none
def bu(op:BinOp)(x y:Value):Option (List Prop×Value):=match x,y with
 |.int k a,.int k' b=>if k=k' then match op with
  |.add=>some ([],.int k (k.wrap (a+b)))
  |.sub=>some ([],.int k (k.wrap (a-b)))
  |.mul=>some ([],.int k (k.wrap (a*b)))
  |.and=>some ([],.int k (k.wrap ((BitVec.ofInt k.bits a &&& BitVec.ofInt k.bits b).toNat)))
  |.quo=>some ([b≠0],.int k (k.wrap (a.tdiv b)))
  |.rem=>some ([b≠0],.int k (a.tmod b))
  |.shr=>some ([0<=b],.int k (a.fdiv (2 ^ (min b.toNat k.bits))))
  |.shl=>some ([0<=b],.int k (k.wrap (a*2 ^ (min b.toNat k.bits))))
  |.eql=>some ([],.bool (decide (a=b)))
  |.neq=>some ([],.bool (!decide (a=b)))
  |.lss=>some ([],.bool (decide (a<b)))
  |.leq=>some ([],.bool (decide (a<=b)))
  |.gtr=>some ([],.bool (decide (b<a)))
  |.geq=>some ([],.bool (decide (b<=a)))
  |_=>none
  else none
 |.bool a,.bool b=>match op with
  |.eql=>some ([],.bool (a==b))
  |.neq=>some ([],.bool (!(a==b)))
  |_=>none
 |.string a,.string b=>match op with
  |.eql=>some ([],.bool (a.toList==b.toList))
  |.neq=>some ([],.bool (!(a.toList==b.toList)))
  |.add=>some ([((a.size+b.size:Nat):Int)<=9223372036854775807],.string (a++b))
  |_=>none
 |_,_=>none
def unV(op:UnOp)(x:Value):Option Value:=match op,x with
 |.not,.bool b=>some (.bool !b)
 |.neg,.int k n=>some (.int k (k.wrap (0-n)))
 |_,_=>none
def bH:List Cl->Nat->List Cl->List Cl
 |l,_,[]=>l
 |l,off,v::vs=>bH (l.set off v) (off+1) vs
def I1(place:Nat->Option (Nat×Nat))(cells:List Cl):List (Nat×Av)->Option (List Cl)
 |[]=>some cells
 |(i,v)::rest=>match place i with
  |none=>none
  |some (off,size)=>bif Nat.beq v.cells.length size&&Nat.ble (off+v.cells.length) cells.length then I1 place (bH cells off v.cells) rest else none
def Ko(ev:Operand->Option Tv):List (Nat×Operand)->Option (List (Nat×Av))
 |[]=>some []
 |(i,x)::r=>match ev x,Ko ev r with
  |some (.av a),some l=>some ((i,a)::l)
  |_,_=>none
def FQ(ev:Operand->Option Tv):List Operand->Option (List Av)
 |[]=>some []
 |x::r=>match ev x,FQ ev r with
  |some (.av a),some l=>some (a::l)
  |_,_=>none
def Iv(t:TI)(l:List Cl)(off:Nat):Option Av:=bif t.agg then(bif Nat.ble (off+t.size) l.length then some (.agg ((l.drop off).take t.size))else none)else(l[off]?).map Av.one
def IJ(f:Nat->Nat->Cl)(i:Nat):Nat->Nat->List Cl
 |_,0=>[]
 |off,n+1=>f i off::IJ f i (off+1) n
def YD(z:List Cl):Nat->List Cl
 |0=>[]
 |n+1=>z++YD z n
def asB:Tv->Option (List Prop×Bool)
 |.av (.one (.val (.bool b)))=>some ([],b)
 |.grd g (.one (.val (.bool b)))=>some ([g],b)
 |_=>none
structure Env (P:Program) where
 Γ:Nat->Option (FuncId×List Av×Ef)
 E:TypeId->Option (List Kd)
 O:Nat->Bool
 Q:Nat->Option (Bool×Nat)
def UK(p:Prop):Ef->Ef
 |.val cs v=>.val (p::cs) v
 |.rd ns k=>.rd ns fun bs=>match k bs with
  |some (cs,v)=>some (p::cs,v)
  |none=>none
 |.wr n ns k=>.wr n ns fun b bs=>match k b bs with
  |some (cs,v)=>some (p::cs,v)
  |none=>none
 |.wq n q k=>.wq n q fun b bs=>match k b bs with
  |some (cs,v)=>some (p::cs,v)
  |none=>none
 |.wrs ns rs k=>.wrs ns rs fun b bs=>match k b bs with
  |some (cs,v)=>some (p::cs,v)
  |none=>none
 |.new cs b v=>.new (p::cs) b v
 |.app n ns k=>.app n ns fun b bs=>match k b bs with
  |some (cs,v)=>some (p::cs,v)
  |none=>none
def XN(P:Program)(T:TypeId)(x:Tv):Option Ef:=match ti P T with
 |none=>none
 |some t=>match x with
  |.av (.one (.ptr n off))=>some (.rd [n] fun
   |[.cells l _]=>(Iv t l off).map fun v=>([],.av v)
   |_=>none)
  |.av (.one (.rptr n sz i off))=>some (.rd [n] fun
   |[.row sz' len f _]=>bif Nat.beq sz' sz&&Nat.ble (off+t.size) sz then(Iv t (IJ f i 0 sz) off).map fun v=>([i<len],.av v)else none
   |[.rowx sz' _ _ _ hs]=>match get hs i with
    |some l=>bif Nat.beq sz' sz&&Nat.ble (off+t.size) sz then(Iv t l off).map fun v=>([],.av v)else none
    |none=>none
   |_=>none)
  |.av (.one (.eptr sz _ f i off))=>(Iv t (IJ f i 0 sz) off).map fun v=>.val [] (.av v)
  |_=>none
def TQ(P:Program)(T:TypeId)(x:Tv)(v:Av):Option Ef:=match ti P T with
 |none=>none
 |some t=>bif Nat.beq v.cells.length t.size then match x with
  |.av (.one (.ptr n off))=>some (.wr n [] fun
   |.cells l ty,_=>bif Nat.ble (off+v.cells.length) l.length then some ([],.tup [],.cells (bH l off v.cells) ty)else none
   |_,_=>none)
  |.av (.one (.rptr n sz i off))=>some (.wr n [] fun
   |.row sz' len f ty,_=>bif v.dv then(bif Nat.beq sz' sz&&Nat.ble (off+v.cells.length) sz then some ([i<len],.tup [],.row sz len (fun i' j=>if i'=i/\off<=j/\j<off+v.cells.length then v.cells.getD (j-off) default else f i' j) ty)else none)else none
   |.rowx sz' len f ty hs,_=>match get hs i with
    |some l=>bif Nat.beq sz' sz&&Nat.ble (off+v.cells.length) sz then some ([],.tup [],.rowx sz len f ty (put hs i (bH l off v.cells)))else none
    |none=>none
   |_,_=>none)
  |_=>none
  else none
def K7(P:Program)(T:TypeId)(x:Tv)(k:Nat):Option Ef:=match ti P T with
 |some ⟨_,_,.struct fs⟩=>match fs[k]? with
  |some fd=>match ti P fd.type with
   |some ⟨s,_,_⟩=>bif Nat.beq s 0 then none else match x with
    |.av (.one (.ptr n off))=>some (.val [] (.av (.one (.ptr n (off+fd.offset)))))
    |.av (.one (.rptr n sz i off))=>some (.val [] (.av (.one (.rptr n sz i (off+fd.offset)))))
    |.av (.one (.eptr sz len f i off))=>some (.val [] (.av (.one (.eptr sz len f i (off+fd.offset)))))
    |_=>none
   |none=>none
  |none=>none
 |_=>none
def TU(P:Program)(T:TypeId)(x:Tv)(k:Nat):Option Ef:=match ti P T,x with
 |some ⟨_,_,.struct fs⟩,.av (.agg l)=>match fs[k]? with
  |some fd=>match ti P fd.type with
   |some t=>(Iv t l fd.offset).map fun v=>.val [] (.av v)
   |none=>none
  |none=>none
 |_,_=>none
def K6(P:Program)(T:TypeId)(x y:Tv):Option Ef:=match ti P T,y with
 |some ⟨_,_,.array n e⟩,.av (.one (.val (.int _ ix)))=>match ti P e with
  |some t=>match x with
   |.av (.one (.ptr m off))=>some (.val [0<=ix/\ix<(n:Int)] (.av (.one (.ptr m (off+ix.toNat*t.size)))))
   |.av (.one (.rptr m sz i off))=>some (.val [0<=ix/\ix<(n:Int)] (.av (.one (.rptr m sz i (off+ix.toNat*t.size)))))
   |.av (.one (.eptr sz len f i off))=>some (.val [0<=ix/\ix<(n:Int)] (.av (.one (.eptr sz len f i (off+ix.toNat*t.size)))))
   |_=>none
  |none=>none
 |some ⟨_,_,.slice e⟩,.av (.one (.val (.int _ ix)))=>match ti P e with
  |some t=>match x with
   |.av (.one (.list _ sz len f))=>bif Nat.beq sz t.size then some (.val [0<=ix/\ix<(len:Int)] (.av (.one (.eptr sz len f ix.toNat 0))))else none
   |.av (.one (.own m sz len))=>bif Nat.beq sz t.size then some (.val [0<=ix/\ix<(len:Int)] (.av (.one (.rptr m sz ix.toNat 0))))else none
   |_=>none
  |none=>none
 |_,_=>none
def okT(P:Program)(T:TypeId):Value->Bool
 |.bool _=>match ti P T with
  |some ⟨_,_,.bool⟩=>true
  |_=>false
 |_=>true
def dI(P:Program)(V:Env P)(op:BinOp)(T:TypeId)(x y:Tv):Option Ef:=match x,y with
 |.av (.one (.val (.slice none 0 0))),.av (.one (.val (.slice none 0 0)))=>match ti P T,op with
  |some ⟨_,_,.slice _⟩,.eql=>some (.val [] (.av (.one (.val (.bool true)))))
  |some ⟨_,_,.slice _⟩,.neq=>some (.val [] (.av (.one (.val (.bool false)))))
  |_,_=>none
 |.av (.one (.val a)),.av (.one (.val b))=>bif okT P T a then(bu op a b).map fun r=>.val r.1 (.av (.one (.val r.2)))else none
 |.av (.one (.list true _ _ _)),.av (.one (.val (.slice none 0 0)))=>match ti P T,op with
  |some ⟨_,_,.slice _⟩,.eql=>some (.val [] (.av (.one (.val (.bool false)))))
  |some ⟨_,_,.slice _⟩,.neq=>some (.val [] (.av (.one (.val (.bool true)))))
  |_,_=>none
 |.av (.agg l),.av (.agg m)=>match V.E T with
  |some ks=>match op,eqV ks l m with
   |.eql,some r=>some (.val [] (.av (.one (.val (.bool r)))))
   |.neq,some r=>some (.val [] (.av (.one (.val (.bool !r)))))
   |_,_=>none
  |none=>none
 |_,_=>none
def Ir(P:Program)(f:Field):Option (Nat×Nat):=match ti P f.type with
 |some t=>some (f.offset,t.size)
 |none=>none
def Sl(P:Program)(fs:Array Field)(i:Nat):Option (Nat×Nat):=match fs[i]? with
 |some fd=>Ir P fd
 |none=>none
def Oe(P:Program)(ev:Operand->Option Tv)(T:TypeId)(parts:Array (Nat×Operand)):Option Ef:=match ti P T,FO P T,Ko ev parts.toList with
 |some ⟨_,_,.struct fs⟩,some z,some l=>bif fs.toList.all (fun f=>(Ir P f).isSome)then(I1 (Sl P fs) z l).map fun cs=>.val [] (.av (.agg cs))else none
 |some ⟨_,_,.array _ e⟩,some z,some l=>match ti P e with
  |some t=>(I1 (fun i=>some (i*t.size,t.size)) z l).map fun cs=>.val [] (.av (.agg cs))
  |none=>none
 |_,_,_=>none
def Up(k:IntKind):List Cl->Option (List Int)
 |[]=>some []
 |.val (.int k' n)::r=>if k'=k then(Up k r).map (n::·)else none
 |_=>none
def UQ:List Cl->Option (List my)
 |[]=>some []
 |.val (.string n)::r=>(UQ r).map (n::·)
 |_=>none
def P9:List Cl->Option (List Bool)
 |[]=>some []
 |.val (.bool n)::r=>(P9 r).map (n::·)
 |_=>none
def vO:List Cl->Nat->Cl
 |.val (.int k n)::r=>match Up k r with
  |some ns=>fun i=>.val (.int k ((n::ns).getD i 0))
  |none=>fun i=>(.val (.int k n)::r:List Cl).getD i default
 |.val (.string n)::r=>match UQ r with
  |some ns=>fun i=>.val (.string ((n::ns).getD i ⟨#[]⟩))
  |none=>fun i=>(.val (.string n)::r:List Cl).getD i default
 |.val (.bool n)::r=>match P9 r with
  |some ns=>fun i=>.val (.bool ((n::ns).getD i false))
  |none=>fun i=>(.val (.bool n)::r:List Cl).getD i default
 |l=>fun i=>l.getD i default
def P0(sz j:Nat)(cs:List Cl):Nat->Nat->List Cl
 |0,_=>[]
 |n+1,i=>cs.getD (i*sz+j) default::P0 sz j cs n (i+1)
def A9(sz n:Nat)(cs:List Cl):Nat->Nat->Cl:=fun i j=>vO (P0 sz j cs n 0) i
def Hg(P:Program)(ev:Operand->Option Tv)(T:TypeId)(len:Nat)(parts:Array (Nat×Operand))(ow em:Bool):Option Ef:=match ti P T,Ko ev parts.toList with
 |some ⟨_,_,.slice e⟩,some l=>match ti P e,FO P e with
  |some t,some z=>bif Nat.beq t.size 0||Nat.ble 16777217 (len*t.size) || !(Nat.beq z.length t.size)then none else match I1 (fun i=>some (i*t.size,t.size)) (YD z len) l with
   |some cs=>bif cs.all Cl.dv then(bif ow then some (.new [] (.row t.size len (A9 t.size len cs) e) fun d=>.av (.one (.own d t.size len)))else bif em&&Nat.beq len 0 then some (.val [] (.av (.one (.list true 0 0 fun _ _=>default))))else
     some (.val [] (.av (.one (.list true t.size len (A9 t.size len cs))))))else bif Nat.beq len 1 then some (.new [] (.rowx t.size 1 m8 e [(0,cs)]) fun d=>.av (.one (.own d t.size 1)))else none
   |none=>none
  |_,_=>none
 |_,_=>none
def f2i(s:FloatKind)(b:Nat):Int:=((s.decode b).toInt .zero).getD 0
def F2iOk(s:FloatKind)(b:Nat)(k:IntKind):Prop:=∃m,(s.decode b).toInt .zero=some m/\k.min<=m/\m<=k.max
def Nx(P:Program)(src dst:TypeId)(x:Tv):Option Ef:=match ti P src,ti P dst,x with
 |some ⟨_,_,.int _⟩,some ⟨_,_,.int k⟩,.av (.one (.val (.int _ n)))=>some (.val [] (.av (.one (.val (.int k (k.wrap n))))))
 |some ⟨_,_,.string⟩,some ⟨_,_,.string⟩,.av (.one (.val (.string s)))=>some (.val [] (.av (.one (.val (.string s)))))
 |some ⟨_,_,.slice e⟩,some ⟨_,_,.string⟩,.av (.one (.list _ 1 1 f))=>match ti P e,f 0 0 with
  |some ⟨_,_,.int .u8⟩,.val (.int .u8 n)=>some (.val [] (.av (.one (.val (.string (ByteArray.empty.push (UInt8.ofNat n.toNat)))))))
  |_,_=>none
 |some ⟨_,_,.int _⟩,some ⟨_,_,.float k⟩,.av (.one (.val (.int _ n)))=>some (.val [] (.av (.one (.val (.float k (k.nearest n))))))
 |some ⟨_,_,.float _⟩,some ⟨_,_,.int k⟩,.av (.one (.val (.float s b)))=>some (.val [F2iOk s b k] (.av (.one (.val (.int k (f2i s b))))))
 |_,_,_=>none
def mn(k:IntKind):Int->List Av->Option Int
 |x,[]=>some x
 |x,.one (.val (.int k' y))::r=>if k'=k then mn k (min x y) r else none
 |_,_=>none
def mx(k:IntKind):Int->List Av->Option Int
 |x,[]=>some x
 |x,.one (.val (.int k' y))::r=>if k'=k then mx k (max x y) r else none
 |_,_=>none
def Ny(P:Program)(b:Builtin)(ts:Array TypeId)(xs:List Av):Option Ef:=match b,xs with
 |.len,[.one (.list _ _ n _)]=>match ts.toList.map (ti P)with
  |[some ⟨_,_,.slice _⟩]=>some (.val [] (.av (.one (.val (.int .i64 n)))))
  |_=>none
 |.len,[.one (.own _ _ n)]=>match ts.toList.map (ti P)with
  |[some ⟨_,_,.slice _⟩]=>some (.val [] (.av (.one (.val (.int .i64 n)))))
  |_=>none
 |.len,[.one (.val (.slice none 0 0))]=>match ts.toList.map (ti P)with
  |[some ⟨_,_,.slice _⟩]=>some (.val [] (.av (.one (.val (.int .i64 0)))))
  |_=>none
 |.len,[.one (.val (.string s))]=>match ts.toList.map (ti P)with
  |[some ⟨_,_,.string⟩]=>some (.val [] (.av (.one (.val (.int .i64 s.size)))))
  |_=>none
 |.min,.one (.val (.int k x))::r=>(mn k x r).map fun n=>.val [] (.av (.one (.val (.int k n))))
 |.max,.one (.val (.int k x))::r=>(mx k x r).map fun n=>.val [] (.av (.one (.val (.int k n))))
 |.append,[s,.one (.list _ sz m g)]=>match ts.toList.map (ti P),ts.toList with
  |[some ⟨_,_,.slice e⟩,some ⟨_,_,.slice _⟩],[T1,T2]=>bif Nat.beq T1 T2 then match P.info? e,FO P e with
   |some i,some z=>bif Nat.beq i.size sz&&Nat.beq z.length sz && !(Nat.beq sz 0)then match s with
    |.one (.own n sz' len')=>bif Nat.beq sz' sz then some (.app n [] fun b _=>match b with
     |.row sz'' len f ty=>bif Nat.beq sz'' sz&&Nat.beq ty e then some ([len'=len,len+m<=maxLen,(len+m)*i.bytes<=140737488355328],.row sz (len+m) (fun i j=>if i<len then f i j else g (i-len) j) e,fun d=>.av (.one (.own d sz (len+m))))else none
     |_=>none)else none
    |.one (.list true 0 0 _)=>some (.val [m<=maxLen,m*i.bytes<=140737488355328] (.av (.one (.list false sz m g))))
    |.one (.val (.slice none 0 0))=>some (.new [m<=maxLen,m*i.bytes<=140737488355328] (.row sz m g e) fun d=>.av (.one (.own d sz m)))
    |_=>none
    else none
   |_,_=>none
   else none
  |_,_=>none
 |.append,[.one (.osl n sz lo1 n1),.one (.osl m sz2 lo2 n2)]=>match ts.toList.map (ti P),ts.toList with
  |[some ⟨_,_,.slice e⟩,some ⟨_,_,.slice _⟩],[T1,T2]=>bif Nat.beq T1 T2&&(Nat.beq n m&&Nat.beq sz2 sz)then match P.info? e,FO P e with
   |some i,some z=>bif Nat.beq i.size sz&&Nat.beq z.length sz && !(Nat.beq sz 0)then some (.app n [] fun b _=>match b with
     |.row sz'' len f ty=>bif Nat.beq sz'' sz&&Nat.beq ty e then some ([lo1=0,n1<=len,lo2+n2<=len,n1+n2<=maxLen,(n1+n2)*i.bytes<=140737488355328],.row sz (n1+n2) (fun i j=>if i<n1 then f i j else f (i-n1+lo2) j) e,fun d=>.av (.one (.own d sz (n1+n2))))else none
     |_=>none)else none
   |_,_=>none
   else none
  |_,_=>none
 |.append,[s,.one (.own m sz m2)]=>match ts.toList.map (ti P),ts.toList with
  |[some ⟨_,_,.slice e⟩,some ⟨_,_,.slice _⟩],[T1,T2]=>bif Nat.beq T1 T2 then match P.info? e,FO P e with
   |some i,some z=>bif Nat.beq i.size sz&&Nat.beq z.length sz && !(Nat.beq sz 0)then match s with
    |.one (.own n sz' len')=>bif Nat.beq sz' sz && !(Nat.beq n m)then some (.app n [m] fun b bs=>match b,bs with
     |.rowx sz3 len f ty hs,[.rowx sz4 len2 f2 _ hs2]=>bif Nat.beq sz3 sz&&(Nat.beq ty e&&Nat.beq sz4 sz)then some ([len'=len,m2=len2,0<len2,len+len2<=maxLen,(len+len2)*i.bytes<=140737488355328],.rowx sz (len+len2) (fun i j=>if i<len then f i j else f2 (i-len) j) e (hs++hs2.map fun p=>(len+p.1,p.2)),fun d=>.av (.one (.own d sz (len+len2))))else none
     |_,_=>none)else none
    |.one (.val (.slice none 0 0))=>some (.app m [] fun b _=>match b with
     |.rowx sz4 len2 f2 _ hs2=>bif Nat.beq sz4 sz then some ([m2=len2,0<len2,len2<=maxLen,len2*i.bytes<=140737488355328],.rowx sz len2 f2 e hs2,fun d=>.av (.one (.own d sz len2)))else none
     |_=>none)
    |_=>none
    else none
   |_,_=>none
   else none
  |_,_=>none
 |.copy,[.one (.osl n sz lo1 n1),.one (.osl m sz2 lo2 n2)]=>match ts.toList.map (ti P)with
  |[some ⟨_,_,.slice e⟩,some ⟨_,_,.slice _⟩]=>bif Nat.beq n m&&Nat.beq sz2 sz then match P.info? e with
   |some i=>bif Nat.beq i.size sz && !(Nat.beq sz 0)then some (.wr n [] fun b _=>match b with
     |.row sz'' len f ty=>bif Nat.beq sz'' sz then some ([lo1+n1<=len,lo2+n2<=len],.av (.one (.val (.int .i64 ((Nat.min n2 n1:Nat):Int)))),.row sz len (fun i j=>if lo1<=i/\i<lo1+Nat.min n2 n1 then f (i-lo1+lo2) j else f i j) ty)else none
     |_=>none)else none
   |_=>none
   else none
  |_=>none
 |_,_=>none
def TR(P:Program)(T:TypeId)(x:Tv)(lo hi:Option (Option Tv)):Option Ef :=
 let bound (d:Int):Option (Option Tv)->Option Int
  |none=>some d
  |some (some (.av (.one (.val (.int _ n)))))=>some n
  |_=>none
 match ti P T,x with
 |some ⟨_,_,.slice e⟩,.av (.one (.list _ sz len f))=>match ti P e with
  |some t=>match bound 0 lo,bound len hi with
   |some l,some h=>bif Nat.beq t.size sz then some (.val [0<=l/\l<=h/\h<=(len:Int)] (.av (.one (.list false sz (h.toNat-l.toNat) fun i j=>f (i+l.toNat) j))))else none
   |_,_=>none
  |none=>none
 |some ⟨_,_,.slice e⟩,.av (.one (.own n sz len'))=>match ti P e with
  |some t=>match bound 0 lo,bound len' hi with
   |some l,some h=>bif Nat.beq t.size sz then some (.rd [n] fun bs=>match bs with
    |[.row sz' len _ _]=>bif Nat.beq sz' sz then some ([len'=len,0<=l/\l<=h/\h<=(len:Int)],.av (.one (.osl n sz l.toNat (h.toNat-l.toNat))))else none
    |_=>none)else none
   |_,_=>none
  |none=>none
 |_,_=>none
def dW(s:my)(i:Nat):Int:=((s.data.toList.getD i 0).toNat:Int)
def TT(P:Program)(T:TypeId)(x y:Tv):Option Ef:=match ti P T,x,y with
 |some ⟨_,_,.string⟩,.av (.one (.val (.string s))),.av (.one (.val (.int _ i)))=>some (.val [0<=i/\i<(s.size:Int)] (.av (.one (.val (.int .u8 (dW s i.toNat))))))
 |_,_,_=>none
def Kz(P:Program)(T:TypeId)(y z:Tv):Option Ef:=match ti P T,y,z with
 |some ⟨_,_,.slice e⟩,.av (.one (.val (.int _ n))),.av (.one (.val (.int _ m)))=>match P.info? e,FO P e with
  |some i,some c=>bif Nat.beq c.length i.size && !(Nat.beq i.size 0)then some (.new [0<=n/\m=n/\(i.bytes:Int)*n<=281474976710656/\n<=9223372036854775807] (.row i.size n.toNat (fun _ j=>c.getD j default) e) fun d=>.av (.one (.own d i.size n.toNat)))else none
  |_,_=>none
 |_,_,_=>none
def keyV:Av->Option Value
 |.one (.val v)=>some v
 |_=>none
def j0(kd:TypeDesc)(len:Nat)(kf:Nat->Value)(key:Value)(found:Bool)(i:Nat):Prop:=IsKey kd key/\(∀j,j<len->IsKey kd (kf j))/\(found=true->i<len/\kf i=key/\∀j,j<i->kf j≠key)/\(found=false->∀j,j<len->kf j≠key)
def Sn(b:Bool):Cl->Cl->Cl
 |.val (.int k x),.val (.int k' y)=>bif decide (k=k')then .val (.int k (bif b then x else y))else(bif b then .val (.int k x)else .val (.int k' y))
 |.val (.string x),.val (.string y)=>.val (.string (bif b then x else y))
 |.val (.bool x),.val (.bool y)=>.val (.bool (bif b then x else y))
 |x,y=>bif b then x else y
def YI(b:Bool):List Cl->List Cl->List Cl
 |x::l,y::m=>Sn b x y::YI b l m
 |_,_=>[]
def QU(agg found:Bool)(nv:Nat)(f:Nat->Cl)(z:List Cl):Av:=match agg with
 |true=>.agg (YI found ((List.range nv).map f) z)
 |false=>.one (Sn found (f 0) (z.getD 0 default))
def IV(P:Program)(T:TypeId):Bool:=match P.info? T with
 |some i=>match i.zero with
  |some (.agg _)=>true
  |_=>false
 |none=>false
def P2(P:Program)(q:Option (Bool×Nat))(T:TypeId)(x:Tv)(k:Tv)(commaOk:Bool):Option Ef:=match ti P T,x,k,q with
 |some ⟨_,_,.map kt e⟩,.av (.one (.mp agg nv len kf vf)),.av ka,some (found,i)=>match keyV ka,FO P e,P.underlying kt with
  |some key,some z,some kd=>bif Nat.beq z.length nv&&(agg==IV P e)&&(agg||Nat.beq nv 1)then
    (let v:Av:=match agg with
     |true=>.agg (YI found ((List.range nv).map (vf i)) z)
     |false=>.one (Sn found (vf i 0) (z.getD 0 default))
    some (.val [j0 kd len kf key found i] (bif commaOk then .tup [v,.one (.val (.bool found))]else .av v)))else none
  |_,_,_=>none
 |_,_,_,_=>none
def MD:List Kd->List Value->Bool
 |[],[]=>true
 |.int k::ks,.int k' _::vs=>decide (k'=k)&&MD ks vs
 |.bool::ks,.bool _::vs=>MD ks vs
 |.str::ks,.string _::vs=>MD ks vs
 |_,_=>false
def de(P:Program)(T:TypeId):Bool:=match ti P T with
 |some ⟨_,_,.int _⟩=>true
 |some ⟨_,_,.bool⟩=>true
 |some ⟨_,_,.string⟩=>true
 |_=>false
def df(P : Program)(n : Nat)(fs : List Field) : Bool := fs.all fun f => f.name != "_" && (Nat.blt f.offset n && de P f.type)
def Gx(P:Program)(E:TypeId->Option (List Kd))(kt:TypeId)(v:Value):Prop:=(∃kd,P.underlying kt=some kd/\IsKey kd v) \/
 ∃ks vs fs,E kt=some ks/\P.underlying kt=some (.struct fs)/\df P ks.length fs.toList=true/\v=.agg vs/\MD ks vs.toList=true
def ZW(P:Program)(E:TypeId->Option (List Kd))(kt:TypeId)(len:Nat)(kf:Nat->Value)(key:Value)(found:Bool)(i:Nat):Prop :=
 Gx P E kt key/\(∀j,j<len->Gx P E kt (kf j))/\(found=true->i<len/\kf i=key/\∀j,j<i->kf j≠key)/\(found=false->∀j,j<len->kf j≠key)
def uA:Cl->Bool
 |.val _=>true
 |_=>false
def valOf:Cl->Value
 |.val v=>v
 |_=>undef
def aw:Av->Option Value
 |.one (.val v)=>some v
 |.agg l=>bif l.all uA then some (.agg (l.map valOf).toArray)else none
 |_=>none
def Av.isAgg:Av->Bool
 |.agg _=>true
 |_=>false
def TS(P:Program)(E:TypeId->Option (List Kd))(q:Option (Bool×Nat))(T:TypeId)(n:Nat)(k:Tv)(commaOk:Bool):Option Ef:=match ti P T,k,q with
 |some ⟨_,_,.map kt e⟩,.av ka,some (found,i)=>match aw ka,FO P e with
  |some key,some z=>some (.rd [n] fun
   |[.omap agg nv len kf vf]=>bif Nat.beq z.length nv&&(agg==IV P e)&&(agg||Nat.beq nv 1)then
     some ([ZW P E kt len kf key found i],bif commaOk then .tup [QU agg found nv (vf i) z,.one (.val (.bool found))]else .av (QU agg found nv (vf i) z))else none
   |_=>none)
  |_,_=>none
 |_,_,_=>none
def K5(P:Program)(T:TypeId):Option Ef:=match ti P T with
 |some ⟨_,_,.map _ e⟩=>match FO P e with
  |some z=>some (.new [] (.omap (IV P e) z.length 0 (fun _=>undef) m8) fun d=>.av (.one (.om d)))
  |none=>none
 |_=>none
def P1(P:Program)(E:TypeId->Option (List Kd))(q:Option (Bool×Nat))(T:TypeId)(m k v:Tv):Option Ef:=match ti P T,m,k,v,q with
 |some ⟨_,_,.map kt _⟩,.av (.one (.om n)),.av ka,.av va,some (found,i)=>match aw ka with
  |some key=>bif va.dv then some (.wr n [] fun b _=>match b with
   |.omap agg nv len kf vf=>bif Nat.beq va.cells.length nv&&(agg==va.isAgg)then
     some ([ZW P E kt len kf key found i],.tup [],.omap agg nv (bif found then len else len+1) (fun j=>bif Nat.beq j (bif found then i else len)then key else kf j) (fun j c=>bif Nat.beq j (bif found then i else len)then va.cells.getD c default else vf j c))else none
   |_=>none)else none
  |none=>none
 |_,_,_,_,_=>none
def Te:List Av->Option (List Cl)
 |[]=>some []
 |.one c::r=>(Te r).map (c::·)
 |_=>none
def BZ(l:List Cl)(i:Nat):Cl:=l.getD i default
def Dc(k:Nat)(caps:Nat->Cl):List Av:=(List.range k).map fun i=>.one (caps i)
def JL(P:Program)(o:Op)(ev:Operand->Option Tv):Option Ef:=match o with
 |.index T x i=>match ev x,ev i with
  |some v,some j=>TT P T v j
  |_,_=>none
 |.makeSlice T l c=>match ev l,ev c with
  |some v,some j=>Kz P T v j
  |_,_=>none
 |.makeMap T none=>K5 P T
 |_=>none
def eff(P:Program)(V:Env P)(dst:Option Nat)(o:Op)(ev:Operand->Option Tv):Option Ef:=match o with
 |.move x=>(ev x).map (.val [])
 |.assign x=>(ev x).map (.val [])
 |.pick c a b=>match ev c,ev a,ev b with
  |some (.av (.one (.val (.bool cb)))),some ta,some tb=>match asB ta,asB tb with
   |some (ga,xa),some (gb,xb)=>some (.val ((ga.map fun g=>cb=true->g)++(gb.map fun g=>cb=false->g)) (.av (.one (.val (.bool (bif cb then xa else xb))))))
   |_,_=>none
  |_,_,_=>none
 |.alloc T=>match FO P T with
  |some z=>some (.new [] (.cells z T) fun d=>.av (.one (.ptr d 0)))
  |none=>none
 |.box T x=>match ev x with
  |some (.av v)=>some (.new [] (.cells v.cells T) fun d=>.av (.one (.ptr d 0)))
  |_=>none
 |.build T parts=>Oe P ev T parts
 |.buildSlice T len parts=>Hg P ev T len parts (match dst with
  |some d=>V.O d
  |none=>false) (match dst with
  |some d=>V.O (d+1000000)
  |none=>false)
 |.load T x=>match ev x with
  |some v=>XN P T v
  |none=>none
 |.store T x v=>match ev x,ev v with
  |some p,some (.av v)=>TQ P T p v
  |_,_=>none
 |.fieldAddr T x k=>match ev x with
  |some v=>K7 P T v k
  |none=>none
 |.field T x k=>match ev x with
  |some v=>TU P T v k
  |none=>none
 |.indexAddr T x i=>match ev x,ev i with
  |some v,some j=>K6 P T v j
  |_,_=>none
 |.binOp op T x y _=>match ev x,ev y with
  |some a,some b=>dI P V op T a b
  |_,_=>none
 |.unOp op _ x=>match ev x with
  |some (.av (.one (.val a)))=>(unV op a).map fun r=>.val [] (.av (.one (.val r)))
  |_=>none
 |.convert src dst x=>match ev x with
  |some v=>Nx P src dst v
  |none=>none
 |.extract x i=>match ev x with
  |some (.tup l)=>(l[i]?).map fun v=>.val [] (.av v)
  |_=>none
 |.nilCheck x=>match ev x with
  |some (.av (.one (.ptr n off)))=>some (.val [] (.av (.one (.ptr n off))))
  |some (.av (.one (.eptr sz len f i off)))=>some (.val [] (.av (.one (.eptr sz len f i off))))
  |some (.av (.one (.rptr n sz i off)))=>some (.val [] (.av (.one (.rptr n sz i off))))
  |some (.av (.one (.clo f k caps)))=>some (.val [] (.av (.one (.clo f k caps))))
  |_=>none
 |.makeFunc (.func f) first captured=>bif first.toList.isEmpty then match FQ ev captured.toList with
  |some l=>(Te l).map fun cs=>.val [] (.av (.one (.clo f cs.length (BZ cs))))
  |none=>none
  else none
 |.mapUpdate T m k x=>match ev m,ev k,ev x with
  |some v,some kv,some xv=>P1 P V.E (V.Q 999999) T v kv xv
  |_,_,_=>none
 |.lookup T x k ok=>match ev x,ev k,dst with
  |some (.av (.one (.om n))),some kv,some d=>TS P V.E (V.Q d) T n kv ok
  |some v,some kv,some d=>P2 P (V.Q d) T v kv ok
  |_,_,_=>none
 |.slice T x lo hi none=>match ev x with
  |some v=>TR P T v (lo.map ev) (hi.map ev)
  |none=>none
 |.call c=>match c.callee,FQ ev c.args.toList with
  |.builtin b,some xs=>Ny P b c.argTypes xs
  |.value f,some xs=>match ev f with
   |some (.av (.one (.clo g k caps)))=>match dst with
    |some d=>match V.Γ d with
     |some (g',xs',e)=>bif Nat.beq g' g then some (UK (xs++Dc k caps=xs') e)else none
     |none=>none
    |none=>none
   |_=>none
  |_,_=>none
 |o=>JL P o ev
end
section
open Go.RowKit
section
variable {P:Program}{M:m5}{σ:Nat→Loc}{w:World}{h:Nat→Option Blk}
theorem Gk.refl(hi:∀b o,M b=some o->w.heap[b]? = some o)(ex:Nat->Prop):Gk w w M M ex:=⟨rfl,rfl,rfl,lu _,fun _ _ _=>rfl,fun _ _ h=>h,fun _ _ h h'=>by(rw[h]at h';cases h'),hi⟩
def Zl(P:Program)(o:Oper)(a:Act)(w:World)(G:Value->World->Prop):Prop :=
 (∃V w',(execOp a.eval o).run P w=.ok (.value V) w'/\G V w')\/(∃w',(execOp a.eval o).run P w=.ok .skip w'/\G undef w') \/
 (∃f args,(execOp a.eval o).run P w=.ok (.enter f args) w/\Calls P f args w (fun en w'=>∃V,en=.returned V/\G V w'))
def FW(rd:Option Nat):Fence:={ Fence.wide with round:=rd }
theorem Zl.wp{rd:Option Nat}{o:Oper}{a:Act}{G:Value->World->Prop}(hd:Zl P o a w G){K:Act->World->Prop}{Q:Exit->Act->World->Prop}(hK:∀V w',G V w'->K (a.put o.dst V) w')(hnd:∀c,o.op≠.defer c):o.wpIn (FW rd) 0 P a w K Q:=by
 refine⟨fun _ _=>trivial,?_⟩;rw[Oper.semAt_eq _ _ _ hnd];rcases hd with ⟨V,w',hr,hg⟩|⟨w',hr,hg⟩|⟨f,args,hr,hc⟩<;>rw[hr]
 ·exact hK _ _ hg
 ·exact hK _ _ hg
 refine⟨fun h=>(by cases h),?_⟩;have h1:CallsIn (FW rd) (0-1) P f args w (fun en w'=>∃V,en=.returned V/\G V w'):=callsIn_wide.2 hc;refine h1.mono ?_;rintro e w' ⟨V,rfl,hg⟩;exact hK _ _ hg
theorem Zl.mono{o:Oper}{a:Act}{G G':Value->World->Prop}(hd:Zl P o a w G)(hG:∀V w',G V w'->G' V w'):Zl P o a w G':=by
 rcases hd with ⟨V,w',hr,hg⟩|⟨w',hr,hg⟩|⟨f,args,hr,hc⟩
 ·exact .inl ⟨V,w',hr,hG _ _ hg⟩
 ·exact .inr (.inl ⟨w',hr,hG _ _ hg⟩)
 exact .inr (.inr ⟨f,args,hr,hc.mono fun e w' ⟨V,he,hg⟩=>⟨V,he,hG _ _ hg⟩⟩)
def GF(P:Program)(M:m5)(σ:Nat->Loc)(o:Oper)(a:Act)(w:World)(g:Eg):Prop:=Zl P o a w fun V w'=>∃M' σ',b8 M σ w o.dst V w' M' σ' g
theorem BF{o:Oper}{a:Act}{v:Tv}{V:Value}(hi:∀b o,M b=some o->w.heap[b]? = some o)(hr:(execOp a.eval o).run P w=.ok (.value V) w)(hv:RT M σ v V):GF P M σ o a w (.val v) :=
 .inl ⟨V,w,hr,M,σ,Gk.refl hi _,rfl,hv⟩
theorem Br{cs cs':List Prop}{v:Tv}{g:Eg}(hr:res h (.val cs v)=some (cs',g)):cs'=cs/\g=.val v:=by
 simp only[res,l7,l8]at hr;exact⟨hr.1.symm,hr.2.symm⟩
theorem JN(hi:∀b o,M b=some o->w.heap[b]? = some o){b o:Nat}{v:Value}(hc:F2 M b o=some v):w.cell? ⟨b,o,none⟩=some v:=by
 unfold F2 at hc;split at hc
 ·rename_i c e f hm;simp only[World.cell?,hi _ _ hm];exact hc
 cases hc
theorem MK{c:Cl}{V:Value}(hc:R M σ c V):V.oneCell'=true:=by
 cases c<;>simp only[R]at hc
 ·obtain⟨rfl,h1⟩:=hc;exact h1
 ·subst hc;rfl
 ·split at hc
  ·rw[hc.2];rfl
  subst hc;rfl
 ·subst hc;rfl
 ·split at hc
  ·rw[hc.2.2];rfl
  subst hc;rfl
 ·cases hc<;>rfl
 ·cases hc<;>rfl
 ·obtain⟨cs,rfl,_⟩:=hc;rfl
 ·cases hc;rfl
 ·subst hc;rfl
 exact hc
theorem VE{V:Value}(h1:V.oneCell'=true):V.cells = #[V]:=by cases V<;>first|rfl|cases h1
theorem Om{x:Av}{V:Value}(hx:RA M σ x V):L2 (R M σ) x.cells V.cells.toList:=by
 cases x with
 |one c=>rw[VE (MK hx)];exact .cons hx .nil
 |agg l=>obtain⟨vs,rfl,hl⟩:=hx;simpa [Value.cells,Av.cells]using hl
theorem jZ{l:List Cl}{vs:List Value}(hl:L2 (R M σ) l vs):∀v∈vs,v.oneCell'=true:=by
 induction hl with
 |nil=>intro v hv;cases hv
 |cons h1 _ ih=>intro v hv;cases hv with
  |head=>exact MK h1
  |tail _ hm=>exact ih _ hm
theorem Ho{T:TypeId}{t:TI}(ht:ti P T=some t){b off:Nat}{l:List Cl}{vs:List Value}{v:Av}(hl:L2 (R M σ) l vs)(n:Nat)(hw:∀(j:Nat) u,n<=j->j<n+t.size\/(t.agg=false/\j=n)->vs[j]? = some u->w.cell? ⟨b,off+j,none⟩=some u)(hv:Iv t l n=some v) :
  ∃V,(loadVar T ⟨b,off+n,none⟩).run P w=.ok V w/\RA M σ v V:=by
 obtain⟨h1,h2,_,_,_⟩:=Bk ht w;unfold Iv at hv;simp only[loadVar,Sem.run_bind,h2,Result.andThen_ok];cases ha:t.agg with
 |true =>
  simp only[ha,mi]at hv;cases hb:Nat.ble (n+t.size) l.length with
  |false=>rw[hb]at hv;cases hv
  |true =>
   rw[hb]at hv;simp only[mi,l7]at hv;subst hv;have hle:n+t.size<=l.length:=mr hb;have hlen:=hl.length;have hcs:=run_loadCells_list (P:=P) (w:=w) (a:=⟨b,off+n,none⟩) (cs:=(vs.drop n).take t.size) (by
    intro j u hj;rw[List.getElem?_take]at hj;split at hj
    ·rename_i hjt;rw[List.getElem?_drop]at hj;have:=hw (n+j) u mz (.inl mz) hj;rw[Addr.add_lit,show off+n+j=off+(n+j)by omega];exact this
    cases hj)
   have hsz:((vs.drop n).take t.size).length=t.size:=by simp;omega
   rw[hsz]at hcs;simp only[if_true,Sem.run_bind,h1,Result.andThen_ok,hcs,Sem.run_pure];exact⟨_,rfl,_,rfl,(hl.drop n).take t.size⟩
 |false =>
  simp only[ha,mj]at hv;cases hg:l[n]? with
  |none=>rw[hg]at hv;cases hv
  |some c =>
   rw[hg]at hv;simp only[Option.map_some,l7]at hv;subst hv;obtain⟨u,hu,hR⟩:=hl.get n c hg;have:=hw n u mz (.inr ⟨ha,rfl⟩) hu;simp only[Bool.false_eq_true,if_false,run_load,this];exact⟨u,rfl,hR⟩
theorem EY(f:Nat->Nat->Cl)(i:Nat):∀n off,(IJ f i off n).length=n
 |0,_=>rfl
 |n+1,off=>by simp[IJ,EY f i n]
theorem Ku(f:Nat->Nat->Cl)(i:Nat):∀(n off j:Nat),j<n->(IJ f i off n)[j]? = some (f i (off+j))
 |0,_,_,h=>absurd h mz
 |n+1,off,0,_=>rfl
 |n+1,off,j+1,h=>by
  simp only[IJ,List.getElem?_cons_succ];rw[Ku f i n (off+1) j mz,show off+1+j=off+(j+1)by omega]
theorem QC{c:Cl}{V:Value}(hc:RC M c V):R M σ c V:=by
 induction hc with
 |val v h1=>exact⟨rfl,h1⟩
 |nil t sz f h0=>exact .nil t sz f h0
 |mt t sz f a cap h5=>exact .mt t sz f a cap h5
 |clo f k caps cs h1 _ ih=>exact⟨cs,rfl,h1,ih⟩
 |list t sz len f b off cap g h1 h2 h4 h5 _=>exact .list t sz len f b off cap g h1 h2 h4 h5
 |eptr sz len f i off b base g h1 h2 _=>exact .eptr sz len f i off b base g h1 h2
 |mp agg nv len kf vf b es clock g h0 h1 h2 h3 _=>exact .mp agg nv len kf vf b es clock g h0 h1 h2 h3
 |any V h=>exact h
theorem aq{T:TypeId}{p:Operand}{o:Oper}{a:Act}{x:Tv}{e:Ef}{cs:List Prop}{g:Eg}(ho:o.op=.load T p)(hx:RT M σ x (a.eval p))(he:XN P T x=some e)(hs:Std M σ w h)(hr:res h e=some (cs,g))(hc:CI cs):GF P M σ o a w g:=by
 unfold XN at he;cases ht:ti P T with
 |none=>rw[ht]at he;cases he
 |some t =>
  rw[ht]at he;simp only at he;split at he
  ·rename_i n off;injection he with he
   subst he;simp only[res,G3]at hr;cases hn:h n with
   |none=>rw[hn]at hr;cases hr
   |some blk =>
    rw[hn]at hr;simp only at hr;cases blk with
    |row=>cases hr
    |omap=>cases hr
    |rowx=>cases hr
    |cells l ty =>
     simp only at hr;cases hp:Iv t l off with
     |none=>rw[hp]at hr;cases hr
     |some v =>
      rw[hp]at hr;simp only[Option.map_some,l7,l8]at hr;obtain⟨rfl,rfl⟩:=hr;obtain⟨hnil,c,hblk,hl⟩:=hs.blk n _ hn;obtain⟨V,hV,hRV⟩:=Ho (w:=w) ht (b:=(σ n).b) (off:=0) hl off (fun j u _ _ hj=>by simp only[World.cell?,hblk];simpa using hj) hp;have hx':a.eval p=.pointer (some ⟨(σ n).b,off,none⟩):=hx;refine BF hs.imm (V:=V) ?_ hRV;rw[mw]at hV;simp only[execOp,ho,hx',Instr.loadAt,Instr.sureAddr,Sem.run_bind,Sem.run_pure,Result.andThen_ok,hV]
  ·rename_i n sz i off;injection he with he
   subst he;simp only[res,G3]at hr;cases hn:h n with
   |none=>rw[hn]at hr;cases hr
   |some blk =>
    rw[hn]at hr;simp only at hr;cases blk with
    |cells=>cases hr
    |omap=>cases hr
    |rowx sz' len f ty hh =>
     simp only at hr;split at hr
     ·rename_i cs0 v0 hk;simp only[l7,l8]at hr;obtain⟨rfl,rfl⟩:=hr;split at hk
      ·rename_i l hgl;cases hb:(Nat.beq sz' sz&&Nat.ble (off+t.size) sz)with
       |false=>rw[hb]at hk;cases hk
       |true =>
        rw[hb]at hk;simp only[mi]at hk;simp only[me]at hb;obtain⟨hb1,hb2⟩:=hb;have:=lx hb1;subst this;cases hp:Iv t l off with
        |none=>rw[hp]at hk;cases hk
        |some v =>
         rw[hp]at hk;simp only[Option.map_some,l7,l8]at hk;obtain⟨rfl,rfl⟩:=hk;obtain⟨hnil,c,hblk,hsz,hcap,_,gv,hg,hgh⟩:=hs.blk n _ hn;obtain⟨hi,hl⟩:=hgh i l hgl;obtain⟨V,hV,hRV⟩:=Ho (w:=w) ht (b:=(σ n).b) (off:=i*sz') hl off (fun j u _ _ hj=>by
          have hjs:j<sz':=by have:=(List.getElem?_eq_some_iff.1 hj).1;simpa using this
          simp[hjs]at hj;subst hj;simp only[World.cell?,hblk];exact(hg i j hi hjs).1) hp
         have hx':a.eval p=.pointer (some ⟨(σ n).b,i*sz'+off,none⟩):=hx;refine BF hs.imm (V:=V) ?_ hRV;simp only[execOp,ho,hx',Instr.loadAt,Instr.sureAddr,Sem.run_bind,Sem.run_pure,Result.andThen_ok,hV]
      cases hk
     cases hr
    |row sz' len f ty =>
     simp only at hr;cases hb:(Nat.beq sz' sz&&Nat.ble (off+t.size) sz)with
     |false=>rw[hb]at hr;cases hr
     |true =>
      rw[hb]at hr;simp only[mi]at hr;simp only[me]at hb;obtain⟨hb1,hb2⟩:=hb;have:=lx hb1;subst this;have hle:=mr hb2;cases hp:Iv t (IJ f i 0 sz') off with
      |none=>rw[hp]at hr;cases hr
      |some v =>
       rw[hp]at hr;simp only[Option.map_some,l7,l8]at hr;obtain⟨rfl,rfl⟩:=hr;have hi:=hc.head;rcases hs.blk n _ hn with ⟨_,h0⟩|⟨hnil,c,hblk,hsz,hcap,_,gv,hg⟩
       ·omega
       have hl:L2 (R M σ) (IJ f i 0 sz') ((List.range sz').map (gv i)):=by
        refine L2.of (by simp[EY]) fun j x y hx hy=>?_;have hj:j<sz':=by have:=(List.getElem?_eq_some_iff.1 hx).1;rwa [EY]at this
        rw[Ku _ _ _ _ _ hj]at hx;simp[hj]at hx hy;subst hx;subst hy;exact QC (hg i j hi hj).2
       obtain⟨V,hV,hRV⟩:=Ho (w:=w) ht (b:=(σ n).b) (off:=i*sz') hl off (fun j u _ _ hj=>by
        have hjs:j<sz':=by have:=(List.getElem?_eq_some_iff.1 hj).1;simpa using this
        simp[hjs]at hj;subst hj;simp only[World.cell?,hblk];exact(hg i j hi hjs).1) hp
       have hx':a.eval p=.pointer (some ⟨(σ n).b,i*sz'+off,none⟩):=hx;refine BF hs.imm (V:=V) ?_ hRV;simp only[execOp,ho,hx',Instr.loadAt,Instr.sureAddr,Sem.run_bind,Sem.run_pure,Result.andThen_ok,hV]
  ·rename_i sz len f i off;cases hp:Iv t (IJ f i 0 sz) off with
   |none=>rw[hp]at he;cases he
   |some v =>
    rw[hp]at he;simp only[Option.map_some,l7]at he;subst he;obtain⟨rfl,rfl⟩:=Br hr;have hx':RC M (.eptr sz len f i off) (a.eval p):=hx;generalize hV0:a.eval p=V0 at hx';cases hx' with
    |eptr _ _ _ _ _ b base gv h1 h2 =>
     have hl:L2 (R M σ) (IJ f i 0 sz) ((List.range sz).map gv):=by
      refine L2.of (by simp[EY]) fun j x y hx hy=>?_;have hj:j<sz:=by have:=(List.getElem?_eq_some_iff.1 hx).1;rwa [EY]at this
      rw[Ku _ _ _ _ _ hj]at hx;simp[hj]at hx hy;subst hx;subst hy;exact QC (h2 j hj)
     obtain⟨V,hV,hRV⟩:=Ho (w:=w) ht (b:=b) (off:=base) hl off (fun j u _ _ hj=>by
      have hjs:j<sz:=by have:=(List.getElem?_eq_some_iff.1 hj).1;simpa using this
      simp[hjs]at hj;subst hj;exact JN hs.imm (h1 j hjs)) hp
     refine BF hs.imm (V:=V) ?_ hRV;simp only[execOp,ho,hV0,Instr.loadAt,Instr.sureAddr,Sem.run_bind,Sem.run_pure,Result.andThen_ok,hV]
  cases he
def JD:List Value->Nat->List Value->List Value
 |l,_,[]=>l
 |l,off,v::vs=>JD (l.set off v) (off+1) vs
theorem eE{l:List Cl}{vs:List Value}:∀ {m:List Cl} {us:List Value} (off:Nat),L2 (R M σ) m us->L2 (R M σ) l vs->L2 (R M σ) (bH l off m) (JD vs off us):=by
 intro m us off hm;induction hm generalizing l vs off with
 |nil=>exact fun h=>h
 |cons h1 _ ih=>exact fun h=>ih _ (h.set off h1)
theorem GX:∀(us l:List Value) (off:Nat),(JD l off us).length=l.length
 |[],_,_=>rfl
 |u::us,l,off=>by simp[JD,GX us]
theorem L9:∀(us l:List Value) (off j:Nat),off+us.length<=l.length->(JD l off us)[j]? = if off<=j/\j<off+us.length then us[j-off]? else l[j]?
 |[],l,off,j,_=>by simp[JD];intro h1 h2;omega
 |u::us,l,off,j,hle=>by
  simp only[JD,j8]at *;rw[L9 us (l.set off u) (off+1) j (by simp;omega)]
  by_cases h1:off+1<=j/\j<off+1+us.length
  ·rw[if_pos h1,if_pos mz];rw[show j-off=(j-(off+1))+1 by omega,List.getElem?_cons_succ]
  rw[if_neg h1]
  by_cases h2:j=off
  ·subst h2;rw[if_pos mz];simp[show j<l.length by omega]
  rw[if_neg mz,List.getElem?_set_ne mz]
theorem E7{b:Nat}{ty:TypeId}:∀(us c:List Value) (off:Nat) (w:World),w.heap[b]? = some (.cells c.toArray ty)->off+us.length<=c.length->(∀v∈us,v.oneCell'=true)->∀i a0,a0+i=off ->
  ∃w',(storeCells ⟨b,a0,none⟩ us i).run P w=.ok () w'/\w'.heap[b]? = some (.cells (JD c off us).toArray ty)/\w'.heap.size=w.heap.size/\w'.os=w.os/\w'.tape=w.tape/\w'.output=w.output/\∀k,k≠b->w'.heap[k]? = w.heap[k]?
 |[],c,off,w,hb,_,_,i,a0,_=>⟨w,rfl,by simpa [JD]using hb,rfl,rfl,rfl,rfl,fun _ _=>rfl⟩
 |u::us,c,off,w,hb,hle,h1,i,a0,hoff=>by
  subst hoff;simp only[j8]at hle;have hcell:w.cell? ⟨b,a0+i,none⟩=some c[a0+i]:=by simp[World.cell?,hb,show a0+i<c.length by omega]
  have hfr:w.frozen? ⟨b,a0+i,none⟩=false:=by simp[World.frozen?,hb]
  have hset:(w.setCell ⟨b,a0+i,none⟩ u).heap[b]? = some (.cells (c.set (a0+i) u).toArray ty):=by
   simp[World.setCell,Array.getElem?_modify,hb]
  obtain⟨w',h2,h3,h4,h5,h6,h7,h8⟩:=E7 us (c.set (a0+i) u) (a0+i+1) _ hset (by simp;omega) (fun v hv=>h1 v (by simp[hv])) (i+1) a0 mz;refine⟨w',?_,h3,by rw[h4];simp,h5,h6,h7,fun k hk=>by rw[h8 k hk];exact Below.heap_setCell _ _ _ _ hk⟩;simp only[storeCells,Sem.run_bind,Addr.add_lit];rw[run_store P w _ u .plain (h1 u m3),hcell];simp only[hfr,Bool.false_eq_true,if_false,Result.andThen_ok];exact h2
theorem Ol{c:Cl}{V:Value}(hd:c.dv=true)(hc:R M σ c V):RC M c V:=(Mx hd).1 hc
theorem qF{T:TypeId}{p q:Operand}{o:Oper}{a:Act}{x:Tv}{v:Av}{e:Ef}{cs:List Prop}{g:Eg}(ho:o.op=.store T p q)(hx:RT M σ x (a.eval p))(hv:RA M σ v (a.eval q))(he:TQ P T x v=some e)(hs:Std M σ w h)(hr:res h e=some (cs,g))(hc:CI cs):GF P M σ o a w g:=by
 unfold TQ at he;cases ht:ti P T with
 |none=>rw[ht]at he;cases he
 |some t =>
  rw[ht]at he;simp only at he;have hcells:=Om hv;have hlen:=hcells.length;obtain⟨h1,_,_,_,_⟩:=Bk ht w;have hone:=jZ hcells;cases hbe:Nat.beq v.cells.length t.size with
  |false=>rw[hbe]at he;cases he
  |true =>
  rw[hbe]at he;simp only[mi]at he;have hsz:=lx hbe;have hsize:¬ ((a.eval q).cells.size≠t.size):=by rw[<- hsz,hlen];simp
  split at he
  ·rename_i n off;injection he with he
   subst he;simp only[res,G3]at hr;cases hn:h n with
   |none=>rw[hn]at hr;cases hr
   |some blk =>
    rw[hn]at hr;cases blk with
    |row=>cases hr
    |omap=>cases hr
    |rowx=>cases hr
    |cells l ty =>
     simp only at hr;cases hb:Nat.ble (off+v.cells.length) l.length with
     |false=>rw[hb]at hr;cases hr
     |true =>
      rw[hb]at hr;simp only[mi,l7,l8]at hr;obtain⟨rfl,rfl⟩:=hr;have hle:=mr hb;obtain⟨hnil,c,hblk,hl⟩:=hs.blk n _ hn;have hx':a.eval p=.pointer (some ⟨(σ n).b,off,none⟩):=hx;obtain⟨w',h2,h3,h4,h5,h6,h7,h8⟩:=E7 (P:=P) (a.eval q).cells.toList c off w hblk (by rw[<- hlen,<- hl.length];exact hle) hone 0 off mz;have hb':(σ n).b<w.heap.size:=(Array.getElem?_eq_some_iff.1 hblk).1;refine .inr (.inl ⟨w',?_,M,σ,⟨h5,h6,h7,by omega,fun b hb hne=>h8 b fun e=>hne ⟨hnil,e⟩,fun _ _ h=>h,fun _ _ h h'=>by(rw[h]at h';cases h'),fun b o hm=>?_⟩,rfl,⟨[],rfl,.nil⟩,hnil,_,h3,eE off hcells hl⟩)
      ·simp only[execOp,ho,hx',Instr.storeAt,Instr.sureAddr,storeVar,Sem.run_bind,Sem.run_pure,Result.andThen_ok,h1,hsize,if_false,h2]
      rw[h8 b fun e=>?_]
      ·exact hs.imm b o hm
      rcases hs.loc n _ hn with hk|hk
      ·rw[hnil]at hk;cases hk
      rw[e,hk]at hm;cases hm
  ·rename_i n sz i off;injection he with he
   subst he;simp only[res,G3]at hr;cases hn:h n with
   |none=>rw[hn]at hr;cases hr
   |some blk =>
    rw[hn]at hr;cases blk with
    |cells=>cases hr
    |omap=>cases hr
    |rowx sz' len f ty hh =>
     simp only at hr;split at hr
     ·rename_i cs0 v0 b0 hk;simp only[l7,l8]at hr;obtain⟨rfl,rfl⟩:=hr;split at hk
      ·rename_i l hgl;cases hb:(Nat.beq sz' sz&&Nat.ble (off+v.cells.length) sz)with
       |false=>rw[hb]at hk;cases hk
       |true =>
        rw[hb]at hk;simp only[mi,l7,l8]at hk;obtain⟨rfl,rfl,rfl⟩:=hk;simp only[me]at hb;obtain⟨hb1,hb2⟩:=hb;have:=lx hb1;subst this;have hle:=mr hb2;obtain⟨hnil,c,hblk,hcsz,hcap,hmax,gv,hg,hgh⟩:=hs.blk n _ hn;obtain⟨hi,hl⟩:=hgh i l hgl;have hx':a.eval p=.pointer (some ⟨(σ n).b,i*sz'+off,none⟩):=hx;have hrow:i*sz'+sz'<=c.size:=by
         have:(i+1)*sz'<=(σ n).cap*sz':=Nat.mul_le_mul_right _ mz;rw[Nat.add_mul,Nat.one_mul]at this;omega
        obtain⟨w',h2,h3,h4,h5,h6,h7,h8⟩:=E7 (P:=P) (a.eval q).cells.toList c.toList (i*sz'+off) w (by simpa using hblk) (by rw[<- hlen];simp;omega) hone 0 (i*sz'+off) mz;have hb':(σ n).b<w.heap.size:=(Array.getElem?_eq_some_iff.1 hblk).1;have hcell:∀k,(JD c.toList (i*sz'+off) (a.eval q).cells.toList)[k]? = if i*sz'+off<=k/\k<i*sz'+off+(a.eval q).cells.toList.length then(a.eval q).cells.toList[k-(i*sz'+off)]? else c.toList[k]? := fun k=>L9 _ _ _ _ (by rw[<- hlen];simp;omega)
        have hdisj:∀i' j,j<sz'->i'≠i->¬ (i*sz'+off<=i'*sz'+j/\i'*sz'+j<i*sz'+off+v.cells.length):=by
         intro i' j hj hne hcon;rcases Nat.lt_trichotomy i' i with hlt|heq|hgt
         ·have:(i'+1)*sz'<=i*sz':=Nat.mul_le_mul_right _ mz;rw[Nat.add_mul,Nat.one_mul]at this;omega
         ·exact hne heq
         have:(i+1)*sz'<=i'*sz':=Nat.mul_le_mul_right _ mz;rw[Nat.add_mul,Nat.one_mul]at this;omega
        refine .inr (.inl ⟨w',?_,M,σ,⟨h5,h6,h7,by omega,fun b hb hne=>h8 b fun e=>hne ⟨hnil,e⟩,fun _ _ h=>h,fun _ _ h h'=>by(rw[h]at h';cases h'),fun b o hm=>?_⟩,rfl,⟨[],rfl,.nil⟩,hnil,_,h3,by simp[GX,hcsz],hcap,hmax,
         fun i' j=>if i'=i then(JD ((List.range sz').map (gv i)) off (a.eval q).cells.toList).getD j undef else gv i' j,fun i' j hi' hj=>?_,fun i' l' hl' => ?_⟩)
        ·simp only[execOp,ho,hx',Instr.storeAt,Instr.sureAddr,storeVar,Sem.run_bind,Sem.run_pure,Result.andThen_ok,h1,hsize,if_false,h2]
        ·rw[h8 b fun e=>?_]
         ·exact hs.imm b o hm
         rcases hs.loc n _ hn with hk|hk
         ·rw[hnil]at hk;cases hk
         rw[e,hk]at hm;cases hm
        ·constructor
         ·simp only[List.getElem?_toArray];rw[hcell,<- hlen]
          by_cases he:i'=i
          ·subst he;simp only[if_true];have hlj:j<(JD ((List.range sz').map (gv i')) off (a.eval q).cells.toList).length:=by rw[GX];simpa using hj
           rw[show ∀(L:List Value) (h:j<L.length),some (L.getD j undef)=L[j]? from fun L h=>by simp[List.getD,h]];rw[L9 _ _ _ _ (by rw[<- hlen];simpa using hle),<- hlen]
           by_cases hin:off<=j/\j<off+v.cells.length
           ·rw[if_pos mz,if_pos hin,show i'*sz'+j-(i'*sz'+off)=j-off by omega]
           ·rw[if_neg mz,if_neg hin];simp only[ld,lc hj,Option.map_some];simpa using (hg i' j hi hj).1
           exact hlj
          simp only[if_neg he];rw[if_neg (hdisj i' j hj he)];simpa using (hg i' j hi' hj).1
         intro hno;rw[JK]at hno
         by_cases he:i=i'
         ·rw[if_pos he]at hno;cases hno
         rw[if_neg he]at hno;simp only[if_neg (Ne.symm he)];exact(hg i' j hi' hj).2 hno
        rw[JK]at hl'
        by_cases he:i=i'
        ·subst he;rw[if_pos rfl]at hl';injection hl' with hl'
         subst hl';refine⟨hi,?_⟩;have key:=eE off hcells hl;have hlen2:(JD ((List.range sz').map (gv i)) off (a.eval q).cells.toList).length=sz':=by rw[GX];simp
         have e2:(List.range sz').map (fun j=>if i=i then(JD ((List.range sz').map (gv i)) off (a.eval q).cells.toList).getD j undef else gv i j)=JD ((List.range sz').map (gv i)) off (a.eval q).cells.toList:=by
          refine List.ext_getElem? fun j=>?_
          by_cases hj:j<sz'
          ·simp only[ld,lc hj,Option.map_some,if_true];have hlj:j<(JD ((List.range sz').map (gv i)) off (a.eval q).cells.toList).length:=by rw[hlen2];exact hj
           simp[List.getD,hlj]
          rw[cw (by simp;omega),cw (by rw[hlen2];omega)]
         rw[e2];exact key
        rw[if_neg he]at hl';obtain⟨k1,k2⟩:=hgh i' l' hl';refine⟨k1,?_⟩;have e2:(List.range sz').map (fun j=>if i'=i then(JD ((List.range sz').map (gv i)) off (a.eval q).cells.toList).getD j undef else gv i' j)=(List.range sz').map (gv i'):=by
         simp only[if_neg (Ne.symm he)]
        rw[e2];exact k2
      cases hk
     cases hr
    |row sz' len f ty =>
     cases hdv:v.dv with
     |false=>rw[hdv]at hr;cases hr
     |true =>
     rw[hdv]at hr;simp only[mi]at hr;cases hb:(Nat.beq sz' sz&&Nat.ble (off+v.cells.length) sz)with
     |false=>rw[hb]at hr;cases hr
     |true =>
      rw[hb]at hr;simp only[mi,l7,l8]at hr;obtain⟨rfl,rfl⟩:=hr;simp only[me]at hb;obtain⟨hb1,hb2⟩:=hb;have:=lx hb1;subst this;have hle:=mr hb2;have hi:=hc.head;rcases hs.blk n _ hn with ⟨_,h0⟩|⟨hnil,c,hblk,hcsz,hcap,hmax,gv,hg⟩
      ·omega
      have hx':a.eval p=.pointer (some ⟨(σ n).b,i*sz'+off,none⟩):=hx;have hrow:i*sz'+sz'<=c.size:=by
       have:(i+1)*sz'<=(σ n).cap*sz':=Nat.mul_le_mul_right _ mz;rw[Nat.add_mul,Nat.one_mul]at this;omega
      obtain⟨w',h2,h3,h4,h5,h6,h7,h8⟩:=E7 (P:=P) (a.eval q).cells.toList c.toList (i*sz'+off) w hblk (by rw[<- hlen];simp;omega) hone 0 (i*sz'+off) mz;have hb':(σ n).b<w.heap.size:=(Array.getElem?_eq_some_iff.1 hblk).1;refine .inr (.inl ⟨w',?_,M,σ,⟨h5,h6,h7,by omega,fun b hb hne=>h8 b fun e=>hne ⟨hnil,e⟩,fun _ _ h=>h,fun _ _ h h'=>by(rw[h]at h';cases h'),fun b o hm=>?_⟩,rfl,⟨[],rfl,.nil⟩,.inr ⟨hnil,_,h3,by simp[GX];exact hcsz,hcap,hmax,
       fun i' j=>if i'=i/\off<=j/\j<off+v.cells.length then(a.eval q).cells.toList.getD (j-off) undef else gv i' j,fun i' j hi' hj=>?_⟩⟩)
      ·simp only[execOp,ho,hx',Instr.storeAt,Instr.sureAddr,storeVar,Sem.run_bind,Sem.run_pure,Result.andThen_ok,h1,hsize,if_false,h2]
      ·rw[h8 b fun e=>?_]
       ·exact hs.imm b o hm
       rcases hs.loc n _ hn with hk|hk
       ·rw[hnil]at hk;cases hk
       rw[e,hk]at hm;cases hm
      simp only[List.getElem?_toArray];rw[L9 _ _ _ _ (by rw[<- hlen];simp;omega),<- hlen]
      by_cases hin:i'=i/\off<=j/\j<off+v.cells.length
      ·obtain⟨rfl,ha,hb⟩:=hin;rw[if_pos mz];simp only[if_pos (⟨trivial,ha,hb⟩:True/\off<=j/\j<off+v.cells.length)];have hjl:j-off<v.cells.length:=by omega
       obtain⟨u,hu,hR⟩:=hcells.get (j-off) _ (ea hjl);rw[show i'*sz'+j-(i'*sz'+off)=j-off by omega,hu];refine⟨by simp[List.getD,hu],?_⟩;simp only[List.getD,hu,Option.getD_some,ea hjl];refine Ol ?_ hR;revert hdv;cases v with
       |one c=>intro hd;simp[Av.cells]at hjl ⊢;exact hd
       |agg l=>intro hd;exact(List.all_eq_true.1 hd) _ (List.getElem_mem _)
      simp only[if_neg hin];rw[if_neg ?_]
      ·simpa using hg i' j hi' hj
      intro hcon;rcases Nat.lt_trichotomy i' i with hlt|heq|hgt
      ·have:(i'+1)*sz'<=i*sz':=Nat.mul_le_mul_right _ mz;rw[Nat.add_mul,Nat.one_mul]at this;omega
      ·subst heq;exact hin ⟨rfl,by omega,by omega⟩
      have:(i+1)*sz'<=i'*sz':=Nat.mul_le_mul_right _ mz;rw[Nat.add_mul,Nat.one_mul]at this;omega
  cases he
end
end
section
open Go.RowKit
section
variable {P:Program}{M:m5}{σ:Nat→Loc}{w:World}{h:Nat→Option Blk}{a:Act}{o:Oper}{cs:List Prop}{g:Eg}{e:Ef}
theorem XZ{k:IntKind}{n:Int}{V:Value}(hx:RT M σ (.av (.one (.val (.int k n)))) V):V=.int k n:=hx.1
theorem RA_b{n:Bool}{V:Value}(hx:RT M σ (.av (.one (.val (.bool n)))) V):V=.bool n:=hx.1
theorem R_v{v:Value}(h1:v.oneCell'=true):RT M σ (.av (.one (.val v))) v:=⟨rfl,h1⟩
theorem Uf{l:List Cl}{vs:List Value}(T:TypeId)(hs:Std M σ w h){d:Nat}(hd:o.dst=some d)(hl:L2 (R M σ) l vs)(hno:l.all (Cl.no d)=true)
 (hr:(execOp a.eval o).run P w=.ok (.value (.pointer (some ⟨w.heap.size,0,none⟩))) (w.alloc (.cells vs.toArray T))):GF P M σ o a w (.new (.cells l T) fun d=>.av (.one (.ptr d 0))):=by
 have hMno:M w.heap.size=none:=by
  cases hm:M w.heap.size with
  |none=>rfl
  |some x=>have:=(Array.getElem?_eq_some_iff.1 (hs.imm _ _ hm)).1;omega
 refine .inl ⟨_,_,hr,M,upd σ d ⟨w.heap.size,0,false⟩,⟨w.heap.size,0,false⟩,d,hd,⟨rfl,rfl,rfl,by simp,fun b hb _=>mq _ _ _ hb,fun _ _ h=>h,fun _ _ h h'=>by(rw[h]at h';cases h'),fun b o hm=>?_⟩,.inr ⟨lu _,hMno⟩,rfl,⟨rfl,vs,?_,?_⟩,?_⟩
 ·rw[mq _ _ _ (Array.getElem?_eq_some_iff.1 (hs.imm _ _ hm)).1];exact hs.imm _ _ hm
 ·show(w.heap.push _)[w.heap.size]? = _;simp
 ·refine hl.mono fun c hc v hv=>DO (fun _ _ h=>h) (fun d' hd' => ?_) hv;refine CW _ _ fun e=>?_;subst e;rw[(List.all_eq_true.1 hno) c hc]at hd';cases hd'
 show _=Value.pointer (some ⟨(upd σ d ⟨w.heap.size,0,false⟩ d).b,0,none⟩);rw[BH]
theorem FE{T:TypeId}{z:List Cl}(hz:FO P T=some z):∃i v,P.info? T=some i/\i.zero=some v/\L2 (R M σ) z v.cells.toList/\z=v.cells.toList.map Cl.val/\(zeroValue T).run P w=.ok v w:=by
 unfold FO at hz;split at hz
 ·rename_i i hi;split at hz
  ·rename_i v hv;cases hall:v.cells.toList.all Value.oneCell' with
   |false=>rw[hall]at hz;cases hz
   |true =>
    rw[hall]at hz;simp only[mi,l7]at hz;subst hz;exact⟨i,v,hi,hv,Oo M σ _ hall,rfl,by simp[zeroValue,typeInfo,hi,hv]⟩
  cases hz
 cases hz
theorem wS{T:TypeId}{z:List Cl}(ho:o.op=.alloc T)(hz:FO P T=some z)(hs:Std M σ w h){d:Nat}(hd:o.dst=some d):GF P M σ o a w (.new (.cells z T) fun d=>.av (.one (.ptr d 0))):=by
 obtain⟨i,v,hi,hv,hl,hzv,hr⟩:=FE (M:=M) (σ:=σ) (w:=w) hz;refine Uf T hs hd hl ?_ ?_
 ·rw[hzv];simp[List.all_map,Cl.no,Function.comp_def]
 simp only[execOp,ho,Instr.alloc,Sem.run_bind,hr,Result.andThen_ok,newVar,newRow,run_newObj,Sem.run_pure,Array.toArray_toList];rfl
theorem jv{T:TypeId}{x:Operand}{v:Av}(ho:o.op=.box T x)(hx:RA M σ v (a.eval x))(hs:Std M σ w h){d:Nat}(hd:o.dst=some d)(hno:v.cells.all (Cl.no d)=true):GF P M σ o a w (.new (.cells v.cells T) fun d=>.av (.one (.ptr d 0))):=by
 refine Uf T hs hd (Om hx) hno ?_;simp only[execOp,ho,Instr.box,Sem.run_bind,Result.andThen_ok,newVar,newRow,run_newObj,Sem.run_pure,Array.toArray_toList];rfl
theorem Jp{b off:Nat}{fd:Field}{s:Nat}{ag:Bool}{dd:TypeDesc}(ht:ti P fd.type=some ⟨s,ag,dd⟩)(hne:Nat.beq s 0=false):(fieldPlace ⟨b,off,none⟩ fd).run P w=.ok ⟨b,off+fd.offset,none⟩ w:=by
 obtain⟨h1,_⟩:=Bk ht w;have:¬ s=0:=fun e=>by subst e;simp[Nat.beq]at hne
 simp only[fieldPlace,Sem.run_bind,h1,Result.andThen_ok,this,if_false,Sem.run_pure,Addr.add_lit]
def d8(M:m5)(σ:Nat->Loc):Tv->Value->Prop
 |.av (.one (.ptr n off)),V=>V=.pointer (some ⟨(σ n).b,off,none⟩)
 |.av (.one (.rptr n sz i off)),V=>V=.pointer (some ⟨(σ n).b,i*sz+off,none⟩)
 |.av (.one (.eptr sz _ f i off)),V=>∃b base,V=.pointer (some ⟨b,base+off,none⟩)/\∀k len',RC M (.eptr sz len' f i k) (.pointer (some ⟨b,base+k,none⟩))
 |_,_=>True
theorem wW{x:Tv}{V:Value}(hx:RT M σ x V):d8 M σ x V:=by
 unfold d8;split
 ·exact hx
 ·exact hx
 ·have hx':RC M _ V:=hx;cases hx' with
  |eptr _ _ _ _ _ b base gv h1 h2=>exact⟨b,base,rfl,fun k len'=>.eptr _ _ _ _ _ b base gv h1 h2⟩
 trivial
theorem XK{T:TypeId}{p:Operand}{k:Nat}{x:Tv}(ho:o.op=.fieldAddr T p k)(hx:RT M σ x (a.eval p))(he:K7 P T x k=some e)(hs:Std M σ w h)(hr:res h e=some (cs,g)):GF P M σ o a w g:=by
 unfold K7 at he;split at he
 ·rename_i s0 ag0 fs ht;split at he
  ·rename_i fd hf;split at he
   ·rename_i s ag dd hft;obtain⟨_,_,hu,_,_⟩:=Bk ht w;cases hb:Nat.beq s 0 with
    |true=>rw[hb]at he;cases he
    |false =>
     rw[hb]at he;simp only[mj]at he;have hp:=wW hx;split at he<;>first|(cases he;done)|skip
     all_goals
      simp only[l7]at he;subst he;obtain⟨rfl,rfl⟩:=Br hr
     ·have hp:a.eval p=_:=hp;refine BF hs.imm (V:=.pointer (some ⟨_,_,none⟩)) ?_ rfl;simp only[execOp,ho,hp,Instr.fieldAt,Instr.sureAddr,Sem.run_bind,hu,Result.andThen_ok,hf,Sem.run_pure,Jp hft hb]
     ·have hp:a.eval p=_:=hp;refine BF hs.imm (V:=.pointer (some ⟨_,_,none⟩)) ?_ rfl;simp only[execOp,ho,hp,Instr.fieldAt,Instr.sureAddr,Sem.run_bind,hu,Result.andThen_ok,hf,Sem.run_pure,Jp hft hb,mv]
     obtain⟨b,base,hV,hall⟩:=hp;refine BF hs.imm (V:=.pointer (some ⟨_,_,none⟩)) ?_ (hall (_+fd.offset) _);simp only[execOp,ho,hV,Instr.fieldAt,Instr.sureAddr,Sem.run_bind,hu,Result.andThen_ok,hf,Sem.run_pure,Jp hft hb,mv]
   cases he
  cases he
 cases he
theorem W8{T:TypeId}{p q:Operand}{x y:Tv}(ho:o.op=.indexAddr T p q)(hx:RT M σ x (a.eval p))(hy:RT M σ y (a.eval q))(he:K6 P T x y=some e)(hs:Std M σ w h)(hr:res h e=some (cs,g))(hc:CI cs):GF P M σ o a w g:=by
 unfold K6 at he;split at he
 ·rename_i s0 ag0 n el k ix ht;obtain⟨_,_,hu,_,_⟩:=Bk ht w;have hq:=XZ hy;split at he
  ·rename_i t hte;obtain⟨h1,_⟩:=Bk hte w;have hp:=wW hx;split at he<;>first|(cases he;done)|skip
   all_goals
    simp only[l7]at he;subst he;obtain⟨rfl,rfl⟩:=Br hr;have hin:=hc.head
   ·have hp:a.eval p=_:=hp;refine BF hs.imm (V:=.pointer (some ⟨_,_,none⟩)) ?_ rfl;simp only[execOp,ho,hp,hq,Instr.indexAt,Instr.sureAddr,asIntOf,Sem.run_bind,hu,Result.andThen_ok,Sem.run_pure,hin,and_self,if_true,h1,Addr.add_lit]
   ·have hp:a.eval p=_:=hp;refine BF hs.imm (V:=.pointer (some ⟨_,_,none⟩)) ?_ rfl;simp only[execOp,ho,hp,hq,Instr.indexAt,Instr.sureAddr,asIntOf,Sem.run_bind,hu,Result.andThen_ok,Sem.run_pure,hin,and_self,if_true,h1,Addr.add_lit,mv]
   obtain⟨b,base,hV,hall⟩:=hp;refine BF hs.imm (V:=.pointer (some ⟨_,_,none⟩)) ?_ (hall (_+ix.toNat*t.size) _);simp only[execOp,ho,hV,hq,Instr.indexAt,Instr.sureAddr,asIntOf,Sem.run_bind,hu,Result.andThen_ok,Sem.run_pure,hin,and_self,if_true,h1,Addr.add_lit,mv]
  cases he
 ·rename_i s0 ag0 el k ix ht;obtain⟨_,_,hu,_,_⟩:=Bk ht w;have hq:=XZ hy;split at he
  ·rename_i t hte;obtain⟨h1,_⟩:=Bk hte w;split at he<;>first|(cases he;done)|skip
   ·rename_i tg sz len f;cases hb:Nat.beq sz t.size with
    |false=>rw[hb]at he;cases he
    |true =>
     rw[hb]at he;have hsz:=lx hb;simp only[mi,l7]at he;subst he;obtain⟨rfl,rfl⟩:=Br hr;have hin:=hc.head;have hx':RC M (.list tg sz len f) (a.eval p):=hx;generalize hV0:a.eval p=V0 at hx';cases hx' with
     |nil=>exact absurd hin mz
     |mt=>exact absurd hin mz
     |list _ _ _ _ b off cap gv g1 g2 g4 _ =>
      have hi:ix.toNat<len:=by omega
      refine BF hs.imm (V:=.pointer (some ⟨b,off+ix.toNat*sz+0,none⟩)) ?_ (show RC M _ _ from .eptr sz len f ix.toNat 0 b (off+ix.toNat*sz) (gv ix.toNat) (fun j hj=>by rw[mv];exact g1 _ _ hi hj) (fun j hj=>g2 _ _ hi hj));simp only[execOp,ho,hV0,hq,Instr.indexAt,Instr.sureAddr,asIntOf,Sem.run_bind,hu,Result.andThen_ok,Sem.run_pure,hin,and_self,if_true,h1,Addr.add_lit,hsz,Nat.add_zero]
   rename_i m sz len;cases hb:Nat.beq sz t.size with
   |false=>rw[hb]at he;cases he
   |true =>
    rw[hb]at he;have hsz:=lx hb;simp only[mi,l7]at he;subst he;obtain⟨rfl,rfl⟩:=Br hr;have hin:=hc.head;have hx':R M σ (.own m sz len) (a.eval p):=hx;simp only[R]at hx';split at hx'
    ·exact absurd hin mz
    refine BF hs.imm (V:=.pointer (some ⟨(σ m).b,ix.toNat*sz+0,none⟩)) ?_ rfl;simp only[execOp,ho,hx',hq,Instr.indexAt,Instr.sureAddr,asIntOf,Sem.run_bind,hu,Result.andThen_ok,Sem.run_pure,hin,and_self,if_true,h1,Addr.add_lit,hsz,Nat.add_zero,mw]
  cases he
 cases he
theorem rK{t:TI}{T:TypeId}(ht:ti P T=some t){l:List Cl}{vs:List Value}(hl:L2 (R M σ) l vs){off:Nat}{v:Av}(hp:Iv t l off=some v):∃V,(part T vs.toArray off).run P w=.ok V w/\RA M σ v V:=by
 obtain⟨h1,h2,_⟩:=Bk ht w;unfold Iv at hp;simp only[part,Sem.run_bind,h2,Result.andThen_ok];cases ha:t.agg with
 |true =>
  rw[ha]at hp;simp only[mi]at hp;cases hb:Nat.ble (off+t.size) l.length with
  |false=>rw[hb]at hp;cases hp
  |true =>
   rw[hb]at hp;simp only[mi,l7]at hp;subst hp;simp only[if_true,Sem.run_bind,h1,Result.andThen_ok,Sem.run_pure];refine⟨_,rfl,(vs.drop off).take t.size,?_,(hl.drop off).take t.size⟩;simp[List.extract_toArray]
 |false =>
  rw[ha]at hp;simp only[mj]at hp;cases hg:l[off]? with
  |none=>rw[hg]at hp;cases hp
  |some c =>
   rw[hg]at hp;simp only[Option.map_some,l7]at hp;subst hp;obtain⟨u,hu,hR⟩:=hl.get off c hg;refine⟨u,?_,hR⟩;simp[hu]
theorem uW{T:TypeId}{p:Operand}{k:Nat}{x:Tv}(ho:o.op=.field T p k)(hx:RT M σ x (a.eval p))(he:TU P T x k=some e)(hs:Std M σ w h)(hr:res h e=some (cs,g)):GF P M σ o a w g:=by
 unfold TU at he;split at he
 ·rename_i s0 ag0 fs l ht;obtain⟨_,_,hu,_,_⟩:=Bk ht w;obtain⟨vs,hV,hl⟩:=hx;split at he
  ·rename_i fd hf;split at he
   ·rename_i t hft;cases hp:Iv t l fd.offset with
    |none=>rw[hp]at he;cases he
    |some v =>
     rw[hp]at he;simp only[Option.map_some,l7]at he;subst he;obtain⟨rfl,rfl⟩:=Br hr;obtain⟨V,hV2,hR⟩:=rK (w:=w) hft hl hp;refine BF hs.imm (V:=V) ?_ hR;simp only[execOp,ho,hV,Instr.field,asAgg,Sem.run_bind,hu,Result.andThen_ok,hf,Sem.run_pure,hV2]
   cases he
  cases he
 cases he
theorem dD{p:Operand}{k:Nat}{l:List Av}{v:Av}(ho:o.op=.extract p k)(hx:RT M σ (.tup l) (a.eval p))(hv:l[k]? = some v)(hs:Std M σ w h)(hr:res h (.val [] (.av v))=some (cs,g)):GF P M σ o a w g:=by
 obtain⟨vs,hV,hl⟩:=hx;obtain⟨rfl,rfl⟩:=Br hr;obtain⟨u,hu,hR⟩:=hl.get k v hv;refine BF hs.imm (V:=u) ?_ hR;simp[execOp,ho,hV,Instr.extract,hu]
end
end
section
open Go.RowKit
def GC:List Kd->List Value->List Value->Option Bool
 |[],[],[]=>some true
 |.int k::ks,.int k1 a::l,.int k2 b::m=>if k1=k/\k2=k then(GC ks l m).map fun r=>decide (a=b)&&r else none
 |.bool::ks,.bool a::l,.bool b::m=>(GC ks l m).map fun r=>(a==b)&&r
 |.str::ks,.string a::l,.string b::m=>(GC ks l m).map fun r=>(a.toList==b.toList)&&r
 |_,_,_=>none
theorem Hr:∀(ks:List Kd) (X Y:List Value) (r:Bool),GC ks X Y=some r->X.length=ks.length/\Y.length=ks.length:=by
 intro ks;induction ks with
 |nil=>intro X Y r h;cases X<;>cases Y<;>simp[GC]at h<;>simp
 |cons k ks ih =>
  intro X Y r h;unfold GC at h;split at h
  ·cases ‹_=[]›
  ·rename_i e1;injection e1 with _ e;subst e
   split at h
   ·obtain⟨r',h',_⟩:=Option.map_eq_some_iff.1 h;have:=ih _ _ _ h';simp[this]
   cases h
  ·rename_i e1;injection e1 with _ e;subst e;obtain⟨r',h',_⟩:=Option.map_eq_some_iff.1 h;have:=ih _ _ _ h';simp[this]
  ·rename_i e1;injection e1 with _ e;subst e;obtain⟨r',h',_⟩:=Option.map_eq_some_iff.1 h;have:=ih _ _ _ h';simp[this]
  cases h
theorem vA{k:IntKind}{X Y:List Value}{r:Bool}(he:GC [.int k] X Y=some r):∃a b,X=[.int k a]/\Y=[.int k b]/\r=decide (a=b):=by
 have hl:=Hr _ _ _ _ he;unfold GC at he;split at he<;>first|(cases he;done)|(rename_i e1;cases e1;done)|skip
 rename_i _ _ _ _ _ _ l _ _ m e1;injection e1 with ek e;subst e;injection ek with ek;subst ek
 have:l=[]:=by simpa using hl.1
 subst this;have:m=[]:=by simpa using hl.2
 subst this;split at he
 ·rename_i hk;obtain⟨rfl,rfl⟩:=hk;simp[GC]at he;exact⟨_,_,rfl,rfl,he.symm⟩
 cases he
theorem lD{X Y:List Value}{r:Bool}(he:GC [.bool] X Y=some r):∃a b,X=[.bool a]/\Y=[.bool b]/\r=(a==b):=by
 have hl:=Hr _ _ _ _ he;unfold GC at he;split at he<;>first|(cases he;done)|(rename_i e1;cases e1;done)|skip
 rename_i _ _ _ _ _ l _ m e1;injection e1 with ek e;subst e
 have:l=[]:=by simpa using hl.1
 subst this;have:m=[]:=by simpa using hl.2
 subst this;simp[GC]at he;exact⟨_,_,rfl,rfl,he.symm⟩
theorem uZ{X Y:List Value}{r:Bool}(he:GC [.str] X Y=some r):∃a b,X=[.string a]/\Y=[.string b]/\r=(a.toList==b.toList):=by
 have hl:=Hr _ _ _ _ he;unfold GC at he;split at he<;>first|(cases he;done)|(rename_i e1;cases e1;done)|skip
 rename_i _ _ _ _ _ l _ m e1;injection e1 with ek e;subst e
 have:l=[]:=by simpa using hl.1
 subst this;have:m=[]:=by simpa using hl.2
 subst this;simp[GC]at he;exact⟨_,_,rfl,rfl,he.symm⟩
theorem dG:∀(ks:List Kd) (ks2:List Kd) (X X2 Y Y2:List Value) (r:Bool),X.length=ks.length->Y.length=ks.length->GC (ks++ks2) (X++X2) (Y++Y2)=some r->∃r1 r2,GC ks X Y=some r1/\GC ks2 X2 Y2=some r2/\r=(r1&&r2):=by
 intro ks;induction ks with
 |nil=>intro ks2 X X2 Y Y2 r hx hy h;cases X<;>cases Y<;>simp at hx hy;exact⟨true,r,rfl,by simpa using h,by simp⟩
 |cons k ks ih =>
  intro ks2 X X2 Y Y2 r hx hy h;cases X with
  |nil=>simp at hx
  |cons x X =>
   cases Y with
   |nil=>simp at hy
   |cons y Y =>
    simp only[List.cons_append]at h;simp only[j8,Nat.add_right_cancel_iff]at hx hy;unfold GC at h;split at h
    ·cases ‹_=[]›
    ·rename_i e1 e2 e3;injection e1 with ek e;subst e;subst ek
     injection e2 with ek e;subst e;subst ek
     injection e3 with ek e;subst e;subst ek
     split at h
     ·rename_i hk;obtain⟨r',h',rfl⟩:=Option.map_eq_some_iff.1 h;obtain⟨r1,r2,h1,h2,rfl⟩:=ih _ _ _ _ _ _ hx hy h';exact⟨_,r2,by unfold GC;rw[if_pos hk,h1];rfl,h2,by rw[Bool.and_assoc]⟩
     cases h
    ·rename_i e1 e2 e3;injection e1 with ek e;subst e;subst ek
     injection e2 with ek e;subst e;subst ek
     injection e3 with ek e;subst e;subst ek
     obtain⟨r',h',rfl⟩:=Option.map_eq_some_iff.1 h;obtain⟨r1,r2,h1,h2,rfl⟩:=ih _ _ _ _ _ _ hx hy h';exact⟨_,r2,by unfold GC;rw[h1];rfl,h2,by rw[Bool.and_assoc]⟩
    ·rename_i e1 e2 e3;injection e1 with ek e;subst e;subst ek
     injection e2 with ek e;subst e;subst ek
     injection e3 with ek e;subst e;subst ek
     obtain⟨r',h',rfl⟩:=Option.map_eq_some_iff.1 h;obtain⟨r1,r2,h1,h2,rfl⟩:=ih _ _ _ _ _ _ hx hy h';exact⟨_,r2,by unfold GC;rw[h1];rfl,h2,by rw[Bool.and_assoc]⟩
    cases h
theorem uY{M:m5}{σ:Nat->Loc}:∀(ks:List Kd) (l m:List Cl) (X Y:List Value) (r:Bool),L2 (R M σ) l X->L2 (R M σ) m Y->eqV ks l m=some r->GC ks X Y=some r:=by
 intro ks;induction ks with
 |nil =>
  intro l m X Y r hl hm h;cases l<;>cases m<;>simp[eqV]at h;cases hl;cases hm;subst h;rfl
 |cons k ks ih =>
  intro l m X Y r hl hm h;unfold eqV at h;split at h
  ·cases ‹_=[]›
  ·rename_i e1;injection e1 with ek e;subst e;subst ek
   cases hl with|cons a1 a2=>cases hm with|cons b1 b2 =>
   obtain⟨rfl,_⟩:=a1;obtain⟨rfl,_⟩:=b1;split at h
   ·rename_i hk;obtain⟨r',h',rfl⟩:=Option.map_eq_some_iff.1 h;unfold GC;rw[if_pos hk,ih _ _ _ _ _ a2 b2 h'];rfl
   cases h
  ·rename_i e1;injection e1 with ek e;subst e;subst ek
   cases hl with|cons a1 a2=>cases hm with|cons b1 b2 =>
   obtain⟨rfl,_⟩:=a1;obtain⟨rfl,_⟩:=b1;obtain⟨r',h',rfl⟩:=Option.map_eq_some_iff.1 h;unfold GC;rw[ih _ _ _ _ _ a2 b2 h'];rfl
  ·rename_i e1;injection e1 with ek e;subst e;subst ek
   cases hl with|cons a1 a2=>cases hm with|cons b1 b2 =>
   obtain⟨rfl,_⟩:=a1;obtain⟨rfl,_⟩:=b1;obtain⟨r',h',rfl⟩:=Option.map_eq_some_iff.1 h;unfold GC;rw[ih _ _ _ _ _ a2 b2 h'];rfl
  cases h
def Qe(fl:TypeId->Option (List Kd)):List Field->Nat->Option (List Kd)
 |[],_=>some []
 | f :: fs, off => bif Nat.beq f.offset off && f.name != "_" then match fl f.type with
  |some ks=>match Qe fl fs (off+ks.length)with
   |some r=>some (ks++r)
   |none=>none
  |none=>none
  else none
def YC(ks:List Kd):Nat->List Kd
 |0=>[]
 |n+1=>ks++YC ks n
def Qc(P:Program):Nat->TypeId->Option (List Kd)
 |0,_=>none
 |d+1,T=>match ti P T with
  |some ⟨_,_,.int k⟩=>some [.int k]
  |some ⟨_,_,.bool⟩=>some [.bool]
  |some ⟨_,_,.string⟩=>some [.str]
  |some ⟨s,ag,.struct fs⟩=>bif P.stoodInHeld T || !ag then none else match Qe (Qc P d) fs.toList 0 with
   |some ks=>bif Nat.beq ks.length s then some ks else none
   |none=>none
  |some ⟨s,ag,.array n e⟩=>(match d,ti P e with
   |_+1,some ⟨1,false,.int k⟩=>bif ag&&Nat.beq n s then some (YC [.int k] n)else none
   |_,_=>none)
  |_=>none
theorem QW(ks:List Kd):∀n,(YC ks n).length=n*ks.length
 |0=>by simp[YC]
 |n+1=>by simp[YC,QW ks n,Nat.add_mul,Nat.add_comm]
section
variable {P:Program}
theorem Ie{T:TypeId}{s:Nat}{d:TypeDesc}(ht:ti P T=some ⟨s,false,d⟩)(A B:List Value)(x:Value)(w:World):(part T (A++x::B).toArray A.length).run P w=.ok x w:=by
 obtain⟨_,h2,_⟩:=Bk ht w;simp[part,h2]
theorem J0{T:TypeId}{s:Nat}{d:TypeDesc}(ht:ti P T=some ⟨s,true,d⟩)(A X B:List Value)(hX:X.length=s)(w:World):(part T (A++(X++B)).toArray A.length).run P w=.ok (.agg X.toArray) w:=by
 obtain⟨h1,h2,_⟩:=Bk ht w;simp only[part,Sem.run_bind,h2,Result.andThen_ok,if_true,h1,Sem.run_pure];congr 2;rw[List.extract_toArray,List.extract_eq_take_drop,Nat.add_sub_cancel_left,List.drop_left,<- hX,List.take_left]
def EqAt(P:Program)(D:Nat)(T:TypeId)(ks:List Kd):Prop:=∀(A X B A' Y B':List Value) (r:Bool) (w:World),A'.length=A.length->GC ks X Y=some r ->
 (part T (A++(X++B)).toArray A.length >>= fun a=>part T (A'++(Y++B')).toArray A.length >>= fun b=>Op.equalIn D T a b).run P w=.ok r w
theorem KH{T:TypeId}{t:TI}(ht:ti P T=some t):t.agg=Pv t.d:=by
 unfold ti at ht;split at ht
 ·injection ht with ht;subst ht;rfl
 cases ht
theorem U2{D:Nat}(fl:TypeId->Option (List Kd))(ih:∀T ks,fl T=some ks->EqAt P D T ks):∀(fs:List Field) (off:Nat) (ks:List Kd),Qe fl fs off=some ks->∀(A X A' Y:List Value) (r:Bool) (w:World),A.length=off->A'.length=off->GC ks X Y=some r ->
  (Op.eqFields D (A++X).toArray (A'++Y).toArray fs).run P w=.ok r w
 |[],off,ks,hk,A,X,A',Y,r,w,_,_,h=>by
  simp only[Qe,l7]at hk;subst hk;have:=Hr _ _ _ _ h;cases X<;>cases Y<;>simp at this;simp[GC]at h;subst h;simp[Op.eqFields]
 |f::fs,off,ks,hk,A,X,A',Y,r,w,hA,hA',h=>by
  simp only[Qe]at hk
  cases hb : (Nat.beq f.offset off && f.name != "_") with
  |false=>rw[hb]at hk;cases hk
  |true =>
   rw[hb]at hk;simp only[mi]at hk;simp only[me,bne_iff_ne,ne_eq]at hb;obtain⟨hb1,hb2⟩:=hb;have hoff:=lx hb1;cases h1:fl f.type with
   |none=>rw[h1]at hk;cases hk
   |some k1 =>
    rw[h1]at hk;simp only at hk;cases h2:Qe fl fs (off+k1.length)with
    |none=>rw[h2]at hk;cases hk
    |some k2 =>
     rw[h2]at hk;simp only[l7]at hk;subst hk;have hlen:=Hr _ _ _ _ h;simp only[d9]at hlen;have hX:X=X.take k1.length++X.drop k1.length:=(List.take_append_drop _ _).symm;have hY:Y=Y.take k1.length++Y.drop k1.length:=(List.take_append_drop _ _).symm;rw[hX,hY]at h;obtain⟨r1,r2,e1,e2,rfl⟩:=dG k1 k2 _ _ _ _ r (by simp;omega) (by simp;omega) h;have hrun:=ih _ _ h1 A (X.take k1.length) (X.drop k1.length) A' (Y.take k1.length) (Y.drop k1.length) r1 w mz e1;have hrest:=U2 fl ih fs (off+k1.length) k2 h2 (A++X.take k1.length) (X.drop k1.length) (A'++Y.take k1.length) (Y.drop k1.length) r2 w (by simp;omega) (by simp;omega) e2;rw[List.append_assoc,List.append_assoc,<- hX,<- hY]at hrest;rw[<- hX,<- hY]at hrun;simp only[Op.eqFields,ne_eq,hb2,not_false_eq_true,if_true,hoff,<- hA];have assoc:(part f.type (A++X).toArray A.length >>= fun a=>part f.type (A'++Y).toArray A.length >>= fun b=>Op.equalIn D f.type a b >>= fun r=>if (!r)=true then pure false else Op.eqFields D (A++X).toArray (A'++Y).toArray fs).run P w
       = ((part f.type (A++X).toArray A.length >>= fun a=>part f.type (A'++Y).toArray A.length >>= fun b=>Op.equalIn D f.type a b).run P w).andThen fun r w'=>(if (!r)=true then pure false else Op.eqFields D (A++X).toArray (A'++Y).toArray fs:Sem Bool).run P w':=by
      rw[<- Sem.run_bind];simp only[bind_assoc]
     rw[assoc,hrun];simp only[Result.andThen_ok];cases r1
     ·simp
     simpa using hrest
theorem U3{k:IntKind}:∀(n:Nat) (X Y:List Value) (r:Bool),GC (YC [.int k] n) X Y=some r->∃xs ys:List Int,xs.length=n/\ys.length=n/\X=xs.map (Value.int k)/\Y=ys.map (Value.int k)/\r=((List.range n).all fun i=>decide (xs.getD i 0=ys.getD i 0))
 |0,X,Y,r,h=>by
  cases X<;>cases Y<;>simp[YC,GC]at h;subst h;exact⟨[],[],rfl,rfl,rfl,rfl,rfl⟩
 |n+1,X,Y,r,h=>by
  have hl:=Hr _ _ _ _ h;simp only[YC,List.singleton_append]at h hl;unfold GC at h;split at h
  ·rename_i e1;cases e1
  ·rename_i e1;injection e1 with e1 e2
   injection e1 with e1
   subst e1 e2;split at h
   ·rename_i hk;obtain⟨rfl,rfl⟩:=hk;obtain⟨r',h',rfl⟩:=Option.map_eq_some_iff.1 h;obtain⟨xs,ys,h1,h2,rfl,rfl,rfl⟩:=U3 n _ _ _ h';refine⟨_::xs,_::ys,by simp[h1],by simp[h2],rfl,rfl,?_⟩;rw[List.range_succ_eq_map,List.all_cons,List.all_map];simp[Function.comp_def]
   cases h
  ·rename_i e1;injection e1 with e1 _;cases e1
  ·rename_i e1;injection e1 with e1 _;cases e1
  cases h
theorem XL{D n:Nat}{T e:TypeId}{k:IntKind}(w:World)(ht:P.underlying T=some (.array n e))(hte:ti P e=some ⟨1,false,.int k⟩)(xs ys:List Int)(hx:xs.length=n)(hy:ys.length=n) :
  (Op.equalIn (D+2) T (.agg (xs.map (Value.int k)).toArray) (.agg (ys.map (Value.int k)).toArray)).run P w=.ok ((List.range n).all fun i=>decide (xs.getD i 0=ys.getD i 0)) w:=by
 obtain⟨hsz,_,_,he,_⟩:=Bk hte w;rw[List.range_eq_range',Op.equalIn];simp only[Sem.run_bind,run_underlying ht,Result.andThen_ok,hsz,Std.Legacy.Range.forIn_eq_forIn_range',Std.Legacy.Range.size,Nat.sub_zero,Nat.add_sub_cancel,Nat.div_one];have hl:∀i∈List.range' 0 n 1,i<n:=fun i hi=>by simpa using (List.mem_range'_1.1 hi).2
 generalize List.range' 0 n 1=l at hl ⊢;induction l with
 |nil=>simp
 |cons i l ih =>
  have hi:i<n:=hl i m3;have hpart:∀zs:List Int,zs.length=n->(part e (zs.map (Value.int k)).toArray (i*1)).run P w=.ok (.int k (zs.getD i 0)) w:=fun zs hz=>by
   obtain⟨_,h2,_⟩:=Bk hte w;simp[part,h2,List.getD,ea (show i<zs.length by omega)]
  have pe:(Op.equalIn (D+1) e (.int k (xs.getD i 0)) (.int k (ys.getD i 0))).run P w=.ok (decide (xs.getD i 0=ys.getD i 0)) w:=by
   rw[run_equalIn_int w D e k k _ _ he];rfl
  simp only[List.forIn_cons,Sem.run_bind,hpart xs hx,hpart ys hy,pe,Result.andThen_ok,List.all_cons];cases hb:decide (xs.getD i 0=ys.getD i 0)
  ·simp
  simp only[mc,Bool.false_eq_true,if_false,Sem.run_pure,Result.andThen_ok,Bool.true_and];exact ih fun j hj=>hl j (by simp[hj])
theorem hZ:∀(d:Nat) (T:TypeId) (ks:List Kd),Qc P d T=some ks->∀D,d<=D->EqAt P D T ks
 |0,T,ks,h,_,_=>by cases h
 |d+1,T,ks,h,0,hD=>by omega
 |d+1,T,ks,h,D+1,hD=>by
  unfold Qc at h;intro A X B A' Y B' r w hA he;split at h
  ·rename_i s ag k ht;injection h with h;subst h
   have ha:=KH ht;simp only[Pv]at ha;subst ha;obtain⟨_,_,_,hu,_⟩:=Bk ht w;obtain⟨x,y,rfl,rfl,rfl⟩:=vA he;simp only[List.cons_append,kn,Sem.run_bind,Ie ht,Result.andThen_ok];rw[<- hA,Ie ht];simp only[Result.andThen_ok,run_equalIn_int w D T _ _ _ _ hu];rfl
  ·rename_i s ag ht;injection h with h;subst h
   have ha:=KH ht;simp only[Pv]at ha;subst ha;obtain⟨_,_,_,hu,_⟩:=Bk ht w;obtain⟨x,y,rfl,rfl,rfl⟩:=lD he;simp only[List.cons_append,kn,Sem.run_bind,Ie ht,Result.andThen_ok];rw[<- hA,Ie ht];simp only[Result.andThen_ok,run_equalIn_bool w D T _ _ hu]
  ·rename_i s ag ht;injection h with h;subst h
   have ha:=KH ht;simp only[Pv]at ha;subst ha;obtain⟨_,_,_,hu,_⟩:=Bk ht w;obtain⟨x,y,rfl,rfl,rfl⟩:=uZ he;simp only[List.cons_append,kn,Sem.run_bind,Ie ht,Result.andThen_ok];rw[<- hA,Ie ht];simp only[Result.andThen_ok,run_equalIn_string w D T _ _ hu]
  ·rename_i s ag fs ht;cases hb:(P.stoodInHeld T || !ag)with
   |true=>rw[hb]at h;cases h
   |false =>
    rw[hb]at h;simp only[mj]at h;simp only[Bool.or_eq_false_iff,Bool.not_eq_false']at hb;obtain⟨hst,rfl⟩:=hb;cases hf:Qe (Qc P d) fs.toList 0 with
    |none=>rw[hf]at h;cases h
    |some ks' =>
     rw[hf]at h;simp only at h;cases hbl:Nat.beq ks'.length s with
     |false=>rw[hbl]at h;cases h
     |true =>
      rw[hbl]at h;simp only[mi,l7]at h;subst h;have hks:=lx hbl;have hl:=Hr _ _ _ _ he;obtain⟨_,_,_,hu,_⟩:=Bk ht w;have hfo:P.fieldsOf T=fs:=by simp[Program.fieldsOf,hu]
      simp only[Sem.run_bind,J0 ht A X B mz,Result.andThen_ok];rw[<- hA,J0 ht A' Y B' mz];simp only[Result.andThen_ok];rw[run_equalIn_struct w D T _ _ (by rw[hfo];exact hu) hst,hfo];have:=U2 (Qc P d) (D:=D) (fun T ks hk=>hZ d T ks hk D mz) fs.toList 0 ks' hf [] X [] Y r w rfl rfl he;simpa using this
  ·rename_i s ag n e ht;split at h
   ·rename_i d' k hte;cases hb:(ag&&Nat.beq n s)with
    |false=>rw[hb]at h;cases h
    |true =>
     rw[hb]at h;simp only[mi,l7]at h;subst h;simp only[me]at hb;obtain⟨rfl,hns⟩:=hb;have hns:=lx hns;obtain⟨xs,ys,h1,h2,rfl,rfl,rfl⟩:=U3 n _ _ _ he;obtain⟨_,_,_,hu,_⟩:=Bk ht w;simp only[Sem.run_bind,J0 ht A (xs.map (Value.int k)) B (by simp;omega),Result.andThen_ok];rw[<- hA,J0 ht A' (ys.map (Value.int k)) B' (by simp;omega)];simp only[Result.andThen_ok];obtain⟨D',rfl⟩:∃D',D=D'+1:=⟨D-1,by omega⟩;exact XL w hu hte xs ys h1 h2
   cases h
  cases h
end
end
section
open Go.RowKit
section
variable {P:Program}{M:m5}{σ:Nat→Loc}{w:World}{h:Nat→Option Blk}{a:Act}{o:Oper}{cs:List Prop}{g:Eg}{e:Ef}
theorem xN{T:TypeId}{x y:Operand}{yT:TypeId}{k:IntKind}{p q:Int}(ho:o.op=.binOp .shr T x y yT)(hx:a.eval x=.int k p)(hy:a.eval y=.int k q)(h0:0<=q) :
  (execOp a.eval o).run P w=.ok (.value (.int k (p.fdiv (2 ^ (min q.toNat k.bits))))) w:=by
 have h1:¬ q<0:=by omega
 simp only[execOp,ho,hx,hy,eqGuard,binOp,Sem.run_bind];unfold Op.shift;rw[if_neg h1];rfl
theorem xO{T:TypeId}{x y:Operand}{yT:TypeId}{k:IntKind}{p q:Int}(ho:o.op=.binOp .shl T x y yT)(hx:a.eval x=.int k p)(hy:a.eval y=.int k q)(h0:0<=q) :
  (execOp a.eval o).run P w=.ok (.value (.int k (k.wrap (p*2 ^ (min q.toNat k.bits))))) w:=by
 have h1:¬ q<0:=by omega
 simp only[execOp,ho,hx,hy,eqGuard,binOp,Sem.run_bind];unfold Op.shift;rw[if_neg h1];rfl
theorem wG{op:BinOp}{T:TypeId}{x y:Operand}{yT:TypeId}{u v:Value}{c:List Prop}{r:Value}(ho:o.op=.binOp op T x y yT)(hx:a.eval x=u)(hy:a.eval y=v)(hk:okT P T u=true)(hb:bu op u v=some (c,r))(hc:CI c) :
  (execOp a.eval o).run P w=.ok (.value r) w/\r.oneCell'=true:=by
 unfold bu at hb;split at hb
 ·rename_i k p k' q;split at hb
  ·rename_i hkk;subst hkk;cases op<;>simp only[l7,l8]at hb<;>try(cases hb;done)
   all_goals
    obtain⟨rfl,rfl⟩:=hb;refine⟨?_,rfl⟩
    first
     |exact xN ho hx hy hc.head
     |exact xO ho hx hy hc.head
     |(have h0:=hc.head;simp only[execOp,ho,hx,hy,eqGuard,binOp,Sem.run_bind,Sem.run_pure,Result.andThen_ok,Op.intDiv,ne_eq,not_true_eq_false,if_false,mm,md,ml,mc,Bool.false_eq_true,if_true];rw[if_neg h0];rfl)
     |(simp only[execOp,ho,hx,hy,eqGuard,binOp,Sem.run_bind,Sem.run_pure,Result.andThen_ok,Op.intBits,ne_eq,not_true_eq_false,if_false,mm,ml,mc,md,Bool.false_eq_true,if_true];done)
     |(simp only[execOp,ho,hx,hy,eqGuard,binOp,Sem.run_bind,Sem.run_pure,Result.andThen_ok,Op.intArith,Op.intCmp,ne_eq,not_true_eq_false,if_false,mm,ml,mc,md,Bool.false_eq_true,if_true];done)
     |(simp only[execOp,ho,hx,hy,eqGuard,binOp,Sem.run_bind,Sem.run_pure,Result.andThen_ok,Op.intArith,Op.intCmp,ne_eq,not_true_eq_false,if_false,mm,ml,mc,md,Bool.false_eq_true,if_true];rfl)
  cases hb
 ·rename_i p q;have hT:P.underlying T=some .bool:=by
   unfold okT at hk;split at hk
   ·split at hk
    ·rename_i ht;exact(Bk ht w).2.2.2.1
    cases hk
   rename_i hne;exact(hne _ rfl).elim
  cases op<;>simp only[l7,l8]at hb<;>try(cases hb;done)
  ·obtain⟨rfl,rfl⟩:=hb;refine⟨?_,rfl⟩;have:=run_eql_bool (P:=P) w T p q hT;simp only[execOp,ho,hx,hy,eqGuard,Sem.run_bind,Sem.run_pure,Result.andThen_ok,this];simp[this]
  obtain⟨rfl,rfl⟩:=hb;refine⟨?_,rfl⟩;have:=run_neq_bool (P:=P) w T p q hT;simp only[execOp,ho,hx,hy,eqGuard,Sem.run_bind,Sem.run_pure,Result.andThen_ok,this];simp[this]
 ·rename_i p q;cases op<;>simp only[l7,l8]at hb<;>try(cases hb;done)
  ·obtain⟨rfl,rfl⟩:=hb;refine⟨?_,rfl⟩;have h0:=hc.head;have h1:¬ (((p.size+q.size:Nat):Int)>IntKind.i64.max):=by rw[IntKind.max_i64];omega
   simp only[execOp,ho,hx,hy,eqGuard,binOp,Op.stringOp,Sem.run_bind,Sem.run_pure,Result.andThen_ok,if_neg h1];simp[h1]
  ·obtain⟨rfl,rfl⟩:=hb;exact⟨by simp[execOp,ho,hx,hy,eqGuard,binOp,Op.stringOp],rfl⟩
  obtain⟨rfl,rfl⟩:=hb;exact⟨by simp[execOp,ho,hx,hy,eqGuard,binOp,Op.stringOp],rfl⟩
 cases hb
def LS(P:Program)(V:Env P):Prop:=∀T ks,V.E T=some ks->P.eqGuardType P.depth T=false/\Qc P 9 T=some ks/\∃t,ti P T=some t/\t.agg=true
theorem dF{V:Env P}(hV:LS P V){T:TypeId}{ks:List Kd}(hE:V.E T=some ks){l m:List Cl}{X Y:List Value}{r:Bool}(hl:L2 (R M σ) l X)(hm:L2 (R M σ) m Y)(he:eqV ks l m=some r) :
  (Op.equalIn 10000 T (.agg X.toArray) (.agg Y.toArray)).run P w=.ok r w:=by
 obtain⟨_,h2,t,ht,hag⟩:=hV T ks hE;have hvv:=uY ks l m X Y r hl hm he;have hlen:=Hr _ _ _ _ hvv;have hks:ks.length=t.size:=by
  unfold Qc at h2;rw[ht]at h2;obtain⟨s,ag,d⟩:=t;cases d<;>simp only at h2<;>try(cases h2;done)
  all_goals first
   |(have:=KH ht;simp only[Pv]at this;simp only at hag;rw[hag]at this;cases this;done)
   |skip
  ·rename_i n e;split at h2
   ·cases hb:(ag&&Nat.beq n s)with
    |false=>rw[hb]at h2;cases h2
    |true =>
     rw[hb]at h2;simp only[mi,l7]at h2;subst h2;simp only[me]at hb;rw[QW,<- lx hb.2];simp
   cases h2
  rename_i fs;cases hb:(P.stoodInHeld T || !ag)with
  |true=>rw[hb]at h2;cases h2
  |false =>
   rw[hb]at h2;simp only[mj]at h2;cases hf:Qe (Qc P 8) fs.toList 0 with
   |none=>rw[hf]at h2;cases h2
   |some ks' =>
    rw[hf]at h2;simp only at h2;cases hbl:Nat.beq ks'.length s with
    |false=>rw[hbl]at h2;cases h2
    |true =>
     rw[hbl]at h2;simp only[mi,l7]at h2;subst h2;exact lx hbl
 have:=hZ 9 T ks h2 10000 mz [] X [] [] Y [] r w rfl hvv;obtain⟨s,ag,d⟩:=t;simp only at hag;subst hag;have p1:=J0 ht [] X [] (by simp only at hks;omega) w;have p2:=J0 ht [] Y [] (by simp only at hks;omega) w;simp only[kn,ko]at this p1 p2;simp only[Sem.run_bind,p1,p2,Result.andThen_ok]at this;exact this
theorem jw{V:Env P}(hV:LS P V){op:BinOp}{T:TypeId}{x y:Operand}{yT:TypeId}{u v:Tv}(ho:o.op=.binOp op T x y yT)(hx:RT M σ u (a.eval x))(hy:RT M σ v (a.eval y))(he:dI P V op T u v=some e)(hs:Std M σ w h)(hr:res h e=some (cs,g))(hc:CI cs):GF P M σ o a w g:=by
 unfold dI at he;split at he
 ·have hx':a.eval x=.slice none 0 0:=hx.1;have hy':a.eval y=.slice none 0 0:=hy.1;have hrun:∀s ag e,ti P T=some ⟨s,ag,.slice e⟩->(Op.equal T (.slice none 0 0) (.slice none 0 0)).run P w=.ok true w:=fun s ag e ht =>
   Go.run_equal_slice_nil w T e none 0 0 (Bk ht w).2.2.2.1
  split at he
  ·rename_i s ag e ht;simp only[l7]at he;subst he;obtain⟨rfl,rfl⟩:=Br hr;refine BF hs.imm (V:=.bool true) ?_ (R_v rfl);simp[execOp,ho,hx',hy',eqGuard,binOp,Sem.run_bind,hrun _ _ _ ht]
  ·rename_i s ag e ht;simp only[l7]at he;subst he;obtain⟨rfl,rfl⟩:=Br hr;refine BF hs.imm (V:=.bool false) ?_ (R_v rfl);simp[execOp,ho,hx',hy',eqGuard,binOp,Sem.run_bind,hrun _ _ _ ht]
  cases he
 ·rename_i p q _;cases hk:okT P T p with
  |false=>rw[hk]at he;cases he
  |true =>
   rw[hk]at he;simp only[mi]at he;cases hb:bu op p q with
   |none=>rw[hb]at he;cases he
   |some r =>
    rw[hb]at he;simp only[Option.map_some,l7]at he;subst he;obtain⟨rfl,rfl⟩:=Br hr;obtain⟨h1,h2⟩:=wG (w:=w) ho hx.1 hy.1 hk (c:=r.1) (r:=r.2) hb hc;exact BF hs.imm h1 (R_v h2)
 ·rename_i sz len f;have hx':RC M (.list true sz len f) (a.eval x):=hx;have hy':a.eval y=.slice none 0 0:=hy.1;have hnn:∃(p:Addr) (k c:Nat),a.eval x=.slice (some p) k c:=by
   generalize a.eval x=X at hx';cases hx' with
   |nil _ _ _ h0=>cases h0
   |mt _ _ _ p cap=>exact⟨p,_,_,rfl⟩
   |list _ _ _ _ b off cap=>exact⟨_,_,_,rfl⟩
  obtain⟨p,k,c,hX⟩:=hnn;have hrun:∀s ag e,ti P T=some ⟨s,ag,.slice e⟩->(Op.equal T (.slice (some p) k c) (.slice none 0 0)).run P w=.ok false w:=fun s ag e ht=>by
   obtain⟨_,_,hu,_,_⟩:=Bk ht w;exact Go.run_equal_slice_nil w T e (some p) k c (Bk ht w).2.2.2.1
  split at he
  ·rename_i s ag e ht;simp only[l7]at he;subst he;obtain⟨rfl,rfl⟩:=Br hr;refine BF hs.imm (V:=.bool false) ?_ (R_v rfl);simp[execOp,ho,hX,hy',eqGuard,binOp,Sem.run_bind,hrun _ _ _ ht]
  ·rename_i s ag e ht;simp only[l7]at he;subst he;obtain⟨rfl,rfl⟩:=Br hr;refine BF hs.imm (V:=.bool true) ?_ (R_v rfl);simp[execOp,ho,hX,hy',eqGuard,binOp,Sem.run_bind,hrun _ _ _ ht]
  cases he
 ·rename_i l m;split at he
  ·rename_i ks hE;obtain⟨X,hX,hlX⟩:=hx;obtain⟨Y,hY,hmY⟩:=hy;have hg:=(hV T ks hE).1;split at he
   ·rename_i r hq;simp only[l7]at he;subst he;obtain⟨rfl,rfl⟩:=Br hr;refine BF hs.imm (V:=.bool r) ?_ (R_v rfl);simp only[execOp,ho,hX,hY,Sem.run_bind,run_eqGuard_agg w _ T x y _ _ hg,Result.andThen_ok,run_eql_struct,dF hV hE hlX hmY hq,Sem.run_pure]
   ·rename_i r hq;simp only[l7]at he;subst he;obtain⟨rfl,rfl⟩:=Br hr;refine BF hs.imm (V:=.bool (!r)) ?_ (R_v rfl);simp only[execOp,ho,hX,hY,Sem.run_bind,run_eqGuard_agg w _ T x y _ _ hg,Result.andThen_ok,run_neq_struct,dF hV hE hlX hmY hq,Sem.run_pure]
   cases he
  cases he
 cases he
theorem un_ok{op:UnOp}{T:TypeId}{x:Operand}{u r:Value}(ho:o.op=.unOp op T x)(hx:a.eval x=u)(he:unV op u=some r)(hs:Std M σ w h)(hr:res h (.val [] (.av (.one (.val r))))=some (cs,g)):GF P M σ o a w g:=by
 obtain⟨rfl,rfl⟩:=Br hr;unfold unV at he;split at he
 ·simp only[l7]at he;subst he;exact BF hs.imm (by simp[execOp,ho,hx,Op.unary]) (R_v rfl)
 ·simp only[l7]at he;subst he;exact BF hs.imm (by simp[execOp,ho,hx,Op.unary,Op.intArith]) (R_v rfl)
 cases he
theorem uB{T:TypeId}{x y:Operand}{u v:Tv}(ho:o.op=.index T x y)(hx:RT M σ u (a.eval x))(hy:RT M σ v (a.eval y))(he:TT P T u v=some e)(hs:Std M σ w h)(hr:res h e=some (cs,g))(hc:CI cs):GF P M σ o a w g:=by
 unfold TT at he;split at he
 ·rename_i s1 a1 n k i h1;simp only[l7]at he;subst he;obtain⟨rfl,rfl⟩:=Br hr;obtain⟨_,_,_,u1,_⟩:=Bk h1 w;have hi:=hc.head;refine BF hs.imm ?_ (R_v rfl);have hv:a.eval x=.string n:=hx.1;have hlt:i.toNat<n.size:=by omega
  have key:((n[i.toNat]'hlt).toNat:Int)=dW n i.toNat:=by
   unfold dW;have h2:i.toNat<n.data.toList.length:=by simpa using hlt
   rw[aE,ea h2];rfl
  simp only[execOp,ho,hv,XZ hy,Sem.run_bind,run_index_string _ _ _ _ _ u1,dif_pos hi,Result.andThen_ok,Sem.run_pure,key]
 cases he
theorem dM{src dst:TypeId}{x:Operand}{u:Tv}(ho:o.op=.convert src dst x)(hx:RT M σ u (a.eval x))(he:Nx P src dst u=some e)(hs:Std M σ w h)(hr:res h e=some (cs,g))(hc:CI cs):GF P M σ o a w g:=by
 unfold Nx at he;split at he
 ·rename_i s1 a1 k1 s2 a2 k k2 n h1 h2;simp only[l7]at he;subst he;obtain⟨rfl,rfl⟩:=Br hr;obtain⟨_,_,u1,_,_⟩:=Bk h1 w;obtain⟨_,_,u2,_,_⟩:=Bk h2 w;refine BF hs.imm ?_ (R_v rfl);simp only[execOp,ho,XZ hx,convert,Sem.run_bind,u1,u2,Result.andThen_ok,Conv.intToInt,Sem.run_pure]
 ·rename_i s1 a1 s2 a2 n h1 h2;simp only[l7]at he;subst he;obtain⟨rfl,rfl⟩:=Br hr;obtain⟨_,_,u1,_,_⟩:=Bk h1 w;obtain⟨_,_,u2,_,_⟩:=Bk h2 w;refine BF hs.imm ?_ (R_v rfl);have hv:a.eval x=.string n:=hx.1;simp only[execOp,ho,hv,convert,Sem.run_bind,u1,u2,Result.andThen_ok,Sem.run_pure]
 ·rename_i s1 a1 el s2 a2 tg f h1 h2;split at he
  ·rename_i s3 a3 n h3 h4;simp only[l7]at he;subst he;obtain⟨rfl,rfl⟩:=Br hr;obtain⟨_,_,u1,_,_⟩:=Bk h1 w;obtain⟨_,_,u2,_,_⟩:=Bk h2 w;obtain⟨_,_,u3,_,_⟩:=Bk h3 w;refine BF hs.imm ?_ (R_v rfl);have hv:RC M (.list tg 1 1 f) (a.eval x):=hx;have key:(∃(pp:Addr) (cap:Nat),a.eval x=.slice (some pp) 1 cap)/\(Conv.bytesToString (a.eval x)).run P w=.ok (.string (ByteArray.empty.push (UInt8.ofNat n.toNat))) w:=by
    generalize a.eval x=X at hv;cases hv with
    |list _ _ _ _ b off cap gv g1 g2 g4 _ =>
     have e1:=JN hs.imm (g1 0 0 mz mz);have e2:=g2 0 0 mz mz;rw[h4]at e2;have e3:gv 0 0=.int .u8 n:=(QC (σ:=σ) e2).1;rw[e3]at e1;have e4:=run_loadCells (P:=P) (w:=w) ⟨b,off,none⟩ 1 (fun _=>.int .u8 n) (fun j hj=>by
      obtain rfl:j=0:=by omega
      rw[Addr.add_lit];simpa using e1)
     refine⟨⟨_,_,rfl⟩,?_⟩;simp only[Conv.bytesToString,Sem.run_bind,e4,Result.andThen_ok];rfl
   obtain⟨⟨pp,cap,hX⟩,key⟩:=key;rw[hX]at key;simp only[execOp,ho,hX,convert,Sem.run_bind,u1,u2,u3,Result.andThen_ok,key,Sem.run_pure]
  cases he
 ·rename_i s1 a1 k1 s2 a2 k k2 n h1 h2;simp only[l7]at he;subst he;obtain⟨rfl,rfl⟩:=Br hr;obtain⟨_,_,u1,_,_⟩:=Bk h1 w;obtain⟨_,_,u2,_,_⟩:=Bk h2 w;refine BF hs.imm ?_ (R_v rfl);simp only[execOp,ho,XZ hx,convert,Sem.run_bind,u1,u2,Result.andThen_ok,Conv.intToFloat,Sem.run_pure]
 ·rename_i s1 a1 k1 s2 a2 k s b h1 h2;simp only[l7]at he;subst he;obtain⟨rfl,rfl⟩:=Br hr;obtain⟨_,_,u1,_,_⟩:=Bk h1 w;obtain⟨_,_,u2,_,_⟩:=Bk h2 w;obtain⟨m,hm,hlo,hhi⟩:=hc.head;refine BF hs.imm ?_ (R_v rfl);have hv:a.eval x=.float s b:=hx.1;have hf:f2i s b=m:=by unfold f2i;rw[hm];rfl
  simp only[execOp,ho,hv,convert,Sem.run_bind,u1,u2,Result.andThen_ok,Conv.floatToInt,hm,hlo,hhi,and_self,if_true,Sem.run_pure,hf]
 cases he
theorem OP{ev:Operand->Option Tv}(hev:∀x v,ev x=some v->RT M σ v (a.eval x)):∀(ps:List (Nat×Operand)) (l:List (Nat×Av)),Ko ev ps=some l->L2 (fun p q=>p.1=q.1/\RA M σ p.2 q.2) l (ps.map fun p=>(p.1,a.eval p.2))
 |[],l,he=>by simp only[Ko,l7]at he;subst he;exact .nil
 |(i,x)::ps,l,he=>by
  simp only[Ko]at he;split at he
  ·rename_i v l' h1 h2;simp only[l7]at he;subst he;exact .cons ⟨rfl,hev x _ h1⟩ (OP hev ps l' h2)
  cases he
theorem QV:∀(us l:List Cl) (off:Nat),(bH l off us).length=l.length
 |[],_,_=>rfl
 |u::us,l,off=>by simp[bH,QV us]
theorem TN:∀(us:List Value) (c:List Value) (off k:Nat),(us.zipIdx k).foldl (fun cs p=>cs.setIfInBounds (off+p.2) p.1) c.toArray=(JD c (off+k) us).toArray
 |[],c,off,k=>rfl
 |u::us,c,off,k=>by
  simp only[List.zipIdx_cons,List.foldl_cons,JD];have:=TN us (c.set (off+k) u) off (k+1);simp only[List.setIfInBounds_toArray];rw[this];rfl
theorem RL{place:Nat->Option (Nat×Nat)}:∀ {l:List (Nat×Av)} {us:List (Nat×Value)} {z:List Cl} {c:List Value} {r:List Cl},L2 (fun p q=>p.1=q.1/\RA M σ p.2 q.2) l us->L2 (R M σ) z c->I1 place z l=some r->∃d:List Value,Instr.fill place c.toArray us=some d.toArray/\L2 (R M σ) r d
 |[],_,z,c,r,hl,hz,he=>by cases hl;simp only[I1,l7]at he;subst he;exact⟨c,rfl,hz⟩
 |(i,v)::l,_,z,c,r,hl,hz,he=>by
  cases hl with
  |cons h1 h2 =>
   rename_i q us;obtain⟨j,u⟩:=q;obtain⟨rfl,hR⟩:=h1;simp only[I1]at he;simp only[Instr.fill];cases hp:place i with
   |none=>rw[hp]at he;cases he
   |some os =>
    obtain⟨off,size⟩:=os;rw[hp]at he;simp only at he ⊢;have hcl:=Om hR;have hlen:=hcl.length;cases hb:(Nat.beq v.cells.length size&&Nat.ble (off+v.cells.length) z.length)with
    |false=>rw[hb]at he;cases he
    |true =>
     rw[hb]at he;simp only[mi]at he;simp only[me]at hb;have hb1:=lx hb.1;have hb2:=mr hb.2;have hsz:u.cells.size=size:=by rw[<- hb1,hlen];simp
     have hle:¬ (off+u.cells.size>c.toArray.size):=by rw[hsz,<- hb1];simp;rw[<- hz.length];omega
     simp only[hsz]at hle;have hfold:u.cells.zipIdx.foldl (fun cs (p:Value×Nat)=>cs.setIfInBounds (off+p.2) p.1) c.toArray=(JD c off u.cells.toList).toArray:=by
      rw[<- Array.foldl_toList,Array.toList_zipIdx];exact TN _ _ _ 0
     obtain⟨d,hd1,hd2⟩:=RL h2 (eE off hcl hz) he;refine⟨d,?_,hd2⟩;rw[if_neg (by simp[hsz];simpa using hle)];rw[<- hd1];congr 1
end
end
section
open Go.RowKit
section
variable {P:Program}{M:m5}{σ:Nat→Loc}{w:World}{h:Nat→Option Blk}{a:Act}{o:Oper}{cs:List Prop}{g:Eg}{e:Ef}
theorem Se(w:World):∀(fs:List Field),(∀f∈fs,(Ir P f).isSome)->(fs.mapM fun f=>do pure (f.offset,<- sizeOf f.type):Sem (List (Nat×Nat))).run P w=.ok (fs.filterMap (Ir P)) w
 |[],_=>by simp
 |f::fs,h=>by
  have h1:=h f m3;have h2:=Se w fs fun f hf=>h f (by simp[hf]);unfold Ir at h1;cases ht:ti P f.type with
  |none=>rw[ht]at h1;cases h1
  |some t =>
   have hz:=(Bk ht w).1;simp only[List.mapM_cons,Sem.run_bind,hz,Result.andThen_ok,Sem.run_pure,h2,List.filterMap_cons,Ir,ht]
theorem dA(fs:List Field)(h:∀f∈fs,(Ir P f).isSome)(i:Nat):(fs.filterMap (Ir P))[i]? = (fs[i]?).bind (Ir P):=by
 induction fs generalizing i with
 |nil=>rfl
 |cons f fs ih =>
  have h1:=h f m3;cases hf:Ir P f with
  |none=>rw[hf]at h1;cases h1
  |some p =>
   simp only[List.filterMap_cons,hf];cases i with
   |zero=>simp[hf]
   |succ i=>simpa using ih (fun f hf=>h f (by simp[hf])) i
theorem XQ{T:TypeId}{fs:Array Field}{s:Nat}{ag:Bool}(ht:ti P T=some ⟨s,ag,.struct fs⟩)(hall:fs.toList.all (fun f=>(Ir P f).isSome)=true){z cl:List Cl}(hz:FO P T=some z){l:List (Nat×Av)}{us:List (Nat×Value)}(hl:L2 (fun p q=>p.1=q.1/\RA M σ p.2 q.2) l us)
 (hf:I1 (Sl P fs) z l=some cl):∃d:List Value,(Instr.build T us.toArray).run P w=.ok (.agg d.toArray) w/\L2 (R M σ) cl d:=by
 obtain⟨i,v,hi,hv,hzl,_,hzr⟩:=FE (M:=M) (σ:=σ) (w:=w) hz;obtain⟨_,_,hu,_,_⟩:=Bk ht w;obtain⟨d,hd1,hd2⟩:=RL hl hzl hf;have hall':∀f∈fs.toList,(Ir P f).isSome:=fun f hf=>(List.all_eq_true.1 hall) f hf;have hm:(fs.mapM fun f=>do pure (f.offset,<- sizeOf f.type):Sem (Array (Nat×Nat))).run P w=.ok (fs.toList.filterMap (Ir P)).toArray w:=by
  rw[Array.mapM_eq_mapM_toList,Sem.run_map,Se w _ hall'];rfl
 refine⟨d,?_,hd2⟩;simp only[Instr.build,Sem.run_bind,hzr,Result.andThen_ok,hu,hm];have hpl:(fun(i:Nat)=>(fs.toList.filterMap (Ir P)).toArray[i]?)=Sl P fs:=by
  funext i;simp only[List.getElem?_toArray];rw[dA _ hall'];simp only[Array.getElem?_toList,Sl];cases fs[i]?<;>rfl
 rw[hpl];have:v.cells.toList.toArray=v.cells:=by simp
 rw[this]at hd1;simp only[hd1,Sem.run_pure]
theorem lN{T:TypeId}{n:Nat}{el:TypeId}{s:Nat}{ag:Bool}{te:TI}(ht:ti P T=some ⟨s,ag,.array n el⟩)(hte:ti P el=some te){z cl:List Cl}(hz:FO P T=some z){l:List (Nat×Av)}{us:List (Nat×Value)}(hl:L2 (fun p q=>p.1=q.1/\RA M σ p.2 q.2) l us)
 (hf:I1 (fun i=>some (i*te.size,te.size)) z l=some cl):∃d:List Value,(Instr.build T us.toArray).run P w=.ok (.agg d.toArray) w/\L2 (R M σ) cl d:=by
 obtain⟨i,v,hi,hv,hzl,_,hzr⟩:=FE (M:=M) (σ:=σ) (w:=w) hz;obtain⟨_,_,hu,_,_⟩:=Bk ht w;obtain⟨h1,_⟩:=Bk hte w;obtain⟨d,hd1,hd2⟩:=RL hl hzl hf;refine⟨d,?_,hd2⟩;have:v.cells.toList.toArray=v.cells:=by simp
 rw[this]at hd1;simp only[Instr.build,Sem.run_bind,hzr,Result.andThen_ok,hu,h1,hd1,Sem.run_pure]
theorem Ps(ps:Array (Nat×Operand))(ρ:Operand->Value):(ps.map fun(x:Nat×Operand)=>(x.1,ρ x.2))=(ps.toList.map fun p=>(p.1,ρ p.2)).toArray:=by
 apply Array.ext';simp
theorem vX{T:TypeId}{parts:Array (Nat×Operand)}{ev:Operand->Option Tv}(hev:∀x v,ev x=some v->RT M σ v (a.eval x))(ho:o.op=.build T parts)(he:Oe P ev T parts=some e)(hs:Std M σ w h)(hr:res h e=some (cs,g)):GF P M σ o a w g:=by
 unfold Oe at he;split at he
 ·rename_i s ag fs z l ht hz hp;cases hall:fs.toList.all (fun f=>(Ir P f).isSome)with
  |false=>rw[hall]at he;cases he
  |true =>
   rw[hall]at he;simp only[mi]at he;cases hf:I1 (Sl P fs) z l with
   |none=>rw[hf]at he;cases he
   |some cl =>
    rw[hf]at he;simp only[Option.map_some,l7]at he;subst he;obtain⟨rfl,rfl⟩:=Br hr;obtain⟨d,hd1,hd2⟩:=XQ (w:=w) ht hall hz (OP hev _ _ hp) hf;refine BF hs.imm (V:=.agg d.toArray) ?_ ⟨d,rfl,hd2⟩;have:=Ps parts a.eval;simp only[execOp,ho,Sem.run_bind];rw[this,hd1];rfl
 ·rename_i s ag n el z l ht hz hp;split at he
  ·rename_i te hte;cases hf:I1 (fun i=>some (i*te.size,te.size)) z l with
   |none=>rw[hf]at he;cases he
   |some cl =>
    rw[hf]at he;simp only[Option.map_some,l7]at he;subst he;obtain⟨rfl,rfl⟩:=Br hr;obtain⟨d,hd1,hd2⟩:=lN (w:=w) ht hte hz (OP hev _ _ hp) hf;refine BF hs.imm (V:=.agg d.toArray) ?_ ⟨d,rfl,hd2⟩;have:=Ps parts a.eval;simp only[execOp,ho,Sem.run_bind];rw[this,hd1];rfl
  cases he
 cases he
theorem QX(z:List Cl):∀n,(YD z n).length=n*z.length
 |0=>by simp[YD]
 |n+1=>by simp[YD,QX z n,Nat.add_mul,Nat.add_comm]
theorem fK{z:List Cl}{c:List Value}(hz:L2 (R M σ) z c)(hc:c≠[]):∀n,L2 (R M σ) (YD z n) ((List.range (n*c.length)).map fun i=>c.toArray[i % c.toArray.size]!)
 |0=>by simp[YD];exact .nil
 |n+1=>by
  have hlen:0<c.length:=List.length_pos_iff.2 hc;have h1:=fK hz hc n;have h0:c=(List.range c.length).map fun i=>c.toArray[i % c.toArray.size]! := by
   apply List.ext_getElem?;intro i
   by_cases hi:i<c.length
   ·simp[hi,Nat.mod_eq_of_lt hi]
   simp[hi,cw (Nat.le_of_not_lt hi)]
  have:(List.range ((n+1)*c.length)).map (fun i=>c.toArray[i % c.toArray.size]!)=c++(List.range (n*c.length)).map (fun i=>c.toArray[i % c.toArray.size]!):=by
   rw[Nat.add_mul,Nat.one_mul,Nat.add_comm,List.range_add,List.map_append,<- h0,List.map_map];congr 1;apply List.map_congr_left;intro i _;simp only[Function.comp_apply,List.size_toArray,Nat.add_mod_left]
  rw[this];exact hz.append h1
theorem Yy{k:IntKind}:∀ {l:List Cl} {ns:List Int},Up k l=some ns->l=ns.map fun n=>.val (.int k n)
 |[],ns,h=>by simp only[Up,l7]at h;subst h;rfl
 |c::l,ns,h=>by
  unfold Up at h;split at h
  ·cases ‹_=[]›
  ·rename_i k' n r heq;injection heq with e1 e2
   subst e1;subst e2;split at h
   ·rename_i hk;subst hk;obtain⟨ms,hm,rfl⟩:=Option.map_eq_some_iff.1 h;rw[Yy hm];rfl
   cases h
  cases h
theorem Xx:∀ {l:List Cl} {ns:List my},UQ l=some ns->l=ns.map fun n=>.val (.string n)
 |[],ns,h=>by simp only[UQ,l7]at h;subst h;rfl
 |c::l,ns,h=>by
  unfold UQ at h;split at h
  ·cases ‹_=[]›
  ·rename_i n r heq;injection heq with e1 e2
   subst e1;subst e2;obtain⟨ms,hm,rfl⟩:=Option.map_eq_some_iff.1 h;rw[Xx hm];rfl
  cases h
theorem VK:∀ {l:List Cl} {ns:List Bool},P9 l=some ns->l=ns.map fun n=>.val (.bool n)
 |[],ns,h=>by simp only[P9,l7]at h;subst h;rfl
 |c::l,ns,h=>by
  unfold P9 at h;split at h
  ·cases ‹_=[]›
  ·rename_i n r heq;injection heq with e1 e2
   subst e1;subst e2;obtain⟨ms,hm,rfl⟩:=Option.map_eq_some_iff.1 h;rw[VK hm];rfl
  cases h
theorem Mi{α:Type}(f:α->Cl)(d:α)(e:Cl):∀(l:List α) (i:Nat),i<l.length->f (l.getD i d)=(l.map f).getD i e
 |[],i,h=>by simp at h
 |a::l,0,_=>rfl
 |a::l,i+1,h=>by simpa using Mi f d e l i (by simpa using h)
theorem vM(l:List Cl)(i:Nat)(hi:i<l.length):vO l i=l.getD i default:=by
 unfold vO;split
 ·rename_i k n r;cases hns:Up k r with
  |some ns =>
   have:=Yy hns;subst this;exact Mi (fun n=>.val (.int k n)) 0 default (n::ns) i (by simpa using hi)
  |none=>rfl
 ·rename_i n r;cases hns:UQ r with
  |some ns =>
   have:=Xx hns;subst this;exact Mi (fun n=>.val (.string n)) ⟨#[]⟩ default (n::ns) i (by simpa using hi)
  |none=>rfl
 ·rename_i n r;cases hns:P9 r with
  |some ns =>
   have:=VK hns;subst this;exact Mi (fun n=>.val (.bool n)) false default (n::ns) i (by simpa using hi)
  |none=>rfl
 rfl
theorem NC(sz j:Nat)(cs:List Cl):∀n i,(P0 sz j cs n i).length=n
 |0,_=>rfl
 |n+1,i=>by simp[P0,NC sz j cs n]
theorem TL(sz j:Nat)(cs:List Cl):∀n i k,k<n->(P0 sz j cs n i).getD k default=cs.getD ((i+k)*sz+j) default
 |0,_,_,h=>absurd h mz
 |n+1,i,0,_=>rfl
 |n+1,i,k+1,h=>by
  simp only[P0,List.getD_cons_succ];rw[TL sz j cs n (i+1) k mz,show i+1+k=i+(k+1)by omega]
theorem ZM(sz n:Nat)(cs:List Cl)(i j:Nat)(hi:i<n):A9 sz n cs i j=cs.getD (i*sz+j) default:=by
 unfold A9;rw[vM _ _ (by rw[NC];exact hi),TL _ _ _ _ _ _ hi,mw]
theorem UJ{T:TypeId}{len:Nat}{parts:Array (Nat×Operand)}{ev:Operand->Option Tv}(hev:∀x v,ev x=some v->RT M σ v (a.eval x))(ho:o.op=.buildSlice T len parts){ow em:Bool}(he:Hg P ev T len parts ow em=some e)(hs:Std M σ w h)(hr:res h e=some (cs,g))(hd:∀b v,g=.new b v->∃d,o.dst=some d/\b.no d=true):GF P M σ o a w g:=by
 unfold Hg at he;split at he
 ·rename_i s ag el l ht hp;obtain⟨_,_,hu,_,_⟩:=Bk ht w;split at he
  ·rename_i t z hte hz;obtain⟨h1,_⟩:=Bk hte w;cases hb:(Nat.beq t.size 0||Nat.ble 16777217 (len*t.size) || !(Nat.beq z.length t.size))with
   |true=>rw[hb]at he;cases he
   |false =>
    rw[hb]at he;simp only[mj]at he;simp only[Bool.or_eq_false_iff,Bool.not_eq_false']at hb;obtain⟨⟨hb1,hb2⟩,hb3⟩:=hb;have hne:t.size≠0:=fun e=>by rw[e]at hb1;simp[Nat.beq]at hb1
    have hle:¬ (len*t.size>2 ^ 24):=by
     intro hgt;have:Nat.ble 16777217 (len*t.size)=true:=Nat.ble_eq_true_of_le mz;rw[this]at hb2;cases hb2
    have hzl:=lx hb3;obtain⟨i,v,hi,hv,hzL,_,hzr⟩:=FE (M:=M) (σ:=σ) (w:=w) hz;have hvl:v.cells.toList.length=t.size:=by rw[<- hzL.length];exact hzl
    have hrep:=fK hzL (by intro e;rw[e]at hvl;exact hne hvl.symm) len;cases hf:I1 (fun i=>some (i*t.size,t.size)) (YD z len) l with
    |none=>rw[hf]at he;cases he
    |some cl =>
     rw[hf]at he;simp only at he;obtain⟨d,hd1,hd2⟩:=RL (OP hev _ _ hp) hrep hf;have hrun:(execOp a.eval o).run P w=.ok (.value (.slice (some ⟨w.heap.size,0,none⟩) len len)) (w.alloc (.cells d.toArray el)):=by
      have hmp:=Ps parts a.eval;have harr:(Array.range (len*t.size)).map (fun i=>v.cells[i % v.cells.size]!)=((List.range (len*v.cells.toList.length)).map fun i=>v.cells.toList.toArray[i % v.cells.toList.toArray.size]!).toArray:=by
       apply Array.ext';simp only[Array.toList_map,Array.toList_range,hvl]
       try(apply List.map_congr_left;intro i _;simp)
      simp only[execOp,ho,Sem.run_bind];rw[hmp]
      by_cases hl0:len*t.size=0
      ·simp only[Instr.buildSlice,Sem.run_bind,hu,Result.andThen_ok,h1,if_neg hle,if_pos hl0,Sem.run_pure];have hd1':Instr.fill (fun i=>some (i*t.size,t.size)) (Array.map (fun x=>(#[]:Array Value)[x % (#[]:Array Value).size]!) (Array.range (len*t.size))) (parts.toList.map fun p=>(p.1,a.eval p.2))=some d.toArray:=by
        rw[<- hd1,<- harr,hl0,Array.range_zero',Array.map_empty,Array.map_empty]
       simp only[hd1',Sem.run_bind,newRow,run_newObj,Result.andThen_ok,Sem.run_pure];rfl
      simp only[Instr.buildSlice,Sem.run_bind,hu,Result.andThen_ok,h1,if_neg hle,if_neg hl0,hzr,Sem.run_pure];rw[harr];simp only[hd1,Sem.run_bind,newRow,run_newObj,Result.andThen_ok,Sem.run_pure];rfl
     have hclen:d.length=len*t.size:=by
      have:=hd2.length;have h3:∀(place:Nat->Option (Nat×Nat)) (l:List (Nat×Av)) (z r:List Cl),I1 place z l=some r->r.length=z.length:=by
       intro place l;induction l with
       |nil=>intro z r h;simp only[I1,l7]at h;subst h;rfl
       |cons p l ih =>
        intro z r h;obtain⟨i,v⟩:=p;simp only[I1]at h;split at h
        ·cases h
        rename_i off size _;cases hc:(Nat.beq v.cells.length size&&Nat.ble (off+v.cells.length) z.length)with
        |false=>rw[hc]at h;cases h
        |true=>rw[hc]at h;rw[ih _ _ h,QV]
      rw[<- this,h3 _ _ _ _ hf,QX,hzl]
     have hMno:M w.heap.size=none:=by
      cases hm:M w.heap.size with
      |none=>rfl
      |some x=>have:=(Array.getElem?_eq_some_iff.1 (hs.imm _ _ hm)).1;omega
     have himm:∀b o,M b=some o->(w.alloc (.cells d.toArray el)).heap[b]? = some o:=fun b o hm=>by
      rw[mq _ _ _ (Array.getElem?_eq_some_iff.1 (hs.imm _ _ hm)).1];exact hs.imm _ _ hm
     have hnew:(w.alloc (.cells d.toArray el)).heap[w.heap.size]? = some (.cells d.toArray el):=by show(w.heap.push _)[w.heap.size]? = _;simp
     cases hdv:cl.all Cl.dv with
     |false =>
      rw[hdv]at he;simp only[mj]at he;cases hl1:Nat.beq len 1 with
      |false=>rw[hl1]at he;cases he
      |true =>
       rw[hl1]at he;simp only[mi,l7]at he;subst he;have hlen1:len=1:=lx hl1;subst hlen1;simp only[res,l7,l8]at hr;obtain⟨rfl,rfl⟩:=hr;obtain⟨dd,hdd,hno⟩:=hd _ _ rfl;have hdl:d.length=t.size:=by rw[hclen,Nat.one_mul]
       have hgetd:∀j,j<t.size->d[j]? = some (d.getD j undef):=fun j hj=>by simp[List.getD,show j<d.length by omega]
       have hno':∀c∈cl,c.no dd=true:=fun c hc=>by
        simp only[Blk.no,List.all_cons,List.all_nil,Bool.and_true]at hno;exact List.all_eq_true.1 hno c hc
       refine .inl ⟨_,_,hrun,M,upd σ dd ⟨w.heap.size,1,false⟩,⟨w.heap.size,1,false⟩,dd,hdd,⟨rfl,rfl,rfl,by simp,fun b hb _=>mq _ _ _ hb,fun _ _ h=>h,fun _ _ h h'=>by(rw[h]at h';cases h'),himm⟩,.inr ⟨lu _,hMno⟩,rfl,
        ⟨rfl,_,hnew,by simp[hdl],lu _,(show 1<=maxLen by unfold maxLen;decide),fun i j=>d.getD j undef,fun i j hi hj=>⟨?_,fun hn=>?_⟩,fun i l hl=>?_⟩,?_⟩
       ·have:i=0:=by omega
        subst this;rw[List.getElem?_toArray,Nat.zero_mul,mw];exact hgetd j hj
       ·have:i=0:=by omega
        subst this;simp[get]at hn
       ·by_cases hi:i=0
        ·subst hi;simp[get]at hl;subst hl;refine⟨lz _,?_⟩;have e:(List.range t.size).map (fun j=>d.getD j undef)=d:=by
          refine List.ext_getElem? fun j=>?_
          by_cases hj:j<t.size
          ·rw[ld,lc hj,hgetd j hj];rfl
          rw[cw (by simp;omega),cw mz]
         rw[e];exact hd2.mono fun c hc u hu=>DO (fun _ _ h=>h) (fun n hn=>CW _ _ fun e=>by rw[e,hno' c hc]at hn;cases hn) hu
        simp[get,Cb,Ne.symm hi]at hl
       show R _ _ _ _;simp only[R,BH];simp
     |true =>
      rw[hdv]at he;simp only[mi]at he;have hlt:∀i j,i<len->j<t.size->i*t.size+j<d.length:=fun i j hi hj=>by
       rw[hclen];have:(i+1)*t.size<=len*t.size:=Nat.mul_le_mul_right _ mz;rw[Nat.add_mul,Nat.one_mul]at this;omega
      have hgetd:∀i j,i<len->j<t.size->d[i*t.size+j]? = some (d.getD (i*t.size+j) undef):=fun i j hi hj=>by
       simp[List.getD,hlt i j hi hj]
      have hRC:∀i j,i<len->j<t.size->RC M (A9 t.size len cl i j) (d.getD (i*t.size+j) undef):=fun i j hi hj=>by
       have hlt':i*t.size+j<cl.length:=by rw[hd2.length];exact hlt i j hi hj
       obtain⟨u,hu2,hR⟩:=hd2.get _ _ (ea hlt');rw[ZM _ _ _ _ _ hi];simp only[List.getD,ea hlt',hu2,Option.getD_some];exact Ol ((List.all_eq_true.1 hdv) _ (List.getElem_mem _)) hR
      cases ow with
      |true =>
       simp only[mi,l7]at he;subst he;simp only[res,l7,l8]at hr;obtain⟨rfl,rfl⟩:=hr;obtain⟨dd,hdd,_⟩:=hd _ _ rfl;have hmax:len<=maxLen:=by
        have:len*1<=len*t.size:=Nat.mul_le_mul_left _ mz;unfold maxLen;omega
       refine .inl ⟨_,_,hrun,M,upd σ dd ⟨w.heap.size,len,false⟩,⟨w.heap.size,len,false⟩,dd,hdd,⟨rfl,rfl,rfl,by simp,fun b hb _=>mq _ _ _ hb,fun _ _ h=>h,fun _ _ h h'=>by(rw[h]at h';cases h'),himm⟩,.inr ⟨lu _,hMno⟩,rfl,
        .inr ⟨rfl,_,hnew,by simp[hclen],lu _,hmax,fun i j=>d.getD (i*t.size+j) undef,fun i j hi hj=>⟨by rw[List.getElem?_toArray];exact hgetd i j hi hj,hRC i j hi hj⟩⟩,?_⟩
       show R _ _ _ _;simp only[R,BH];simp
      |false =>
       simp only[mj]at he;cases hem:(em&&Nat.beq len 0)with
       |true =>
        rw[hem]at he;simp only[mi,l7]at he;subst he;obtain⟨rfl,rfl⟩:=Br hr;have hl0:len=0:=lx (by simp only[me]at hem;exact hem.2);refine .inl ⟨_,_,hrun,M,σ,⟨rfl,rfl,rfl,by simp,fun b hb _=>mq _ _ _ hb,fun _ _ h=>h,fun _ _ h h'=>by(rw[h]at h';cases h'),himm⟩,rfl,?_⟩;show RC M _ _;rw[hl0];exact .mt true 0 _ _ _ (fun _ _=>rfl)
       |false =>
        rw[hem]at he;simp only[mj,l7]at he;subst he;obtain⟨rfl,rfl⟩:=Br hr
        let M':m5:=upd M w.heap.size (some (.cells d.toArray el))
        have hM':M' w.heap.size=some (.cells d.toArray el):=BH _ _ _;have hsub:∀b o,M b=some o->M' b=some o:=fun b o hm=>by
         have:b≠w.heap.size:=fun e=>by subst e;rw[hMno]at hm;cases hm
         rw[show M' b=M b from CW _ _ this];exact hm
        refine .inl ⟨_,_,hrun,M',σ,⟨rfl,rfl,rfl,by simp,fun b hb _=>mq _ _ _ hb,hsub,fun b o hm hn=>?_,fun b o hm=>?_⟩,rfl,?_⟩
        ·by_cases hb:b=w.heap.size
         ·omega
         rw[show M' b=M b from CW _ _ hb,hn]at hm;cases hm
        ·by_cases hb:b=w.heap.size
         ·subst hb;rw[hM']at hm;injection hm with hm;subst hm;exact hnew
         rw[show M' b=M b from CW _ _ hb]at hm;exact himm b o hm
        show RC M' _ _;refine .list true t.size len _ w.heap.size 0 len (fun i j=>d.getD (i*t.size+j) undef) (fun i j hi hj=>?_) (fun i j hi hj=>?_) (lu _) (fun _ h=>absurd h hne)
        ·simp only[F2,hM',mw,List.getElem?_toArray];exact hgetd i j hi hj
        exact FS hsub (hRC i j hi hj)
  cases he
 cases he
theorem Ww{T:TypeId}{x y:Operand}{u v:Tv}(ho:o.op=.makeSlice T x y)(hx:RT M σ u (a.eval x))(hy:RT M σ v (a.eval y))(he:Kz P T u v=some e)(hs:Std M σ w h)(hr:res h e=some (cs,g))(hc:CI cs)(hd:(∃b v,g=.new b v)->∃d,o.dst=some d):GF P M σ o a w g:=by
 unfold Kz at he;split at he
 ·rename_i s ag el k n k2 m ht;obtain⟨_,_,_,hu,_⟩:=Bk ht w;split at he
  ·rename_i i z hi hz;cases hb:(Nat.beq z.length i.size && !(Nat.beq i.size 0))with
   |false=>rw[hb]at he;cases he
   |true =>
    rw[hb]at he;simp only[mi,l7]at he;subst he;simp only[me,Bool.not_eq_true']at hb;have hzl:=lx hb.1;have hne:i.size≠0:=fun e=>by rw[e]at hb;simp[Nat.beq]at hb
    simp only[res,l7,l8]at hr;obtain⟨rfl,rfl⟩:=hr;obtain⟨dd,hdd⟩:=hd ⟨_,_,rfl⟩;obtain⟨h0,rfl,hby,h63⟩:=hc.head;obtain⟨i',v',hi',hv',hzL,hzm,hzr⟩:=FE (M:=M) (σ:=σ) (w:=w) hz;rw[hi]at hi';injection hi' with hi'
    subst hi';have hvl:v'.cells.size=i.size:=by have:=hzL.length;rw[<- hzl,this];simp
    have hrun:(execOp a.eval o).run P w=.ok (.value (.slice (some ⟨w.heap.size,0,none⟩) m.toNat m.toNat)) (w.alloc (.cells (madeCells v'.cells (m.toNat*i.size)) el)):=by
     simp only[execOp,ho,XZ hx,XZ hy,Sem.run_bind,run_make w T el i v' hu hi hv' _ _ m m h0 (Int.le_refl _) hby h63,Result.andThen_ok,Sem.run_pure]
    have hMno:M w.heap.size=none:=by
     cases hm:M w.heap.size with
     |none=>rfl
     |some x=>have:=(Array.getElem?_eq_some_iff.1 (hs.imm _ _ hm)).1;omega
    have himm:∀b o,M b=some o->(w.alloc (.cells (madeCells v'.cells (m.toNat*i.size)) el)).heap[b]? = some o:=fun b o hm=>by
     rw[mq _ _ _ (Array.getElem?_eq_some_iff.1 (hs.imm _ _ hm)).1];exact hs.imm _ _ hm
    have hnew:(w.alloc (.cells (madeCells v'.cells (m.toNat*i.size)) el)).heap[w.heap.size]? = some (.cells (madeCells v'.cells (m.toNat*i.size)) el):=by show(w.heap.push _)[w.heap.size]? = _;simp
    have hmax:m.toNat<=maxLen:=by unfold maxLen;omega
    refine .inl ⟨_,_,hrun,M,upd σ dd ⟨w.heap.size,m.toNat,false⟩,⟨w.heap.size,m.toNat,false⟩,dd,hdd,⟨rfl,rfl,rfl,by simp,fun b hb _=>mq _ _ _ hb,fun _ _ h=>h,fun _ _ h h'=>by(rw[h]at h';cases h'),himm⟩,.inr ⟨lu _,hMno⟩,rfl,
     .inr ⟨rfl,_,hnew,size_madeCells _ _,lu _,hmax,fun _ j=>v'.cells.getD j undef,fun i1 j hi1 hj=>⟨?_,?_⟩⟩,?_⟩
    ·have hlt:i1*i.size+j<m.toNat*i.size:=by
      have:(i1+1)*i.size<=m.toNat*i.size:=Nat.mul_le_mul_right _ mz;rw[Nat.add_mul]at this;omega
     have hmod:(i1*i.size+j) % i.size=j:=by
      rw[Nat.mul_comm,Nat.mul_add_mod,Nat.mod_eq_of_lt hj]
     simp only[madeCells,Array.getElem?_map,Array.getElem?_range,hlt,if_true,Option.map_some,hvl,hmod];congr 1;rw[getElem!_def,l6,l4 mz];rfl
    ·have hj':j<z.length:=by omega
     obtain⟨u,hu2,hR⟩:=hzL.get _ _ (ea hj');have e2:v'.cells.getD j undef=u:=by
      rw[l6,<- Array.getElem?_toList,hu2];rfl
     simp only[e2];simp only[List.getD,ea hj',Option.getD_some];refine Ol ?_ hR;have pd:=List.getElem_mem hj';generalize z[j]=zj at pd;rw[hzm]at pd;obtain⟨q,_,rfl⟩:=List.mem_map.1 pd;rfl
    show R _ _ _ _;simp only[R,BH];simp
  cases he
 cases he
end
end
section
open Go.RowKit
section
variable {P:Program}{M:m5}{σ:Nat→Loc}{w:World}{h:Nat→Option Blk}{a:Act}{o:Oper}{cs:List Prop}{g:Eg}{e:Ef}
theorem JO{ev:Operand->Option Tv}(hev:∀x v,ev x=some v->RT M σ v (a.eval x)):∀(xs:List Operand) (l:List Av),FQ ev xs=some l->L2 (RA M σ) l (xs.map a.eval)
 |[],l,he=>by simp only[FQ,l7]at he;subst he;exact .nil
 |x::xs,l,he=>by
  simp only[FQ]at he;split at he
  ·rename_i v l' h1 h2;simp only[l7]at he;subst he;exact .cons (hev x _ h1) (JO hev xs l' h2)
  cases he
theorem iL:∀(l:List Av) (cs:List Cl) (vs:List Value),Te l=some cs->L2 (RA M σ) l vs->L2 (R M σ) cs vs
 |[],cs,vs,he,hl=>by simp only[Te,l7]at he;subst he;cases hl;exact .nil
 |.one c::l,cs,vs,he,hl=>by
  cases hl with|cons h1 h2 =>
  simp only[Te]at he;obtain⟨cs',h3,rfl⟩:=Option.map_eq_some_iff.1 he;exact .cons h1 (iL l cs' _ h3 h2)
 |.agg _::l,cs,vs,he,hl=>by simp[Te]at he
theorem Ym{f:FuncId}{first captured:Array Operand}{ev:Operand->Option Tv}{l:List Av}{cl:List Cl}(hev:∀x v,ev x=some v->RT M σ v (a.eval x))(ho:o.op=.makeFunc (.func f) first captured)(hf:first.toList.isEmpty=true)(hl:FQ ev captured.toList=some l)(hcl:Te l=some cl)(hs:Std M σ w h)(hr:res h (.val [] (.av (.one (.clo f cl.length (BZ cl)))))=some (cs,g)):GF P M σ o a w g:=by
 obtain⟨rfl,rfl⟩:=Br hr;have h1:=iL l cl _ hcl (JO hev _ _ hl);have hfe:first = #[]:=by
  have:first.toList=[]:=by simpa using hf
  exact Array.toList_eq_nil_iff.1 this
 refine BF hs.imm (V:=.func (.func f) #[] (captured.toList.map a.eval).toArray) ?_ ⟨_,rfl,by simp[h1.length],fun i hi=>?_⟩
 ·subst hfe;simp only[execOp,ho,Instr.makeFunc,Sem.run_bind,Sem.run_pure,Result.andThen_ok];congr 3
  all_goals (apply Array.ext';simp)
 obtain⟨u,hu,hR⟩:=h1.get i _ (ea hi);have:(captured.toList.map a.eval).toArray.getD i undef=u:=by
  rw[<- List.getElem?_toArray]at hu;simp only[l6,hu,Option.getD_some]
 rw[this];simp only[BZ,List.getD,ea hi,Option.getD_some];exact hR
theorem IX{x:Operand}{v:Value}(ho:o.op=.nilCheck x)(hv:a.eval x=v)(hp:(∃p,v=.pointer (some p))\/∃f c,v=.func (.func f) #[] c)(hs:Std M σ w h){t:Tv}(ht:RT M σ t v)(hr:res h (.val [] t)=some (cs,g)):GF P M σ o a w g:=by
 obtain⟨rfl,rfl⟩:=Br hr;refine BF hs.imm (V:=v) ?_ ht;rcases hp with ⟨p,rfl⟩|⟨f,c,rfl⟩<;>simp[execOp,ho,hv]
def I5(d:Int):Option (Option Tv)->Option Int
 |none=>some d
 |some (some (.av (.one (.val (.int _ n)))))=>some n
 |_=>none
theorem FX{ev:Operand->Option Tv}(hev:∀x v,ev x=some v->RT M σ v (a.eval x)){lo hi:Option Operand}{len cap:Nat}{l hh:Int}(h1:I5 0 (lo.map ev)=some l)(h2:I5 len (hi.map ev)=some hh)(hle:0<=l/\l<=hh/\hh<=len)(hcap:len<=cap)(b:Bool) :
  (Instr.sliceBounds b len cap (lo.map a.eval) (hi.map a.eval) none).run P w=.ok (l.toNat,hh.toNat,cap) w:=by
 obtain⟨a1,a2,a3⟩:=hle;have hlo:∀x,lo=some x->∃k,a.eval x=.int k l:=by
  intro x hx;subst hx;simp only[Option.map_some,I5]at h1;split at h1<;>first|(cases h1;done)|skip
  ·rename_i heq;cases heq
  rename_i k n heq;injection heq with heq
  injection h1 with h1
  subst h1;exact⟨_,XZ (hev x _ heq)⟩
 have hhi:∀x,hi=some x->∃k,a.eval x=.int k hh:=by
  intro x hx;subst hx;simp only[Option.map_some,I5]at h2;split at h2<;>first|(cases h2;done)|skip
  ·rename_i heq;cases heq
  rename_i k n heq;injection heq with heq
  injection h2 with h2
  subst h2;exact⟨_,XZ (hev x _ heq)⟩
 cases lo with
 |none =>
  simp only[Option.map_none,I5,l7]at h1;subst h1;cases hi with
  |none =>
   simp only[Option.map_none,I5,l7]at h2;subst h2;simp[Instr.sliceBounds]
  |some y =>
   obtain⟨k,hy⟩:=hhi y rfl;have hc:0<=hh/\hh<=(cap:Int):=by omega
   simp[Instr.sliceBounds,Instr.sliceBound,hy,asIntOf,hc]
 |some x =>
  obtain⟨k,hx⟩:=hlo x rfl;cases hi with
  |none =>
   simp only[Option.map_none,I5,l7]at h2;subst h2;have hc:0<=l/\l<=(len:Int):=by omega
   simp[Instr.sliceBounds,Instr.sliceBound,hx,asIntOf,hc]
  |some y =>
   obtain⟨k',hy⟩:=hhi y rfl;have hc:0<=hh/\hh<=(cap:Int):=by omega
   have hc2:0<=l/\l<=((hh.toNat:Nat):Int):=by omega
   have hm:max hh 0=hh:=by omega
   simp[Instr.sliceBounds,Instr.sliceBound,hx,hy,asIntOf,hc,hm,a1,a2]
theorem qH{T:TypeId}{x:Operand}{lo hi:Option Operand}{ev:Operand->Option Tv}{v:Tv}(hev:∀x v,ev x=some v->RT M σ v (a.eval x))(ho:o.op=.slice T x lo hi none)(hx:RT M σ v (a.eval x))(he:TR P T v (lo.map ev) (hi.map ev)=some e)(hs:Std M σ w h)(hr:res h e=some (cs,g))(hc:CI cs):GF P M σ o a w g:=by
 unfold TR at he;simp only at he;split at he
 ·rename_i s ag el tg sz len f ht;obtain⟨_,_,hu,_,_⟩:=Bk ht w;split at he
  ·rename_i t hte;obtain⟨hsz,_⟩:=Bk hte w;split at he
   ·rename_i l hh h1 h2;have h1:I5 0 (lo.map ev)=some l:=h1;have h2:I5 len (hi.map ev)=some hh:=h2;cases hb:Nat.beq t.size sz with
    |false=>rw[hb]at he;cases he
    |true =>
     rw[hb]at he;simp only[mi,l7]at he;subst he;obtain⟨rfl,rfl⟩:=Br hr;have hin:=hc.head;have hsz':=lx hb;have hx':RC M (.list tg sz len f) (a.eval x):=hx;generalize hV0:a.eval x=V0 at hx';cases hx' with
     |nil =>
      have hb:=FX (P:=P) (w:=w) hev h1 h2 hin (lu _) true;have hl0:l.toNat=0:=by omega
      have hh0:hh.toNat=0:=by omega
      refine BF hs.imm (V:=.slice none 0 0) ?_ (show RC M _ _ from ?_)
      ·simp only[execOp,ho,hV0,Option.map_none,Instr.sliceAt,Sem.run_bind,hu,Result.andThen_ok,Instr.slice,hb,hsz,Sem.run_pure,hl0,hh0];simp
      rw[hl0,hh0];exact .nil _ _ _ rfl
     |mt _ _ _ p0 cap =>
      have hb:=FX (P:=P) (w:=w) hev h1 h2 hin (lv cap) true;have hl0:l.toNat=0:=by omega
      have hh0:hh.toNat=0:=by omega
      refine BF hs.imm (V:=.slice (some p0) 0 cap) ?_ (show RC M _ _ from ?_)
      ·simp only[execOp,ho,hV0,Option.map_none,Instr.sliceAt,Sem.run_bind,hu,Result.andThen_ok,Instr.slice,hb,hsz,Sem.run_pure,hl0,hh0];simp[Addr.add]
      rw[hl0,hh0];exact .mt _ _ _ _ _ (fun h=>by cases h)
     |list _ _ _ _ b off cap gv g1 g2 g4 _ =>
      have hb:=FX (P:=P) (w:=w) hev h1 h2 hin g4 true
      by_cases hml:cap=l.toNat
      ·have he0:hh.toNat-l.toNat=0:=by omega
       refine BF hs.imm (V:=.slice (some ⟨b,off,none⟩) (hh.toNat-l.toNat) (cap-l.toNat)) ?_ (show RC M _ _ from ?_)
       ·simp only[execOp,ho,hV0,Option.map_none,Instr.sliceAt,Sem.run_bind,hu,Result.andThen_ok,Instr.slice,hb,hsz,Sem.run_pure];simp[hml]
       rw[he0];exact .list _ _ _ _ b off _ (fun _ _=>undef) (fun i j hi=>absurd hi mz) (fun i j hi=>absurd hi mz) mz (fun h=>by cases h)
      refine BF hs.imm (V:=.slice (some ⟨b,off+l.toNat*sz,none⟩) (hh.toNat-l.toNat) (cap-l.toNat)) ?_ (show RC M _ _ from ?_)
      ·simp only[execOp,ho,hV0,Option.map_none,Instr.sliceAt,Sem.run_bind,hu,Result.andThen_ok,Instr.slice,hb,hsz,Sem.run_pure];simp[hml,Addr.add_lit,hsz']
      refine .list _ _ _ _ b _ _ (fun i j=>gv (i+l.toNat) j) (fun i j hi hj=>?_) (fun i j hi hj=>g2 _ _ mz hj) mz (fun h=>by cases h);have:=g1 (i+l.toNat) j mz hj;rw[Nat.add_mul]at this;rw[show off+l.toNat*sz+(i*sz+j)=off+(i*sz+l.toNat*sz+j)by omega];exact this
   cases he
  cases he
 ·rename_i s ag el q sz len' ht;obtain⟨_,_,hu,_,_⟩:=Bk ht w;split at he
  ·rename_i t hte;obtain⟨hsz,_⟩:=Bk hte w;split at he
   ·rename_i l hh h1 h2;have h1:I5 0 (lo.map ev)=some l:=h1;have h2:I5 len' (hi.map ev)=some hh:=h2;cases hb:Nat.beq t.size sz with
    |false=>rw[hb]at he;cases he
    |true =>
     rw[hb]at he;simp only[mi,l7]at he;subst he;have hsz':=lx hb;simp only[res,G3]at hr;cases hn:h q with
     |none=>rw[hn]at hr;cases hr
     |some blk =>
      rw[hn]at hr;cases blk with
      |cells=>cases hr
      |omap=>cases hr
      |rowx=>cases hr
      |row sz2 len f ty =>
       simp only at hr;cases hb2:Nat.beq sz2 sz with
       |false=>rw[hb2]at hr;cases hr
       |true =>
        rw[hb2]at hr;simp only[mi,l7,l8]at hr;obtain⟨rfl,rfl⟩:=hr;have hll:=hc.head;subst hll;have hin:=hc.tail.head;have hx':R M σ (.own q sz len') (a.eval x):=hx;simp only[R]at hx';rcases hs.blk q _ hn with ⟨h0,h9⟩|⟨h0,c,hcc,h3,h4,h5,gv,hg⟩
        ·rw[h0]at hx';simp only[if_true]at hx';obtain⟨_,hV0⟩:=hx';have hb:=FX (P:=P) (w:=w) hev h1 h2 hin (show len'<=0 by omega) true;have hl0:l.toNat=0:=by omega
         have hh0:hh.toNat=0:=by omega
         refine BF hs.imm (V:=.slice none 0 0) ?_ (show R M σ _ _ from ?_)
         ·subst h9;simp only[execOp,ho,hV0,Option.map_none,Instr.sliceAt,Sem.run_bind,hu,Result.andThen_ok,Instr.slice,hb,hsz,Sem.run_pure,hl0,hh0];simp
         simp only[R,h0,if_true];exact⟨hl0,by omega,trivial⟩
        rw[h0]at hx';simp only[Bool.false_eq_true,if_false]at hx';have hb:=FX (P:=P) (w:=w) hev h1 h2 hin h4 true;refine BF hs.imm (V:=.slice (some ⟨(σ q).b,if (σ q).cap=l.toNat then 0 else l.toNat*sz,none⟩) (hh.toNat-l.toNat) ((σ q).cap-l.toNat)) ?_ (show R M σ _ _ from ?_)
        ·simp only[execOp,ho,hx',Option.map_none,Instr.sliceAt,Sem.run_bind,hu,Result.andThen_ok,Instr.slice,hb,hsz,Sem.run_pure]
         by_cases hml:(σ q).cap=l.toNat
         ·simp[hml]
         simp[hml,Addr.add_lit,hsz']
        simp only[R,h0,Bool.false_eq_true,if_false]
   cases he
  cases he
 cases he
theorem yS{c x y:Operand}{cb:Bool}{tx ty:Tv}{ga gb:List Prop}{xa xb:Bool}(ho:o.op=.pick c x y)(hcv:RT M σ (.av (.one (.val (.bool cb)))) (a.eval c))(hx:RT M σ tx (a.eval x))(hy:RT M σ ty (a.eval y))(h1:asB tx=some (ga,xa))(h2:asB ty=some (gb,xb))(hs:Std M σ w h)
 (hr:res h (.val ((ga.map fun g=>cb=true->g)++(gb.map fun g=>cb=false->g)) (.av (.one (.val (.bool (bif cb then xa else xb))))))=some (cs,g))(hc:CI cs):GF P M σ o a w g:=by
 obtain⟨rfl,rfl⟩:=Br hr;obtain⟨hca,hcb⟩:=hc.append;have asB_ok:∀(t:Tv) (gs:List Prop) (b:Bool) (V:Value),asB t=some (gs,b)->RT M σ t V->(∀p∈gs,p)->V=.bool b:=by
  intro t gs b V hb hR hg;unfold asB at hb;split at hb
  ·simp only[l7,l8]at hb;obtain⟨rfl,rfl⟩:=hb;exact hR.1
  ·simp only[l7,l8]at hb;obtain⟨rfl,rfl⟩:=hb;exact(hR.1 (hg _ m3)).1
  cases hb
 refine BF hs.imm (V:=.bool (bif cb then xa else xb)) ?_ (R_v rfl);have hcv':=RA_b hcv;simp only[execOp,ho,hcv',asBool,Sem.run_bind,Sem.run_pure,Result.andThen_ok];cases cb with
 |true =>
  have:=asB_ok tx ga xa _ h1 hx (fun p hp=>hca.mem (true=true->p) (List.mem_map.2 ⟨p,hp,rfl⟩) rfl);simp[this]
 |false =>
  have:=asB_ok ty gb xb _ h2 hy (fun p hp=>hcb.mem (false=false->p) (List.mem_map.2 ⟨p,hp,rfl⟩) rfl);simp[this]
theorem dq{k:IntKind}:∀(r:List Av) (vs:List Value) (x n:Int),L2 (RA M σ) r vs->mn k x r=some n->(vs.foldlM Builtin.min2 (.int k x)).run P w=.ok (.int k n) w
 |[],vs,x,n,hl,he=>by cases hl;simp only[mn,l7]at he;subst he;rfl
 |.agg _::r,vs,x,n,hl,he=>by cases r<;>simp[mn]at he
 |.one c::r,vs,x,n,hl,he=>by
  cases hl with|cons h1 h2 =>
  unfold mn at he;split at he
  ·cases ‹_=[]›
  ·rename_i k' y r' heq;injection heq with e1 e2
   injection e1 with e1
   subst e1;subst e2;split at he
   ·rename_i hk;subst hk;have hy:_=Value.int k' y:=h1.1;subst hy;have:=dq (k:=k') _ _ _ n h2 he;simp only[List.foldlM_cons,Builtin.min2,Sem.run_bind,Sem.run_pure,Result.andThen_ok];rw[show ∀x y:Int,(if y<x then y else x)=min x y from fun x y=>by omega];exact this
   cases he
  cases he
theorem dp{k:IntKind}:∀(r:List Av) (vs:List Value) (x n:Int),L2 (RA M σ) r vs->mx k x r=some n->(vs.foldlM Builtin.max2 (.int k x)).run P w=.ok (.int k n) w
 |[],vs,x,n,hl,he=>by cases hl;simp only[mx,l7]at he;subst he;rfl
 |.agg _::r,vs,x,n,hl,he=>by cases r<;>simp[mx]at he
 |.one c::r,vs,x,n,hl,he=>by
  cases hl with|cons h1 h2 =>
  unfold mx at he;split at he
  ·cases ‹_=[]›
  ·rename_i k' y r' heq;injection heq with e1 e2
   injection e1 with e1
   subst e1;subst e2;split at he
   ·rename_i hk;subst hk;have hy:_=Value.int k' y:=h1.1;subst hy;have:=dp (k:=k') _ _ _ n h2 he;simp only[List.foldlM_cons,Builtin.max2,Sem.run_bind,Sem.run_pure,Result.andThen_ok];rw[show ∀x y:Int,(if y>x then y else x)=max x y from fun x y=>by omega];exact this
   cases he
  cases he
end
end
section
open Go.RowKit Go.MapKept
section
variable {P:Program}{M:m5}{σ:Nat→Loc}{w:World}{h:Nat→Option Blk}{a:Act}{o:Oper}{cs:List Prop}{g:Eg}{e:Ef}
def Dg(sz m:Nat)(gm:Nat->Nat->Value):List Value:=(List.range (m*sz)).map fun k=>gm (k/sz) (k % sz)
theorem GP{sz m:Nat}(gm:Nat->Nat->Value)(hsz:0<sz){i j:Nat}(hi:i<m)(hj:j<sz):(Dg sz m gm)[i*sz+j]? = some (gm i j):=by
 have hlt:i*sz+j<m*sz:=by
  have:(i+1)*sz<=m*sz:=Nat.mul_le_mul_right _ mz;rw[Nat.add_mul,Nat.one_mul]at this;omega
 simp only[Dg,ld,lc hlt,Option.map_some];have h1:(i*sz+j)/sz=i:=by rw[Nat.mul_comm,Nat.mul_add_div hsz,Nat.div_eq_of_lt hj,Nat.add_zero]
 have h2:(i*sz+j) % sz=j:=by rw[Nat.mul_comm,Nat.mul_add_mod,Nat.mod_eq_of_lt hj]
 rw[h1,h2]
theorem fR{n sz len:Nat}{f:Nat->Nat->Cl}{ty:TypeId}{V:Value}(hV:R M σ (.own n sz len) V)(hb:Bl M σ w (σ n) (.row sz len f ty)) :
  ∃(xs:List Value) (g:Nat->Nat->Value),w.ownsRow 0 ty sz V len xs/\(∀i j,i<len->j<sz->xs[i*sz+j]? = some (g i j)/\RC M (f i j) (g i j))/\(V.ownBlock=if (σ n).nil then none else some (σ n).b):=by
 simp only[R]at hV;rcases hb with ⟨h0,rfl⟩|⟨h0,c,hc,h1,h2,h3,gv,hg⟩
 ·rw[h0]at hV;simp only[if_true]at hV;obtain⟨_,rfl⟩:=hV;exact⟨[],fun _ _=>undef,World.ownsRow_nil w 0 ty sz,fun i j hi=>absurd hi mz,by simp[Value.ownBlock,h0]⟩
 rw[h0]at hV;simp only[Bool.false_eq_true,if_false]at hV;subst hV;have hle:len*sz<=c.size:=by rw[h1];exact Nat.mul_le_mul_right _ h2
 refine⟨c.toList.take (len*sz),gv,⟨by simp;omega,.inr ⟨(σ n).b,(σ n).cap,c,rfl,lv _,hc,h2,h3,h1,rfl⟩⟩,fun i j hi hj=>?_,by simp[Value.ownBlock,h0]⟩;have hlt:i*sz+j<len*sz:=by
  have:(i+1)*sz<=len*sz:=Nat.mul_le_mul_right _ mz;rw[Nat.add_mul,Nat.one_mul]at this;omega
 rw[List.getElem?_take_of_lt hlt];simpa using hg i j hi hj
def iS(M:m5)(w:World)(sz m:Nat)(fm:Nat->Nat->Cl)(U:Value):Prop :=
 (m=0/\(U=.slice none 0 0\/∃(p:Addr) (cap:Nat),U=.slice (some p) 0 cap))\/∃(b off cap:Nat) (gm:Nat->Nat->Value),U=.slice (some ⟨b,off,none⟩) m cap/\∀i j,i<m->j<sz->w.cell? ⟨b,off+(i*sz+j),none⟩=some (gm i j)/\RC M (fm i j) (gm i j)
theorem SZ{tg:Bool}{sz m:Nat}{fm:Nat->Nat->Cl}{U:Value}(hU:RC M (.list tg sz m fm) U)(himm:∀b o,M b=some o->w.heap[b]? = some o):iS M w sz m fm U:=by
 cases hU with
 |nil=>exact .inl ⟨rfl,.inl rfl⟩
 |mt _ _ _ p cap=>exact .inl ⟨rfl,.inr ⟨p,cap,rfl⟩⟩
 |list _ _ _ _ b off cap gm g1 g2 _ _=>exact .inr ⟨b,off,cap,gm,rfl,fun i j hi hj=>⟨JN himm (g1 i j hi hj),g2 i j hi hj⟩⟩
theorem fT{q sz lo m len:Nat}{f:Nat->Nat->Cl}{ty:TypeId}{U:Value}(hU:R M σ (.osl q sz lo m) U)(hb:Bl M σ w (σ q) (.row sz len f ty))(hm:lo+m<=len):iS M w sz m (fun i j=>f (i+lo) j) U:=by
 simp only[R]at hU;rcases hb with ⟨h0,h9⟩|⟨h0,c,hc,h1,h2,h3,gv,hg⟩
 ·rw[h0]at hU;simp only[if_true]at hU;exact .inl ⟨hU.2.1,.inl hU.2.2⟩
 rw[h0]at hU;simp only[Bool.false_eq_true,if_false]at hU
 by_cases hcl:(σ q).cap=lo
 ·have nq:m=0:=by omega
  subst nq;exact .inl ⟨rfl,.inr ⟨_,_,hU⟩⟩
 rw[if_neg hcl]at hU;refine .inr ⟨_,_,_,fun i j=>gv (i+lo) j,hU,fun i j hi hj=>⟨?_,(hg (i+lo) j mz hj).2⟩⟩;have:=(hg (i+lo) j mz hj).1;rw[Nat.add_mul]at this;simp only[World.cell?,hc];rw[show lo*sz+(i*sz+j)=i*sz+lo*sz+j by omega];exact this
theorem wD{q sz len n:Nat}{f:Nat->Nat->Cl}{ty:TypeId}(hb:Bl M σ w (σ q) (.row sz len f ty))(hn:n<=len):Bl M σ w (σ q) (.row sz n f ty):=by
 rcases hb with ⟨h0,h9⟩|⟨h0,c,hc,h1,h2,h3,gv,hg⟩
 ·exact .inl ⟨h0,by omega⟩
 exact .inr ⟨h0,c,hc,h1,by omega,h3,gv,fun i j hi hj=>hg i j mz hj⟩
theorem cF{q sz n:Nat}{V:Value}(hV:R M σ (.osl q sz 0 n) V):R M σ (.own q sz n) V:=by
 simp only[R]at hV ⊢;cases h0:(σ q).nil with
 |true=>rw[h0]at hV;simp only[if_true]at hV ⊢;exact hV.2
 |false =>
  rw[h0]at hV;simp only[Bool.false_eq_true,if_false,Nat.zero_mul,ite_self,Nat.sub_zero]at hV ⊢;exact hV
theorem LA{T el:TypeId}{ty:TypeId}{s:Nat}{ag:Bool}(ht:ti P T=some ⟨s,ag,.slice el⟩){i:TypeInfo}(hi:P.info? el=some i){z:List Cl}(hz:FO P el=some z){sz:Nat}(hsz:i.size=sz)(hzl:z.length=sz)(hpos:0<sz)
 {V U:Value}{len m:Nat}{xs:List Value}{f0:Nat->Nat->Cl}{gx:Nat->Nat->Value}(hown:w.ownsRow 0 el sz V len xs)(hx:∀i j,i<len->j<sz->xs[i*sz+j]? = some (gx i j)/\RC M (f0 i j) (gx i j)){fm:Nat->Nat->Cl}(hU:iS M w sz m fm U)
 (h63:len+m<=maxLen)(hbytes:(len+m)*i.bytes<=140737488355328) :
  ∃V' w' x,(Builtin.append_ #[T,T] ty #[V,U]).run P w=.ok V' w'/\w.grownBy w' V.ownBlock/\(∀σ':Nat->Loc,Bl M σ' w' x (.row sz (len+m) (fun i j=>if i<len then f0 i j else fm (i-len) j) el)) /\
   (if x.nil then len+m=0/\V'=.slice none 0 0 else V'=.slice (some ⟨x.b,0,none⟩) (len+m) x.cap)/\(x.nil=true\/some x.b=V.ownBlock\/x.b=w.heap.size):=by
 obtain⟨i',v,hi',hv,hzL,hzv,_⟩:=FE (M:=M) (σ:=fun _=>⟨0,0,false⟩) (w:=w) hz;rw[hi]at hi';injection hi' with hi'
 subst hi';have hvs:v.cells.size=sz:=by have:=hzL.length;rw[hzl]at this;simpa using this.symm
 obtain⟨_,_,_,hund,_⟩:=Bk ht w;have finish:∀(V':Value) (w':World) (ys:List Value) (gy:Nat->Nat->Value),(∀i j,i<m->j<sz->ys[i*sz+j]? = some (gy i j)/\RC M (fm i j) (gy i j))->w'.ownsRow 0 el sz V' (len+m) (xs++ys) ->
   ∃x:Loc,(∀σ':Nat->Loc,Bl M σ' w' x (.row sz (len+m) (fun i j=>if i<len then f0 i j else fm (i-len) j) el))/\(if x.nil then len+m=0/\V'=.slice none 0 0 else V'=.slice (some ⟨x.b,0,none⟩) (len+m) x.cap)/\V'.ownBlock=if x.nil then none else some x.b:=by
  intro V' w' ys gy hy ho;rcases ho.2 with ⟨rfl,h0⟩|⟨b,cap,cur,rfl,_,hcur,h1,h2,h3,h4⟩
  ·exact⟨⟨0,0,true⟩,fun _=>.inl ⟨rfl,h0⟩,by simp[h0],rfl⟩
  refine⟨⟨b,cap,false⟩,fun _=>.inr ⟨rfl,cur,hcur,h3,h1,h2,fun i j=>if i<len then gx i j else gy (i-len) j,fun i j hi hj=>?_⟩,by simp,by simp[Value.ownBlock]⟩;have hlt:i*sz+j<(len+m)*sz:=by
   have:(i+1)*sz<=(len+m)*sz:=Nat.mul_le_mul_right _ mz;rw[Nat.add_mul,Nat.one_mul]at this;omega
  have hc:cur[i*sz+j]? = (xs++ys)[i*sz+j]? := by
   rw[<- h4,List.getElem?_take_of_lt hlt];simp
  rw[hc];have hxl:=hown.1
  by_cases hil:i<len
  ·simp only[if_pos hil];have hlt':i*sz+j<xs.length:=by
    rw[hxl];have:(i+1)*sz<=len*sz:=Nat.mul_le_mul_right _ mz;rw[Nat.add_mul,Nat.one_mul]at this;omega
   rw[la hlt'];exact hx i j hil hj
  simp only[if_neg hil];have hge:xs.length<=i*sz+j:=by
   rw[hxl];have:len*sz<=i*sz:=Nat.mul_le_mul_right _ mz;omega
  rw[kz hge,hxl];have:i*sz+j-len*sz=(i-len)*sz+j:=by
   rw[Nat.sub_mul];have:len*sz<=i*sz:=Nat.mul_le_mul_right _ mz;omega
  rw[this];exact hy (i-len) j mz hj
 rcases hU with ⟨rfl,rfl|⟨p0,cap,rfl⟩⟩|⟨b,off,cap,gm,rfl,g12⟩
 ·have hrun:=run_append_owned_none (P:=P) (w:=w) 0 T ty el i sz hund hi V len xs hown;obtain⟨x,hx1,hx2,hx3⟩:=finish V w [] (fun _ _=>undef) (fun i j hi=>absurd hi mz) (by simpa using hown);refine⟨V,w,x,hrun,⟨rfl,rfl,rfl,lu _,fun _ _ _=>rfl⟩,hx1,hx2,?_⟩;cases hn:x.nil
  ·rw[hn]at hx3;exact .inr (.inl (by simpa using hx3.symm))
  exact .inl rfl
 ·obtain⟨V',w',hrun,hown',hgrow,_,hat⟩:=run_append_own_at (P:=P) w 0 T ty el i v sz i.bytes hund hi hv hsz rfl hvs hpos V len xs hown p0 0 cap [] m3 (fun j u hj=>by simp at hj) (fun u hu=>by cases hu) h63 hbytes (lv _);obtain⟨x,hx1,hx2,hx3⟩:=finish V' w' [] (fun _ _=>undef) (fun i j hi=>absurd hi mz) hown';refine⟨V',w',x,hrun,hgrow,hx1,hx2,?_⟩;cases hn:x.nil
  ·rw[hn]at hx3;simp only[Bool.false_eq_true,if_false]at hx3;rw[hx3]at hat;rcases hat with h|h
   ·exact .inr (.inl h)
   exact .inr (.inr (by simpa using h))
  exact .inl rfl
 have g1:=fun i j hi hj=>(g12 i j hi hj).1;have g2:=fun i j hi hj=>(g12 i j hi hj).2;have hnl:(Dg sz m gm).length=m*sz:=by simp[Dg]
 have hnews:∀(j:Nat) u,(Dg sz m gm)[j]? = some u->w.cell? ((⟨b,off,none⟩:Addr).add j)=some u:=by
  intro j u hj;have hjl:j<m*sz:=by have:=(List.getElem?_eq_some_iff.1 hj).1;rwa [hnl]at this
  have hdm:=Nat.div_add_mod j sz;have hmod:=Nat.mod_lt j hpos;have hdiv:j/sz<m:=Nat.div_lt_of_lt_mul (by rw[Nat.mul_comm];exact hjl);have hg:=g1 (j/sz) (j % sz) hdiv hmod;have:=GP gm hpos hdiv hmod;rw[show j/sz*sz+j % sz=j by rw[Nat.mul_comm];exact hdm]at this hg;rw[this]at hj;injection hj with hj
  subst hj;rw[Addr.add_lit];exact hg
 have h1:∀u∈Dg sz m gm,u.oneCell'=true:=by
  intro u hu;obtain⟨k,hk,rfl⟩:=List.mem_map.1 hu;have hk:=List.mem_range.1 hk;exact MK (M:=M) (σ:=fun _=>⟨0,0,false⟩) (QC (g2 (k/sz) (k % sz) (Nat.div_lt_of_lt_mul (by rw[Nat.mul_comm];exact hk)) (Nat.mod_lt _ hpos)))
 obtain⟨V',w',hrun,hown',hgrow,_,hat⟩:=run_append_own_at (P:=P) w 0 T ty el i v sz i.bytes hund hi hv hsz rfl hvs hpos V len xs hown ⟨b,off,none⟩ m cap (Dg sz m gm) hnl hnews h1 h63 hbytes (lv _);obtain⟨x,hx1,hx2,hx3⟩:=finish V' w' (Dg sz m gm) gm (fun i j hi hj=>⟨GP gm hpos hi hj,g2 i j hi hj⟩) hown';refine⟨V',w',x,hrun,hgrow,hx1,hx2,?_⟩;cases hn:x.nil
 ·rw[hn]at hx3;simp only[Bool.false_eq_true,if_false]at hx3;rw[hx3]at hat;rcases hat with h|h
  ·exact .inr (.inl h)
  exact .inr (.inr (by simpa using h))
 exact .inl rfl
theorem FG{w w':World}{V:Value}(hs:∀b o,M b=some o->w.heap[b]? = some o)(hg:w.grownBy w' V.ownBlock)(ex:Nat->Prop)(hex:∀b,V.ownBlock=some b->ex b/\M b=none):Gk w w' M M ex:=by
 refine⟨hg.os,hg.tape,hg.output,hg.size,fun b hb hne=>hg.block b hb fun e=>hne (hex b e.symm).1,fun _ _ h=>h,fun _ _ h h'=>by(rw[h]at h';cases h'),fun b o hm=>?_⟩;rw[hg.block b (Array.getElem?_eq_some_iff.1 (hs b o hm)).1 fun e=>by(rw[(hex b e.symm).2]at hm;cases hm)];exact hs b o hm
theorem lF{f:Nat->Nat->Cl}{V:Value}(h:RC M (.list true 0 0 f) V):∃a0,V=.slice (some a0) 0 0:=by
 cases h with
 |nil _ _ _ h0=>cases h0
 |mt _ _ _ a0 cap h5=>exact⟨a0,by rw[h5 rfl rfl]⟩
 |list _ _ _ _ b off cap g h1 h2 h4 h5=>exact⟨_,by rw[h5 rfl rfl]⟩
set_option maxHeartbeats 1000000 in
theorem dY{T el:TypeId}{ty:TypeId}{s:Nat}{ag:Bool}(ht:ti P T=some ⟨s,ag,.slice el⟩){i:TypeInfo}(hi:P.info? el=some i){z:List Cl}(hz:FO P el=some z){sz:Nat}(hsz:i.size=sz)(hzl:z.length=sz)(hpos:0<sz)
 {a0:Addr}{U:Value}{m:Nat}{tg:Bool}{fm:Nat->Nat->Cl}(hU:RC M (.list tg sz m fm) U)(himm:∀b o,M b=some o->w.heap[b]? = some o)(h63:m<=maxLen)(hbytes:m*i.bytes<=140737488355328) :
  ∃V' w' M',(Builtin.append_ #[T,T] ty #[.slice (some a0) 0 0,U]).run P w=.ok V' w'/\Gk w w' M M' M7/\RC M' (.list false sz m fm) V':=by
 obtain⟨_,_,_,hund,_⟩:=Bk ht w
 by_cases hm:m=0
 ·subst hm;refine⟨.slice (some a0) 0 0,w,M,?_,⟨rfl,rfl,rfl,lu _,fun _ _ _=>rfl,fun _ _ h=>h,fun _ _ h h'=>by(rw[h]at h';cases h'),himm⟩,.mt false sz fm a0 0 (fun h=>by cases h)⟩;cases hU<;>simp[Builtin.append_,run_underlying hund,sizeOf,typeInfo,hi,Builtin.lenOf,Builtin.firstCells,loadCells,loadCellsFrom,storeCells]
 obtain⟨V',w',x,hrun,hgrow,hblk,hval,hwhere⟩:=LA (ty:=ty) (f0:=fun _ _=>default) (gx:=fun _ _=>undef) ht hi hz hsz hzl hpos (World.ownsRow_nil w 0 el sz) (fun i j hi=>absurd hi mz) (SZ hU himm) (by simpa using h63) (by simpa using hbytes);have hrun2:(Builtin.append_ #[T,T] ty #[.slice (some a0) 0 0,U]).run P w=.ok V' w':=by
  refine Eq.trans ?_ hrun;clear hrun hgrow hblk hval hwhere;obtain⟨i',v,hi',hv,hzL,hzv,_⟩:=FE (M:=M) (σ:=fun _=>⟨0,0,false⟩) (w:=w) hz;rw[hi]at hi';injection hi' with hi'
  subst hi';cases hU with
  |nil=>exact absurd rfl hm
  |mt=>exact absurd rfl hm
  |list _ _ _ _ b off cap gm g1 g2 g4 _ =>
   have hnl:(Dg sz m gm).length=m*sz:=by simp[Dg]
   have hnews:∀(j:Nat) u,(Dg sz m gm)[j]? = some u->w.cell? ((⟨b,off,none⟩:Addr).add j)=some u:=by
    intro j u hj;have hjl:j<m*sz:=by have:=(List.getElem?_eq_some_iff.1 hj).1;rwa [hnl]at this
    have hdm:=Nat.div_add_mod j sz;have hmod:=Nat.mod_lt j hpos;have hdiv:j/sz<m:=Nat.div_lt_of_lt_mul (by rw[Nat.mul_comm];exact hjl);have hg:=g1 (j/sz) (j % sz) hdiv hmod;have:=GP gm hpos hdiv hmod;rw[show j/sz*sz+j % sz=j by rw[Nat.mul_comm];exact hdm]at this hg;rw[this]at hj;injection hj with hj
    subst hj;rw[Addr.add_lit];exact JN himm hg
   have hm63:(m:Int)<=9223372036854775807:=by unfold maxLen at h63;omega
   rw[run_append_nil (P:=P) w T ty el i v hund hi hv ⟨b,off,none⟩ m cap (Dg sz m gm) (by rw[hsz];exact hnl) hnews mz hm63 mz,
    run_append_grow (P:=P) w T ty el i v hund hi hv a0 0 0 [] m3 (fun j u hj=>by simp at hj) ⟨b,off,none⟩ m cap (Dg sz m gm) (by rw[hsz];exact hnl) hnews mz (by simpa using hm63) (by rw[mw,nextslicecap_zero mz];omega)]
   simp
 simp only[mw,lw,if_false,Nat.sub_zero]at hblk hval;cases hn:x.nil with
 |true=>rw[hn]at hval;exact absurd hval.1 hm
 |false =>
  rw[hn]at hval;simp only[Bool.false_eq_true,if_false]at hval;subst hval;have hxb:x.b=w.heap.size:=by
   rcases hwhere with h|h|h
   ·rw[hn]at h;cases h
   ·cases h
   exact h
  have hxM:M x.b=none:=by
   cases hmm:M x.b with
   |none=>rfl
   |some y=>have:=(Array.getElem?_eq_some_iff.1 (himm _ _ hmm)).1;omega
  have hk:=FG (M:=M) himm hgrow M7 (fun b hb=>by cases hb);rcases hblk (fun _=>x)with ⟨h0,_⟩|⟨_,c,hc,h1,h2,h3,g,hg⟩
  ·rw[hn]at h0;cases h0
  have key:∀b o,M b=some o->b≠x.b:=fun b o ho e=>by rw[e,hxM]at ho;cases ho
  refine⟨_,w',fun b=>if b=x.b then some (.cells c el)else M b,hrun2,⟨hk.os,hk.tape,hk.output,hk.size,hk.old,fun b o ho=>?_,fun b o ho h0=>?_,fun b o ho=>?_⟩,?_⟩
  ·simp only[if_neg (key b o ho)];exact ho
  ·by_cases e:b=x.b
   ·omega
   simp only[if_neg e]at ho;rw[ho]at h0;cases h0
  ·by_cases e:b=x.b
   ·simp only[if_pos e,l7]at ho;rw[e,<- ho];exact hc
   simp only[if_neg e]at ho;exact hk.imm b o ho
  refine .list false sz m fm x.b 0 x.cap g (fun i j hi hj=>?_) (fun i j hi hj=>FS (fun b o ho=>?_) (hg i j hi hj).2) h2 (fun h=>by cases h)
  ·simp only[F2,if_pos];rw[mw];exact(hg i j hi hj).1
  simp only[if_neg (key b o ho)];exact ho
theorem W9{sz:Nat}(h:Nat.beq sz 0=false):0<sz:=by
 rcases Nat.eq_zero_or_pos sz with h0|h0
 ·rw[h0]at h;simp[Nat.beq]at h
 exact h0
theorem vL{T el:TypeId}{ty:TypeId}{s:Nat}{ag:Bool}(ht:ti P T=some ⟨s,ag,.slice el⟩){i:TypeInfo}(hi:P.info? el=some i){T2:TypeId}{sz:Nat}(hsz:i.size=sz)(hpos:0<sz){b o1 n1 cap1:Nat}{c:List Value}{t:TypeId}(hb:w.heap[b]? = some (.cells c.toArray t))
 {U:Value}{n2:Nat}{fm:Nat->Nat->Cl}(hU:iS M w sz n2 fm U)(hfit:o1+Nat.min n2 n1*sz<=c.length) :
  ∃us w',(Builtin.copy_ #[T,T2] ty #[.slice (some ⟨b,o1,none⟩) n1 cap1,U]).run P w=.ok (goInt (Nat.min n2 n1)) w'/\us.length=Nat.min n2 n1*sz/\(∃gm:Nat->Nat->Value,∀i j,i<Nat.min n2 n1->j<sz->us[i*sz+j]? = some (gm i j)/\RC M (fm i j) (gm i j)) /\
   w'.heap[b]? = some (.cells (JD c o1 us).toArray t)/\w'.heap.size=w.heap.size/\w'.os=w.os/\w'.tape=w.tape/\w'.output=w.output/\∀k,k≠b->w'.heap[k]? = w.heap[k]? := by
 obtain⟨_,_,_,hund,_⟩:=Bk ht w;rcases hU with ⟨rfl,hU⟩|⟨b2,off,cap,gm,rfl,g12⟩
 ·have h0:Nat.min 0 n1=0:=Nat.zero_min n1;rw[h0];refine⟨[],w,?_,by simp,⟨fun _ _=>undef,fun i j h=>absurd h (lw _)⟩,by simpa [JD]using hb,rfl,rfl,rfl,rfl,fun _ _=>rfl⟩;rcases hU with rfl|⟨p,cap,rfl⟩<;>simp[Builtin.copy_,run_underlying hund,Builtin.lenOf,Builtin.firstCells,sizeOf,typeInfo,hi,h0,loadCells,loadCellsFrom,storeCells]
 have hle:Nat.min n2 n1<=n2:=Nat.min_le_left _ _;have g1:=fun i j (hi:i<Nat.min n2 n1) hj=>(g12 i j (lp hi hle) hj).1;have g2:=fun i j (hi:i<Nat.min n2 n1) hj=>(g12 i j (lp hi hle) hj).2;generalize hm:Nat.min n2 n1=m at *;have hnl:(Dg sz m gm).length=m*sz:=by simp[Dg]
 have hnews:∀(j:Nat) u,(Dg sz m gm)[j]? = some u->w.cell? ((⟨b2,off,none⟩:Addr).add j)=some u:=by
  intro j u hj;have hjl:j<m*sz:=by have:=(List.getElem?_eq_some_iff.1 hj).1;rwa [hnl]at this
  have hdm:=Nat.div_add_mod j sz;have hmod:=Nat.mod_lt j hpos;have hdiv:j/sz<m:=Nat.div_lt_of_lt_mul (by rw[Nat.mul_comm];exact hjl);have hg:=g1 (j/sz) (j % sz) hdiv hmod;have:=GP gm hpos hdiv hmod;rw[show j/sz*sz+j % sz=j by rw[Nat.mul_comm];exact hdm]at this hg;rw[this]at hj;injection hj with hj
  subst hj;rw[Addr.add_lit];exact hg
 have h1:∀u∈Dg sz m gm,u.oneCell'=true:=by
  intro u hu;obtain⟨k,hk,rfl⟩:=List.mem_map.1 hu;have hk:=List.mem_range.1 hk;exact MK (M:=M) (σ:=fun _=>⟨0,0,false⟩) (QC (g2 (k/sz) (k % sz) (Nat.div_lt_of_lt_mul (by rw[Nat.mul_comm];exact hk)) (Nat.mod_lt _ hpos)))
 have hl:=run_loadCells_list (P:=P) w ⟨b2,off,none⟩ (Dg sz m gm) hnews;rw[hnl]at hl;obtain⟨w',h2,h3,h4,h5,h6,h7,h8⟩:=E7 (P:=P) (Dg sz m gm) c o1 w hb (by rw[hnl];exact hfit) h1 0 o1 mz;refine⟨Dg sz m gm,w',?_,hnl,⟨gm,fun i j hi hj=>⟨GP gm hpos hi hj,g2 i j hi hj⟩⟩,h3,h4,h5,h6,h7,h8⟩;simp[Builtin.copy_,run_underlying hund,Builtin.lenOf,Builtin.firstCells,sizeOf,typeInfo,hi,hsz,hm,hl,h2]
theorem rP{n sz len:Nat}{f:Nat->Nat->Cl}{ty:TypeId}{hh:List (Nat×List Cl)}{V:Value}(hV:R M σ (.own n sz len) V)(hb:Bl M σ w (σ n) (.rowx sz len f ty hh)) :
  ∃(xs:List Value) (g:Nat->Nat->Value),w.ownsRow 0 ty sz V len xs/\(∀i j,i<len->j<sz->xs[i*sz+j]? = some (g i j)/\(get hh i=none->RC M (f i j) (g i j)))/\(∀i l,get hh i=some l->i<len/\L2 (R M σ) l ((List.range sz).map (g i)))/\V.ownBlock=some (σ n).b/\V=.slice (some ⟨(σ n).b,0,none⟩) len (σ n).cap:=by
 simp only[R]at hV;obtain⟨h0,c,hc,h1,h2,h3,gv,hg,hx⟩:=hb;rw[h0]at hV;simp only[Bool.false_eq_true,if_false]at hV;subst hV;have hle:len*sz<=c.size:=by rw[h1];exact Nat.mul_le_mul_right _ h2
 refine⟨c.toList.take (len*sz),gv,⟨by simp;omega,.inr ⟨(σ n).b,(σ n).cap,c,rfl,lv _,hc,h2,h3,h1,rfl⟩⟩,fun i j hi hj=>?_,hx,rfl,rfl⟩;have hlt:i*sz+j<len*sz:=by
  have:(i+1)*sz<=len*sz:=Nat.mul_le_mul_right _ mz;rw[Nat.add_mul,Nat.one_mul]at this;omega
 rw[List.getElem?_take_of_lt hlt];simpa using hg i j hi hj
theorem Us{α:Type}(k:Nat):∀(l:List (Nat×α)) (n:Nat) (v:α),get (l.map fun p=>(k+p.1,p.2)) n=some v->∃m,n=k+m/\get l m=some v
 |[],n,v,h=>by cases h
 |(i,u)::l,n,v,h=>by
  simp only[List.map_cons,get,Cb]at h
  by_cases e:k+i=n
  ·simp only[e,ml,mi,l7]at h;exact⟨i,e.symm,by simp[get,Nat.beq_refl,h]⟩
  simp only[e,mm,mj]at h;obtain⟨m,h1,h2⟩:=Us k l n v h;refine⟨m,h1,?_⟩;simp only[get,Cb]
  by_cases e2:i=m
  ·omega
  simp[e2,h2]
theorem TJ{α:Type}(k:Nat):∀(l:List (Nat×α)) (m:Nat),get (l.map fun p=>(k+p.1,p.2)) (k+m)=get l m
 |[],m=>rfl
 |(i,u)::l,m=>by
  simp only[List.map_cons,get,Cb]
  by_cases e:i=m
  ·simp[e]
  have:¬ k+i=k+m:=by omega
  simp only[e,this,mm,mj];exact TJ k l m
theorem ZC{α:Type}(l m:List (Nat×α))(n:Nat):get (l++m) n=match get l n with|some v=>some v|none=>get m n:=by
 induction l with
 |nil=>rfl
 |cons p r ih =>
  obtain⟨k,v⟩:=p;simp only[List.cons_append,get,Cb]
  by_cases h:k=n
  ·simp[h]
  simp only[h,mm,mj,ih]
set_option maxHeartbeats 1000000 in
theorem Qk{T el:TypeId}{ty:TypeId}{s:Nat}{ag:Bool}(ht:ti P T=some ⟨s,ag,.slice el⟩){i:TypeInfo}(hi:P.info? el=some i){z:List Cl}(hz:FO P el=some z){sz:Nat}(hsz:i.size=sz)(hzl:z.length=sz)(hpos:0<sz)
 {V U:Value}{len m:Nat}{xs:List Value}{f0 fm:Nat->Nat->Cl}{h0 hm:List (Nat×List Cl)}{gx gm:Nat->Nat->Value}{b off cap:Nat}(hown:w.ownsRow 0 el sz V len xs)(hx:∀i j,i<len->j<sz->xs[i*sz+j]? = some (gx i j)/\(get h0 i=none->RC M (f0 i j) (gx i j)))
 (hx2:∀i l,get h0 i=some l->i<len/\L2 (R M σ) l ((List.range sz).map (gx i)))
 (hU:U=.slice (some ⟨b,off,none⟩) m cap)(g1:∀i j,i<m->j<sz->w.cell? ⟨b,off+(i*sz+j),none⟩=some (gm i j))(g2:∀i j,i<m->j<sz->get hm i=none->RC M (fm i j) (gm i j))(g3:∀i l,get hm i=some l->i<m/\L2 (R M σ) l ((List.range sz).map (gm i)))
 (h63:len+m<=maxLen)(hbytes:(len+m)*i.bytes<=140737488355328)(hlm:0<len+m) :
  ∃V' w' x,(Builtin.append_ #[T,T] ty #[V,U]).run P w=.ok V' w'/\w.grownBy w' V.ownBlock/\(∀σ':Nat->Loc,(∀c∈(h0++hm).flatMap (·.2),∀d,c.no d=false->σ' d=σ d)->Bl M σ' w' x (.rowx sz (len+m) (fun i j=>if i<len then f0 i j else fm (i-len) j) el (h0++hm.map fun p=>(len+p.1,p.2)))) /\
   x.nil=false/\V'=.slice (some ⟨x.b,0,none⟩) (len+m) x.cap/\(some x.b=V.ownBlock\/x.b=w.heap.size):=by
 obtain⟨i',v,hi',hv,hzL,hzv,_⟩:=FE (M:=M) (σ:=fun _=>⟨0,0,false⟩) (w:=w) hz;rw[hi]at hi';injection hi' with hi'
 subst hi';have hvs:v.cells.size=sz:=by have:=hzL.length;rw[hzl]at this;simpa using this.symm
 obtain⟨_,_,_,hund,_⟩:=Bk ht w;subst hU;have hnl:(Dg sz m gm).length=m*sz:=by simp[Dg]
 have hnews:∀(j:Nat) u,(Dg sz m gm)[j]? = some u->w.cell? ((⟨b,off,none⟩:Addr).add j)=some u:=by
  intro j u hj;have hjl:j<m*sz:=by have:=(List.getElem?_eq_some_iff.1 hj).1;rwa [hnl]at this
  have hdm:=Nat.div_add_mod j sz;have hmod:=Nat.mod_lt j hpos;have hdiv:j/sz<m:=Nat.div_lt_of_lt_mul (by rw[Nat.mul_comm];exact hjl);have hg:=g1 (j/sz) (j % sz) hdiv hmod;have:=GP gm hpos hdiv hmod;rw[show j/sz*sz+j % sz=j by rw[Nat.mul_comm];exact hdm]at this hg;rw[this]at hj;injection hj with hj
  subst hj;rw[Addr.add_lit];exact hg
 have h1:∀u∈Dg sz m gm,u.oneCell'=true:=by
  intro u hu;obtain⟨k,hk,rfl⟩:=List.mem_map.1 hu;have hk:=List.mem_range.1 hk;have hdiv:=Nat.div_lt_of_lt_mul (show k<sz*m by rw[Nat.mul_comm];exact hk);have hmod:=Nat.mod_lt k hpos;cases hg:get hm (k/sz)with
  |none=>exact MK (M:=M) (σ:=fun _=>⟨0,0,false⟩) (QC (g2 _ _ hdiv hmod hg))
  |some l =>
   obtain⟨_,hl⟩:=g3 _ l hg;have hlen:=hl.length;have hk2:k % sz<l.length:=by rw[hlen];simpa using hmod
   obtain⟨u,hu,hR⟩:=hl.get _ _ (ea hk2);simp only[ld,lc hmod,Option.map_some,l7]at hu;rw[hu];exact MK hR
 obtain⟨V',w',hrun,hown',hgrow,_,hat⟩:=run_append_own_at (P:=P) w 0 T ty el i v sz i.bytes hund hi hv hsz rfl hvs hpos V len xs hown ⟨b,off,none⟩ m cap (Dg sz m gm) hnl hnews h1 h63 hbytes (lv _);rcases hown'.2 with ⟨_,h0'⟩|⟨bb,cap',cur,rfl,_,hcur,k1,k2,k3,k4⟩
 ·omega
 refine⟨_,w',⟨bb,cap',false⟩,hrun,hgrow,fun σ' hσ'=>⟨rfl,cur,hcur,k3,k1,k2,fun i j=>if i<len then gx i j else gm (i-len) j,fun i j hi hj=>⟨?_,fun hn=>?_⟩,fun i l hl=>?_⟩,rfl,rfl,?_⟩
 ·have hlt:i*sz+j<(len+m)*sz:=by
   have:(i+1)*sz<=(len+m)*sz:=Nat.mul_le_mul_right _ mz;rw[Nat.add_mul,Nat.one_mul]at this;omega
  have hc:cur[i*sz+j]? = (xs++Dg sz m gm)[i*sz+j]? := by
   rw[<- k4,List.getElem?_take_of_lt hlt];simp
  rw[hc];have hxl:=hown.1
  by_cases hil:i<len
  ·simp only[if_pos hil];have hlt':i*sz+j<xs.length:=by
    rw[hxl];have:(i+1)*sz<=len*sz:=Nat.mul_le_mul_right _ mz;rw[Nat.add_mul,Nat.one_mul]at this;omega
   rw[la hlt'];exact(hx i j hil hj).1
  simp only[if_neg hil];have hge:xs.length<=i*sz+j:=by
   rw[hxl];have:len*sz<=i*sz:=Nat.mul_le_mul_right _ mz;omega
  rw[kz hge,hxl];have:i*sz+j-len*sz=(i-len)*sz+j:=by
   rw[Nat.sub_mul];have:len*sz<=i*sz:=Nat.mul_le_mul_right _ mz;omega
  rw[this];exact GP gm hpos mz hj
 ·rw[ZC]at hn;cases hg:get h0 i with
  |some l=>rw[hg]at hn;cases hn
  |none =>
   rw[hg]at hn;simp only at hn
   by_cases hil:i<len
   ·simp only[if_pos hil];exact(hx i j hil hj).2 hg
   simp only[if_neg hil];refine g2 (i-len) j mz hj ?_;rw[<- TJ len hm (i-len),show len+(i-len)=i by omega];exact hn
 ·rw[ZC]at hl;have mono:∀(l:List Cl) (c:List Value),(∀x∈l,x∈(h0++hm).flatMap (·.2))->L2 (R M σ) l c->L2 (R M σ') l c:=fun l c hin h=>h.mono fun x hx u hu=>DO (fun _ _ h=>h) (hσ' x (hin x hx)) hu
  cases hg:get h0 i with
  |some l0 =>
   rw[hg]at hl;simp only[l7]at hl;subst hl;obtain⟨h2,h3⟩:=hx2 i l0 hg;refine⟨by omega,?_⟩;have e:(List.range sz).map (fun j=>if i<len then gx i j else gm (i-len) j)=(List.range sz).map (gx i):=by simp only[if_pos h2]
   rw[e];exact mono l0 _ (fun x hx=>List.mem_flatMap.2 ⟨_,List.mem_append_left _ (DH hg),hx⟩) h3
  |none =>
   rw[hg]at hl;simp only at hl;obtain⟨k,rfl,hk⟩:=Us len hm i l hl;obtain⟨h2,h3⟩:=g3 k l hk;refine⟨by omega,?_⟩;have e:(List.range sz).map (fun j=>if len+k<len then gx (len+k) j else gm (len+k-len) j)=(List.range sz).map (gm k):=by
    simp only[show ¬ len+k<len by omega,if_false,show len+k-len=k by omega]
   rw[e];exact mono l _ (fun x hx=>List.mem_flatMap.2 ⟨_,List.mem_append_right _ (DH hk),hx⟩) h3
 rcases hat with h|h
 ·exact .inl h
 exact .inr (Option.some.inj h)
theorem Qx{c:Call}{b:Builtin}(hc:c.callee=.builtin b)(T:TypeId):∃K,(resolve a.eval c T).run P w=.ok { target:=.builtin b c.argTypes T K,args:=c.args.map a.eval } w:=by
 simp only[resolve,hc,Sem.run_pure];exact⟨_,rfl⟩
theorem tsOf{ts:Array TypeId}{l:List (Option TI)}(h:ts.toList.map (ti P)=l):∀i:Nat,(ts[i]?).map (ti P)=l[i]? := by
 intro i;rw[<- h];simp
theorem RG{ts:Array TypeId}{t:TI}(h:ts.toList.map (ti P)=[some t]){ty:TypeId}{V:Value}{n:Int}(hV:(t.d=.string/\∃s:my,V=.string s/\n=s.size)\/(∃el,t.d=.slice el)/\∃(p:Option Addr) (k c:Nat),V=.slice p k c/\n=(k:Int)):(Builtin.len_ ts ty #[V]).run P w=.ok (.int .i64 n) w:=by
 have h0:=tsOf h 0;simp only[List.getElem?_cons_zero]at h0;cases hts:ts[0]? with
 |none=>rw[hts]at h0;cases h0
 |some T =>
  rw[hts]at h0;simp only[Option.map_some,l7]at h0;obtain⟨_,_,hu,_,_⟩:=Bk h0 w;rcases hV with ⟨hd,s,rfl,rfl⟩|⟨⟨el,hd⟩,p,k,c,rfl,rfl⟩
  ·rw[hd]at hu;simp[Builtin.len_,hts,hu,goInt]
  rw[hd]at hu;simp[Builtin.len_,hts,hu,goInt]
theorem UR{c:Cl}{V:Value}(hR:R M σ c V){k:Nat}(hc:(∃t sz f,c=.list t sz k f)\/(∃n sz,c=.own n sz k)):∃(p:Option Addr) (cap:Nat),V=.slice p k cap:=by
 rcases hc with ⟨t,sz,f,rfl⟩|⟨n,sz,rfl⟩
 ·have hR':RC M _ V:=hR;cases hR' with
  |nil=>exact⟨none,0,rfl⟩
  |mt _ _ _ p0 cap=>exact⟨_,_,rfl⟩
  |list _ _ _ _ b off cap=>exact⟨_,_,rfl⟩
 simp only[R]at hR;split at hR
 ·obtain⟨rfl,rfl⟩:=hR;exact⟨_,_,rfl⟩
 exact⟨_,_,hR⟩
theorem Nw{kd:TypeDesc}{key:Value}(hk:IsKey kd key):∀(l:List MapEntry) (n i:Nat),(∀x∈l,IsKey kd x.key)->∀e,l[i]? = some e->e.key=key->(∀j e',j<i->l[j]? = some e'->e'.key≠key)->Instr.findNow kd key l n=some (some (n+i,e.val))
 |[],n,i,_,e,he,_,_=>by simp at he
 |e0::es,n,0,h,e,he,hkey,_=>by
  simp at he;subst he;obtain⟨r,hr,hiff⟩:=sameNow_of_keys hk (h e0 (.head _));have:r=true:=hiff.2 hkey.symm;subst this;simp[Instr.findNow,hr]
 |e0::es,n,i+1,h,e,he,hkey,hb=>by
  obtain⟨r,hr,hiff⟩:=sameNow_of_keys hk (h e0 (.head _));have hne:e0.key≠key:=hb 0 e0 mz rfl;have:r=false:=by
   cases r with
   |false=>rfl
   |true=>exact absurd (hiff.1 rfl).symm hne
  subst this;simp only[Instr.findNow,hr];rw[Nw hk es (n+1) i (fun x hx=>h x (.tail _ hx)) e (by simpa using he) hkey (fun j e' hj hej=>hb (j+1) e' mz (by simpa using hej))];rw[show n+1+i=n+(i+1)by omega]
theorem Ky{kd:TypeDesc}{key:Value}(hk:IsKey kd key):∀(l:List MapEntry) (n:Nat),(∀x∈l,IsKey kd x.key)->(∀e∈l,e.key≠key)->Instr.findNow kd key l n=some none
 |[],n,_,_=>rfl
 |e0::es,n,h,hb=>by
  obtain⟨r,hr,hiff⟩:=sameNow_of_keys hk (h e0 (.head _));have:r=false:=by
   cases r with
   |false=>rfl
   |true=>exact absurd (hiff.1 rfl).symm (hb e0 (.head _))
  subst this;simp only[Instr.findNow,hr];exact Ky hk es (n+1) (fun x hx=>h x (.tail _ hx)) (fun e he=>hb e (.tail _ he))
theorem Wg{x y:Cl}{X:Value}(hx:R M σ x X):R M σ (Sn true x y) X:=by
 unfold Sn;split
 ·rename_i k n k' n'
  by_cases hk:k=k'
  ·subst hk;simp only[ml,mi];exact hx
  simp only[hk,mm,mj,mi];exact hx
 ·exact hx
 ·exact hx
 exact hx
theorem Wh{x y:Cl}{Y:Value}(hy:R M σ y Y):R M σ (Sn false x y) Y:=by
 unfold Sn;split
 ·rename_i k n k' n'
  by_cases hk:k=k'
  ·subst hk;simp only[ml,mi,mj];exact hy
  simp only[hk,mm,mj];exact hy
 ·exact hy
 ·exact hy
 exact hy
theorem We:∀ {l m:List Cl} {X:List Value},l.length=m.length->L2 (R M σ) l X->L2 (R M σ) (YI true l m) X
 |[],[],_,_,h=>by cases h;exact .nil
 |x::l,y::m,_,hl,h=>by
  cases h with|cons a1 a2=>exact .cons (Wg a1) (We (by simpa using hl) a2)
theorem Wf:∀ {l m:List Cl} {X:List Value},l.length=m.length->L2 (R M σ) m X->L2 (R M σ) (YI false l m) X
 |[],[],_,_,h=>by cases h;exact .nil
 |x::l,y::m,_,hl,h=>by
  cases h with|cons a1 a2=>exact .cons (Wh a1) (Wf (by simpa using hl) a2)
theorem kQ{q:Option (Bool×Nat)}{T:TypeId}{x k:Operand}{cok:Bool}{u v:Tv}(ho:o.op=.lookup T x k cok)(hx:RT M σ u (a.eval x))(hk:RT M σ v (a.eval k))(he:P2 P q T u v cok=some e)(hs:Std M σ w h)(hr:res h e=some (cs,g))(hc:CI cs):GF P M σ o a w g:=by
 unfold P2 at he;split at he
 ·rename_i s ag kt el agg nv len kf vf ka found i ht;split at he
  ·rename_i key z kd hkey hz hkd;cases hb:(Nat.beq z.length nv&&(agg==IV P el)&&(agg||Nat.beq nv 1))with
   |false=>rw[hb]at he;cases he
   |true =>
    rw[hb]at he;simp only[mi,l7]at he;subst he;obtain⟨rfl,rfl⟩:=Br hr;simp only[me]at hb;obtain⟨⟨hb1,hb3⟩,hb4⟩:=hb;have hzl:=lx hb1;obtain⟨_,_,hu,_,_⟩:=Bk ht w;obtain⟨iz,zv,hiz,hzv,hzL,hzm,hzr⟩:=FE (M:=M) (σ:=σ) (w:=w) hz;have hx':RC M (.mp agg nv len kf vf) (a.eval x):=hx;obtain⟨hk0,hk1,hk2,hk3⟩:=hc.head;have hkv:a.eval k=key:=by
     cases ka with
     |one c =>
      cases c with
      |val v0 =>
       simp only[keyV,l7]at hkey;subst hkey;exact hk.1
      |_=>cases hkey
     |agg l=>cases hkey
    generalize hX:a.eval x=X at hx';cases hx' with
    |mp _ _ _ _ _ b es clock gv h0 h1 h2 h3 =>
     have hblk:=hs.imm _ _ h0;have hkeys:∀e∈es.toList,IsKey kd e.key:=fun e he=>by
      obtain⟨j,hj⟩:=List.mem_iff_getElem?.1 he;have hj':es[j]? = some e:=by simpa using hj
      rw[(h2 j e hj').1];exact hk1 j (by rw[<- h1];exact(Array.getElem?_eq_some_iff.1 hj').1)
     have hzagg:(agg=true->∃zs:Array Value,zv=.agg zs)/\(agg=false->zv.oneCell'=true/\z=[.val zv]):=by
      have e1:agg=IV P el:=by simpa using hb3
      unfold IV at e1;rw[hiz]at e1;simp only[hzv]at e1;constructor
      ·intro hag;rw[hag]at e1;split at e1
       ·rename_i zs heq;injection heq with heq;exact⟨zs,heq⟩
       cases e1
      intro hag;rw[hag]at e1 hb4;have hnv:nv=1:=lx (by simpa using hb4);have hne:∀zs,zv≠.agg zs:=fun zs e=>by subst e;simp at e1
      have hcells:zv.cells = #[zv]:=by cases zv<;>first|rfl|exact absurd rfl (hne _)
      rw[hcells]at hzm hzL;refine⟨?_,by simpa using hzm⟩;simp only[List.map_cons,List.map_nil]at hzm;subst hzm;cases hzL with|cons q1 _=>exact q1.2
     have fin:∀(r:Option (Nat×Value)) (V:Value),(Instr.findKey kt key es.toList).run P w=.ok r w->(match r with
       |some (_,v)=>v
       |none=>zv)=V->r.isSome=found->RA M σ (QU agg found nv (vf i) z) V->GF P M σ o a w (.val (bif cok then .tup [(QU agg found nv (vf i) z),.one (.val (.bool found))]else .av (QU agg found nv (vf i) z))):=by
      intro r V hrun hV hf hR;refine BF hs.imm (V:=if cok then .tuple #[V,.bool found]else V) ?_ ?_
      ·have hck:=run_checkKey (w:=w) hkd hk0 es.isEmpty 9999;simp only[execOp,ho,hX,hkv,Instr.lookup,Sem.run_bind,hu,Result.andThen_ok,Go.MapKept.run_getObj_map hblk,Sem.run_pure,hck,hrun];cases r with
       |some p =>
        simp only at hV;subst hV;simp only[Option.isSome_some]at hf;subst hf;rfl
       |none =>
        simp only at hV;subst hV;simp only[Option.isSome_none]at hf;subst hf;simp only[Sem.run_bind,hzr,Result.andThen_ok,Sem.run_pure]
      cases cok with
      |true=>exact⟨[V,.bool found],rfl,.cons hR (.cons ⟨rfl,rfl⟩ .nil)⟩
      |false=>exact hR
     cases hf:found with
     |true =>
      rw[hf]at fin;obtain⟨hi,hki,hbefore⟩:=hk2 hf;have hlt:i<es.size:=by omega
      have hei:es[i]? = some es[i]:=by simp[hlt]
      have hfnd:=run_findKey (P:=P) (w:=w) hkd (Nw hk0 es.toList 0 i hkeys es[i] m3 ((h2 i _ hei).1.trans hki) (fun j e' hj hej=>by
       have hej':es[j]? = some e':=by simpa using hej
       rw[(h2 j e' hej').1];exact hbefore j hj))
      refine fin _ (mpV agg nv (gv i)) hfnd (h2 i _ hei).2 rfl ?_;cases hag:agg with
      |true =>
       refine⟨(List.range nv).map (gv i),rfl,We (by simp[hzl]) ?_⟩;refine L2.of m3 fun j p q hp hq=>?_;have hj:j<nv:=by have:=(List.getElem?_eq_some_iff.1 hp).1;simpa using this
       simp only[ld,lc hj,Option.map_some,l7]at hp hq;subst hp;subst hq;exact QC (h3 i j hi hj)
      |false =>
       have hnv:nv=1:=lx (by rw[hag]at hb4;exact hb4);exact Wg (QC (h3 i 0 hi mz))
     |false =>
      rw[hf]at fin;have hfnd:=run_findKey (P:=P) (w:=w) hkd (Ky hk0 es.toList 0 hkeys (fun e he=>by
       obtain⟨j,hj⟩:=List.mem_iff_getElem?.1 he;have hj':es[j]? = some e:=by simpa using hj
       rw[(h2 j e hj').1];exact hk3 hf j (by rw[<- h1];exact(Array.getElem?_eq_some_iff.1 hj').1)))
      refine fin none zv hfnd rfl rfl ?_;cases hag:agg with
      |true =>
       obtain⟨zs,rfl⟩:=hzagg.1 hag;exact⟨zs.toList,by simp,Wf (by simp[hzl]) hzL⟩
      |false =>
       obtain⟨q1,q2⟩:=hzagg.2 hag;subst q2;exact Wh ⟨rfl,q1⟩
  cases he
 cases he
theorem dX{c:Call}{b:Builtin}{ev:Operand->Option Tv}{xs:List Av}(hev:∀x v,ev x=some v->RT M σ v (a.eval x))(ho:o.op=.call c)(hcb:c.callee=.builtin b)(hxs:FQ ev c.args.toList=some xs)(he:Ny P b c.argTypes xs=some e)(hs:Std M σ w h)(hr:res h e=some (cs,g))(hc:CI cs)
 (hd:∀b,((∃v,g=.new b v)\/∃n v,g=.app n b v)->∃d,o.dst=some d/\b.no d=true):GF P M σ o a w g:=by
 have hargs:=JO hev _ _ hxs;have hmap:c.args.map a.eval=(c.args.toList.map a.eval).toArray:=by apply Array.ext';simp
 have hexec:∀(vs:List Value),c.args.toList.map a.eval=vs->∃K,(execOp a.eval o).run P w=(builtin b c.argTypes o.type K vs.toArray).run P w:=by
  intro vs hvs;obtain⟨K,hK⟩:=Qx (P:=P) (a:=a) (w:=w) hcb o.type;refine⟨K,?_⟩;simp only[execOp,ho,Sem.run_bind,hK,Result.andThen_ok,invoke,hmap,hvs]
 generalize c.args.toList.map a.eval=vs at hargs hexec;obtain⟨K,hexec2⟩:=hexec vs rfl;clear hexec;unfold Ny at he;split at he
 ·-- len of a list
  rename_i tg sz n f;cases hargs with|cons r1 r2 =>
  cases r2;split at he
  ·rename_i s ag el hts;simp only[l7]at he;subst he;obtain⟨rfl,rfl⟩:=Br hr;obtain⟨p,cap,hV⟩:=UR r1 (.inl ⟨_,_,_,rfl⟩);refine BF hs.imm (V:=.int .i64 n) ?_ (R_v rfl);rw[hexec2];simp only[builtin,Sem.run_bind,RG hts (.inr ⟨⟨el,rfl⟩,p,n,cap,hV,rfl⟩),Result.andThen_ok,Sem.run_pure]
  cases he
 ·rename_i q sz n;cases hargs with|cons r1 r2 =>
  cases r2;split at he
  ·rename_i s ag el hts;simp only[l7]at he;subst he;obtain⟨rfl,rfl⟩:=Br hr;obtain⟨p,cap,hV⟩:=UR r1 (.inr ⟨_,_,rfl⟩);refine BF hs.imm (V:=.int .i64 n) ?_ (R_v rfl);rw[hexec2];simp only[builtin,Sem.run_bind,RG hts (.inr ⟨⟨el,rfl⟩,p,n,cap,hV,rfl⟩),Result.andThen_ok,Sem.run_pure]
  cases he
 ·cases hargs with|cons r1 r2 =>
  cases r2;split at he
  ·rename_i s ag el hts;simp only[l7]at he;subst he;obtain⟨rfl,rfl⟩:=Br hr;refine BF hs.imm (V:=.int .i64 0) ?_ (R_v rfl);rw[hexec2];simp only[builtin,Sem.run_bind,RG hts (.inr ⟨⟨el,rfl⟩,none,0,0,r1.1,rfl⟩),Result.andThen_ok,Sem.run_pure];rfl
  cases he
 ·rename_i s;cases hargs with|cons r1 r2 =>
  cases r2;split at he
  ·rename_i s ag hts;simp only[l7]at he;subst he;obtain⟨rfl,rfl⟩:=Br hr;refine BF hs.imm ?_ (R_v rfl);rw[hexec2];simp only[builtin,Sem.run_bind,RG hts (.inl ⟨rfl,_,r1.1,rfl⟩),Result.andThen_ok,Sem.run_pure]
  cases he
 ·rename_i k x r;cases hargs with|cons r1 r2 =>
  obtain⟨n,hn,rfl⟩:=Option.map_eq_some_iff.1 he;obtain⟨rfl,rfl⟩:=Br hr;have hx:_=Value.int k x:=r1.1;subst hx;refine BF hs.imm (V:=.int k n) ?_ (R_v rfl);rw[hexec2];have:=dq (w:=w) (P:=P) _ _ x n r2 hn;simp only[builtin,Builtin.min_,Sem.run_bind,this,Result.andThen_ok,Sem.run_pure]
 ·rename_i k x r;cases hargs with|cons r1 r2 =>
  obtain⟨n,hn,rfl⟩:=Option.map_eq_some_iff.1 he;obtain⟨rfl,rfl⟩:=Br hr;have hx:_=Value.int k x:=r1.1;subst hx;refine BF hs.imm (V:=.int k n) ?_ (R_v rfl);rw[hexec2];have:=dp (w:=w) (P:=P) _ _ x n r2 hn;simp only[builtin,Builtin.max_,Sem.run_bind,this,Result.andThen_ok,Sem.run_pure]
 ·rename_i s tg sz m gm;cases hargs with|cons r1 r2' =>
  cases r2' with|cons r2 r3 =>
  cases r3;split at he
  ·rename_i s1 ag1 el s2 ag2 el2 T1 T2 hts hts2;cases hbT:Nat.beq T1 T2 with
   |false=>rw[hbT]at he;cases he
   |true =>
    rw[hbT]at he;have:=lx hbT;subst this;simp only[mi]at he;rw[hts2]at hts;simp only[List.map_cons,List.map_nil,List.cons.injEq,and_true]at hts;have hT:=hts.1;have hta:c.argTypes = #[T1,T1]:=by rw[<- Array.toArray_toList (xs:=c.argTypes),hts2]
    split at he
    ·rename_i i z hi hz;cases hbb:(Nat.beq i.size sz&&Nat.beq z.length sz && !(Nat.beq sz 0))with
     |false=>rw[hbb]at he;cases he
     |true =>
      rw[hbb]at he;simp only[mi]at he;simp only[me,Bool.not_eq_true']at hbb;have hs1:=lx hbb.1.1;have hs2:=lx hbb.1.2;have hpos:0<sz:=by
       rcases Nat.eq_zero_or_pos sz with h0|h0
       ·rw[h0]at hbb;simp[Nat.beq]at hbb
       exact h0
      split at he
      ·rename_i n sz' len';cases hb2:Nat.beq sz' sz with
       |false=>rw[hb2]at he;cases he
       |true =>
        rw[hb2]at he;have:=lx hb2;subst this;simp only[mi,l7]at he;subst he;simp only[res,G3]at hr;cases hn:h n with
        |none=>rw[hn]at hr;cases hr
        |some blk =>
         rw[hn]at hr;cases blk with
         |cells=>cases hr
         |omap=>cases hr
         |rowx=>cases hr
         |row sz'' len f ty =>
          simp only at hr;cases hb3:(Nat.beq sz'' sz'&&Nat.beq ty el)with
          |false=>rw[hb3]at hr;cases hr
          |true =>
           rw[hb3]at hr;simp only[mi,l7,l8]at hr;obtain⟨rfl,rfl⟩:=hr;simp only[me]at hb3;obtain rfl:=lx hb3.1;obtain rfl:=lx hb3.2;have hll:=hc.head;subst hll;obtain⟨xs,gx,hown,hx,hob⟩:=fR r1 (hs.blk n _ hn);have hpre:=hc.tail.head;have hpre2:=hc.tail.tail.head;obtain⟨V',w',x,hrun,hgrow,hblk,hval,hwhere⟩:=LA (ty:=o.type) hT hi hz hs1 hs2 hpos hown hx (SZ (show RC M _ _ from r2) hs.imm) hpre hpre2;obtain⟨d,hdd,_⟩:=hd _ (.inr ⟨_,_,rfl⟩);have hrun':(execOp a.eval o).run P w=.ok (.value V') w':=by
            rw[hexec2,hta];simp only[builtin,Sem.run_bind,hrun,Result.andThen_ok,Sem.run_pure]
           have hkeep:=FG (M:=M) hs.imm hgrow (only (σ n)) (fun b hb=>by
            rw[hob]at hb;cases hnn:(σ n).nil with
            |true=>rw[hnn]at hb;cases hb
            |false =>
             rw[hnn]at hb;simp only[Bool.false_eq_true,if_false,l7]at hb;subst hb;refine⟨⟨hnn,rfl⟩,?_⟩;rcases hs.loc n _ hn with hk|hk
             ·rw[hnn]at hk;cases hk
             exact hk)
           refine .inl ⟨V',w',hrun',M,upd σ d x,x,d,hdd,hkeep,?_,rfl,hblk _,?_⟩
           ·rcases hwhere with h1|h1|h1
            ·exact .inl h1
            ·rw[hob]at h1;cases hnn:(σ n).nil with
             |true=>rw[hnn]at h1;cases h1
             |false =>
              rw[hnn]at h1;simp only[Bool.false_eq_true,if_false,l7]at h1;refine .inr (.inl ⟨⟨hnn,h1⟩,?_⟩);rw[h1];rcases hs.loc n _ hn with hk|hk
              ·rw[hnn]at hk;cases hk
              exact hk
            refine .inr (.inr ⟨by omega,?_⟩);rw[h1];cases hm:M w.heap.size with
            |none=>rfl
            |some y=>have:=(Array.getElem?_eq_some_iff.1 (hs.imm _ _ hm)).1;omega
           show R _ _ _ _;simp only[R,BH];exact hval
      ·simp only[l7]at he;subst he;obtain⟨rfl,rfl⟩:=Br hr;obtain⟨a0,hV0⟩:=lF (show RC M _ _ from r1);subst hV0;obtain⟨V',w',M',hrun,hkeep,hrc⟩:=dY (ty:=o.type) hT hi hz hs1 hs2 hpos (a0:=a0) (show RC M _ _ from r2) hs.imm hc.head hc.tail.head;have hrun':(execOp a.eval o).run P w=.ok (.value V') w':=by
        rw[hexec2,hta];simp only[builtin,Sem.run_bind,hrun,Result.andThen_ok,Sem.run_pure]
       exact .inl ⟨V',w',hrun',M',σ,hkeep,rfl,hrc⟩
      ·simp only[l7]at he;subst he;simp only[res,l7,l8]at hr;obtain⟨rfl,rfl⟩:=hr;have hV0:_=Value.slice none 0 0:=r1.1;subst hV0;have hpre:=hc.head;have hpre2:=hc.tail.head;obtain⟨V',w',x,hrun,hgrow,hblk,hval,hwhere⟩:=LA (ty:=o.type) (f0:=fun _ _=>default) (gx:=fun _ _=>undef) hT hi hz hs1 hs2 hpos (World.ownsRow_nil w 0 el sz) (fun i j hi=>absurd hi mz) (SZ (show RC M _ _ from r2) hs.imm) mz (by rw[mw];exact hpre2);obtain⟨d,hdd,_⟩:=hd _ (.inl ⟨_,rfl⟩);have hrun':(execOp a.eval o).run P w=.ok (.value V') w':=by
        rw[hexec2,hta];simp only[builtin,Sem.run_bind,hrun,Result.andThen_ok,Sem.run_pure]
       have hkeep:=FG (M:=M) hs.imm hgrow M7 (fun b hb=>by cases hb);have hblk':=hblk (upd σ d x);simp only[mw,lw,if_false,Nat.sub_zero]at hblk' hval;refine .inl ⟨V',w',hrun',M,upd σ d x,x,d,hdd,hkeep,?_,rfl,hblk',?_⟩
       ·rcases hwhere with h1|h1|h1
        ·exact .inl h1
        ·cases h1
        refine .inr ⟨by omega,?_⟩;rw[h1];cases hm:M w.heap.size with
        |none=>rfl
        |some y=>have:=(Array.getElem?_eq_some_iff.1 (hs.imm _ _ hm)).1;omega
       show R _ _ _ _;simp only[R,BH];exact hval
      cases he
    cases he
  cases he
 ·rename_i q sz lo1 n1 q2 sz2 lo2 n2;cases hargs with|cons r1 r2' =>
  cases r2' with|cons r2 r3 =>
  cases r3;split at he
  ·rename_i s1 ag1 el s2 ag2 el2 T1 T2 hts hts2;cases hbT:(Nat.beq T1 T2&&(Nat.beq q q2&&Nat.beq sz2 sz))with
   |false=>rw[hbT]at he;cases he
   |true =>
    rw[hbT]at he;simp only[me]at hbT;obtain⟨hq1,hq2,hq3⟩:=hbT;obtain rfl:=lx hq1;obtain rfl:=lx hq2;obtain rfl:=lx hq3;simp only[mi]at he;rw[hts2]at hts;simp only[List.map_cons,List.map_nil,List.cons.injEq,and_true]at hts;have hT:=hts.1;have hta:c.argTypes = #[T1,T1]:=by rw[<- Array.toArray_toList (xs:=c.argTypes),hts2]
    split at he
    ·rename_i i z hi hz;cases hbb:(Nat.beq i.size sz2&&Nat.beq z.length sz2 && !(Nat.beq sz2 0))with
     |false=>rw[hbb]at he;cases he
     |true =>
      rw[hbb]at he;simp only[mi,l7]at he;subst he;simp only[me,Bool.not_eq_true']at hbb;have hs1:=lx hbb.1.1;have hs2:=lx hbb.1.2;have hpos:=W9 hbb.2;simp only[res,G3]at hr;cases hn:h q with
      |none=>rw[hn]at hr;cases hr
      |some blk =>
       rw[hn]at hr;cases blk with
       |cells=>cases hr
       |omap=>cases hr
       |rowx=>cases hr
       |row sz3 len f ty =>
        simp only at hr;cases hb3:(Nat.beq sz3 sz2&&Nat.beq ty el)with
        |false=>rw[hb3]at hr;cases hr
        |true =>
         rw[hb3]at hr;simp only[mi,l7,l8]at hr;obtain⟨rfl,rfl⟩:=hr;simp only[me]at hb3;obtain rfl:=lx hb3.1;obtain rfl:=lx hb3.2;have hl0:=hc.head;subst hl0;obtain⟨xs,gx,hown,hx,hob⟩:=fR (cF r1) (wD (hs.blk q _ hn) hc.tail.head);obtain⟨V',w',x,hrun,hgrow,hblk,hval,hwhere⟩:=LA (ty:=o.type) hT hi hz hs1 hs2 hpos hown hx (fT r2 (hs.blk q _ hn) hc.tail.tail.head) hc.tail.tail.tail.head hc.tail.tail.tail.tail.head;obtain⟨d,hdd,_⟩:=hd _ (.inr ⟨_,_,rfl⟩);have hrun':(execOp a.eval o).run P w=.ok (.value V') w':=by
          rw[hexec2,hta];simp only[builtin,Sem.run_bind,hrun,Result.andThen_ok,Sem.run_pure]
         have hMn:(σ q).nil=false->M (σ q).b=none:=fun hnn=>by
          rcases hs.loc q _ hn with hk|hk
          ·rw[hnn]at hk;cases hk
          exact hk
         have hkeep:=FG (M:=M) hs.imm hgrow (only (σ q)) (fun b hb=>by
          rw[hob]at hb;cases hnn:(σ q).nil with
          |true=>rw[hnn]at hb;cases hb
          |false =>
           rw[hnn]at hb;simp only[Bool.false_eq_true,if_false,l7]at hb;subst hb;exact⟨⟨hnn,rfl⟩,hMn hnn⟩)
         refine .inl ⟨V',w',hrun',M,upd σ d x,x,d,hdd,hkeep,?_,rfl,hblk _,?_⟩
         ·rcases hwhere with h1|h1|h1
          ·exact .inl h1
          ·rw[hob]at h1;cases hnn:(σ q).nil with
           |true=>rw[hnn]at h1;cases h1
           |false =>
            rw[hnn]at h1;simp only[Bool.false_eq_true,if_false,l7]at h1;refine .inr (.inl ⟨⟨hnn,h1⟩,?_⟩);rw[h1];exact hMn hnn
          refine .inr (.inr ⟨by omega,?_⟩);rw[h1];cases hm:M w.heap.size with
          |none=>rfl
          |some y=>have:=(Array.getElem?_eq_some_iff.1 (hs.imm _ _ hm)).1;omega
         show R _ _ _ _;simp only[R,BH];exact hval
    cases he
  cases he
 ·rename_i s q2 sz q3;cases hargs with|cons r1 r2' =>
  cases r2' with|cons r2 r3 =>
  cases r3;split at he
  ·rename_i s1 ag1 el s2 ag2 el2 T1 T2 hts hts2;cases hbT:Nat.beq T1 T2 with
   |false=>rw[hbT]at he;cases he
   |true =>
    rw[hbT]at he;have:=lx hbT;subst this;simp only[mi]at he;rw[hts2]at hts;simp only[List.map_cons,List.map_nil,List.cons.injEq,and_true]at hts;have hT:=hts.1;have hta:c.argTypes = #[T1,T1]:=by rw[<- Array.toArray_toList (xs:=c.argTypes),hts2]
    split at he
    ·rename_i i z hi hz;cases hbb:(Nat.beq i.size sz&&Nat.beq z.length sz && !(Nat.beq sz 0))with
     |false=>rw[hbb]at he;cases he
     |true =>
      rw[hbb]at he;simp only[mi]at he;simp only[me,Bool.not_eq_true']at hbb;have hs1:=lx hbb.1.1;have hs2:=lx hbb.1.2;have hpos:=W9 hbb.2;split at he
      ·rename_i n sz' len';cases hb2:(Nat.beq sz' sz && !(Nat.beq n q2))with
       |false=>rw[hb2]at he;cases he
       |true =>
        rw[hb2]at he;simp only[me]at hb2;have:=lx hb2.1;subst this;simp only[mi,l7]at he;subst he;simp only[res,G3]at hr;cases hn:h n with
        |none=>rw[hn]at hr;cases hr
        |some blk =>
        cases hm:h q2 with
        |none=>rw[hn,hm]at hr;cases hr
        |some blk2 =>
         rw[hn,hm]at hr;simp only at hr;split at hr
         ·rename_i cs0 b0 v0 hk;split at hk
          ·rename_i sz3 len f ty hs0 sz4 len2 f2 ty2 hs02 hbl;simp only[List.cons.injEq,and_true]at hbl;subst hbl;cases hb3:(Nat.beq sz3 sz'&&(Nat.beq ty el&&Nat.beq sz4 sz'))with
           |false=>rw[hb3]at hk;cases hk
           |true =>
            rw[hb3]at hk;simp only[mi,l7,l8]at hk hr;obtain⟨rfl,rfl,rfl⟩:=hk;obtain⟨rfl,rfl⟩:=hr;simp only[me]at hb3;obtain rfl:=lx hb3.1;obtain rfl:=lx hb3.2.1;obtain rfl:=lx hb3.2.2;have hl1:=hc.head;subst hl1;have hl2:=hc.tail.head;subst hl2;have hp0:=hc.tail.tail.head;obtain⟨xs,gx,hown,hx,hx2,hob,_⟩:=rP r1 (hs.blk n _ hn);obtain⟨k0,c9,k1,_,_,_,gv,k5,k6⟩:=hs.blk q2 _ hm;have r2':=r2;simp only[RA,R,k0,Bool.false_eq_true,if_false]at r2';obtain⟨d,hdd,hno⟩:=hd _ (.inr ⟨_,_,rfl⟩);obtain⟨V',w',x,hrun,hgrow,hblk,hxn,hV',hwhere⟩:=Qk (ty:=o.type) hT hi hz hs1 hs2 hpos hown hx hx2 r2' (fun i j hi hj=>by
             simp only[World.cell?,k1,mw];exact(k5 i j hi hj).1) (fun i j hi hj=>(k5 i j hi hj).2) k6 hc.tail.tail.tail.head hc.tail.tail.tail.tail.head mz
            have hrun':(execOp a.eval o).run P w=.ok (.value V') w':=by
             rw[hexec2,hta];simp only[builtin,Sem.run_bind,hrun,Result.andThen_ok,Sem.run_pure]
            have hnn:=(hs.blk n _ hn).1;have hMn:M (σ n).b=none:=by
             rcases hs.loc n _ hn with hk|hk
             ·rw[hnn]at hk;cases hk
             exact hk
            have hkeep:=FG (M:=M) hs.imm hgrow (only (σ n)) (fun b hb=>by
             rw[hob]at hb;simp only[l7]at hb;subst hb;exact⟨⟨hnn,rfl⟩,hMn⟩)
            refine .inl ⟨V',w',hrun',M,upd σ d x,x,d,hdd,hkeep,?_,rfl,hblk _ (fun c hc e he=>CW _ _ fun e' => ?_),?_⟩
            ·rcases hwhere with h1|h1
             ·rw[hob]at h1;simp only[l7]at h1;exact .inr (.inl ⟨⟨hnn,h1⟩,by rw[h1];exact hMn⟩)
             refine .inr (.inr ⟨by omega,?_⟩);rw[h1];cases hm:M w.heap.size with
             |none=>rfl
             |some y=>have:=(Array.getElem?_eq_some_iff.1 (hs.imm _ _ hm)).1;omega
            ·rw[e']at he;simp only[Blk.no,List.all_append,List.all_map,me]at hno;obtain⟨p,hp,hcp⟩:=List.mem_flatMap.1 hc;rcases List.mem_append.1 hp with hp|hp
             ·have:=List.all_eq_true.1 (List.all_eq_true.1 hno.1 _ hp) _ hcp;rw[he]at this;cases this
             have:=List.all_eq_true.1 (List.all_eq_true.1 hno.2 _ hp) _ hcp;rw[he]at this;cases this
            show R _ _ _ _;simp only[R,BH,hxn];exact hV'
          cases hk
         cases hr
      ·simp only[l7]at he;subst he;simp only[res,G3]at hr;cases hm:h q2 with
       |none=>rw[hm]at hr;cases hr
       |some blk2 =>
        rw[hm]at hr;simp only at hr;split at hr
        ·rename_i cs0 b0 v0 hk;split at hk
         ·rename_i sz4 len2 f2 ty2 hs02;cases hb3:Nat.beq sz4 sz with
          |false=>rw[hb3]at hk;cases hk
          |true =>
           rw[hb3]at hk;simp only[mi,l7,l8]at hk hr;obtain⟨rfl,rfl,rfl⟩:=hk;obtain⟨rfl,rfl⟩:=hr;obtain rfl:=lx hb3;have hl2:=hc.head;subst hl2;have hp0:=hc.tail.head;have hV0:_=Value.slice none 0 0:=r1.1;subst hV0;obtain⟨k0,c9,k1,_,_,_,gv,k5,k6⟩:=hs.blk q2 _ hm;have r2':=r2;simp only[RA,R,k0,Bool.false_eq_true,if_false]at r2';obtain⟨d,hdd,hno⟩:=hd _ (.inr ⟨_,_,rfl⟩);obtain⟨V',w',x,hrun,hgrow,hblk,hxn,hV',hwhere⟩:=Qk (σ:=σ) (ty:=o.type) (f0:=fun _ _=>default) (h0:=[]) (gx:=fun _ _=>undef) hT hi hz hs1 hs2 hpos (World.ownsRow_nil w 0 el _) (fun i j hi=>absurd hi mz) (fun i l hl=>by cases hl) r2' (fun i j hi hj=>by
            simp only[World.cell?,k1,mw];exact(k5 i j hi hj).1) (fun i j hi hj=>(k5 i j hi hj).2) k6 (by have:=hc.tail.tail.head;omega) (by rw[mw];exact hc.tail.tail.tail.head) mz
           have hrun':(execOp a.eval o).run P w=.ok (.value V') w':=by
            rw[hexec2,hta];simp only[builtin,Sem.run_bind,hrun,Result.andThen_ok,Sem.run_pure]
           have hkeep:=FG (M:=M) hs.imm hgrow (only (σ q2)) (fun b hb=>by cases hb);have hblk':=hblk (upd σ d x);have em:hs02.map (fun p=>(0+p.1,p.2))=hs02:=by simp
           rw[em]at hblk';simp only[mw,lw,if_false,Nat.sub_zero,kn]at hblk' hV';refine .inl ⟨V',w',hrun',M,upd σ d x,x,d,hdd,hkeep,?_,rfl,hblk' (fun c hc e he=>CW _ _ fun e' => ?_),?_⟩
           ·rcases hwhere with h1|h1
            ·cases h1
            refine .inr (.inr ⟨by omega,?_⟩);rw[h1];cases hm:M w.heap.size with
            |none=>rfl
            |some y=>have:=(Array.getElem?_eq_some_iff.1 (hs.imm _ _ hm)).1;omega
           ·rw[e']at he;obtain⟨p,hp,hcp⟩:=List.mem_flatMap.1 hc;have:=List.all_eq_true.1 (List.all_eq_true.1 hno _ hp) _ hcp;rw[he]at this;cases this
           show R _ _ _ _;simp only[R,BH,hxn];exact hV'
         cases hk
        cases hr
      cases he
    cases he
  cases he
 ·rename_i q sz lo1 n1 q2 sz2 lo2 n2;cases hargs with|cons r1 r2' =>
  cases r2' with|cons r2 r3 =>
  cases r3;split at he
  ·rename_i s1 ag1 el s2 ag2 el2 hts;cases hbT:(Nat.beq q q2&&Nat.beq sz2 sz)with
   |false=>rw[hbT]at he;cases he
   |true =>
    rw[hbT]at he;simp only[me]at hbT;obtain⟨hq2,hq3⟩:=hbT;obtain rfl:=lx hq2;obtain rfl:=lx hq3;simp only[mi]at he;split at he
    ·rename_i i hi;cases hbb:(Nat.beq i.size sz2 && !(Nat.beq sz2 0))with
     |false=>rw[hbb]at he;cases he
     |true =>
      rw[hbb]at he;simp only[mi,l7]at he;subst he;simp only[me,Bool.not_eq_true']at hbb;have hs1:=lx hbb.1;have hpos:=W9 hbb.2;simp only[res,G3]at hr;cases hn:h q with
      |none=>rw[hn]at hr;cases hr
      |some blk =>
       rw[hn]at hr;cases blk with
       |cells=>cases hr
       |omap=>cases hr
       |rowx=>cases hr
       |row sz3 len f ty =>
        simp only at hr;cases hb3:Nat.beq sz3 sz2 with
        |false=>rw[hb3]at hr;cases hr
        |true =>
         rw[hb3]at hr;simp only[mi,l7,l8]at hr;obtain⟨rfl,rfl⟩:=hr;obtain rfl:=lx hb3;have c1:=hc.head;have c2:=hc.tail.head;obtain⟨T1,T2,htl⟩:∃T1 T2,c.argTypes.toList=[T1,T2]:=by
          cases h1:c.argTypes.toList with
          |nil=>rw[h1]at hts;cases hts
          |cons T1 r =>
           cases r with
           |nil=>rw[h1]at hts;simp at hts
           |cons T2 r =>
            cases r with
            |nil=>exact⟨T1,T2,rfl⟩
            |cons=>rw[h1]at hts;simp at hts
         rw[htl]at hts;simp only[List.map_cons,List.map_nil,List.cons.injEq,and_true]at hts;have hT:=hts.1;have hta:c.argTypes = #[T1,T2]:=by rw[<- Array.toArray_toList (xs:=c.argTypes),htl]
         have fin:∀(w':World),(execOp a.eval o).run P w=.ok (.value (goInt (Nat.min n2 n1))) w'->Gk w w' M M (only (σ q))->Bl M σ w' (σ q) (.row sz3 len (fun i j=>if lo1<=i/\i<lo1+Nat.min n2 n1 then f (i-lo1+lo2) j else f i j) ty)->GF P M σ o a w (.wr q (.av (.one (.val (.int .i64 ((Nat.min n2 n1:Nat):Int))))) (.row sz3 len (fun i j=>if lo1<=i/\i<lo1+Nat.min n2 n1 then f (i-lo1+lo2) j else f i j) ty)):=fun w' h1 h2 h3=>.inl ⟨_,w',h1,M,σ,h2,rfl,R_v rfl,h3⟩;have hsrc:=fT r2 (hs.blk q _ hn) c2;have r1':R M σ (.osl q sz3 lo1 n1) _:=r1;simp only[R]at r1';rcases hs.blk q _ hn with ⟨h0,h9⟩|⟨h0,cc,hcc,h3,h4,h5,gv,hg⟩
         ·rw[h0]at r1';simp only[if_true]at r1';obtain⟨e1,e2,e3⟩:=r1';subst e1 e2 e3;have hz:Nat.min n2 0=0:=Nat.min_zero n2;refine fin w ?_ (Gk.refl hs.imm _) (.inl ⟨h0,h9⟩);have r2':R M σ (.osl q sz3 lo2 n2) _:=r2;simp only[R]at r2';rw[h0]at r2';simp only[if_true]at r2';obtain⟨e4,e5,e6⟩:=r2';subst e4 e5 e6;rw[hexec2,hta];obtain⟨_,_,_,hund,_⟩:=Bk hT w;simp[builtin,Builtin.copy_,run_underlying hund,Builtin.lenOf,Builtin.firstCells,sizeOf,typeInfo,hi,loadCells,loadCellsFrom,hz]
         rw[h0]at r1';simp only[Bool.false_eq_true,if_false]at r1';subst r1';have o0:Nat.min n2 n1<=n1:=Nat.min_le_right _ _;have pd:Nat.min n2 n1<=n2:=Nat.min_le_left _ _;have hcl:cc.toList.length=(σ q).cap*sz3:=by simpa using h3
         have hfit:(if (σ q).cap=lo1 then 0 else lo1*sz3)+Nat.min n2 n1*sz3<=cc.toList.length:=by
          rw[hcl]
          by_cases hcap:(σ q).cap=lo1
          ·have:Nat.min n2 n1=0:=by omega
           rw[this];simp[hcap]
          rw[if_neg hcap,<- Nat.add_mul];exact Nat.mul_le_mul_right _ mz
         obtain⟨us,w',hrun,hul,⟨gm,hgm⟩,k3,k4,k5,k6,k7,k8⟩:=vL (ty:=o.type) (T2:=T2) (cap1:=(σ q).cap-lo1) hT hi hs1 hpos (by simpa using hcc) hsrc hfit;have hb':(σ q).b<w.heap.size:=(Array.getElem?_eq_some_iff.1 hcc).1;refine fin w' ?_ ⟨k5,k6,k7,by omega,fun b hb hne=>k8 b fun e=>hne ⟨h0,e⟩,fun _ _ h=>h,fun _ _ h h'=>by(rw[h]at h';cases h'),fun b o hm=>?_⟩ (.inr ⟨h0,_,k3,?_,h4,h5,fun i j=>if lo1<=i/\i<lo1+Nat.min n2 n1 then gm (i-lo1) j else gv i j,fun i j hi' hj=>?_⟩)
         ·rw[hexec2,hta];simp only[builtin,Sem.run_bind,hrun,Result.andThen_ok,Sem.run_pure]
         ·rw[k8 b fun e=>?_]
          ·exact hs.imm b o hm
          rcases hs.loc q _ hn with hk|hk
          ·rw[h0]at hk;cases hk
          rw[e,hk]at hm;cases hm
         ·simp only[List.size_toArray,GX];exact hcl
         simp only[List.getElem?_toArray];rw[L9 _ _ _ _ (by rw[hul];exact hfit),hul];have hg0:=hg i j hi' hj
         by_cases hin:lo1<=i/\i<lo1+Nat.min n2 n1
         ·rw[if_pos hin,if_pos hin];have hcap:¬ (σ q).cap=lo1:=by omega
          rw[if_neg hcap];have e1:lo1*sz3<=i*sz3:=Nat.mul_le_mul_right _ hin.1;have e2:(i+1)*sz3<=(lo1+Nat.min n2 n1)*sz3:=Nat.mul_le_mul_right _ mz;rw[Nat.add_mul,Nat.one_mul,Nat.add_mul]at e2;have e3:i*sz3+j-lo1*sz3=(i-lo1)*sz3+j:=by rw[Nat.sub_mul];omega
          rw[if_pos mz,e3];exact hgm (i-lo1) j mz hj
         rw[if_neg hin,if_neg hin];have hno:¬ ((if (σ q).cap=lo1 then 0 else lo1*sz3)<=i*sz3+j/\i*sz3+j<(if (σ q).cap=lo1 then 0 else lo1*sz3)+Nat.min n2 n1*sz3):=by
          by_cases hcap:(σ q).cap=lo1
          ·have:Nat.min n2 n1=0:=by omega
           rw[this,if_pos hcap];omega
          rw[if_neg hcap];rcases Nat.lt_or_ge i lo1 with hlt|hge
          ·have e1:(i+1)*sz3<=lo1*sz3:=Nat.mul_le_mul_right _ hlt;rw[Nat.add_mul,Nat.one_mul]at e1;omega
          have e2:(lo1+Nat.min n2 n1)*sz3<=i*sz3:=Nat.mul_le_mul_right _ mz;rw[Nat.add_mul]at e2;omega
         rw[if_neg hno];simpa using hg0
    cases he
  cases he
 cases he
end
end
end Go.Proofs.YtheobjkgllmnmaaGreat
