/-
  No statement is proved in this text. It holds a part of what the proof of ItemsAll needs.
-/
import Derived.Test.YtheobjkgllmnmaaGreatItemsAllQa
namespace Go.Proofs.YtheobjkgllmnmaaGreat
set_option maxRecDepth 100000
set_option linter.unusedVariables false
set_option linter.unusedSimpArgs false
open Go.RowKit
section
open Go.RowKit Go.MapKept
section
variable {P:Program}{M:m5}{σ:Nat→Loc}{w:World}{h:Nat→Option Blk}{a:Act}{o:Oper}{cs:List Prop}{g:Eg}{e:Ef}
theorem wJ{a b:my}(h:a.toList=b.toList):a=b:=by
 rw[ByteArray.toList_eq,ByteArray.toList_eq]at h;obtain⟨⟨x⟩⟩:=a;obtain⟨⟨y⟩⟩:=b;simpa using h
theorem bf:∀(ks:List Kd) (l m:List Value),MD ks l=true->MD ks m=true->∃r,eqV ks (l.map Cl.val) (m.map Cl.val)=some r/\(r=true↔l=m):=by
 intro ks;induction ks with
 |nil =>
  intro l m hl hm;cases l<;>cases m<;>simp[MD]at hl hm;exact⟨true,rfl,by simp⟩
 |cons k ks ih =>
  intro l m hl hm;unfold MD at hl hm;split at hl
  ·cases ‹_=[]›
  ·rename_i k1 k2 v vs e1;injection e1 with e1 e2
   subst e1;subst e2;split at hm
   ·cases ‹_=[]›
   ·rename_i k3 k4 u us e1;injection e1 with e1 e2
    injection e1 with e1
    subst e1;subst e2;simp only[me,ll]at hl hm;obtain⟨r,h1,h2⟩:=ih _ _ hl.2 hm.2;refine⟨decide (v=u)&&r,?_,?_⟩
    ·simp only[List.map_cons,eqV,hl.1,hm.1,and_self,if_true,h1,Option.map_some]
    simp only[me,ll,h2,List.cons.injEq,hl.1,hm.1,Value.int.injEq,true_and]
   ·rename_i e1;cases e1
   ·rename_i e1;cases e1
   cases hm
  ·rename_i v vs e1;injection e1 with e1 e2
   subst e1;subst e2;split at hm
   ·cases ‹_=[]›
   ·rename_i e1;cases e1
   ·rename_i u us e1;injection e1 with _ e2
    subst e2;obtain⟨r,h1,h2⟩:=ih _ _ hl hm;refine⟨(v==u)&&r,?_,?_⟩
    ·simp only[List.map_cons,eqV,h1,Option.map_some]
    simp only[me,beq_iff_eq,h2,List.cons.injEq,Value.bool.injEq]
   ·rename_i e1;cases e1
   cases hm
  ·rename_i v vs e1;injection e1 with e1 e2
   subst e1;subst e2;split at hm
   ·cases ‹_=[]›
   ·rename_i e1;cases e1
   ·rename_i e1;cases e1
   ·rename_i u us e1;injection e1 with _ e2
    subst e2;obtain⟨r,h1,h2⟩:=ih _ _ hl hm;refine⟨(v.toList==u.toList)&&r,?_,?_⟩
    ·simp only[List.map_cons,eqV,h1,Option.map_some]
    simp only[me,beq_iff_eq,h2,List.cons.injEq,Value.string.injEq];constructor
    ·rintro⟨h3,h4⟩;exact⟨wJ h3,h4⟩
    rintro⟨rfl,h4⟩;exact⟨rfl,h4⟩
   cases hm
  cases hl
theorem XI:∀(ks:List Kd) (l:List Value),MD ks l=true->l.all Value.oneCell'=true/\l.length=ks.length:=by
 intro ks;induction ks with
 |nil=>intro l h;cases l<;>simp[MD]at h;exact⟨rfl,rfl⟩
 |cons k ks ih =>
  intro l hl;unfold MD at hl;split at hl
  ·cases ‹_=[]›
  ·rename_i e1;injection e1 with e1 e2
   subst e2;simp only[me,ll]at hl;obtain⟨h1,h2⟩:=ih _ hl.2;exact⟨by simp only[List.all_cons,h1,Bool.and_true];rfl,by simp[h2]⟩
  ·rename_i e1;injection e1 with e1 e2
   subst e2;obtain⟨h1,h2⟩:=ih _ hl;exact⟨by simp only[List.all_cons,h1,Bool.and_true];rfl,by simp[h2]⟩
  ·rename_i e1;injection e1 with e1 e2
   subst e2;obtain⟨h1,h2⟩:=ih _ hl;exact⟨by simp only[List.all_cons,h1,Bool.and_true];rfl,by simp[h2]⟩
  cases hl
theorem uV(n:Nat):∀(ks:List Kd) (l:List Value),MD ks l=true->((l.zip l).all fun(x,y)=>Instr.sameBits (n+1) x y)=true:=by
 intro ks;induction ks with
 |nil=>intro l h;cases l<;>simp[MD]at h;rfl
 |cons k ks ih =>
  intro l hl;unfold MD at hl;split at hl
  ·cases ‹_=[]›
  ·rename_i e1;injection e1 with e1 e2
   subst e2;simp only[me,ll]at hl;simp only[List.zip_cons_cons,List.all_cons,ih _ hl.2,Bool.and_true,Instr.sameBits,mb]
  ·rename_i e1;injection e1 with e1 e2
   subst e2;simp only[List.zip_cons_cons,List.all_cons,ih _ hl,Bool.and_true,Instr.sameBits,mb]
  ·rename_i e1;injection e1 with e1 e2
   subst e2;simp only[List.zip_cons_cons,List.all_cons,ih _ hl,Bool.and_true,Instr.sameBits,(bytes_beq _ _).2 rfl]
  cases hl
theorem lC{E:TypeId->Option (List Kd)}{kt:TypeId}{k:Value}(hk:Gx P E kt k):(Instr.keyThatStays k k).run P w=.ok k w:=by
 have:Instr.sameBits 10000 k k=true:=by
  rcases hk with ⟨kd,_,h1⟩|⟨ks,vs,fs,_,_,_,rfl,h2⟩
  ·exact sameBits_self h1 10000
  show Instr.sameBits (9999+1) (.agg vs) (.agg vs)=true;simp only[Instr.sameBits,mb,Bool.true_and];exact uV 9998 ks _ h2
 simp[Instr.keyThatStays,this]
theorem U0{E:TypeId->Option (List Kd)}{kt:TypeId}{k:Value}(hk:Gx P E kt k)(em:Bool):(Instr.checkKey em 10000 kt k).run P w=.ok () w:=by
 rcases hk with ⟨kd,hu,h1⟩|⟨ks,vs,fs,_,hu,hsc,rfl,h2⟩
 ·exact run_checkKey hu h1 em 9999
 obtain⟨_,hlen⟩:=XI _ _ h2;rw[show(10000:Nat)=9998+1+1 from rfl,Instr.checkKey];simp only[Sem.run_bind,run_underlying hu,Result.andThen_ok];rw[<- Array.forIn_toList];unfold df at hsc;generalize fs.toList=L at hsc;induction L with
 |nil=>simp
 |cons f L ih =>
  simp only[List.all_cons,me,bne_iff_ne,ne_eq]at hsc;obtain⟨⟨hn,hlt,hsT⟩,hrest⟩:=hsc;have hlt':f.offset<vs.size:=by
   have:=mr hlt;have:vs.toList.length=vs.size:=by simp
   omega
  have hpart:(part f.type vs f.offset).run P w=.ok vs[f.offset] w/\(Instr.checkKey em (9998+1) f.type vs[f.offset]).run P w=.ok () w:=by
   unfold de at hsT;cases ht:ti P f.type with
   |none=>rw[ht]at hsT;cases hsT
   |some t =>
    obtain⟨s,ag,d⟩:=t;rw[ht]at hsT;have ha:=KH ht;obtain⟨_,hag,hu',_,_⟩:=Bk ht w;have hagf:ag=false:=by
     simp only at ha;rw[ha];cases d<;>simp at hsT<;>rfl
    rw[hagf]at hag;refine⟨?_,?_⟩
    ·simp[part,hag,hlt']
    unfold Instr.checkKey;simp only[Sem.run_bind,hu',Result.andThen_ok];cases d<;>simp at hsT<;>rfl
  simp only[List.forIn_cons,Sem.run_bind,hn,ne_eq,not_false_eq_true,if_true,Result.andThen_ok,hpart.1,hpart.2,Sem.run_pure];exact ih hrest
theorem wN{kt:TypeId}{key:Value}:∀(l:List MapEntry) (n i:Nat) (e:MapEntry),(∀x∈l,∃r,(Op.equal kt key x.key).run P w=.ok r w/\(r=true↔key=x.key))->l[i]? = some e->e.key=key->(∀j x,j<i->l[j]? = some x->x.key≠key) ->
  (Instr.findAsking kt key l n).run P w=.ok (some (n+i,e.val)) w
 |[],n,i,e,_,h,_,_=>by simp at h
 |y::l,n,i,e,hq,h,hk,hb=>by
  obtain⟨r,h1,h2⟩:=hq y (.head _);simp only[Instr.findAsking,Sem.run_bind,h1,Result.andThen_ok];cases i with
  |zero =>
   simp at h;subst h;have:r=true:=h2.2 hk.symm;subst this;simp
  |succ i =>
   have:r=false:=by
    cases r
    ·rfl
    exact absurd (h2.1 rfl).symm (hb 0 y mz rfl)
   subst this;simp only[Bool.false_eq_true,if_false];rw[wN l (n+1) i e (fun x hx=>hq x (.tail _ hx)) (by simpa using h) hk fun j x hj hx=>hb (j+1) x mz (by simpa using hx),show n+1+i=n+(i+1)by omega]
theorem ZS{kt:TypeId}{key:Value}:∀(l:List MapEntry) (n:Nat),(∀x∈l,∃r,(Op.equal kt key x.key).run P w=.ok r w/\(r=true↔key=x.key))->(∀x∈l,x.key≠key)->(Instr.findAsking kt key l n).run P w=.ok none w
 |[],n,_,_=>by simp[Instr.findAsking]
 |y::l,n,hq,hb=>by
  obtain⟨r,h1,h2⟩:=hq y (.head _);have:r=false:=by
   cases r
   ·rfl
   exact absurd (h2.1 rfl).symm (hb y (.head _))
  subst this;simp only[Instr.findAsking,Sem.run_bind,h1,Result.andThen_ok,Bool.false_eq_true,if_false];exact ZS l (n+1) (fun x hx=>hq x (.tail _ hx)) fun x hx=>hb x (.tail _ hx)
theorem ZI{V:Env P}(hV:LS P V){kt:TypeId}{k k':Value}{ks:List Kd}{vs us:Array Value}(hE:V.E kt=some ks)(h1:MD ks vs.toList=true)(h2:MD ks us.toList=true):∃r,(Op.equal kt (.agg vs) (.agg us)).run P w=.ok r w/\(r=true↔Value.agg vs=Value.agg us):=by
 obtain⟨r,e1,e2⟩:=bf ks _ _ h1 h2;have f1:=XI _ _ h1;have f2:=XI _ _ h2;have:=dF (M:=fun _=>none) (σ:=fun _=>⟨0,0,false⟩) (w:=w) hV hE (Oo _ _ _ f1.1) (Oo _ _ _ f2.1) e1;refine⟨r,?_,?_⟩
 ·simp only[Array.toArray_toList]at this;exact this
 rw[e2];constructor
 ·intro h;congr 1;exact Array.toList_inj.1 h
 intro h;injection h with h;rw[h]
theorem KC{E:TypeId->Option (List Kd)}{kt:TypeId}{k:Value}{kd:TypeDesc}(hu:P.underlying kt=some kd)(hk:Gx P E kt k):IsKey kd k\/∃ks vs fs,E kt=some ks/\kd=.struct fs/\k=.agg vs/\MD ks vs.toList=true:=by
 rcases hk with ⟨kd',h1,h2⟩|⟨ks,vs,fs,h1,h2,_,h3,h4⟩
 ·rw[hu]at h1;injection h1 with h1;subst h1;exact .inl h2
 rw[hu]at h2;injection h2 with h2;exact .inr ⟨ks,vs,fs,h1,h2,h3,h4⟩
theorem uU{E:TypeId->Option (List Kd)}{kt:TypeId}{k:Value}(hk:Gx P E kt k):∃kd,P.underlying kt=some kd:=by
 rcases hk with ⟨kd',h1,h2⟩|⟨ks,vs,fs,h1,h2,_⟩
 ·exact⟨_,h1⟩
 exact⟨_,h2⟩
theorem Gt{fs:Array Field}{v:Value}:¬ IsKey (.struct fs) v:=by cases v<;>simp[IsKey]
theorem gZ{V:Env P}(hV:LS P V){kt:TypeId}{key:Value}(hk:Gx P V.E kt key){l:List MapEntry}(hl:∀x∈l,Gx P V.E kt x.key){i:Nat}{e:MapEntry}(he:l[i]? = some e)(hek:e.key=key)(hb:∀j x,j<i->l[j]? = some x->x.key≠key) :
  (Instr.findKey kt key l).run P w=.ok (some (i,e.val)) w:=by
 obtain⟨kd,hu⟩:=uU hk;rcases KC hu hk with h1|⟨ks,vs,fs,hE,rfl,rfl,hf⟩
 ·have hall:∀x∈l,IsKey kd x.key:=fun x hx=>by
   rcases KC hu (hl x hx)with h2|⟨_,_,fs,_,rfl,_⟩
   ·exact h2
   exact absurd h1 Gt
  have:=Nw h1 l 0 i hall e he hek hb;rw[mw]at this;exact run_findKey hu this
 rw[run_findKey_eq w (by rw[hu])];have:=wN (P:=P) (w:=w) (kt:=kt) (key:=.agg vs) l 0 i e (fun x hx=>by
  rcases KC hu (hl x hx)with h2|⟨ks2,us,fs2,hE2,_,h4,h5⟩
  ·exact absurd h2 Gt
  rw[hE]at hE2;injection hE2 with hE2;subst hE2
  rw[h4];exact ZI (k:=.agg vs) (k':=.agg us) hV hE hf h5) he hek hb
 rw[mw]at this;exact this
theorem U1{V:Env P}(hV:LS P V){kt:TypeId}{key:Value}(hk:Gx P V.E kt key){l:List MapEntry}(hl:∀x∈l,Gx P V.E kt x.key)(hb:∀x∈l,x.key≠key) :
  (Instr.findKey kt key l).run P w=.ok none w:=by
 obtain⟨kd,hu⟩:=uU hk;rcases KC hu hk with h1|⟨ks,vs,fs,hE,rfl,rfl,hf⟩
 ·have hall:∀x∈l,IsKey kd x.key:=fun x hx=>by
   rcases KC hu (hl x hx)with h2|⟨_,_,fs,_,rfl,_⟩
   ·exact h2
   exact absurd h1 Gt
  exact run_findKey hu (Ky h1 l 0 hall hb)
 rw[run_findKey_eq w (by rw[hu])];exact ZS (P:=P) (w:=w) (kt:=kt) (key:=.agg vs) l 0 (fun x hx=>by
  rcases KC hu (hl x hx)with h2|⟨ks2,us,fs2,hE2,_,h4,h5⟩
  ·exact absurd h2 Gt
  rw[hE]at hE2;injection hE2 with hE2;subst hE2
  rw[h4];exact ZI (k:=.agg vs) (k':=.agg us) hV hE hf h5) hb
theorem gS{ka:Av}{key V:Value}(hk:aw ka=some key)(hR:RA M σ ka V):V=key:=by
 unfold aw at hk;split at hk
 ·simp only[l7]at hk;subst hk;exact hR.1
 ·rename_i l;cases hb:l.all uA with
  |false=>rw[hb]at hk;cases hk
  |true =>
   rw[hb]at hk;simp only[mi,l7]at hk;subst hk;obtain⟨vs,rfl,h2⟩:=hR;congr 2;induction h2 with
   |nil=>rfl
   | @cons c v l vs h3 _ ih =>
    simp only[List.all_cons,me]at hb;rw[List.map_cons,<- ih hb.2];congr 1;cases c<;>simp[uA]at hb;exact h3.1
 cases hk
theorem cQ{T:TypeId}(ho:o.op=.makeMap T none)(he:K5 P T=some e)(hs:Std M σ w h)(hr:res h e=some (cs,g)){d:Nat}(hd:o.dst=some d):GF P M σ o a w g:=by
 unfold K5 at he;split at he
 ·split at he
  ·rename_i z hz;simp only[l7]at he;subst he;simp only[res,l7,l8]at hr;obtain⟨rfl,rfl⟩:=hr;refine .inl ⟨.map (some w.heap.size),w.alloc (.map #[] 0),?_,M,upd σ d ⟨w.heap.size,0,false⟩,⟨w.heap.size,0,false⟩,d,hd,?_,.inr ⟨lu _,?_⟩,rfl,?_,?_⟩
   ·simp only[execOp,ho,Option.map_none,Instr.makeMap,Sem.run_bind,run_newObj,Result.andThen_ok,Sem.run_pure];rfl
   ·refine⟨rfl,rfl,rfl,?_,fun b hb _=>(heap_alloc w _).2 b hb,fun _ _ h=>h,fun _ _ h h'=>by(rw[h]at h';cases h'),fun b o hm=>?_⟩
    ·show w.heap.size<=(w.heap.push _).size;simp
    have hb:=hs.imm b o hm;have hlt:b<w.heap.size:=(Array.getElem?_eq_some_iff.1 hb).1;rw[(heap_alloc w _).2 b hlt];exact hb
   ·cases hM:M w.heap.size with
    |none=>rfl
    |some o=>have:=(Array.getElem?_eq_some_iff.1 (hs.imm _ _ hM)).1;omega
   ·refine⟨rfl,#[],0,fun _ _=>undef,(heap_alloc w _).1,rfl,fun i e he=>by simp at he,fun i j hi=>absurd hi (lw _)⟩
   show Value.map _=.map (some (upd σ d _ d).b);rw[BH]
  cases he
 cases he
theorem aW{el:TypeId}{agg:Bool}{nv:Nat}{z:List Cl}{iz:TypeInfo}{zv:Value}(hiz:P.info? el=some iz)(hzv:iz.zero=some zv)(hzL:L2 (R M σ) z zv.cells.toList)(hzm:z=zv.cells.toList.map Cl.val)(e1:agg=IV P el)(hb4:agg=true\/nv=1)(hzl:z.length=nv) :
  (agg=true->∃zs:Array Value,zv=.agg zs)/\(agg=false->zv.oneCell'=true/\z=[.val zv]):=by
 unfold IV at e1;rw[hiz]at e1;simp only[hzv]at e1;constructor
 ·intro hag;rw[hag]at e1;split at e1
  ·rename_i zs heq;injection heq with heq;exact⟨zs,heq⟩
  cases e1
 intro hag;rw[hag]at e1 hb4;have hne:∀zs,zv≠.agg zs:=fun zs e=>by subst e;simp at e1
 have hcells:zv.cells = #[zv]:=by cases zv<;>first|rfl|exact absurd rfl (hne _)
 rw[hcells]at hzm hzL;simp only[List.map_cons,List.map_nil]at hzm;refine⟨?_,hzm⟩;subst hzm;cases hzL with|cons q1 _=>exact q1.2
theorem tN{V:Env P}(hV:LS P V){q:Option (Bool×Nat)}{T:TypeId}{x k:Operand}{cok:Bool}{n:Nat}{v:Tv}(ho:o.op=.lookup T x k cok)(hx:RT M σ (.av (.one (.om n))) (a.eval x))(hk:RT M σ v (a.eval k))(he:TS P V.E q T n v cok=some e)(hs:Std M σ w h)(hr:res h e=some (cs,g))(hc:CI cs):GF P M σ o a w g:=by
 unfold TS at he;split at he
 ·rename_i s ag kt el ka found i ht;split at he
  ·rename_i key z hkey hz;simp only[l7]at he;subst he;simp only[res,G3]at hr;cases hn:h n with
   |none=>rw[hn]at hr;cases hr
   |some blk =>
    rw[hn]at hr;cases blk with
    |cells=>cases hr
    |row=>cases hr
    |rowx=>cases hr
    |omap agg nv len kf vf =>
    simp only at hr;cases hb:(Nat.beq z.length nv&&(agg==IV P el)&&(agg||Nat.beq nv 1))with
    |false=>rw[hb]at hr;cases hr
    |true =>
     rw[hb]at hr;simp only[mi,l7,l8]at hr;obtain⟨rfl,rfl⟩:=hr;simp only[me]at hb;obtain⟨⟨hb1,hb3⟩,hb4⟩:=hb;have hzl:=lx hb1;obtain⟨_,_,hu,_,_⟩:=Bk ht w;obtain⟨iz,zv,hiz,hzv,hzL,hzm,hzr⟩:=FE (M:=M) (σ:=σ) (w:=w) hz;obtain⟨hk0,hk1,hk2,hk3⟩:=hc.head;have hkv:a.eval k=key:=gS hkey hk;have hX:a.eval x=.map (some (σ n).b):=hx;obtain⟨hnil,es,clock,gv,hblk,h1,h2,h3⟩:=hs.blk n _ hn;have hkeys:∀e∈es.toList,Gx P V.E kt e.key:=fun e he=>by
      obtain⟨j,hj⟩:=List.mem_iff_getElem?.1 he;have hj':es[j]? = some e:=by simpa using hj
      rw[(h2 j e hj').1];exact hk1 j (by rw[<- h1];exact(Array.getElem?_eq_some_iff.1 hj').1)
     have hb4':agg=true\/nv=1:=by
      cases agg
      ·exact .inr (lx hb4)
      exact .inl rfl
     have hzagg:=aW hiz hzv hzL hzm (by simpa using hb3) hb4' hzl;have fin:∀(r:Option (Nat×Value)) (V:Value),(Instr.findKey kt key es.toList).run P w=.ok r w->(match r with
       |some (_,v)=>v
       |none=>zv)=V->r.isSome=found->RA M σ (QU agg found nv (vf i) z) V->GF P M σ o a w (.val (bif cok then .tup [(QU agg found nv (vf i) z),.one (.val (.bool found))]else .av (QU agg found nv (vf i) z))):=by
      intro r V hrun hV hf hR;refine BF hs.imm (V:=if cok then .tuple #[V,.bool found]else V) ?_ ?_
      ·have hck:=U0 (w:=w) hk0 es.isEmpty;simp only[execOp,ho,hX,hkv,Instr.lookup,Sem.run_bind,hu,Result.andThen_ok,Go.MapKept.run_getObj_map hblk,Sem.run_pure,hck,hrun];cases r with
       |some p =>
        simp only at hV;subst hV;simp only[Option.isSome_some]at hf;subst hf;rfl
       |none =>
        simp only at hV;subst hV;simp only[Option.isSome_none]at hf;subst hf;simp only[Sem.run_bind,hzr,Result.andThen_ok,Sem.run_pure]
      cases cok with
      |true=>exact⟨[V,.bool found],rfl,.cons hR (.cons ⟨rfl,rfl⟩ .nil)⟩
      |false=>exact hR
     cases hf:found with
     |true =>
      rw[hf]at fin;obtain⟨hi,hki,hbefore⟩:=hk2 hf;have hlt:i<es.size:=by omega
      have hei:es[i]? = some es[i]:=by simp[hlt]
      have hfnd:=gZ (w:=w) hV hk0 hkeys (i:=i) (e:=es[i]) m3 ((h2 i _ hei).1.trans hki) (fun j e' hj hej=>by
       have hej':es[j]? = some e':=by simpa using hej
       rw[(h2 j e' hej').1];exact hbefore j hj)
      refine fin _ (mpV agg nv (gv i)) hfnd (h2 i _ hei).2 rfl ?_;cases hag:agg with
      |true =>
       refine⟨(List.range nv).map (gv i),rfl,We (by simp[hzl]) ?_⟩;refine L2.of m3 fun j p q hp hq=>?_;have hj:j<nv:=by have:=(List.getElem?_eq_some_iff.1 hp).1;simpa using this
       simp only[ld,lc hj,Option.map_some,l7]at hp hq;subst hp;subst hq;exact QC (h3 i j hi hj)
      |false =>
       have hnv:nv=1:=hb4'.resolve_left (by rw[hag];decide);exact Wg (QC (h3 i 0 hi mz))
     |false =>
      rw[hf]at fin;have hfnd:=U1 (w:=w) hV hk0 hkeys (fun e he=>by
       obtain⟨j,hj⟩:=List.mem_iff_getElem?.1 he;have hj':es[j]? = some e:=by simpa using hj
       rw[(h2 j e hj').1];exact hk3 hf j (by rw[<- h1];exact(Array.getElem?_eq_some_iff.1 hj').1))
      refine fin none zv hfnd rfl rfl ?_;cases hag:agg with
      |true =>
       obtain⟨zs,rfl⟩:=hzagg.1 hag;exact⟨zs.toList,by simp,Wf (by simp[hzl]) hzL⟩
      |false =>
       obtain⟨h5,h6⟩:=hzagg.2 hag;rw[h6];exact Wh ⟨rfl,h5⟩
  cases he
 cases he
theorem kM{V:Env P}(hV:LS P V){q:Option (Bool×Nat)}{T:TypeId}{m k x:Operand}{vm vk vx:Tv}(ho:o.op=.mapUpdate T m k x)(hm:RT M σ vm (a.eval m))(hk:RT M σ vk (a.eval k))(hx:RT M σ vx (a.eval x))(he:P1 P V.E q T vm vk vx=some e)(hs:Std M σ w h)(hr:res h e=some (cs,g))(hc:CI cs):GF P M σ o a w g:=by
 unfold P1 at he;split at he
 ·rename_i s ag kt el n ka va found i ht;split at he
  ·rename_i key hkey;cases hdv:va.dv with
   |false=>rw[hdv]at he;cases he
   |true =>
   rw[hdv]at he;simp only[mi,l7]at he;subst he;simp only[res,G3]at hr;cases hn:h n with
   |none=>rw[hn]at hr;cases hr
   |some blk =>
    rw[hn]at hr;cases blk with
    |cells=>cases hr
    |row=>cases hr
    |rowx=>cases hr
    |omap agg nv len kf vf =>
    simp only at hr;cases hb:(Nat.beq va.cells.length nv&&(agg==va.isAgg))with
    |false=>rw[hb]at hr;cases hr
    |true =>
     rw[hb]at hr;simp only[mi,l7,l8]at hr;obtain⟨rfl,rfl⟩:=hr;simp only[me]at hb;obtain⟨hb1,hb3⟩:=hb;have hlen:=lx hb1;have hagg:agg=va.isAgg:=by simpa using hb3
     obtain⟨_,_,hu,_,_⟩:=Bk ht w;obtain⟨hk0,hk1,hk2,hk3⟩:=hc.head;have hkv:a.eval k=key:=gS hkey hk;have hX:a.eval m=.map (some (σ n).b):=hm;obtain⟨hnil,es,clock,gv,hblk,h1,h2,h3⟩:=hs.blk n _ hn;have hkeys:∀e∈es.toList,Gx P V.E kt e.key:=fun e he=>by
      obtain⟨j,hj⟩:=List.mem_iff_getElem?.1 he;have hj':es[j]? = some e:=by simpa using hj
      rw[(h2 j e hj').1];exact hk1 j (by rw[<- h1];exact(Array.getElem?_eq_some_iff.1 hj').1)
     -- the value's cells
     obtain⟨gx,hgx,hgR⟩:∃gx:Nat->Value,a.eval x=mpV agg nv gx/\∀j,j<nv->RC M (va.cells.getD j default) (gx j):=by
      have hcells:=Om hx;refine⟨fun j=>(a.eval x).cells.toList.getD j undef,?_,fun j hj=>?_⟩
      ·cases va with
       |one c =>
        have:agg=false:=hagg;subst this;have h5:=MK (M:=M) (σ:=σ) hx;rw[VE h5];rfl
       |agg l =>
        have:agg=true:=hagg;subst this;obtain⟨vs,hvs,h6⟩:=hx;rw[hvs];have h7:=h6.length;have h8:l.length=nv:=hlen;show Value.agg vs.toArray=.agg _;congr 2;refine List.ext_getElem? fun j=>?_;rw[ld]
        by_cases hj:j<nv
        ·rw[lc hj];simp only[Option.map_some,Value.cells,aE];rw[ea mz];rfl
        rw[cw (l:=vs) mz,cw (l:=List.range nv) (by simp;omega)];rfl
      have hj':j<va.cells.length:=by omega
      obtain⟨u,hu1,hu2⟩:=hcells.get j va.cells[j] (ea hj');show RC M (va.cells.getD j default) ((a.eval x).cells.toList.getD j undef);rw[aE,ea hj',aE,hu1];have hd:(va.cells[j]).dv=true:=by
       cases va with
       |one c=>simp only[Av.cells,List.getElem_singleton];exact hdv
       |agg l=>exact(List.all_eq_true.1 hdv) _ (List.getElem_mem _)
      exact(Mx hd).1 hu2
     have hset:∀(o':Obj),∃w',(setObj (σ n).b o').run P w=.ok () w'/\w'={ w with heap:=w.heap.setIfInBounds (σ n).b o' }:=fun o'=>⟨_,run_setObj_map o' hblk,rfl⟩;have fin:∀(es':Array MapEntry) (clock':Nat),(Instr.mapUpdate T (a.eval m) (a.eval k) (a.eval x)).run P w=(setObj (σ n).b (.map es' clock')).run P w->es'.size=(bif found then len else len+1) ->
       (∀j e,es'[j]? = some e->(j=(bif found then i else len)/\e.key=key/\e.val=a.eval x)\/(j≠(bif found then i else len)/\es[j]? = some e)) ->
       GF P M σ o a w (.wr n (.tup []) (.omap agg nv (bif found then len else len+1) (fun j=>bif Nat.beq j (bif found then i else len)then key else kf j) (fun j c=>bif Nat.beq j (bif found then i else len)then va.cells.getD c default else vf j c))):=by
      intro es' clock' hrun hsz hes;obtain⟨w',hw1,hw2⟩:=hset (.map es' clock');obtain⟨g1,g2⟩:=heap_set (o':=.map es' clock') hblk;have hold:∀b,¬ only (σ n) b->w'.heap[b]? = w.heap[b]? := fun b hb=>by
       rw[hw2];exact g2 b fun e=>hb ⟨hnil,e⟩
      refine .inr (.inl ⟨w',?_,M,σ,⟨by rw[hw2],by rw[hw2],by rw[hw2],by rw[hw2];simp,fun b _ hb=>hold b hb,fun _ _ h=>h,fun _ _ h h'=>by(rw[h]at h';cases h'),fun b o hm' => ?_⟩,rfl,⟨[],rfl,.nil⟩,hnil,es',clock',fun j=>if j=(bif found then i else len)then gx else gv j,?_,hsz,fun j e hj=>?_,fun j c hj hc' => ?_⟩)
      ·simp only[execOp,ho,Sem.run_bind,hrun,hw1,Result.andThen_ok,Sem.run_pure]
      ·have hne:¬ only (σ n) b:=fun⟨_,he⟩=>by
        rcases hs.loc n _ hn with h8|h8
        ·rw[hnil]at h8;cases h8
        rw[<- he,hm']at h8;cases h8
       rw[hold b hne];exact hs.imm b o hm'
      ·rw[hw2];exact g1
      ·rcases hes j e hj with ⟨rfl,h5,h6⟩|⟨h5,h6⟩
       ·simp only[if_true,Nat.beq_refl,mi];exact⟨h5,by rw[h6,hgx]⟩
       have:Nat.beq j (bif found then i else len)=false:=by rw[Cb];exact lk h5
       simp only[h5,if_false,this,mj];exact h2 j e h6
      by_cases h5:j=(bif found then i else len)
      ·subst h5;simp only[if_true,Nat.beq_refl,mi];exact hgR c hc'
      have:Nat.beq j (bif found then i else len)=false:=by rw[Cb];exact lk h5
      simp only[h5,if_false,this,mj];refine h3 j c ?_ hc';cases hf:found with
      |true=>rw[hf]at hj;exact hj
      |false=>rw[hf]at hj h5;simp only[mj]at hj h5;omega
     have hck:=U0 (w:=w) hk0 false;cases hf:found with
     |true =>
      rw[hf]at fin;obtain⟨hi,hki,hbefore⟩:=hk2 hf;have hlt:i<es.size:=by omega
      have hei:es[i]? = some es[i]:=by simp[hlt]
      have hfnd:=gZ (w:=w) hV hk0 hkeys (i:=i) (e:=es[i]) m3 ((h2 i _ hei).1.trans hki) (fun j e' hj hej=>by
       have hej':es[j]? = some e':=by simpa using hej
       rw[(h2 j e' hej').1];exact hbefore j hj)
      have hst:=lC (w:=w) hk0;refine fin (es.modify i fun e=>{ e with key:=key,val:=a.eval x }) clock ?_ (by simp[h1]) fun j e hj=>?_
      ·simp only[Instr.mapUpdate,Sem.run_bind,hu,hX,Result.andThen_ok,Go.MapKept.run_getObj_map hblk,hkv,hck,hfnd,hei,Option.map_some,Option.getD_some,(h2 i _ hei).1,hki,hst]
      rw[Array.getElem?_modify]at hj
      by_cases hji:i=j
      ·subst hji;rw[if_pos rfl,hei]at hj;simp only[Option.map_some,l7]at hj;subst hj;exact .inl ⟨rfl,rfl,rfl⟩
      rw[if_neg hji]at hj;exact .inr ⟨Ne.symm hji,hj⟩
     |false =>
      rw[hf]at fin;have hfnd:=U1 (w:=w) hV hk0 hkeys (fun e he=>by
       obtain⟨j,hj⟩:=List.mem_iff_getElem?.1 he;have hj':es[j]? = some e:=by simpa using hj
       rw[(h2 j e hj').1];exact hk3 hf j (by rw[<- h1];exact(Array.getElem?_eq_some_iff.1 hj').1))
      refine fin (es.push { key:=key,val:=a.eval x,born:=clock }) (clock+1) ?_ (by simp[h1]) fun j e hj=>?_
      ·simp only[Instr.mapUpdate,Sem.run_bind,hu,hX,Result.andThen_ok,Go.MapKept.run_getObj_map hblk,hkv,hck,hfnd]
      rw[Array.getElem?_push]at hj
      by_cases hji:j=es.size
      ·rw[if_pos hji]at hj;simp only[l7]at hj;subst hj;exact .inl ⟨by simp only[mj];omega,rfl,rfl⟩
      rw[if_neg hji]at hj;exact .inr ⟨by simp only[mj];omega,hj⟩
  cases he
 cases he
end
end
section
open Go.RowKit Go.MapKept
section
variable {P:Program}
def az(dst:Option Nat):Eg->Prop
 |.new b _=>∃d,dst=some d/\b.no d=true
 |.app _ b _=>∃d,dst=some d/\b.no d=true
 |_=>True
def j2(P:Program)(f:FuncId)(xs:List Av)(e:Ef):Prop :=
 (∀args w,(callFunc f args).run P w=.ok (.enter f args) w) /\
 ∀(M:m5) (σ:Nat->Loc) (w:World) (h:Nat->Option Blk) (args:List Value) (cs:List Prop) (g:Eg),Std M σ w h->L2 (RA M σ) xs args->res h e=some (cs,g)->CI cs ->
  Calls P f args.toArray w fun en w'=>∃V,en=.returned V/\∀dst,az dst g->∃M' σ',b8 M σ w dst V w' M' σ' g
def cp(P:Program)(f:FuncId)(xs:List Av)(e:Ef):Prop:=∃cs v,e=.val cs v/\∀(M:m5) (σ:Nat->Loc) (w:World) (args:List Value),(∀b o,M b=some o->w.heap[b]? = some o)->CI cs->L2 (RA M σ) xs args->∃V,(callFunc f args.toArray).run P w=.ok (.value V) w/\RT M σ v V
def EI(P:Program)(f:FuncId)(xs:List Av)(e:Ef):Prop:=j2 P f xs e\/cp P f xs e
structure MQ (P:Program) (V:Env P):Prop where
 eqs:LS P V
 calls:∀ d f xs e,V.Γ d=some (f,xs,e)->EI P f xs e
variable {M:m5}{σ:Nat→Loc}{w:World}{h:Nat→Option Blk}{a:Act}{o:Oper}{cs:List Prop}{g:Eg}{e:Ef}
theorem qN{h:Nat->Option Blk}{p:Prop}{e:Ef}{cs:List Prop}{g:Eg}(hr:res h (UK p e)=some (cs,g))(hc:CI cs):p/\∃ds,res h e=some (ds,g)/\CI ds:=by
 cases e with
 |val ds v =>
  simp only[UK,res,l7,l8]at hr;obtain⟨rfl,rfl⟩:=hr;exact⟨hc.head,ds,rfl,hc.tail⟩
 |rd ns k =>
  simp only[UK,res]at hr ⊢;split at hr
  ·rename_i bs hb;cases hk:k bs with
   |none=>rw[hk]at hr;cases hr
   |some q =>
    rw[hk]at hr;simp only[l7,l8]at hr;obtain⟨rfl,rfl⟩:=hr;exact⟨hc.head,q.1,by simp only[hk],hc.tail⟩
  cases hr
 |wr n ns k =>
  simp only[UK,res]at hr ⊢;split at hr
  ·rename_i b bs hb1 hb2;cases hk:k b bs with
   |none=>rw[hk]at hr;cases hr
   |some q =>
    rw[hk]at hr;obtain⟨q1,q2,q3⟩:=q;simp only[l7,l8]at hr;obtain⟨rfl,rfl⟩:=hr;exact⟨hc.head,q1,by simp only[hk],hc.tail⟩
  cases hr
 |wq n q k =>
  simp only[UK,res]at hr ⊢;split at hr
  ·rename_i b bq hb1 hb2;cases hk:k b bq with
   |none=>rw[hk]at hr;cases hr
   |some t =>
    rw[hk]at hr;obtain⟨q1,q2,q3⟩:=t;simp only at hr;cases hl:Nat.beq n q with
    |true=>rw[hl]at hr;cases hr
    |false =>
     rw[hl]at hr;simp only[l7,l8]at hr;obtain⟨rfl,rfl⟩:=hr;exact⟨hc.head,q1,by simp only[hk,hl],hc.tail⟩
  cases hr
 |wrs ns rs k =>
  simp only[UK,res]at hr ⊢;split at hr
  ·rename_i b bs hb1 hb2;cases hk:k b bs with
   |none=>rw[hk]at hr;cases hr
   |some q =>
    rw[hk]at hr;obtain⟨q1,q2,q3⟩:=q;simp only at hr;cases hl:Nat.beq ns.length q3.length with
    |false=>rw[hl]at hr;cases hr
    |true =>
     rw[hl]at hr;simp only[l7,l8]at hr;obtain⟨rfl,rfl⟩:=hr;exact⟨hc.head,q1,by simp only[hk,hl],hc.tail⟩
  cases hr
 |new ds b v =>
  simp only[UK,res,l7,l8]at hr;obtain⟨rfl,rfl⟩:=hr;exact⟨hc.head,ds,rfl,hc.tail⟩
 |app n ns k =>
  simp only[UK,res]at hr ⊢;split at hr
  ·rename_i b bs hb1 hb2;cases hk:k b bs with
   |none=>rw[hk]at hr;cases hr
   |some q =>
    rw[hk]at hr;obtain⟨q1,q2,q3⟩:=q;simp only[l7,l8]at hr;obtain⟨rfl,rfl⟩:=hr;exact⟨hc.head,q1,by simp only[hk],hc.tail⟩
  cases hr
theorem bo{V:Env P}(hV:MQ P V){c:Call}{f:Operand}{ev:Operand->Option Tv}{xs:List Av}{q:FuncId}{k:Nat}{caps:Nat->Cl}(hev:∀x v,ev x=some v->RT M σ v (a.eval x))(ho:o.op=.call c)(hcf:c.callee=.value f)(hxs:FQ ev c.args.toList=some xs)(hf:ev f=some (.av (.one (.clo q k caps))))
 {d:Nat}{xs':List Av}(he:V.Γ d=some (q,xs',e))(hs:Std M σ w h)(hr:res h (UK (xs++Dc k caps=xs') e)=some (cs,g))(hc:CI cs)(hn:az o.dst g):GF P M σ o a w g:=by
 obtain⟨hxe,ds,hr2,hc2⟩:=qN hr hc;clear hr hc;subst hxe;have hcalls:=hV.calls _ _ _ _ he;obtain⟨caps',hfv,hsz,hcaps⟩:=hev f _ hf;have hargs:=JO hev _ _ hxs;have hcl:L2 (RA M σ) (Dc k caps) caps'.toList:=by
  refine L2.of (by simp[Dc,hsz]) fun i x y hx hy=>?_;have hi:i<k:=by have:=(List.getElem?_eq_some_iff.1 hx).1;simpa [Dc]using this
  have:=hcaps i hi;simp only[Dc,ld,lc hi,Option.map_some,l7]at hx;subst hx;have hy':caps'.getD i undef=y:=by
   simp only[l6];rw[<- Array.getElem?_toList,hy];rfl
  rw[hy']at this;exact this
 have hmap:c.args.map a.eval=(c.args.toList.map a.eval).toArray:=by apply Array.ext';simp
 have happ:(c.args.toList.map a.eval).toArray++caps'=(c.args.toList.map a.eval++caps'.toList).toArray:=by apply Array.ext';simp
 have hres:(resolve a.eval c o.type).run P w=.ok { target:=.fn (.func q) caps',args:=(c.args.toList.map a.eval).toArray } w:=by
  simp only[resolve,hcf,hfv,Deferred.ofValue,hmap];simp
 rcases hcalls with ⟨h1,h2⟩|⟨cs1,v1,rfl,h2⟩
 ·have hfin:=h2 M σ w h (c.args.toList.map a.eval++caps'.toList) ds g hs (hargs.append hcl) hr2 hc2;refine .inr (.inr ⟨q,(c.args.toList.map a.eval++caps'.toList).toArray,?_,?_⟩)
  ·simp only[execOp,ho,Sem.run_bind,hres,Result.andThen_ok,invoke,happ];exact h1 _ _
  exact hfin.mono fun en w' ⟨V,hV,hall⟩=>⟨V,hV,hall o.dst hn⟩
 obtain⟨rfl,rfl⟩:=Br hr2;obtain⟨V,e1,e2⟩:=h2 M σ w (c.args.toList.map a.eval++caps'.toList) hs.imm hc2 (hargs.append hcl);refine BF hs.imm (V:=V) ?_ e2;simp only[execOp,ho,Sem.run_bind,hres,Result.andThen_ok,invoke,happ];exact e1
theorem XM{V:Env P}(hV:MQ P V){ev:Operand->Option Tv}(hev:∀x v,ev x=some v->RT M σ v (a.eval x))(he:eff P V o.dst o.op ev=some e)(hs:Std M σ w h)(hr:res h e=some (cs,g))(hc:CI cs)(hn:az o.dst g):GF P M σ o a w g:=by
 have hdn:∀b v,g=.new b v->∃d,o.dst=some d/\b.no d=true:=fun b v hg=>by subst hg;exact hn
 have hda:∀n b v,g=.app n b v->∃d,o.dst=some d/\b.no d=true:=fun n b v hg=>by subst hg;exact hn
 cases hop:o.op<;>rw[hop]at he<;>simp only[eff,JL]at he<;>try(cases he;done)
 case move x =>
  obtain⟨v,hv,rfl⟩:=Option.map_eq_some_iff.1 he;obtain⟨rfl,rfl⟩:=Br hr;exact BF hs.imm (V:=a.eval x) (by simp only[execOp,hop];rfl) (hev x v hv)
 case assign x =>
  obtain⟨v,hv,rfl⟩:=Option.map_eq_some_iff.1 he;obtain⟨rfl,rfl⟩:=Br hr;exact BF hs.imm (V:=a.eval x) (by simp only[execOp,hop];rfl) (hev x v hv)
 case pick c x y =>
  split at he
  ·rename_i cb ta tb h1 h2 h3;split at he
   ·rename_i ga xa gb xb h4 h5;simp only[l7]at he;subst he;exact yS hop (hev _ _ h1) (hev _ _ h2) (hev _ _ h3) h4 h5 hs hr hc
   cases he
  cases he
 case alloc T =>
  split at he
  ·rename_i z hz;simp only[l7]at he;subst he;simp only[res,l7,l8]at hr;obtain⟨rfl,rfl⟩:=hr;obtain⟨d,hd,_⟩:=hdn _ _ rfl;exact wS hop hz hs hd
  cases he
 case box T x =>
  split at he
  ·rename_i v hv;simp only[l7]at he;subst he;simp only[res,l7,l8]at hr;obtain⟨rfl,rfl⟩:=hr;obtain⟨d,hd,hno⟩:=hdn _ _ rfl;exact jv hop (hev _ _ hv) hs hd hno
  cases he
 case build T parts=>exact vX hev hop he hs hr
 case buildSlice T len parts=>exact UJ hev hop he hs hr hdn
 case load T x =>
  split at he
  ·rename_i v hv;exact aq hop (hev _ _ hv) he hs hr hc
  cases he
 case store T x y =>
  split at he
  ·rename_i p v hp hv;exact qF hop (hev _ _ hp) (hev _ _ hv) he hs hr hc
  cases he
 case fieldAddr T x k =>
  split at he
  ·rename_i v hv;exact XK hop (hev _ _ hv) he hs hr
  cases he
 case field T x k =>
  split at he
  ·rename_i v hv;exact uW hop (hev _ _ hv) he hs hr
  cases he
 case indexAddr T x i =>
  split at he
  ·rename_i v j hv hj;exact W8 hop (hev _ _ hv) (hev _ _ hj) he hs hr hc
  cases he
 case binOp op T x y yT =>
  split at he
  ·rename_i u v hu hv;exact jw hV.eqs hop (hev _ _ hu) (hev _ _ hv) he hs hr hc
  cases he
 case unOp op T x =>
  split at he
  ·rename_i v hv;obtain⟨r,hr',rfl⟩:=Option.map_eq_some_iff.1 he;exact un_ok hop (hev _ _ hv).1 hr' hs hr
  cases he
 case convert src dst x =>
  split at he
  ·rename_i v hv;exact dM hop (hev _ _ hv) he hs hr hc
  cases he
 case extract x i =>
  split at he
  ·rename_i l hl;obtain⟨v,hv,rfl⟩:=Option.map_eq_some_iff.1 he;exact dD hop (hev _ _ hl) hv hs hr
  cases he
 case nilCheck x =>
  split at he<;>first|(cases he;done)|skip
  all_goals
   rename_i hv;simp only[l7]at he;subst he;have hR:=hev _ _ hv
  ·exact IX hop rfl (.inl ⟨_,hR⟩) hs hR hr
  ·refine IX hop rfl (.inl ?_) hs hR hr;have hp:=wW hR;obtain⟨b,base,hV,_⟩:=hp;exact⟨_,hV⟩
  ·exact IX hop rfl (.inl ⟨_,hR⟩) hs hR hr
  have hR2:∃c:Array Value,_:=hR;obtain⟨c,hV,_⟩:=hR2;exact IX hop rfl (.inr ⟨_,_,hV⟩) hs hR hr
 case makeFunc fn first captured =>
  cases fn<;>simp only[eff,JL]at he<;>try(cases he;done)
  rename_i f;cases hf:first.toList.isEmpty with
  |false=>rw[hf]at he;cases he
  |true =>
   rw[hf]at he;simp only[mi]at he;split at he
   ·rename_i l hl;obtain⟨cl,hcl,rfl⟩:=Option.map_eq_some_iff.1 he;exact Ym hev hop hf hl hcl hs hr
   cases he
 case index T x i =>
  split at he
  ·rename_i v j hv hj;exact uB hop (hev _ _ hv) (hev _ _ hj) he hs hr hc
  cases he
 case makeSlice T x i =>
  split at he
  ·rename_i v j hv hj;exact Ww hop (hev _ _ hv) (hev _ _ hj) he hs hr hc (fun⟨b,v,hg⟩=>let⟨d,hd,_⟩:=hdn b v hg;⟨d,hd⟩)
  cases he
 case makeMap T r =>
  cases r<;>simp only[eff,JL]at he<;>try(cases he;done)
  have hnew:∃b v,g=.new b v:=by
   unfold K5 at he;split at he
   ·split at he
    ·simp only[l7]at he;subst he;simp only[res,l7,l8]at hr;exact⟨_,_,hr.2.symm⟩
    cases he
   cases he
  obtain⟨b,v,hg⟩:=hnew;obtain⟨d,hd,_⟩:=hdn b v hg;exact cQ hop he hs hr hd
 case mapUpdate T m k x =>
  split at he
  ·rename_i v kv xv hv hkv hxv;exact kM hV.eqs hop (hev _ _ hv) (hev _ _ hkv) (hev _ _ hxv) he hs hr hc
  cases he
 case lookup T x k cok =>
  split at he
  ·rename_i n kv d hv hkv _;exact tN hV.eqs hop (hev _ _ hv) (hev _ _ hkv) he hs hr hc
  ·rename_i v kv d _ hv hkv _;exact kQ hop (hev _ _ hv) (hev _ _ hkv) he hs hr hc
  cases he
 case slice T x lo hi mx =>
  cases mx<;>simp only[eff,JL]at he<;>try(cases he;done)
  split at he
  ·rename_i v hv;exact qH hev hop (hev _ _ hv) he hs hr hc
  cases he
 case call c =>
  split at he
  ·rename_i b xs hcb hxs;exact dX hev hop hcb hxs he hs hr hc (fun b hh=>by
    rcases hh with ⟨v,hg⟩|⟨n,v,hg⟩
    ·exact hdn b v hg
    exact hda n b v hg)
  ·rename_i f xs hcf hxs;split at he
   ·rename_i q k caps hf;split at he
    ·rename_i d hdst;split at he
     ·rename_i g' xs' e' hg;cases hb:Nat.beq g' q with
      |false=>rw[hb]at he;cases he
      |true =>
       rw[hb]at he;have:=lx hb;subst this;simp only[mi,l7]at he;subst he;exact bo hV hev hop hcf hxs hf hg hs hr hc hn
     cases he
    cases he
   cases he
  cases he
def Qy(s:AS)(dst:Option Nat)(v:Tv):AS:=match dst with
 |some d=>⟨put s.t d v,s.h⟩
 |none=>s
def yI{α:Type}(h:List (Nat×α)):List (Nat×α)->List (Nat×α)
 |[]=>h
 |(n,b)::r=>put (yI h r) n b
def orL{α:Type}(l:List (Nat×α))(H:Nat->Option α)(n:Nat):Option α:=match get l n with
 |some b=>some b
 |none=>H n
theorem Y8{α:Type}(h:List (Nat×α)):∀(l:List (Nat×α)) (n:Nat),get (yI h l) n=orL l (get h) n
 |[],n=>rfl
 |(k,b)::r,n=>by
  simp only[yI,JK,orL,get,Cb]
  by_cases e:k=n
  ·simp[e]
  simp only[e,if_false,mm,mj];rw[Y8 h r n];rfl
def Y5(s:AS)(dst:Option Nat):Eg->AS
 |.val v=>Qy s dst v
 |.wr n v b=>Qy ⟨s.t,put s.h n b⟩ dst v
 |.wrs l v=>Qy ⟨s.t,yI s.h l⟩ dst v
 |.wq n _ v b _=>Qy ⟨s.t,put s.h n b⟩ dst v
 |.new b v=>match dst with
  |some d=>⟨put s.t d (v d),put s.h d b⟩
  |none=>s
 |.app n b v=>match dst with
  |some d=>⟨put s.t d (v d),put (del s.h n) d b⟩
  |none=>s
def UD(T:Nat->Option Tv)(dst:Option Nat)(v:Tv):Nat->Option Tv:=match dst with
 |some d=>upd T d (some v)
 |none=>T
def goT(T:Nat->Option Tv)(dst:Option Nat):Eg->Nat->Option Tv
 |.val v=>UD T dst v
 |.wr _ v _=>UD T dst v
 |.wrs _ v=>UD T dst v
 |.wq _ _ v _ _=>UD T dst v
 |.new _ v=>match dst with
  |some d=>upd T d (some (v d))
  |none=>T
 |.app _ _ v=>match dst with
  |some d=>upd T d (some (v d))
  |none=>T
def goH(H:Nat->Option Blk)(dst:Option Nat):Eg->Nat->Option Blk
 |.val _=>H
 |.wr n _ b=>upd H n (some b)
 |.wrs l _=>orL l H
 |.wq n _ _ b _=>upd H n (some b)
 |.new b _=>match dst with
  |some d=>upd H d (some b)
  |none=>H
 |.app n b _=>match dst with
  |some d=>upd (upd H n none) d (some b)
  |none=>H
theorem Gv(s:AS)(dst:Option Nat)(g:Eg):get (Y5 s dst g).t=goT (get s.t) dst g/\get (Y5 s dst g).h=goH (get s.h) dst g:=by
 cases g<;>cases dst<;>refine⟨?_,?_⟩<;>funext i<;>simp only[Y5,Qy,goT,UD,goH,JK,Kt,D4,Y8]
def Ts(T:Nat->Option Tv)(H:Nat->Option Blk)(d:Nat):Prop:=(∀i v,T i=some v->v.no d=true)/\∀n b,H n=some b->n≠d/\b.no d=true
def ca(N:Nat)(T:Nat->Option Tv)(H:Nat->Option Blk)(dst:Option Nat)(g:Eg):Prop:=(∀d,dst=some d->d<N)/\match g with
 |.val _=>True
 |.wr n _ _=>(H n).isSome
 |.wrs l _=>∀n b,get l n=some b->(H n).isSome
 |.wq n q _ _ bq=>(H n).isSome/\H q=some bq/\n≠q
 |.new b _=>∃d,dst=some d/\Ts T H d/\b.no d=true
 |.app n b _=>∃d,dst=some d/\Ts T H d/\b.no d=true/\(H n).isSome
def TM(s:AS)(d:Nat):Bool:=s.t.all (fun p=>p.2.no d)&&s.h.all (fun p=>!Nat.beq p.1 d&&p.2.no d)
def KA(N:Nat)(s:AS)(dst:Option Nat):Eg->Bool
 |.val _=>dst.all fun d=>Nat.ble (d+1) N
 |.wr _ _ _=>dst.all fun d=>Nat.ble (d+1) N
 |.wrs _ _=>dst.all fun d=>Nat.ble (d+1) N
 |.wq _ _ _ _ _=>dst.all fun d=>Nat.ble (d+1) N
 |.new b _=>dst.any fun d=>Nat.ble (d+1) N&&TM s d&&b.no d
 |.app n b _=>dst.any fun d=>Nat.ble (d+1) N&&TM s d&&b.no d
theorem I0{a:Act}{N d:Nat}(hN:a.tmps.size=N)(hd:d<N)(V:Value)(i:Nat):(a.put (some d) V).tmps.getD i undef=if d=i then V else a.tmps.getD i undef:=by
 simp only[Act.put,l6,l5]
 by_cases h:d=i
 ·subst h;simp[show d<a.tmps.size by omega]
 simp[h]
theorem MA{s:AS}{d:Nat}(hf:TM s d=true):Ts (get s.t) (get s.h) d:=by
 simp only[TM,me]at hf;refine⟨fun i v hv=>(List.all_eq_true.1 hf.1) _ (DH hv),fun n b hv=>?_⟩;have:=(List.all_eq_true.1 hf.2) _ (DH hv);simp only[me]at this;exact⟨QA this.1,this.2⟩
theorem Mg{N:Nat}{s:AS}{dst:Option Nat}(hok:KA N s dst g=true)(hwr:∀n v b,g=.wr n v b->(get s.h n).isSome)(hws:∀l v,g=.wrs l v->∀n b,get l n=some b->(get s.h n).isSome)(hwq:∀n q v b bq,g=.wq n q v b bq->(get s.h n).isSome/\get s.h q=some bq/\n≠q)(hap:∀n b v,g=.app n b v->(get s.h n).isSome):ca N (get s.t) (get s.h) dst g:=by
 cases g with
 |val v=>exact⟨fun d hd=>by subst hd;exact mr hok,trivial⟩
 |wr n v b=>exact⟨fun d hd=>by subst hd;exact mr hok,hwr _ _ _ rfl⟩
 |wrs l v=>exact⟨fun d hd=>by subst hd;exact mr hok,hws _ _ rfl⟩
 |wq n q v b bq=>exact⟨fun d hd=>by subst hd;exact mr hok,hwq _ _ _ _ _ rfl⟩
 |new b v =>
  cases dst with
  |none=>cases hok
  |some d =>
   simp only[KA,Option.any_some,me]at hok;exact⟨fun d' hd=>by injection hd with hd;subst hd;exact mr hok.1.1,d,rfl,MA hok.1.2,hok.2⟩
 |app n b v =>
  cases dst with
  |none=>cases hok
  |some d =>
   simp only[KA,Option.any_some,me]at hok;exact⟨fun d' hd=>by injection hd with hd;subst hd;exact mr hok.1.1,d,rfl,MA hok.1.2,hok.2,hap _ _ _ rfl⟩
theorem Wt{T:Type}(no:Nat->T->Bool){v:T}{d:Nat}(h:no d v=true)(σ:Nat->Loc)(x:Loc):∀e,no e v=false->upd σ d x e=σ e:=fun e he=>CW _ _ fun heq=>by subst heq;rw[h]at he;cases he
theorem Sim.std{N:Nat}{W0:World}{X:m6}{M0:m5}{T:Nat->Option Tv}{H:Nat->Option Blk}(hs:Sim N W0 X M0 M σ T H a w):Std M σ w H:=⟨hs.imm,hs.blk,fun n b hb=>(hs.loc n b hb).imp id (·.1),hs.inj⟩
theorem Pl{N:Nat}{W0:World}{X:m6}{M0:m5}{T:Nat->Option Tv}{H:Nat->Option Blk}(hs:Sim N W0 X M0 M σ T H a w){dst:Option Nat}{V:Value}{w':World}{M':m5}{σ':Nat->Loc}(ho:b8 M σ w dst V w' M' σ' g)(hok:ca N T H dst g) :
  Sim N W0 X M0 M' σ' (goT T dst g) (goH H dst g) (a.put dst V) w':=by
 have hdef:(∀b o,M b=some o->M' b=some o)->KM X M0 M' (a.put dst V).defers:=fun h=>by cases dst<;>exact hs.defers.mono h
 have hroom:(a.put dst V).tmps.size=N:=by cases dst<;>simp[Act.put,hs.room]
 have hpin0:∀n x,X n=some x->N<=n/\σ n=x:=hs.pin;have hsub:(∀b o,M b=some o->M' b=some o)->∀b o,M0 b=some o->M' b=some o:=fun h b o hm=>h b o (hs.sub b o hm);have hnew:(∀b o,M' b=some o->M b=none->w.heap.size<=b)->∀b o,M' b=some o->M0 b=none->W0.heap.size<=b:=fun h b o hm h0=>by
  cases pd:M b with
  |none=>exact ln hs.size (h b o hm pd)
  |some y=>exact hs.new b y pd h0
 cases g with
 |val v =>
  obtain⟨k,rfl,hv⟩:=ho;have hpin:=hpin0;have hold:∀b,b<w.heap.size->w'.heap[b]? = w.heap[b]? := fun b hb=>k.old b hb (fun h=>h);have hblk:∀n b,H n=some b->Bl M' σ' w' (σ' n) b:=fun n b hb=>(hs.blk n b hb).mono k.sub (fun _ _=>rfl) fun hn=>hold _ ((hs.blk n b hb).lt hn);have hloc:∀n b,H n=some b->(σ' n).nil=true\/(M' (σ' n).b=none/\(W0.heap.size<=(σ' n).b\/inX X (σ' n).b)):=fun n b hb=>by
   cases hn:(σ' n).nil with
   |true=>exact .inl rfl
   |false =>
    rcases hs.loc n b hb with h|⟨h1,h2⟩
    ·rw[hn]at h;cases h
    refine .inr ⟨?_,h2⟩;cases hm:M' (σ' n).b with
    |none=>rfl
    |some y=>have:=k.new _ _ hm h1;have:=(hs.blk n b hb).lt hn;omega
  have htm:∀i u,T i=some u->RT M' σ' u (a.tmps.getD i undef):=fun i u hu=>D6 k.sub (fun _ _=>rfl) (hs.tmps i u hu);have base:∀t:Nat->Option Tv,(∀i u,t i=some u->RT M' σ' u ((a.put dst V).tmps.getD i undef))->Sim N W0 X M0 M' σ' t H (a.put dst V) w':=fun t ht =>
   ⟨k.os.trans hs.os,k.tape.trans hs.tape,k.output.trans hs.output,ln hs.size k.size,fun b hb hx=>(hold b (lp hb hs.size)).trans (hs.old b hb hx),hsub k.sub,hnew k.new,hpin,hdef k.sub,hroom,ht,k.imm,hblk,hloc,hs.inj⟩
  cases dst with
  |none=>exact base T htm
  |some d =>
   refine base _ fun i u hu=>?_;simp only[goT,UD]at hu;rw[D4]at hu;rw[I0 hs.room (hok.1 d rfl)]
   by_cases hdi:d=i
   ·simp only[hdi,if_true,l7]at hu ⊢;subst hu;exact hv
   simp only[hdi,if_false]at hu ⊢;exact htm i u hu
 |wr n v b0 =>
  obtain⟨k,rfl,hv,hb0⟩:=ho;have hpin:=hpin0;obtain⟨bn,hbn⟩:=Option.isSome_iff_exists.1 hok.2;have hold:∀b,b<w.heap.size->¬ only (σ' n) b->w'.heap[b]? = w.heap[b]? := fun b hb hne=>k.old b hb hne;have hblk:∀m b,upd H n (some b0) m=some b->Bl M' σ' w' (σ' m) b:=fun m b hb=>by
   rw[D4]at hb
   by_cases hnm:n=m
   ·simp only[hnm,if_true,l7]at hb;subst hb;subst hnm;exact hb0
   simp only[hnm,if_false]at hb;refine(hs.blk m b hb).mono k.sub (fun _ _=>rfl) fun hn=>hold _ ((hs.blk m b hb).lt hn) fun ho=>?_;rcases hs.inj n m _ _ hbn hb hnm with h|h|h
   ·rw[ho.1]at h;cases h
   ·rw[hn]at h;cases h
   exact h ho.2.symm
  have hloc0:∀m b,H m=some b->(σ' m).nil=true\/(M' (σ' m).b=none/\(W0.heap.size<=(σ' m).b\/inX X (σ' m).b)):=fun n b hb=>by
   cases hn:(σ' n).nil with
   |true=>exact .inl rfl
   |false =>
    rcases hs.loc n b hb with h|⟨h1,h2⟩
    ·rw[hn]at h;cases h
    refine .inr ⟨?_,h2⟩;cases hm:M' (σ' n).b with
    |none=>rfl
    |some y=>have:=k.new _ _ hm h1;have:=(hs.blk n b hb).lt hn;omega
  have dom:∀m b,upd H n (some b0) m=some b->∃b',H m=some b':=fun m b hb=>by
   rw[D4]at hb
   by_cases hnm:n=m
   ·subst hnm;exact⟨_,hbn⟩
   simp only[hnm,if_false]at hb;exact⟨_,hb⟩
  have htm:∀i u,T i=some u->RT M' σ' u (a.tmps.getD i undef):=fun i u hu=>D6 k.sub (fun _ _=>rfl) (hs.tmps i u hu);have base:∀t:Nat->Option Tv,(∀i u,t i=some u->RT M' σ' u ((a.put dst V).tmps.getD i undef))->Sim N W0 X M0 M' σ' t (upd H n (some b0)) (a.put dst V) w':=fun t ht =>
   ⟨k.os.trans hs.os,k.tape.trans hs.tape,k.output.trans hs.output,ln hs.size k.size,fun b hb hx=>(hold b (lp hb hs.size) fun ho=>by
     rcases hs.loc n _ hbn with h|⟨_,h|h⟩
     ·rw[ho.1]at h;cases h
     ·have:=ho.2;omega
     exact hx (ho.2▸h)).trans (hs.old b hb hx),hsub k.sub,hnew k.new,hpin,hdef k.sub,hroom,ht,k.imm,hblk,fun m b hb=>(dom m b hb).elim fun b' hb'=>hloc0 m b' hb',fun m1 m2 b1 b2 h1 h2 hne=>(dom m1 b1 h1).elim fun b1' h1'=>(dom m2 b2 h2).elim fun b2' h2'=>hs.inj m1 m2 b1' b2' h1' h2' hne⟩
  cases dst with
  |none=>exact base T htm
  |some d =>
   refine base _ fun i u hu=>?_;simp only[goT,UD]at hu;rw[D4]at hu;rw[I0 hs.room (hok.1 d rfl)]
   by_cases hdi:d=i
   ·simp only[hdi,if_true,l7]at hu ⊢;subst hu;exact hv
   simp only[hdi,if_false]at hu ⊢;exact htm i u hu
 |wq n q v b0 bq =>
  obtain⟨k,rfl,hv,hb0,hbq0⟩:=ho;have hpin:=hpin0;obtain⟨hsome,hqq,hnq⟩:=hok.2;obtain⟨bn,hbn⟩:=Option.isSome_iff_exists.1 hsome;have hold:∀b,b<w.heap.size->¬ (only (σ' n) b\/only (σ' q) b)->w'.heap[b]? = w.heap[b]? := fun b hb hne=>k.old b hb hne;have hblk:∀m b,upd H n (some b0) m=some b->Bl M' σ' w' (σ' m) b:=fun m b hb=>by
   rw[D4]at hb
   by_cases hnm:n=m
   ·simp only[hnm,if_true,l7]at hb;subst hb;subst hnm;exact hb0
   simp only[hnm,if_false]at hb
   by_cases hqm:q=m
   ·subst hqm;rw[hqq]at hb;injection hb with hb;subst hb
    exact hbq0
   refine(hs.blk m b hb).mono k.sub (fun _ _=>rfl) fun hn=>hold _ ((hs.blk m b hb).lt hn) fun ho=>?_;rcases ho with ho|ho
   ·rcases hs.inj n m _ _ hbn hb hnm with h|h|h
    ·rw[ho.1]at h;cases h
    ·rw[hn]at h;cases h
    exact h ho.2.symm
   rcases hs.inj q m _ _ hqq hb hqm with h|h|h
   ·rw[ho.1]at h;cases h
   ·rw[hn]at h;cases h
   exact h ho.2.symm
  have hloc0:∀m b,H m=some b->(σ' m).nil=true\/(M' (σ' m).b=none/\(W0.heap.size<=(σ' m).b\/inX X (σ' m).b)):=fun n b hb=>by
   cases hn:(σ' n).nil with
   |true=>exact .inl rfl
   |false =>
    rcases hs.loc n b hb with h|⟨h1,h2⟩
    ·rw[hn]at h;cases h
    refine .inr ⟨?_,h2⟩;cases hm:M' (σ' n).b with
    |none=>rfl
    |some y=>have:=k.new _ _ hm h1;have:=(hs.blk n b hb).lt hn;omega
  have dom:∀m b,upd H n (some b0) m=some b->∃b',H m=some b':=fun m b hb=>by
   rw[D4]at hb
   by_cases hnm:n=m
   ·subst hnm;exact⟨_,hbn⟩
   simp only[hnm,if_false]at hb;exact⟨_,hb⟩
  have htm:∀i u,T i=some u->RT M' σ' u (a.tmps.getD i undef):=fun i u hu=>D6 k.sub (fun _ _=>rfl) (hs.tmps i u hu);have base:∀t:Nat->Option Tv,(∀i u,t i=some u->RT M' σ' u ((a.put dst V).tmps.getD i undef))->Sim N W0 X M0 M' σ' t (upd H n (some b0)) (a.put dst V) w':=fun t ht =>
   ⟨k.os.trans hs.os,k.tape.trans hs.tape,k.output.trans hs.output,ln hs.size k.size,fun b hb hx=>(hold b (lp hb hs.size) fun ho=>by
     rcases ho with ho|ho
     ·rcases hs.loc n _ hbn with h|⟨_,h|h⟩
      ·rw[ho.1]at h;cases h
      ·have:=ho.2;omega
      exact hx (ho.2▸h)
     rcases hs.loc q _ hqq with h|⟨_,h|h⟩
     ·rw[ho.1]at h;cases h
     ·have:=ho.2;omega
     exact hx (ho.2▸h)).trans (hs.old b hb hx),hsub k.sub,hnew k.new,hpin,hdef k.sub,hroom,ht,k.imm,hblk,fun m b hb=>(dom m b hb).elim fun b' hb'=>hloc0 m b' hb',fun m1 m2 b1 b2 h1 h2 hne=>(dom m1 b1 h1).elim fun b1' h1'=>(dom m2 b2 h2).elim fun b2' h2'=>hs.inj m1 m2 b1' b2' h1' h2' hne⟩
  cases dst with
  |none=>exact base T htm
  |some d =>
   refine base _ fun i u hu=>?_;simp only[goT,UD]at hu;rw[D4]at hu;rw[I0 hs.room (hok.1 d rfl)]
   by_cases hdi:d=i
   ·simp only[hdi,if_true,l7]at hu ⊢;subst hu;exact hv
   simp only[hdi,if_false]at hu ⊢;exact htm i u hu
 |wrs l v =>
  obtain⟨k,rfl,hv,hb0⟩:=ho;have hpin:=hpin0;have hsome:∀n b,get l n=some b->(H n).isSome:=hok.2;have hold:∀b,b<w.heap.size->¬ (∃n,(get l n).isSome/\only (σ' n) b)->w'.heap[b]? = w.heap[b]? := fun b hb hne=>k.old b hb hne;have hcase:∀m b,orL l H m=some b->get l m=some b\/(get l m=none/\H m=some b):=fun m b hb=>by
   unfold orL at hb;split at hb
   ·rename_i b' e;rw[e];exact .inl hb
   rename_i e;exact .inr ⟨e,hb⟩
  have hblk:∀m b,orL l H m=some b->Bl M' σ' w' (σ' m) b:=fun m b hb=>by
   rcases hcase m b hb with h1|⟨h1,h2⟩
   ·exact hb0 m b h1
   refine(hs.blk m b h2).mono k.sub (fun _ _=>rfl) fun hn=>hold _ ((hs.blk m b h2).lt hn) ?_;rintro⟨n,hn1,ho⟩;obtain⟨bn,hbn⟩:=Option.isSome_iff_exists.1 hn1;obtain⟨b1,hb1⟩:=Option.isSome_iff_exists.1 (hsome n bn hbn);have hne:n≠m:=fun e=>by subst e;rw[h1]at hbn;cases hbn
   rcases hs.inj n m _ _ hb1 h2 hne with h|h|h
   ·rw[ho.1]at h;cases h
   ·rw[hn]at h;cases h
   exact h ho.2.symm
  have hloc0:∀m b,H m=some b->(σ' m).nil=true\/(M' (σ' m).b=none/\(W0.heap.size<=(σ' m).b\/inX X (σ' m).b)):=fun n b hb=>by
   cases hn:(σ' n).nil with
   |true=>exact .inl rfl
   |false =>
    rcases hs.loc n b hb with h|⟨h1,h2⟩
    ·rw[hn]at h;cases h
    refine .inr ⟨?_,h2⟩;cases hm:M' (σ' n).b with
    |none=>rfl
    |some y=>have:=k.new _ _ hm h1;have:=(hs.blk n b hb).lt hn;omega
  have dom:∀m b,orL l H m=some b->∃b',H m=some b':=fun m b hb=>by
   rcases hcase m b hb with h1|⟨h1,h2⟩
   ·exact Option.isSome_iff_exists.1 (hsome m b h1)
   exact⟨_,h2⟩
  have htm:∀i u,T i=some u->RT M' σ' u (a.tmps.getD i undef):=fun i u hu=>D6 k.sub (fun _ _=>rfl) (hs.tmps i u hu);have base:∀t:Nat->Option Tv,(∀i u,t i=some u->RT M' σ' u ((a.put dst V).tmps.getD i undef))->Sim N W0 X M0 M' σ' t (orL l H) (a.put dst V) w':=fun t ht =>
   ⟨k.os.trans hs.os,k.tape.trans hs.tape,k.output.trans hs.output,ln hs.size k.size,fun b hb hx=>(hold b (lp hb hs.size) fun⟨n,hn1,ho⟩=>by
     obtain⟨bn,hbn⟩:=Option.isSome_iff_exists.1 hn1;obtain⟨b1,hb1⟩:=Option.isSome_iff_exists.1 (hsome n bn hbn);rcases hs.loc n _ hb1 with h|⟨_,h|h⟩
     ·rw[ho.1]at h;cases h
     ·have:=ho.2;omega
     exact hx (ho.2▸h)).trans (hs.old b hb hx),hsub k.sub,hnew k.new,hpin,hdef k.sub,hroom,ht,k.imm,hblk,fun m b hb=>(dom m b hb).elim fun b' hb'=>hloc0 m b' hb',fun m1 m2 b1 b2 h1 h2 hne=>(dom m1 b1 h1).elim fun b1' h1'=>(dom m2 b2 h2).elim fun b2' h2'=>hs.inj m1 m2 b1' b2' h1' h2' hne⟩
  cases dst with
  |none=>exact base T htm
  |some d =>
   refine base _ fun i u hu=>?_;simp only[goT,UD]at hu;rw[D4]at hu;rw[I0 hs.room (hok.1 d rfl)]
   by_cases hdi:d=i
   ·simp only[hdi,if_true,l7]at hu ⊢;subst hu;exact hv
   simp only[hdi,if_false]at hu ⊢;exact htm i u hu
 |new b0 v =>
  obtain⟨x,d,rfl,k,hx,rfl,hb0,hv⟩:=ho;obtain⟨hdN,d',hdd,hf,hno⟩:=hok;injection hdd with hdd
  subst hdd;have hd:=hdN d rfl;have hpin:∀n y,X n=some y->N<=n/\upd σ d x n=y:=fun n y hy=>by
   obtain⟨h1,h2⟩:=hpin0 n y hy;exact⟨h1,by rw[CW _ _ mz];exact h2⟩
  have hold:∀b,b<w.heap.size->w'.heap[b]? = w.heap[b]? := fun b hb=>k.old b hb (fun h=>h);have hse:∀n b,H n=some b->upd σ d x n=σ n:=fun n b hb=>CW _ _ (hf.2 n b hb).1;have cases_:∀n b,upd H d (some b0) n=some b->(n=d/\b=b0)\/(n≠d/\H n=some b):=fun n b hb=>by
   rw[D4]at hb
   by_cases hdn:d=n
   ·simp only[hdn,if_true,l7]at hb;exact .inl ⟨hdn.symm,hb.symm⟩
   simp only[hdn,if_false]at hb;exact .inr ⟨Ne.symm hdn,hb⟩
  refine⟨k.os.trans hs.os,k.tape.trans hs.tape,k.output.trans hs.output,ln hs.size k.size,fun b hb hx=>(hold b (lp hb hs.size)).trans (hs.old b hb hx),hsub k.sub,hnew k.new,hpin,hdef k.sub,hroom,fun i u hu=>?_,k.imm,fun n b hb=>?_,fun n b hb=>?_,fun n m b c hb hc hne=>?_⟩
  ·simp only[goT]at hu;rw[D4]at hu;rw[I0 hs.room hd]
   by_cases hdi:d=i
   ·simp only[hdi,if_true,l7]at hu ⊢;subst hu;subst hdi;exact hv
   simp only[hdi,if_false]at hu ⊢;exact D6 k.sub (Wt Tv.no (hf.1 i u hu) σ x) (hs.tmps i u hu)
  ·rcases cases_ n b hb with ⟨rfl,rfl⟩|⟨_,hb⟩
   ·rw[BH];exact hb0
   rw[hse n b hb];exact(hs.blk n b hb).mono k.sub (Wt Blk.no (hf.2 n b hb).2 σ x) fun hn=>hold _ ((hs.blk n b hb).lt hn)
  ·rcases cases_ n b hb with ⟨rfl,rfl⟩|⟨_,hb⟩
   ·rw[BH];rcases hx with h|⟨h1,h2⟩
    ·exact .inl h
    exact .inr ⟨h2,.inl (ln hs.size h1)⟩
   rw[hse n b hb];cases hn:(σ n).nil with
   |true=>exact .inl rfl
   |false =>
    rcases hs.loc n b hb with h|⟨h1,h2⟩
    ·rw[hn]at h;cases h
    refine .inr ⟨?_,h2⟩;cases hm:M' (σ n).b with
    |none=>rfl
    |some y=>have:=k.new _ _ hm h1;have:=(hs.blk n b hb).lt hn;omega
  have apart:∀m c,H m=some c->x.nil=true\/(σ m).nil=true\/x.b≠(σ m).b:=fun m c hc=>by
   cases hn:(σ m).nil with
   |true=>exact .inr (.inl rfl)
   |false =>
    have:=(hs.blk m c hc).lt hn;rcases hx with h|⟨h1,_⟩
    ·exact .inl h
    exact .inr (.inr mz)
  rcases cases_ n b hb with ⟨e1,e2⟩|⟨_,hb'⟩<;>rcases cases_ m c hc with ⟨e3,e4⟩|⟨_,hc'⟩
  ·exact absurd (e1.trans e3.symm) hne
  ·rw[e1,BH,hse m c hc'];exact apart m c hc'
  ·rw[e3,BH,hse n b hb'];rcases apart n b hb' with h|h|h
   ·exact .inr (.inl h)
   ·exact .inl h
   exact .inr (.inr (Ne.symm h))
  rw[hse n b hb',hse m c hc'];exact hs.inj n m b c hb' hc' hne
 |app p b0 v =>
  obtain⟨x,d,rfl,k,hx,rfl,hb0,hv⟩:=ho;obtain⟨hdN,d',hdd,hf,_,hbp⟩:=hok;injection hdd with hdd
  subst hdd;have hd:=hdN d rfl;have hpin:∀n y,X n=some y->N<=n/\upd σ d x n=y:=fun n y hy=>by
   obtain⟨h1,h2⟩:=hpin0 n y hy;exact⟨h1,by rw[CW _ _ mz];exact h2⟩
  obtain⟨bp,hbp⟩:=Option.isSome_iff_exists.1 hbp;have hold:∀b,b<w.heap.size->¬ only (σ p) b->w'.heap[b]? = w.heap[b]? := fun b hb hne=>k.old b hb hne;have hse:∀n b,H n=some b->upd σ d x n=σ n:=fun n b hb=>CW _ _ (hf.2 n b hb).1;have cases_:∀n b,upd (upd H p none) d (some b0) n=some b->(n=d/\b=b0)\/(n≠d/\n≠p/\H n=some b):=fun n b hb=>by
   rw[D4]at hb
   by_cases hdn:d=n
   ·simp only[hdn,if_true,l7]at hb;exact .inl ⟨hdn.symm,hb.symm⟩
   simp only[hdn,if_false,D4]at hb
   by_cases hpn:p=n
   ·simp[hpn]at hb
   simp only[hpn,if_false]at hb;exact .inr ⟨Ne.symm hdn,Ne.symm hpn,hb⟩
  have apartp:∀n b,H n=some b->n≠p->(σ n).nil=false->¬ only (σ p) (σ n).b:=fun n b hb hne hn ho=>by
   rcases hs.inj n p _ _ hb hbp hne with h|h|h
   ·rw[hn]at h;cases h
   ·rw[ho.1]at h;cases h
   exact h ho.2
  refine⟨k.os.trans hs.os,k.tape.trans hs.tape,k.output.trans hs.output,ln hs.size k.size,fun b hb hX=>(hold b (lp hb hs.size) fun ho=>?_).trans (hs.old b hb hX),hsub k.sub,hnew k.new,hpin,hdef k.sub,hroom,fun i u hu=>?_,k.imm,fun n b hb=>?_,fun n b hb=>?_,fun n m b c hb hc hne=>?_⟩
  ·rcases hs.loc p _ hbp with h|⟨_,h|h⟩
   ·rw[ho.1]at h;cases h
   ·have:=ho.2;omega
   exact hX (ho.2▸h)
  ·simp only[goT]at hu;rw[D4]at hu;rw[I0 hs.room hd]
   by_cases hdi:d=i
   ·simp only[hdi,if_true,l7]at hu ⊢;subst hu;subst hdi;exact hv
   simp only[hdi,if_false]at hu ⊢;exact D6 k.sub (Wt Tv.no (hf.1 i u hu) σ x) (hs.tmps i u hu)
  ·rcases cases_ n b hb with ⟨rfl,rfl⟩|⟨_,hnp,hb⟩
   ·rw[BH];exact hb0
   rw[hse n b hb];exact(hs.blk n b hb).mono k.sub (Wt Blk.no (hf.2 n b hb).2 σ x) fun hn=>hold _ ((hs.blk n b hb).lt hn) (apartp n b hb hnp hn)
  ·rcases cases_ n b hb with ⟨rfl,rfl⟩|⟨_,hnp,hb⟩
   ·rw[BH];rcases hx with h|⟨h1,h2⟩|⟨h1,h2⟩
    ·exact .inl h
    ·refine .inr ⟨h2,?_⟩;rcases hs.loc p _ hbp with h|⟨_,h⟩
     ·rw[h1.1]at h;cases h
     rw[h1.2];exact h
    exact .inr ⟨h2,.inl (ln hs.size h1)⟩
   rw[hse n b hb];cases hn:(σ n).nil with
   |true=>exact .inl rfl
   |false =>
    rcases hs.loc n b hb with h|⟨h1,h2⟩
    ·rw[hn]at h;cases h
    refine .inr ⟨?_,h2⟩;cases hm:M' (σ n).b with
    |none=>rfl
    |some y=>have:=k.new _ _ hm h1;have:=(hs.blk n b hb).lt hn;omega
  have apart:∀m c,m≠p->H m=some c->x.nil=true\/(σ m).nil=true\/x.b≠(σ m).b:=fun m c hmp hc=>by
   cases hn:(σ m).nil with
   |true=>exact .inr (.inl rfl)
   |false =>
    have:=(hs.blk m c hc).lt hn;rcases hx with h|⟨h1,_⟩|⟨h1,_⟩
    ·exact .inl h
    ·refine .inr (.inr fun e=>apartp m c hc hmp hn ⟨h1.1,?_⟩);rw[<- e];exact h1.2
    exact .inr (.inr mz)
  rcases cases_ n b hb with ⟨e1,e2⟩|⟨_,hnp,hb'⟩<;>rcases cases_ m c hc with ⟨e3,e4⟩|⟨_,hmp,hc'⟩
  ·exact absurd (e1.trans e3.symm) hne
  ·rw[e1,BH,hse m c hc'];exact apart m c hmp hc'
  ·rw[e3,BH,hse n b hb'];rcases apart n b hnp hb' with h|h|h
   ·exact .inr (.inl h)
   ·exact .inl h
   exact .inr (.inr (Ne.symm h))
  rw[hse n b hb',hse m c hc'];exact hs.inj n m b c hb' hc' hne
end
end
section
open Go.RowKit
def IH(t:Nat->Option Tv)(ops:Array Oper)(j:Nat)(want:Bool):Option Prop:=match ops[j]? with
 |some o=>match o.dst with
  |some d=>match t d with
   |some (.av (.one (.val (.bool b))))=>some (b=want)
   |some (.grd g (.one (.val (.bool b))))=>some (g/\b=want)
   |_=>none
  |none=>none
 |none=>none
def Nj:List Operand->List Nat
 |[]=>[]
 |.tmp i::r=>i::Nj r
 |_::r=>Nj r
def strip:Tv->Tv
 |.grd _ x=>.av x
 |v=>v
def evG(t:Nat->Option Tv)(l:List Nat):Operand->Option Tv
 |.tmp i=>bif l.any (Nat.beq i)then(t i).map strip else t i
 |x=>evT t x
def M9(t:Nat->Option Tv)(G:Prop):List Nat->List Prop
 |[]=>[]
 |i::r=>match t i with
  |some (.grd g _)=>(G->g)::M9 t G r
  |_=>M9 t G r
def Iq:Op->List Nat
 |.pick c _ _=>Nj [c]
 |op=>Nj op.operands.toList
def Ly(P:Program)(V:Env P)(N:Nat)(ops:Array Oper)(o:Oper)(s:AS):Option (List Prop×AS):=match o.guard with
 |none=>match eff P V o.dst o.op (evT (get s.t))with
  |some e=>match res (get s.h) e with
   |some (cs,g)=>bif KA N s o.dst g then some (cs,Y5 s o.dst g)else none
   |none=>none
  |none=>none
 |some (j,want)=>match IH (get s.t) ops j want with
  |some G=>match eff P V o.dst o.op (evG (get s.t) (Iq o.op))with
   |some e=>match res (get s.h) e with
    |some (cs,.val (.av v))=>bif KA N s o.dst (.val (.av v))then some (M9 (get s.t) G (Iq o.op)++cs.map (fun p=>G->p),Qy s o.dst (.grd G v))else none
    |_=>none
   |none=>bif KA N s o.dst (.val (.av (.one (.val (.bool false)))))then some ([¬ G],Qy s o.dst (.grd G (.one (.val (.bool false)))))else none
  |none=>none
def Nl(P:Program)(V:Env P)(N:Nat)(ops:Array Oper):List Oper->AS->Option (List Prop×AS)
 |[],s=>some ([],s)
 |o::l,s=>match Ly P V N ops o s with
  |some (cs,s1)=>match Nl P V N ops l s1 with
   |some (ds,s2)=>some (cs++ds,s2)
   |none=>none
  |none=>none
section
variable {P:Program}{V:Env P}{N:Nat}{ops:Array Oper}{W0:World}{X:m6}{M0 M:m5}{σ:Nat→Loc}{w:World}{a:Act}
theorem Y6{h:Nat->Option Blk}:∀ {ns:List Nat} {bs:List Blk},G3 h ns=some bs->∀n∈ns,(h n).isSome
 |[],_,_,n,hn=>by cases hn
 |k::r,bs,hg,n,hn=>by
  simp only[G3]at hg;split at hg
  ·rename_i b0 bs0 h1 h2;rcases List.mem_cons.1 hn with rfl|hn
   ·rw[h1];rfl
   exact Y6 h2 n hn
  cases hg
theorem Wa{h:Nat->Option Blk}{e:Ef}{cs:List Prop}{n:Nat}{v:Tv}{b:Blk}(hr:res h e=some (cs,.wr n v b)):(h n).isSome:=by
 cases e<;>simp only[res]at hr
 case wr =>
  split at hr
  ·rename_i b0 bs h1 h2;split at hr
   ·simp only[l7,l8,Eg.wr.injEq]at hr;obtain⟨_,rfl,_,_⟩:=hr;rw[h1];rfl
   cases hr
  cases hr
 all_goals ((repeat' split at hr)<;>simp at hr)
theorem Q7{h:Nat->Option Blk}{e:Ef}{cs:List Prop}{l:List (Nat×Blk)}{v:Tv}(hr:res h e=some (cs,.wrs l v)):∀n b,get l n=some b->(h n).isSome:=by
 cases e<;>simp only[res]at hr
 case wrs =>
  split at hr
  ·rename_i b0 bs h1 h2;split at hr
   ·rename_i cs1 v1 b1 _;cases hl:Nat.beq _ b1.length with
    |false=>rw[hl]at hr;cases hr
    |true =>
     rw[hl]at hr;simp only[l7,l8,Eg.wrs.injEq]at hr;obtain⟨_,rfl,_⟩:=hr;intro n b hg;exact Y6 h1 n (List.of_mem_zip (DH hg)).1
   cases hr
  cases hr
 all_goals ((repeat' split at hr)<;>simp at hr)
theorem Wb{h:Nat->Option Blk}{e:Ef}{cs:List Prop}{n q:Nat}{v:Tv}{b bq:Blk}(hr:res h e=some (cs,.wq n q v b bq)):(h n).isSome/\h q=some bq/\n≠q:=by
 cases e<;>simp only[res]at hr
 case wq =>
  split at hr
  ·rename_i b0 b1 h1 h2;split at hr
   ·split at hr
    ·cases hr
    rename_i hne;simp only[l7,l8,Eg.wq.injEq]at hr;obtain⟨_,rfl,rfl,_,_,rfl⟩:=hr;exact⟨by rw[h1];rfl,h2,fun e=>by rw[e,Nat.beq_refl]at hne;cases hne⟩
   cases hr
  cases hr
 all_goals ((repeat' split at hr)<;>simp at hr)
theorem Q8{h:Nat->Option Blk}{e:Ef}{cs:List Prop}{n:Nat}{v:Nat->Tv}{b:Blk}(hr:res h e=some (cs,.app n b v)):(h n).isSome:=by
 cases e<;>simp only[res]at hr
 case app =>
  split at hr
  ·rename_i b0 bs0 h1 _;split at hr
   ·simp only[l7,l8,Eg.app.injEq]at hr;obtain⟨_,rfl,_,_⟩:=hr;rw[h1];rfl
   cases hr
  cases hr
 all_goals ((repeat' split at hr)<;>simp at hr)
theorem XE{T:Nat->Option Tv}{H:Nat->Option Blk}{dst:Option Nat}{g:Eg}(h:ca N T H dst g):az dst g:=by
 cases g with
 |val=>trivial
 |wr=>trivial
 |wrs=>trivial
 |wq=>trivial
 |new b v=>obtain⟨_,d,hd,_,hn⟩:=h;exact⟨d,hd,hn⟩
 |app n b v=>obtain⟨_,d,hd,_,hn,_⟩:=h;exact⟨d,hd,hn⟩
theorem Fh{t:Nat->Option Tv}(ht:∀i v,t i=some v->RT M σ v (a.tmps.getD i undef))(hroom:a.tmps.size=N){o:Oper}{j:Nat}{want:Bool}{G:Prop}(hg:o.guard=some (j,want))(hG:IH t ops j want=some G):Region.wanted o (yielded ops a.tmps)=true↔G:=by
 unfold IH at hG;split at hG
 ·rename_i oj hj;split at hG
  ·rename_i d hd;have hy:yielded ops a.tmps j=match a.tmps[d]? with|some (.bool b)=>some b|_=>none:=by
    simp only[yielded,hj,Option.bind_some,hd];rfl
   unfold Region.wanted;rw[hg];simp only[hy];split at hG
   ·rename_i b hb;injection hG with hG
    subst hG;have hv:a.tmps.getD d undef=.bool b:=(ht d _ hb).1;have:a.tmps[d]? = some (.bool b):=by
     rw[l6]at hv;cases hq:a.tmps[d]? with
     |none=>rw[hq]at hv;cases hv
     |some y=>rw[hq]at hv;simp only[Option.getD_some]at hv;rw[hv]
    rw[this];simp
   ·rename_i g b hb;injection hG with hG
    subst hG;have hR:=ht d _ hb
    by_cases hgp:g
    ·have hv:a.tmps.getD d undef=.bool b:=(hR.1 hgp).1;have:a.tmps[d]? = some (.bool b):=by
      rw[l6]at hv;cases hq:a.tmps[d]? with
      |none=>rw[hq]at hv;cases hv
      |some y=>rw[hq]at hv;simp only[Option.getD_some]at hv;rw[hv]
     rw[this];simp[hgp]
    have hv:a.tmps.getD d undef=undef:=hR.2 hgp;have:∀b,a.tmps[d]? ≠ some (.bool b):=fun b hb=>by
     rw[l6,hb]at hv;simp only[Option.getD_some]at hv;cases hv
    simp only[hgp,false_and,iff_false,mf];cases hq:a.tmps[d]? with
    |none=>rfl
    |some y =>
     cases y<;>first|rfl|exact absurd hq (this _)
   cases hG
  cases hG
 cases hG
theorem S3{t:Nat->Option Tv}{G:Prop}(hG:G):∀ {l:List Nat},CI (M9 t G l)->∀i∈l,∀g y,t i=some (.grd g y)->g
 |x::r,hc,z,hz,g,y,hy=>by
  unfold M9 at hc;cases hz with
  |head =>
   rw[hy]at hc;exact hc.head hG
  |tail _ hm =>
   split at hc
   ·exact S3 hG hc.tail z hm g y hy
   exact S3 hG hc z hm g y hy
theorem dE{t:Nat->Option Tv}{l:List Nat}{G:Prop}(hG:G)(hc:CI (M9 t G l))(ht:∀i v,t i=some v->RT M σ v (a.tmps.getD i undef)){x:Operand}{v:Tv}(hv:evG t l x=some v):RT M σ v (a.eval x):=by
 cases x with
 |tmp i =>
  simp only[evG]at hv;cases hm:l.any (Nat.beq i)with
  |false=>rw[hm]at hv;exact ht i v hv
  |true =>
   rw[hm]at hv;simp only[mi]at hv;obtain⟨u,hu,rfl⟩:=Option.map_eq_some_iff.1 hv;have hR:=ht i u hu;obtain⟨k,hk,hik⟩:=List.any_eq_true.1 hm;have:=lx hik;subst this;cases u with
   |av x=>exact hR
   |tup x=>exact hR
   |grd g y=>exact hR.1 (S3 hG hc i hk g y hu)
 |const c=>exact HQ ht (x:=.const c) hv
 |global g=>exact HQ ht (x:=.global g) hv
 |func f=>exact HQ ht (x:=.func f) hv
theorem Kn{ev ev':Operand->Option Tv}:∀(l:List (Nat×Operand)),(∀p∈l,ev p.2=ev' p.2)->Ko ev l=Ko ev' l
 |[],_=>rfl
 |(i,x)::r,h=>by
  simp only[Ko];rw[h (i,x) m3,Kn r fun p hp=>h p (by simp[hp])]
theorem MI{ev ev':Operand->Option Tv}:∀(l:List Operand),(∀x∈l,ev x=ev' x)->FQ ev l=FQ ev' l
 |[],_=>rfl
 |x::r,h=>by
  simp only[FQ];rw[h x m3,MI r fun p hp=>h p (by simp[hp])]
theorem U6{dst:Option Nat}{op:Op}{ev ev':Operand->Option Tv}(h:∀x∈op.operands.toList,ev x=ev' x):eff P V dst op ev=eff P V dst op ev':=by
 cases op<;>simp only[eff,JL]<;>simp only[Op.operands]at h
 case move x=>rw[h x m3]
 case assign x=>rw[h x m3]
 case pick c a b=>rw[h c m3,h a m3,h b m3]
 case box T x=>rw[h x m3]
 case build T ps=>unfold Oe;rw[Kn _ fun p hp=>h p.2 (by simp;exact⟨p.1,by simpa using hp⟩)]
 case buildSlice T n ps=>unfold Hg;rw[Kn _ fun p hp=>h p.2 (by simp;exact⟨p.1,by simpa using hp⟩)]
 case load T x=>rw[h x m3]
 case store T x y=>rw[h x m3,h y m3]
 case fieldAddr T x k=>rw[h x m3]
 case field T x k=>rw[h x m3]
 case indexAddr T x y=>rw[h x m3,h y m3]
 case binOp b T x y yT=>rw[h x m3,h y m3]
 case unOp b T x=>rw[h x m3]
 case convert a b x=>rw[h x m3]
 case extract x i=>rw[h x m3]
 case nilCheck x=>rw[h x m3]
 case makeFunc fn first captured =>
  cases fn<;>simp only[eff,JL];rw[MI _ fun x hx=>h x (by simp at hx ⊢;exact .inr hx)]
 case index T x y=>rw[h x m3,h y m3]
 case makeSlice T x y=>rw[h x m3,h y m3]
 case lookup T x k ok=>rw[h x m3,h k m3]
 case makeMap T r=>cases r<;>rfl
 case mapUpdate T m k x=>rw[h m m3,h k m3,h x m3]
 case slice T x lo hi mx =>
  cases mx<;>simp only[eff,JL];rw[h x m3];have e1:lo.map ev=lo.map ev':=by
   cases lo with
   |none=>rfl
   |some y=>simp only[Option.map_some];rw[h y m3]
  have e2:hi.map ev=hi.map ev':=by
   cases hi with
   |none=>rfl
   |some y=>simp only[Option.map_some];rw[h y m3]
  rw[e1,e2]
 case call c =>
  have ha:FQ ev c.args.toList=FQ ev' c.args.toList:=MI _ fun x hx=>h x (by simp[Call.operands];exact .inr (by simpa using hx));rw[ha];cases hc:c.callee with
  |value f =>
   have hf:=h f (by simp[Call.operands,hc]);cases FQ ev' c.args.toList with
   |none=>rfl
   |some xs=>simp only[hf]
  |_=>cases FQ ev' c.args.toList<;>rfl
def Uz:Ef->List Nat
 |.rd ns _=>ns
 |.wr n ns _=>n::ns
 |.wrs ns rs _=>ns++rs
 |.wq n q _=>[n,q]
 |.app n ns _=>n::ns
 |_=>[]
theorem HO{h h':Nat->Option Blk}:∀(l:List Nat),(∀n∈l,h n=h' n)->G3 h l=G3 h' l
 |[],_=>rfl
 |n::r,k=>by
  simp only[G3];rw[k n m3,HO r fun m hm=>k m (by simp[hm])]
theorem Ub{h h':Nat->Option Blk}{e:Ef}(k:∀n∈Uz e,h n=h' n):res h e=res h' e:=by
 cases e<;>simp only[res]<;>simp only[Uz]at k
 case rd ns q=>rw[HO ns k]
 case wr n ns q=>rw[k n m3,HO ns fun m hm=>k m (by simp[hm])]
 case wq n q _=>rw[k n m3,k q m3]
 case wrs ns rs q=>rw[HO ns fun m hm=>k m (by simp[hm]),HO rs fun m hm=>k m (by simp[hm])]
 case app n ns q=>rw[k n m3,HO ns fun m hm=>k m (by simp[hm])]
theorem Oa{t t':Nat->Option Tv}{ops:Array Oper}{j:Nat}{want:Bool}(h:∀d,(ops[j]?).bind (·.dst)=some d->t d=t' d):IH t ops j want=IH t' ops j want:=by
 unfold IH;cases ho:ops[j]? with
 |none=>rfl
 |some o =>
  simp only;cases hd:o.dst with
  |none=>rfl
  |some d=>simp only;rw[h d (by simp[ho,hd])]
theorem Nq:∀ {l:List Operand} {i:Nat},i∈Nj l↔.tmp i∈l
 |[],i=>by simp[Nj]
 |x::r,i=>by
  have:=Nq (l:=r) (i:=i);cases x<;>simp[Nj,this]
theorem cP{op:Op}{i:Nat}(h:i∈Iq op) : .tmp i∈op.operands.toList:=by
 unfold Iq at h;split at h
 ·rw[Nq]at h;simp only[kl]at h;simp[Op.operands,h]
 exact Nq.1 h
theorem QS{t t':Nat->Option Tv}{G:Prop}:∀(l:List Nat),(∀i∈l,t i=t' i)->M9 t G l=M9 t' G l
 |[],_=>rfl
 |i::r,h=>by
  unfold M9;rw[h i m3,QS r fun k hk=>h k (by simp[hk])]
def MB(P:Program)(V:Env P)(ops:Array Oper)(o:Oper)(s:AS):List Nat:=match o.guard with
 |none=>match eff P V o.dst o.op (evT (get s.t))with
  |some e=>Uz e
  |none=>[]
 |some _=>match eff P V o.dst o.op (evG (get s.t) (Iq o.op))with
  |some e=>Uz e
  |none=>[]
def Em(P:Program)(V:Env P)(o:Oper)(s:AS):List Nat:=match o.guard with
 |none=>match eff P V o.dst o.op (evT (get s.t))with
  |some (.wr n _ _)=>[n]
  |some (.wrs ns _ _)=>ns
  |some (.wq n _ _)=>[n]
  |some (.new _ _ _)=>o.dst.toList
  |some (.app n _ _)=>n::o.dst.toList
  |_=>[]
 |some _=>[]
def J9(P:Program)(V:Env P)(o:Oper)(s:AS):Bool:=match o.guard with
 |none=>match eff P V o.dst o.op (evT (get s.t))with
  |some (.new _ _ _)=>true
  |some (.app _ _ _)=>true
  |_=>false
 |some _=>false
theorem L5{ops:Array Oper}{o:Oper}{i:Nat}(h:Operand.tmp i∈o.op.operands.toList):i∈o.looksAt ops:=by
 unfold Oper.looksAt;exact List.mem_append_left _ (List.mem_filterMap.2 ⟨.tmp i,h,rfl⟩)
theorem NB{ops:Array Oper}{o:Oper}{j:Nat}{want:Bool}(hg:o.guard=some (j,want)){d:Nat}(hd:(ops[j]?).bind (·.dst)=some d):d∈o.looksAt ops:=by
 unfold Oper.looksAt;rw[hg];exact List.mem_append_right _ (by simp[hd])
def Qw(dst:Option Nat):Eg->List Nat
 |.val _=>[]
 |.wr n _ _=>[n]
 |.wrs l _=>l.map (·.1)
 |.wq n _ _ _ _=>[n]
 |.new _ _=>dst.toList
 |.app n _ _=>n::dst.toList
theorem Uy{h:Nat->Option Blk}{o:Oper}{s:AS}{e:Ef}{cs:List Prop}{g:Eg}(hg:o.guard=none)(he:eff P V o.dst o.op (evT (get s.t))=some e)(hr:res h e=some (cs,g)):Em P V o s=Qw o.dst g:=by
 unfold Em;split
 ·rw[he];cases e<;>simp only[res]at hr
  case val=>simp only[l7,l8]at hr;obtain⟨_,rfl⟩:=hr;rfl
  case rd =>
   split at hr
   ·split at hr
    ·simp only[l7,l8]at hr;obtain⟨_,rfl⟩:=hr;rfl
    cases hr
   cases hr
  case wr =>
   split at hr
   ·split at hr
    ·simp only[l7,l8]at hr;obtain⟨_,rfl⟩:=hr;rfl
    cases hr
   cases hr
  case wq =>
   split at hr
   ·split at hr
    ·split at hr
     ·cases hr
     simp only[l7,l8]at hr;obtain⟨_,rfl⟩:=hr;rfl
    cases hr
   cases hr
  case wrs ns rs k =>
   split at hr
   ·split at hr
    ·rename_i cs1 v1 b1 _;cases hl:Nat.beq ns.length b1.length with
     |false=>rw[hl]at hr;cases hr
     |true =>
      rw[hl]at hr;simp only[l7,l8]at hr;obtain⟨_,rfl⟩:=hr;have:=lx hl;simp only[Qw];rw[List.map_fst_zip mz]
    cases hr
   cases hr
  case new=>simp only[l7,l8]at hr;obtain⟨_,rfl⟩:=hr;rfl
  case app =>
   split at hr
   ·split at hr
    ·simp only[l7,l8]at hr;obtain⟨_,rfl⟩:=hr;rfl
    cases hr
   cases hr
 rename_i hg';rw[hg]at hg';cases hg'
theorem Ur{N:Nat}{s:AS}{dst:Option Nat}{g:Eg}(hok:KA N s dst g=true)(H:Nat->Option Blk):(fun n=>if n∈Qw dst g then get (Y5 s dst g).h n else H n)=goH H dst g:=by
 funext n;rw[(Gv s dst g).2];cases g with
 |val v=>simp[goH,Qw]
 |wr m v b =>
  simp only[goH,D4,kl,Qw]
  by_cases h:m=n
  ·simp[h]
  simp[h,Ne.symm h]
 |wq m q v b bq =>
  simp only[goH,D4,kl,Qw]
  by_cases h:m=n
  ·simp[h]
  simp[h,Ne.symm h]
 |wrs l v =>
  have hwo:Qw dst (.wrs l v)=l.map (·.1):=rfl;simp only[goH]
  by_cases hn:n∈Qw dst (.wrs l v)
  ·rw[if_pos hn];rw[hwo]at hn;cases hg:get l n with
   |none =>
    exfalso;obtain⟨⟨k,b⟩,hm,rfl⟩:=List.mem_map.1 hn;clear hn hok hwo;induction l with
    |nil=>cases hm
    |cons p r ih =>
     obtain⟨k',b'⟩:=p;simp only[get,Cb]at hg
     by_cases e:k'=k
     ·simp[e]at hg
     simp only[e,mm,mj]at hg;rcases List.mem_cons.1 hm with hm|hm
     ·injection hm with h1 _;exact e h1.symm
     exact ih hm hg
   |some b=>simp only[orL,hg]
  rw[if_neg hn];rw[hwo]at hn;cases hg:get l n with
  |none=>simp only[orL,hg]
  |some b=>exact absurd (List.mem_map.2 ⟨_,DH hg,rfl⟩) hn
 |new b v =>
  cases dst with
  |none=>simp[goH,Qw]
  |some d =>
   simp only[goH,D4,Option.toList_some,kl,Qw]
   by_cases h:d=n
   ·simp[h]
   simp[h,Ne.symm h]
 |app m b v =>
  cases dst with
  |none=>cases hok
  |some d =>
   simp only[goH,D4,Option.toList_some,kg,lg,or_false,Qw]
   by_cases h1:d=n
   ·simp[h1]
   by_cases h2:m=n
   ·simp[h2]
   simp[h1,h2,Ne.symm h1,Ne.symm h2]
theorem Mf{s:AS}{dst:Option Nat}{g:Eg}(T:Nat->Option Tv):(fun i=>if dst=some i then get (Y5 s dst g).t i else T i)=goT T dst g:=by
 funext i;rw[(Gv s dst g).1];cases g<;>cases dst<;>simp only[goT,UD,D4,l7,reduceCtorEq,if_false]<;>split<;>simp_all
theorem SY{rd:Option Nat}(hV:MQ P V){o:Oper}{s s1:AS}{cs:List Prop}(hst:Ly P V N ops o s=some (cs,s1))(hc:CI cs){T:Nat->Option Tv}{H:Nat->Option Blk}(hs:Sim N W0 X M0 M σ T H a w)(hT:∀i∈o.looksAt ops,T i=get s.t i)(hH:∀n∈MB P V ops o s,H n=get s.h n)
 (hfr:J9 P V o s=true->∀d,o.dst=some d->Ts T H d){K:Act->World->Prop}{Q:Exit->Act->World->Prop}(hK:∀M' σ' a' w',Sim N W0 X M0 M' σ' (fun i=>if o.dst=some i then get s1.t i else T i) (fun n=>if n∈Em P V o s then get s1.h n else H n) a' w'->K a' w') :
  if Region.wanted o (yielded ops a.tmps)then o.wpIn (FW rd) 0 P a w K Q else(∀f,o.about P w a.eval=some f->(FW rd).fn f)/\K (a.put o.dst undef) w:=by
 unfold Ly at hst;split at hst
 ·rename_i hg;rw[if_pos (by simp[Region.wanted,hg])];split at hst
  ·rename_i e he;split at hst
   ·rename_i cs' g hr;cases hok:KA N s o.dst g with
    |false=>rw[hok]at hst;cases hst
    |true =>
     rw[hok]at hst;simp only[mi,l7,l8]at hst;obtain⟨rfl,rfl⟩:=hst;have hev:∀x∈o.op.operands.toList,evT T x=evT (get s.t) x:=fun x hx=>by
      cases x with
      |tmp i=>exact hT i (L5 hx)
      |_=>rfl
     have he':eff P V o.dst o.op (evT T)=some e:=by rw[U6 hev];exact he
     have hfoot:MB P V ops o s=Uz e:=by unfold MB;rw[hg,he]
     have hr':res H e=some (cs',g):=by rw[Ub (h':=get s.h) fun n hn=>hH n (by rw[hfoot];exact hn)];exact hr
     have hgo0:=Mg hok (fun n v b hg=>by subst hg;exact Wa hr) (fun l v hg=>by subst hg;exact Q7 hr) (fun n q v b bq hg=>by subst hg;exact Wb hr) (fun n b v hg=>by subst hg;exact Q8 hr);have hkind:(∃b v,g=.new b v)\/(∃n b v,g=.app n b v)->J9 P V o s=true:=fun hk=>by
      unfold J9;rw[hg,he];cases e<;>simp only[res]at hr<;>first
       |rfl
       |(exfalso;rcases hk with ⟨b,v,rfl⟩|⟨n,b,v,rfl⟩<;>(repeat' split at hr)<;>simp at hr)
     have hgo:ca N T H o.dst g:=by
      refine⟨hgo0.1,?_⟩;cases g with
      |val v=>trivial
      |wr n v b=>exact Wa hr'
      |wrs l v=>exact Q7 hr'
      |wq n q v b bq=>exact Wb hr'
      |new b v =>
       obtain⟨_,d,hd,hf,hn⟩:=hgo0;exact⟨d,hd,hfr (hkind (.inl ⟨_,_,rfl⟩)) d hd,hn⟩
      |app n b v =>
       obtain⟨_,d,hd,hf,hn,_⟩:=hgo0;exact⟨d,hd,hfr (hkind (.inr ⟨_,_,_,rfl⟩)) d hd,hn,Q8 hr'⟩
     refine(XM hV (fun x v hv=>HQ hs.tmps hv) he' hs.std hr' hc (XE hgo)).wp ?_ (fun c hc=>by rw[hc]at he';cases he');rintro U w' ⟨M',σ',ho⟩;have hsim:=Pl hs ho hgo;refine hK M' σ' _ _ ?_;rw[Uy hg he hr,Mf,Ur hok];exact hsim
   cases hst
  cases hst
 rename_i j want hg;split at hst
 ·rename_i G hG;split at hst
  ·rename_i e he;split at hst
   ·rename_i cs' v hr;cases hok:KA N s o.dst (.val (.av v))with
    |false=>rw[hok]at hst;cases hst
    |true =>
     rw[hok]at hst;simp only[mi,l7,l8]at hst;obtain⟨rfl,rfl⟩:=hst;obtain⟨hc1,hc2⟩:=hc.append;have htm:∀i∈Iq o.op,T i=get s.t i:=fun i hi=>hT i (L5 (cP hi));have hG':IH T ops j want=some G:=by rw[Oa fun d hd=>hT d (NB hg hd)];exact hG
     have hw:=Fh hs.tmps hs.room hg hG';have hev:∀x∈o.op.operands.toList,evG T (Iq o.op) x=evG (get s.t) (Iq o.op) x:=fun x hx=>by
      cases x with
      |tmp i=>simp only[evG];rw[hT i (L5 hx)]
      |_=>rfl
     have he':eff P V o.dst o.op (evG T (Iq o.op))=some e:=by rw[U6 hev];exact he
     have hfoot:MB P V ops o s=Uz e:=by unfold MB;rw[hg];simp only[he]
     have hr':res H e=some (cs',.val (.av v)):=by rw[Ub (h':=get s.h) fun n hn=>hH n (by rw[hfoot];exact hn)];exact hr
     rw[<- QS (t:=T) _ htm]at hc1;have hgo0:=Mg hok (fun n v b hg=>by cases hg) (fun l v hg=>by cases hg) (fun n q v b bq hg=>by cases hg) (fun n b v hg=>by cases hg);have fin:∀(U:Value) (w':World) (M':m5) (σ':Nat->Loc),b8 M σ w o.dst U w' M' σ' (.val (.grd G v))->K (a.put o.dst U) w':=fun U w' M' σ' ho=>by
      have hsim:=Pl hs (g:=.val (.grd G v)) ho ⟨hgo0.1,trivial⟩;refine hK M' σ' _ _ ?_;have e1:(fun i=>if o.dst=some i then get (Qy s o.dst (.grd G v)).t i else T i)=goT T o.dst (.val (.grd G v)):=Mf (s:=s) (g:=.val (.grd G v)) T;have e2:(fun n=>if n∈Em P V o s then get (Qy s o.dst (.grd G v)).h n else H n)=H:=by
       funext n;unfold Em;rw[hg];simp
      rw[e1,e2];exact hsim
     by_cases hGp:G
     ·rw[if_pos (hw.2 hGp)];have hcs:CI cs':=by
       have:∀l:List Prop,CI (l.map fun p=>G->p)->CI l:=fun l=>by
        induction l with
        |nil=>intro _;exact .nil
        |cons p l ih=>intro h;exact .cons (h.head hGp) (ih h.tail)
       exact this _ hc2
      have:=XM hV (o:=o) (a:=a) (fun x v hv=>dE hGp hc1 hs.tmps hv) he' hs.std hr' hcs trivial;refine this.wp ?_ (fun c hc=>by rw[hc]at he';cases he');rintro U w' ⟨M',σ',ho⟩;obtain⟨k,hσ,hR⟩:=ho;exact fin U w' M' σ' ⟨k,hσ,fun _=>hR,fun h=>absurd hGp h⟩
     rw[if_neg (fun h=>hGp (hw.1 h))];refine⟨fun _ _=>trivial,?_⟩;exact fin undef w M σ ⟨Gk.refl hs.imm _,rfl,fun h=>absurd h hGp,fun _=>rfl⟩
   cases hst
  cases hok:KA N s o.dst (.val (.av (.one (.val (.bool false)))))with
  |false=>rw[hok]at hst;cases hst
  |true =>
   rw[hok]at hst;simp only[mi,l7,l8]at hst;obtain⟨rfl,rfl⟩:=hst;have hGp:¬ G:=hc.head;have hG':IH T ops j want=some G:=by rw[Oa fun d hd=>hT d (NB hg hd)];exact hG
   have hw:=Fh hs.tmps hs.room hg hG';rw[if_neg (fun h=>hGp (hw.1 h))];refine⟨fun _ _=>trivial,?_⟩;have hgo0:=Mg hok (fun n v b hg=>by cases hg) (fun l v hg=>by cases hg) (fun n q v b bq hg=>by cases hg) (fun n b v hg=>by cases hg);have hsim:=Pl hs (g:=.val (.grd G (.one (.val (.bool false))))) (V:=undef) (w':=w) (M':=M) (σ':=σ) ⟨Gk.refl hs.imm _,rfl,fun h=>absurd h hGp,fun _=>rfl⟩ ⟨hgo0.1,trivial⟩;refine hK M σ _ _ ?_;have e1:(fun i=>if o.dst=some i then get (Qy s o.dst (.grd G (.one (.val (.bool false))))).t i else T i)=goT T o.dst (.val (.grd G (.one (.val (.bool false))))):=Mf (s:=s) (g:=.val (.grd G (.one (.val (.bool false))))) T;have e2:(fun n=>if n∈Em P V o s then get (Qy s o.dst (.grd G (.one (.val (.bool false))))).h n else H n)=H:=by
    funext n;unfold Em;rw[hg];simp
   rw[e1,e2];exact hsim
 cases hst
theorem SX{o:Oper}{s s1:AS}{cs:List Prop}(hst:Ly P V N ops o s=some (cs,s1)):∃g,KA N s o.dst g=true/\s1=Y5 s o.dst g/\Em P V o s=Qw o.dst g/\(J9 P V o s=true->(∃b v,g=.new b v)\/∃n b v,g=.app n b v):=by
 unfold Ly at hst;split at hst
 ·rename_i hg;split at hst
  ·rename_i e he;split at hst
   ·rename_i cs' g hr;cases hok:KA N s o.dst g with
    |false=>rw[hok]at hst;cases hst
    |true =>
     rw[hok]at hst;simp only[mi,l7,l8]at hst;obtain⟨rfl,rfl⟩:=hst;refine⟨g,hok,rfl,Uy hg he hr,fun hn=>?_⟩;unfold J9 at hn;rw[hg]at hn;simp only[he]at hn;cases e<;>simp only[res]at hr<;>simp only at hn<;>try(cases hn;done)
     case new=>simp only[l7,l8]at hr;obtain⟨_,rfl⟩:=hr;exact .inl ⟨_,_,rfl⟩
     case app =>
      split at hr
      ·split at hr
       ·simp only[l7,l8]at hr;obtain⟨_,rfl⟩:=hr;exact .inr ⟨_,_,_,rfl⟩
       cases hr
      cases hr
   cases hst
  cases hst
 rename_i j want hg;split at hst
 ·rename_i G hG;split at hst
  ·rename_i e he;split at hst
   ·rename_i cs' v hr;cases hok:KA N s o.dst (.val (.av v))with
    |false=>rw[hok]at hst;cases hst
    |true =>
     rw[hok]at hst;simp only[mi,l7,l8]at hst;obtain⟨rfl,rfl⟩:=hst;refine⟨.val (.grd G v),hok,rfl,?_,fun hn=>?_⟩
     ·unfold Em;rw[hg];rfl
     unfold J9 at hn;rw[hg]at hn;cases hn
   cases hst
  cases hok:KA N s o.dst (.val (.av (.one (.val (.bool false)))))with
  |false=>rw[hok]at hst;cases hst
  |true =>
   rw[hok]at hst;simp only[mi,l7,l8]at hst;obtain⟨rfl,rfl⟩:=hst;refine⟨.val (.grd G (.one (.val (.bool false)))),hok,rfl,?_,fun hn=>?_⟩
   ·unfold Em;rw[hg];rfl
   unfold J9 at hn;rw[hg]at hn;cases hn
 cases hst
theorem FV{o:Oper}{s s1:AS}{cs:List Prop}(hst:Ly P V N ops o s=some (cs,s1)):(get s1.t=fun i=>if o.dst=some i then get s1.t i else get s.t i)/\(get s1.h=fun n=>if n∈Em P V o s then get s1.h n else get s.h n):=by
 obtain⟨g,hok,rfl,hfw,_⟩:=SX hst;rw[hfw,Mf,Ur hok];exact Gv s o.dst g
theorem SW{o:Oper}{s s1:AS}{cs:List Prop}(hst:Ly P V N ops o s=some (cs,s1))(hn:J9 P V o s=true){d:Nat}(hd:o.dst=some d):Ts (get s.t) (get s.h) d:=by
 obtain⟨g,hok,rfl,_,hk⟩:=SX hst;rcases hk hn with ⟨b,v,rfl⟩|⟨n,b,v,rfl⟩
 ·rw[hd]at hok;simp only[KA,Option.any_some,me]at hok;exact MA hok.1.2
 rw[hd]at hok;simp only[KA,Option.any_some,me]at hok;exact MA hok.1.2
end
end
section
open Go.RowKit
def AWp(P:Program)(rd:Option Nat)(N:Nat)(W0:World)(X:m6)(M0:m5)(c:Code)(Q:Exit->AS->Prop)(s:AS):Prop :=
 ∀M σ a w,Sim N W0 X M0 M σ (get s.t) (get s.h) a w->c.wpIn (FW rd) 0 P (fun e a' w'=>∃s' M' σ',Q e s'/\Sim N W0 X M0 M' σ' (get s'.t) (get s'.h) a' w') a w
def ATh(K:AS->Prop)(Q:Exit->AS->Prop):Exit->AS->Prop
 |.normal,s=>K s
 |e,s=>Q e s
def ABl(id:Nat)(Q:Exit->AS->Prop):Exit->AS->Prop
 |.exit id',s=>if id'=id then Q .normal s else Q (.exit id') s
 |e,s=>Q e s
def Fz{α:Type}(l:List (Nat×α)):List Nat->List (Nat×α)
 |[]=>[]
 |n::r=>match get l n with
  |some v=>(n,v)::Fz l r
  |none=>Fz l r
def L6(ts hs:List Nat)(s:AS):AS:=⟨Fz s.t ts,Fz s.h hs⟩
theorem HP{α:Type}(l:List (Nat×α)):∀(ns:List Nat) (n:Nat) (v:α),get (Fz l ns) n=some v->get l n=some v
 |[],n,v,h=>by cases h
 |k::r,n,v,h=>by
  simp only[Fz]at h;split at h
  ·rename_i u hu;simp only[get,Cb]at h
   by_cases hk:k=n
   ·subst hk;simp at h;subst h;exact hu
   simp[hk]at h;exact HP l r n v h
  exact HP l r n v h
def EE(l:List (Nat×FuncId×List Av×Ef))(d:Nat):Option (FuncId×List Av×Ef):=get l d
inductive FR (P:Program):List (Nat×FuncId×List Av×Ef)->Prop
 | nil:FR P []
 | cons {d:Nat} {c:FuncId×List Av×Ef} {l:List (Nat×FuncId×List Av×Ef)}:EI P c.1 c.2.1 c.2.2->FR P l->FR P ((d,c)::l)
theorem FR.env{P:Program}{E:TypeId->Option (List Kd)}(hE:LS P ⟨fun _=>none,E,fun _=>false,fun _=>none⟩){O:Nat->Bool}{q:Nat->Option (Bool×Nat)}{l:List (Nat×FuncId×List Av×Ef)}(hl:FR P l):MQ P ⟨EE l,E,O,q⟩:=by
 refine⟨hE,fun d f xs e h=>?_⟩;have hm:(d,f,xs,e)∈l:=DH h;clear h;induction hl with
 |nil=>cases hm
 |cons h1 _ ih =>
  cases hm with
  |head=>exact h1
  |tail _ hm=>exact ih hm
def A6:List Nat->Nat->Bool
 |[],_=>false
 |k::r,n=>bif Nat.beq k n then true else A6 r n
def Cp(x:List Av):Prop:=x=x
def wV(b:List Blk):Prop:=b=b
def CQ(b:Blk):Prop:=b=b
def A64(a b:Int):Int:=IntKind.i64.wrap ((BitVec.ofInt 64 a &&& BitVec.ofInt 64 b).toNat)
def W64(x:Int):Int:=IntKind.i64.wrap x
theorem B8{p:Prop}[Decidable p](h:(!decide p)=true):¬ p:=by simpa using h
theorem B3{p:Prop}[Decidable p](h:(!decide p)=false):p:=by simpa using h
theorem Bz(x:Int):W64 x=(x+9223372036854775808) % 18446744073709551616-9223372036854775808:=by
 unfold W64;rw[IntKind.wrap_i64]
theorem Ae{x:Int}(h1 : -9223372036854775808<=x)(h2:x<=9223372036854775807):W64 x=x:=by
 unfold W64;rw[IntKind.wrap_i64];omega
def lst{α:Type}[Inhabited α](sz:Nat)(c:α->List Cl)(xs:List α):Cl:=.list false sz xs.length fun i j=>(c (xs.getD i default)).getD j default
def wrI(n:Nat)(b0:Blk)(r:Tv)(b1:Blk):Ef:=.wr n [] fun b _=>some ([b=b0],r,b1)
def rdI(ns:List Nat)(bs:List Blk)(r:Tv):Ef:=.rd ns fun b=>some ([b=bs],r)
def Nm(P:Program)(V:Env P)(N:Nat)(l:List Oper)(ts hs:List Nat)(s:AS):Option (List Prop×AS):=match Nl P V N l.toArray l s with
 |some (cs,s1)=>some (cs,L6 ts hs s1)
 |none=>none
theorem AE{K:AS->Prop}{Q:Exit->AS->Prop}{s:AS}(h:K s):ATh K Q .normal s:=h
theorem Aj{K:AS->Prop}{Q:Exit->AS->Prop}{s:AS}{id:Nat}(h:Q (.exit id) s):ATh K Q (.exit id) s:=h
theorem Bf{K:AS->Prop}{Q:Exit->AS->Prop}{s:AS}(h:Q .ret s):ATh K Q .ret s:=h
theorem Ao{Q:Exit->AS->Prop}{s:AS}{id:Nat}(h:Q .normal s):ABl id Q .normal s:=h
theorem Cm{Q:Exit->AS->Prop}{s:AS}{id:Nat}(h:Q .ret s):ABl id Q .ret s:=h
theorem Ay{Q:Exit->AS->Prop}{s:AS}{id:Nat}(h:Q .normal s):ABl id Q (.exit id) s:=by simp only[ABl,if_true];exact h
section
variable {P:Program}{V:Env P}{rd:Option Nat}{N:Nat}{W0:World}{X:m6}{M0 M:m5}{σ:Nat→Loc}{w:World}{a:Act}{Q:Exit→AS→Prop}{s:AS}
theorem xM{S:AS}(hs:Sim N W0 X M0 M σ (get s.t) (get s.h) a w)(ht:∀i v,get S.t i=some v->get s.t i=some v)(hh:∀i v,get S.h i=some v->get s.h i=some v):Sim N W0 X M0 M σ (get S.t) (get S.h) a w :=
 ⟨hs.os,hs.tape,hs.output,hs.size,hs.old,hs.sub,hs.new,hs.pin,hs.defers,hs.room,fun i v h=>hs.tmps i v (ht i v h),hs.imm,fun n b h=>hs.blk n b (hh n b h),fun n b h=>hs.loc n b (hh n b h),fun n m b c h1 h2=>hs.inj n m b c (hh n b h1) (hh m c h2)⟩
theorem Gs(hs:Sim N W0 X M0 M σ (get s.t) (get s.h) a w)(ts ns:List Nat):Sim N W0 X M0 M σ (get (L6 ts ns s).t) (get (L6 ts ns s).h) a w:=xM hs (fun i v h=>HP _ _ _ _ h) (fun i v h=>HP _ _ _ _ h)
theorem bw{c:Code}{Q':Exit->AS->Prop}(h:AWp P rd N W0 X M0 c Q s)(hq:∀e s,Q e s->Q' e s):AWp P rd N W0 X M0 c Q' s:=fun M σ a w hs=>wpIn_mono (h M σ a w hs) fun e a' w' ⟨s',M',σ',h1,h2⟩=>⟨s',M',σ',hq _ _ h1,h2⟩
theorem AA{x y:Code}(h:AWp P rd N W0 X M0 x (ATh (AWp P rd N W0 X M0 y Q) Q) s):AWp P rd N W0 X M0 (.seq x y) Q s:=by
 intro M σ a w hs;refine wpIn_seq (wpIn_mono (h M σ a w hs) ?_);rintro e a' w' ⟨s',M',σ',h1,h2⟩;cases e with
 |normal=>exact h1 M' σ' a' w' h2
 |_=>exact⟨s',M',σ',h1,h2⟩
theorem AP(h:Q .normal s):AWp P rd N W0 X M0 .skip Q s:=fun M σ a w hs=>wpIn_skip ⟨s,M,σ,h,hs⟩
theorem AO(h:Q .ret s):AWp P rd N W0 X M0 .ret Q s:=fun M σ a w hs=>wpIn_ret ⟨s,M,σ,h,hs⟩
theorem Aw{id:Nat}(h:Q (.exit id) s):AWp P rd N W0 X M0 (.exit id) Q s:=fun M σ a w hs=>wpIn_exit ⟨s,M,σ,h,hs⟩
theorem AJ{id:Nat}{c:Code}(h:AWp P rd N W0 X M0 c (ABl id Q) s):AWp P rd N W0 X M0 (.block id c) Q s:=by
 intro M σ a w hs;refine wpIn_block (wpIn_mono (h M σ a w hs) ?_);rintro e a' w' ⟨s',M',σ',h1,h2⟩;cases e with
 |exit id' =>
  simp only[ABl]at h1;simp only[Exit.inBlock];split
  ·rename_i he;rw[if_pos he]at h1;exact⟨s',M',σ',h1,h2⟩
  rename_i he;rw[if_neg he]at h1;exact⟨s',M',σ',h1,h2⟩
 |_=>exact⟨s',M',σ',h1,h2⟩
theorem BC{c:Operand}{x y:Code}(b:Bool)(hc:evT (get s.t) c=some (.av (.one (.val (.bool b)))))(h1:b=true->AWp P rd N W0 X M0 x Q s)(h2:b=false->AWp P rd N W0 X M0 y Q s):AWp P rd N W0 X M0 (.cond c x y) Q s:=by
 intro M σ a w hs;have hv:a.eval c=.bool b:=(HQ hs.tmps hc).1;exact wpIn_cond_split hv (fun hb=>h1 hb M σ a w hs) (fun hb=>h2 hb M σ a w hs)
theorem CN{c:Operand}{x y:Code}(hc:evT (get s.t) c=some (.av (.one (.val (.bool true)))))(h1:AWp P rd N W0 X M0 x Q s):AWp P rd N W0 X M0 (.cond c x y) Q s:=BC true hc (fun _=>h1) (fun h=>by cases h)
theorem An{c:Operand}{x y:Code}(hc:evT (get s.t) c=some (.av (.one (.val (.bool false)))))(h1:AWp P rd N W0 X M0 y Q s):AWp P rd N W0 X M0 (.cond c x y) Q s:=BC false hc (fun h=>by cases h) (fun _=>h1)
theorem Q6(hV:MQ P V){ops:Array Oper}{Q':Exit->Act->World->Prop}:∀(l:List Oper) (s s1:AS) (cs:List Prop),Nl P V N ops l s=some (cs,s1)->CI cs->∀M σ a w,Sim N W0 X M0 M σ (get s.t) (get s.h) a w->(∀M' σ' a' w',Sim N W0 X M0 M' σ' (get s1.t) (get s1.h) a' w'->Q' .normal a' w')->wpListIn (FW rd) 0 P ops Q' l a w
 |[],s,s1,cs,hr,hc,M,σ,a,w,hs,hK=>by
  simp only[Nl,l7,l8]at hr;obtain⟨_,rfl⟩:=hr;exact hK M σ a w hs
 |o::l,s,s1,cs,hr,hc,M,σ,a,w,hs,hK=>by
  simp only[Nl]at hr;split at hr
  ·rename_i cs1 s2 h1;split at hr
   ·rename_i ds s3 h2;simp only[l7,l8]at hr;obtain⟨rfl,rfl⟩:=hr;obtain⟨hc1,hc2⟩:=hc.append;refine wpListIn_step fun K hK' => ?_;refine SY hV h1 hc1 hs (fun _ _=>rfl) (fun _ _=>rfl) (fun hn d hd=>SW h1 hn hd) fun M' σ' a' w' hs'=>hK' _ _ (Q6 hV l s2 s3 ds h2 hc2 M' σ' a' w' ?_ hK);rw[(FV h1).1,(FV h1).2];exact hs'
   cases hr
  cases hr
theorem DE{E:TypeId->Option (List Kd)}(hE:LS P ⟨fun _=>none,E,fun _=>false,fun _=>none⟩){id:Nat}{l:List Oper}(ow:List Nat)(qs:List (Nat×(Bool×Nat)))(tbl:List (Nat×FuncId×List Av×Ef))(ts ns:List Nat)(cs:List Prop)(S:AS)(htbl:FR P tbl)(hr:Nm P ⟨EE tbl,E,A6 ow,get qs⟩ N l ts ns s=some (cs,S))(hc:CI cs)(h:Q .normal S):AWp P rd N W0 X M0 (.region id l.toArray false) Q s:=by
 have hV:=htbl.env (O:=A6 ow) (q:=get qs) hE;intro M σ a w hs;unfold Nm at hr;split at hr
 ·rename_i cs1 s1 h1;simp only[l7,l8]at hr;obtain⟨rfl,rfl⟩:=hr;exact wpIn_region_lit (Q6 hV l s s1 cs1 h1 hc M σ a w hs fun M' σ' a' w' hs'=>⟨_,M',σ',h,Gs hs' ts ns⟩)
 cases hr
theorem bz{ι:Type}{c:Code}(S:ι->AS)(Inv:ι->Prop)(μ:ι->Nat)(round:∀x,Inv x->AWp P rd N W0 X M0 c (ATh (fun s'=>∃y,Inv y/\μ y<μ x/\s'=S y) Q) (S x))(x:ι)(hx:Inv x):AWp P rd N W0 X M0 (.loop c) Q (S x):=by
 have key:∀n x,μ x<n->Inv x->∀M σ a w,Sim N W0 X M0 M σ (get (S x).t) (get (S x).h) a w->Code.roundsIn (FW rd) 0 P c (fun e a' w'=>∃s' M' σ',Q e s'/\Sim N W0 X M0 M' σ' (get s'.t) (get s'.h) a' w') n a w:=by
  intro n;induction n with
  |zero=>intro x h;omega
  |succ n ih =>
   intro x hlt hx M σ a w hs;rw[roundsIn_succ];refine wpIn_mono (round x hx M σ a w hs) ?_;rintro e a' w' ⟨s',M',σ',h1,h2⟩;cases e with
   |normal =>
    obtain⟨y,hy,hm,rfl⟩:=h1;exact ih y mz hy M' σ' a' w' h2
   |_=>exact⟨s',M',σ',h1,h2⟩
 intro M σ a w hs;exact wpIn_loop_rounds (μ x+1) (key _ x (lz _) hx M σ a w hs)
def Tv.dv:Tv->Bool
 |.av x=>x.dv
 |.tup l=>l.all Av.dv
 |.grd _ _=>false
def xX(P:Program)(s:AS):ResultVar->Option Av
 |.tmp t=>match get s.t t with
  |some (.av x)=>some x
  |_=>none
 |.cell p T=>match get s.t p,ti P T with
  |some (.av (.one (.ptr n off))),some t=>match get s.h n with
   |some (.cells l _)=>Iv t l off
   |_=>none
  |_,_=>none
def jH(P:Program)(s:AS):List ResultVar->Option (List Av)
 |[]=>some []
 |r::rs=>match xX P s r,jH P s rs with
  |some x,some l=>some (x::l)
  |_,_=>none
def Sh(P:Program)(s:AS)(rs:List ResultVar):Option Tv:=match jH P s rs with
 |some [x]=>some (.av x)
 |some l=>some (.tup l)
 |none=>none
theorem xW(hs:Sim N W0 X M0 M σ (get s.t) (get s.h) a w){F:ResultVar->Sem Value}(np:∀t,F (.tmp t)=pure (a.tmps.getD t undef))(oy:∀p T,F (.cell p T)=(do loadVar T (<- asAddr (a.tmps.getD p undef)))){r:ResultVar}{x:Av}(h:xX P s r=some x):∃U,(F r).run P w=.ok U w/\RA M σ x U:=by
 cases r with
 |tmp t =>
  simp only[xX]at h;split at h
  ·rename_i y hy;injection h with h;subst h
   exact⟨_,by rw[np];rfl,hs.tmps t _ hy⟩
  cases h
 |cell p T =>
  simp only[xX]at h;split at h
  ·rename_i n off t h1 h2;split at h
   ·rename_i l ty hb;obtain⟨hnil,c,hblk,hl⟩:=hs.blk n _ hb;have hp:a.tmps.getD p undef=.pointer (some ⟨(σ n).b,off,none⟩):=hs.tmps p _ h1;obtain⟨U,hU,hR⟩:=Ho (w:=w) h2 (b:=(σ n).b) (off:=0) hl off (fun j u _ _ hj=>by simp only[World.cell?,hblk];simpa using hj) h;rw[mw]at hU;refine⟨U,?_,hR⟩;rw[oy];simp only[hp,asAddr,Sem.run_bind,Sem.run_pure,Result.andThen_ok,hU]
   cases h
  cases h
theorem fJ(hs:Sim N W0 X M0 M σ (get s.t) (get s.h) a w){F:ResultVar->Sem Value}(np:∀t,F (.tmp t)=pure (a.tmps.getD t undef))(oy:∀p T,F (.cell p T)=(do loadVar T (<- asAddr (a.tmps.getD p undef)))):∀ {rs:List ResultVar} {l:List Av},jH P s rs=some l->∃vs:List Value,(rs.mapM F).run P w=.ok vs w/\L2 (RA M σ) l vs
 |[],l,h=>by simp only[jH,l7]at h;subst h;exact⟨[],by simp,.nil⟩
 |r::rs,l,h=>by
  simp only[jH]at h;split at h
  ·rename_i x l' h1 h2;injection h with h;subst h
   obtain⟨U,hU,hR⟩:=xW hs np oy h1;obtain⟨vs,hvs,hL⟩:=fJ hs np oy h2;refine⟨U::vs,?_,.cons hR hL⟩;rw[List.mapM_cons];simp only[Sem.run_bind,Sem.run_pure];rw[hU];simp only[Result.andThen_ok];rw[hvs];rfl
  cases h
theorem fI(hs:Sim N W0 X M0 M σ (get s.t) (get s.h) a w){fn:Func}{r:Tv}(h:Sh P s fn.results.toList=some r):∃U,(results fn a.tmps).run P w=.ok U w/\RT M σ r U:=by
 unfold Sh at h;have hm:∀l,jH P s fn.results.toList=some l->∃vs:List Value,(results fn a.tmps).run P w=.ok (if h:vs.toArray.size=1 then vs.toArray[0]else .tuple vs.toArray) w/\L2 (RA M σ) l vs:=by
  intro l hl;unfold results;rw[Array.mapM_eq_mapM_toList];simp only[Sem.run_bind,Sem.run_map];have key:∀F:ResultVar->Sem Value,(∀t,F (.tmp t)=pure (a.tmps.getD t undef))->(∀p T,F (.cell p T)=(do loadVar T (<- asAddr (a.tmps.getD p undef))))->∃vs:List Value,(((fn.results.toList.mapM F).run P w).andThen fun a w'=>.ok a.toArray w').andThen (fun a w'=>(pure (if h:a.size=1 then a[0]else Value.tuple a):Sem Value).run P w')=.ok (if h:vs.toArray.size=1 then vs.toArray[0]else .tuple vs.toArray) w/\L2 (RA M σ) l vs:=fun F np oy=>by
   obtain⟨vs,h1,h2⟩:=fJ hs np oy hl;refine⟨vs,?_,h2⟩;rw[h1];rfl
  exact key _ (fun _=>rfl) (fun _ _=>rfl)
 split at h
 ·rename_i x hx;injection h with h;subst h
  obtain⟨vs,h1,h2⟩:=hm _ hx;cases h2 with|cons h3 h4 =>
  cases h4;exact⟨_,h1,h3⟩
 ·rename_i l hne hl;injection h with h;subst h
  obtain⟨vs,h1,h2⟩:=hm _ hl;have:¬ vs.toArray.size=1:=by
   have:=h2.length;intro e;simp at e
   match l,this with
   |[x],_=>exact hne x rfl
   |[],h=>simp at h;omega
   |_::_::_,h=>simp at h;omega
  rw[dif_neg this]at h1;exact⟨_,h1,vs,rfl,h2⟩
 cases h
def RetQ(P:Program)(fn:Func)(φ:Tv->AS->Prop):Exit->AS->Prop:=fun e s=>(e=.ret\/e=.normal)/\∃r,Sh P s fn.results.toList=some r/\φ r s
def FP:Nat->List Av->List (Nat×Tv)
 |_,[]=>[]
 |k,x::r=>(k,.av x)::FP (k+1) r
theorem Nu:∀(l:List Av) (k i:Nat) (v:Tv),get (FP k l) i=some v->k<=i/\∃x,l[i-k]? = some x/\v=.av x
 |[],k,i,v,h=>by cases h
 |y::r,k,i,v,h=>by
  simp only[FP,get,Cb]at h
  by_cases hk:k=i
  ·subst hk;simp at h;subst h;exact⟨lu _,y,by simp,rfl⟩
  simp[hk]at h;obtain⟨h1,x,h2,h3⟩:=Nu r (k+1) i v h;refine⟨by omega,x,?_,h3⟩;rw[show i-k=(i-(k+1))+1 by omega,List.getElem?_cons_succ];exact h2
theorem qI{T:Nat->Option Tv}{H:Nat->Option Blk}{tm:Array Value}{d:Deferred}{ds:List Deferred}(hs:Sim N W0 X M0 M σ T H { tmps:=tm,defers:=d::ds } w) :
  ∃D w' M',d.target=.collected D/\(Instr.takeDeferred D).run P w=.ok [] w'/\Sim N W0 X M0 M' σ T H { tmps:=tm,defers:=ds } w':=by
 obtain⟨⟨⟨D,rfl,hD,h0,hne⟩,hds⟩,hfl⟩:=hs.defers;have hw:=hs.imm D _ hD;have hlt:D<w.heap.size:=(Array.getElem?_eq_some_iff.1 hw).1;have hother:∀b,b≠D->(w.putObj D (.deferred none)).heap[b]? = w.heap[b]? := fun b hb=>World.putObj_heap_other (fun e=>hb e);obtain⟨M',hM⟩:∃M':m5,M'=fun b=>if b=D then none else M b:=⟨_,rfl⟩
 have hM1:∀b,b≠D->M' b=M b:=fun b hb=>by subst hM;simp[hb]
 have hMD:M' D=none:=by subst hM;simp
 have hcell:∀b o v,F2 M b o=some v->F2 M' b o=some v:=fun b o v hc=>by
  by_cases hb:b=D
  ·subst hb;simp[F2,hD]at hc
  unfold F2 at *;rw[hM1 b hb];exact hc
 have hRC:∀ {c:Cl} {V:Value},RC M c V->RC M' c V:=fun h=>by
  induction h with
  |val v h=>exact .val v h
  |nil t sz f h0=>exact .nil t sz f h0
  |mt t sz f a cap h5=>exact .mt t sz f a cap h5
  |clo f k caps cs h1 _ ih=>exact .clo f k caps cs h1 ih
  |list t sz len f b off cap g h1 _ h4 h5 ih=>exact .list t sz len f b off cap g (fun i j hi hj=>hcell _ _ _ (h1 i j hi hj)) ih h4 h5
  |eptr sz len f i off b base g h1 _ ih=>exact .eptr sz len f i off b base g (fun j hj=>hcell _ _ _ (h1 j hj)) ih
  |mp agg nv len kf vf b es clock g k0 h1 h2 _ ih=>exact .mp agg nv len kf vf b es clock g (by rw[hM1 b (fun e=>by subst e;rw[hD]at k0;cases k0)];exact k0) h1 h2 ih
  |any V h=>exact .any V h
 have hR:∀ {c:Cl} {V:Value},R M σ c V->R M' σ c V:=by
  intro c;induction c with
  |list=>intro V h;exact hRC h
  |eptr=>intro V h;exact hRC h
  |mp=>intro V h;exact hRC h
  |clo f k caps ih =>
   intro V h;obtain⟨cs,h1,h2,h3⟩:=h;exact⟨cs,h1,h2,fun i hi=>ih i (h3 i hi)⟩
  |val v=>intro V h;exact h
  |ptr=>intro V h;exact h
  |own=>intro V h;exact h
  |rptr=>intro V h;exact h
  |osl=>intro V h;exact h
  |om=>intro V h;exact h
  |any=>intro V h;exact h
 have hRA:∀ {x:Av} {V:Value},RA M σ x V->RA M' σ x V:=fun {x V} h=>by
  cases x with
  |one c=>exact hR h
  |agg l=>obtain⟨vs,h1,h2⟩:=h;exact⟨vs,h1,h2.mono fun _ _ _ h=>hR h⟩
 have hRT:∀ {x:Tv} {V:Value},RT M σ x V->RT M' σ x V:=fun {x V} h=>by
  cases x with
  |av x=>exact hRA h
  |tup l=>obtain⟨vs,h1,h2⟩:=h;exact⟨vs,h1,h2.mono fun _ _ _ h=>hRA h⟩
  |grd g x=>exact⟨fun hg=>hRA (h.1 hg),h.2⟩
 have hblkne:∀n b,H n=some b->(σ n).nil=false->(σ n).b≠D:=fun n b hb hn e=>by
  rcases hs.loc n b hb with h|⟨h1,_⟩
  ·rw[hn]at h;cases h
  rw[e,hD]at h1;cases h1
 refine⟨D,_,M',rfl,run_takeDeferred hw,⟨hs.os,hs.tape,hs.output,by simpa using hs.size,fun b hb hx=>?_,fun b o h=>?_,fun b o h h' => ?_,hs.pin,?_,hs.room,fun i v h=>hRT (hs.tmps i v h),fun b o h=>?_,fun n b h=>?_,fun n b h=>?_,hs.inj⟩⟩
 ·have:b≠D:=fun e=>by subst e;have:=hs.new _ _ hD h0;omega
  rw[hother b this];exact hs.old b hb hx
 ·have:b≠D:=fun e=>by subst e;rw[h0]at h;cases h
  rw[hM1 b this];exact hs.sub b o h
 ·by_cases e:b=D
  ·subst e;rw[hMD]at h;cases h
  rw[hM1 b e]at h;exact hs.new b o h h'
 ·have:∀l:List Deferred,(∀d'∈l,d'≠{ target:=.collected D,args := #[] })->JC M0 M l->JC M0 M' l:=by
   intro l;induction l with
   |nil=>intro _ _;trivial
   |cons d l ih =>
    rintro hl ⟨⟨D',h1,h2,h3,h4⟩,h5⟩;refine⟨⟨D',h1,?_,h3,h4⟩,ih (fun d' hd=>hl d' (by simp[hd])) h5⟩;have:D'≠D:=fun e=>by subst e;exact hl d m3 h1
    rw[hM1 _ this];exact h2
  exact⟨this ds hne hds,fun hf=>by cases hfl hf⟩
 ·by_cases e:b=D
  ·subst e;rw[hMD]at h;cases h
  rw[hM1 b e]at h;rw[hother b e];exact hs.imm b o h
 ·have h1:=hs.blk n b h;cases b with
  |cells l ty =>
   obtain⟨g0,c,g1,g2⟩:=h1;exact⟨g0,c,(hother _ (hblkne n _ h g0)).trans g1,g2.mono fun _ _ _ h=>hR h⟩
  |row sz len f ty =>
   rcases h1 with h1|⟨g0,c,g1,g2,g3,g4,g,g5⟩
   ·exact .inl h1
   exact .inr ⟨g0,c,(hother _ (hblkne n _ h g0)).trans g1,g2,g3,g4,g,fun i j hi hj=>⟨(g5 i j hi hj).1,hRC (g5 i j hi hj).2⟩⟩
  |omap agg nv len kf vf =>
   obtain⟨g0,es,ck,g,g1,g2,g3,g4⟩:=h1;exact⟨g0,es,ck,g,(hother _ (hblkne n _ h g0)).trans g1,g2,g3,fun i j hi hj=>hRC (g4 i j hi hj)⟩
  |rowx sz len f ty hh =>
   obtain⟨g0,c,g1,g2,g3,g4,g,g5,g6⟩:=h1;exact⟨g0,c,(hother _ (hblkne n _ h g0)).trans g1,g2,g3,g4,g,fun i j hi hj=>⟨(g5 i j hi hj).1,fun hn=>hRC ((g5 i j hi hj).2 hn)⟩,fun i l hl=>⟨(g6 i l hl).1,(g6 i l hl).2.mono fun _ _ _ h=>hR h⟩⟩
 rcases hs.loc n b h with h1|⟨h1,h2⟩
 ·exact .inl h1
 by_cases hn:(σ n).nil=true
 ·exact .inl hn
 refine .inr ⟨?_,h2⟩;rw[hM1 _ (hblkne n b h (by simpa using hn))];exact h1
theorem OW{fn:Func}{R:Ending->World->Prop}{T:Nat->Option Tv}{H:Nat->Option Blk}{tm:Array Value}:∀(ds:List Deferred) {M:m5} {w:World},Sim N W0 X M0 M σ T H { tmps:=tm,defers:=ds } w ->
  (∀M'' w'',Sim N W0 X M0 M'' σ T H { tmps:=tm,defers:=[] } w''->∃U,(results fn tm).run P w''=.ok U w''/\R (.returned U) w'')->LeavesInM (FW none) 0 P fn tm R ds .returning w
 |[],M,w,hs,hR=>hR M w hs
 |d::ds,M,w,hs,hR=>by
  obtain⟨D,w',M',h1,h2,h3⟩:=qI (P:=P) hs;exact⟨by simp,.inl ⟨D,w',h1,h2,OW ds h3 hR⟩⟩
theorem Ew{f:FuncId}{fn:Func}{c:Code}(hf:P.funcs[f]? = some fn)(hb:fn.body=some c){xs:List Av}{h0:List (Nat×Blk)}{args:List Value}{φ:Tv->AS->Prop}(hN:xs.length<=fn.ntmps)
 (himm:∀b o,M b=some o->w.heap[b]? = some o)(hargs:L2 (RA M σ) xs args)(hblk:∀n b,get h0 n=some b->Bl M σ w (σ n) b)(hloc:∀n b,get h0 n=some b->(σ n).nil=true\/(M (σ n).b=none/\inX X (σ n).b))(hpin:∀n x,X n=some x->fn.ntmps<=n/\σ n=x)(hinj:∀n m b c,get h0 n=some b->get h0 m=some c->n≠m->(σ n).nil=true\/(σ m).nil=true\/(σ n).b≠(σ m).b)
 (h:AWp P none fn.ntmps w X M c (RetQ P fn φ) ⟨FP 0 xs,h0⟩){R':Ending->World->Prop}(hR:∀r s' M' σ' a' w' U,φ r s'->Sim fn.ntmps w X M M' σ' (get s'.t) (get s'.h) a' w'->RT M' σ' r U->R' (.returned U) w'):Calls P f args.toArray w R':=by
 have hlen:=hargs.length;refine callsIn_wide.1 (callsIn_of_wp_marks (F:=FW none) (n:=0) hf hb trivial (wpIn_mono (h M σ _ w ⟨rfl,rfl,rfl,lu _,fun _ _ _=>rfl,fun _ _ h=>h,fun _ _ h h'=>by(rw[h]at h';cases h'),hpin,KM.nil,by simp;omega,fun i v hv=>?_,himm,hblk,fun n b hb=>(hloc n b hb).imp id fun⟨h1,h2⟩=>⟨h1,.inr h2⟩,hinj⟩) ?_))
 ·obtain⟨_,x,hx,rfl⟩:=Nu _ _ _ _ hv;rw[Nat.sub_zero]at hx;obtain⟨u,hu,hRu⟩:=hargs.get i x hx;have:(args.toArray++Array.replicate (fn.ntmps-args.toArray.size) undef).getD i undef=u:=by
   have hi:i<args.length:=(List.getElem?_eq_some_iff.1 hu).1;rw[l6,Array.getElem?_append_left (by simpa using hi)];simp[hu]
  show RA M σ x _;rw[this];exact hRu
 rintro e a' w' ⟨s',M',σ',⟨he,r,hr,hφ⟩,hs'⟩;have key:=OW (fn:=fn) (R:=R') a'.defers hs' fun M'' w'' hs''=>by
  obtain⟨U,hU,hRU⟩:=fI hs'' hr;exact⟨U,hU,hR r s' M'' σ' _ w'' U hφ hs'' hRU⟩
 rcases he with rfl|rfl
 ·exact key
 exact key
def G4(P:Program)(f:FuncId)(xs:List Av)(r:Tv):Prop:=∀(M:m5) (σ:Nat->Loc) (w:World) (args:List Value),(∀b o,M b=some o->w.heap[b]? = some o)->L2 (RA M σ) xs args ->
 Calls P f args.toArray w fun en w'=>∃U,en=.returned U/\∃M',Gk w w' M M' M7/\∀σ',RT M' σ' r U
theorem IL{M:m5}{σ σ':Nat->Loc}{r:Tv}{U:Value}(hd:r.dv=true)(h:RT M σ r U):RT M σ' r U:=by
 have cl:∀ {c:Cl} {U:Value},c.dv=true->R M σ c U->R M σ' c U:=fun hd h=>(Mx hd).2 ((Mx hd).1 h);have av:∀ {x:Av} {U:Value},x.dv=true->RA M σ x U->RA M σ' x U:=fun {x U} hd h=>by
  cases x with
  |one c=>exact cl hd h
  |agg l=>obtain⟨vs,h1,h2⟩:=h;exact⟨vs,h1,h2.mono fun c hc b hb=>cl ((List.all_eq_true.1 hd) c hc) hb⟩
 cases r with
 |av x=>exact av hd h
 |tup l=>obtain⟨vs,h1,h2⟩:=h;exact⟨vs,h1,h2.mono fun c hc b hb=>av ((List.all_eq_true.1 hd) c hc) hb⟩
 |grd g x=>cases hd
theorem ZO{f:FuncId}{xs:List Av}{cs:List Prop}{r:Tv}(h1:∀args w,(callFunc f args).run P w=.ok (.enter f args) w)(h:CI cs->G4 P f xs r):EI P f xs (.val cs r):=by
 refine .inl ⟨h1,fun M σ w h' args cs' g hs hargs hr hc=>?_⟩;obtain⟨rfl,rfl⟩:=Br hr;refine(h hc M σ w args hs.imm hargs).mono ?_;rintro en w' ⟨U,hU,M',hk,hR⟩;exact⟨U,hU,fun dst _=>⟨M',σ,hk,rfl,hR σ⟩⟩
end
end
section
open Go.RowKit
structure Rec where
 rd:List Nat
 dst:Option Nat
 hr:List Nat
 hw:List Nat
 new:Bool
 out:Nat->Bool
def Jz(P:Program)(V:Env P)(ops:Array Oper)(o:Oper)(s s1:AS):Rec :=
 ⟨o.looksAt ops,o.dst,MB P V ops o s,Em P V o s,J9 P V o s,fun d=>(match o.dst with|some x=>(match get s1.t x with|some v=>v.no d|none=>true)|none=>true)&&(Em P V o s).all fun n=>match get s1.h n with|some b=>b.no d && !Nat.beq n d|none=>true⟩
def qQ(P:Program)(V:Env P)(N:Nat)(ops:Array Oper):List Oper->AS->Option (List Rec)
 |[],_=>some []
 |o::l,s=>match Ly P V N ops o s with
  |some (_,s1)=>(qQ P V N ops l s1).map (Jz P V ops o s s1::·)
  |none=>none
def iR(acc:List Nat)(o:Oper):Nat:=o.after.toList.foldl (fun m e=>bif Region.binds .any e then m ||| (1 <<< e.on) ||| acc.getD e.on 0 else m) 0
def D0:List Oper->List Nat->List Nat
 |[],acc=>acc
 |o::l,acc=>D0 l (acc++[iR acc o])
def UH(l:List Nat)(n:Nat):Bool:=l.any (Nat.beq n)
def dN(a b:Rec):Bool :=
 (match a.dst with|some d=>UH b.rd d||(match b.dst with|some e=>Nat.beq e d|none=>false)|none=>false) ||
 (match b.dst with|some d=>UH a.rd d|none=>false)||(a.hw.any fun n=>UH b.hr n||UH b.hw n)||(b.hw.any fun n=>UH a.hr n)
def fg(A:List Nat)(R:List Rec):Bool :=
 R.zipIdx.all fun(b,j)=>R.zipIdx.all fun(a,i) =>
  (Nat.ble j i || !dN a b||(A.getD j 0).testBit i) &&
  (Nat.beq i j || !a.new||(A.getD j 0).testBit i||(match a.dst with|some d=>b.out d|none=>true))
def Oj(l:List Oper):Bool:=l.zipIdx.all fun(o,j)=>o.after.toList.all fun e=>!Region.binds .any e||Nat.ble (e.on+1) j
def Qf(P:Program)(V:Env P)(N:Nat)(l:List Oper)(s:AS):Bool:=match qQ P V N l.toArray l s with
 |some R=>Oj l&&fg (D0 l []) R&&R.all fun r=>!r.new||(match r.dst with|some d=>TM s d|none=>true)
 |none=>false
theorem OV:∀(l:List Oper) (acc:List Nat),(D0 l acc).length=acc.length+l.length
 |[],acc=>rfl
 |o::l,acc=>by simp[D0,OV l];omega
theorem Pr:∀(l:List Oper) (acc:List Nat) (i:Nat),i<acc.length->(D0 l acc)[i]? = acc[i]?
 |[],acc,i,_=>rfl
 |o::l,acc,i,h=>by
  simp only[D0];rw[Pr l _ i (by simp;omega),la h]
theorem Ug:∀(l:List Oper) (acc:List Nat) (j:Nat) (o:Oper),l[j]? = some o->(D0 l acc)[acc.length+j]? = some (iR ((D0 l acc).take (acc.length+j)) o)
 |[],acc,j,o,h=>by simp at h
 |o'::l,acc,0,o,h=>by
  simp at h;subst h;simp only[D0,Nat.add_zero];rw[Pr l _ _ m3];have:(D0 l (acc++[iR acc o'])).take acc.length=acc:=by
   apply List.ext_getElem?;intro i;rw[List.getElem?_take];split
   ·rename_i hi;rw[Pr l _ i (by simp;omega),la hi]
   rename_i hi;rw[cw mz]
  rw[this];simp
 |o'::l,acc,j+1,o,h=>by
  simp only[D0];have:=Ug l (acc++[iR acc o']) j o (by simpa using h);simp only[d9,List.length_singleton]at this;rw[show acc.length+(j+1)=acc.length+1+j by omega];exact this
theorem ZG(acc:List Nat)(i:Nat):∀(es:List Edge) (m:Nat),(es.foldl (fun m e=>bif Region.binds .any e then m ||| (1 <<< e.on) ||| acc.getD e.on 0 else m) m).testBit i=true->m.testBit i=true\/∃e∈es,Region.binds .any e=true/\(i=e.on\/(acc.getD e.on 0).testBit i=true)
 |[],m,h=>.inl h
 |e::es,m,h=>by
  simp only[List.foldl_cons]at h;rcases ZG acc i es _ h with h|⟨e',he,hb⟩
  ·cases hb:Region.binds .any e with
   |false=>rw[hb]at h;exact .inl h
   |true =>
    rw[hb]at h;simp only[mi,Nat.testBit_or,mg]at h;rcases h with (h|h)|h
    ·exact .inl h
    ·refine .inr ⟨e,by simp,hb,.inl ?_⟩;rw[Nat.testBit_shiftLeft]at h;simp only[me,ll]at h;have:(1:Nat).testBit (i-e.on)=true:=h.2;have h1:i-e.on=0:=by
      rcases Nat.eq_zero_or_pos (i-e.on)with h0|h0
      ·exact h0
      rw[Nat.testBit_one_eq_true_iff_self_eq_zero]at this;exact this
     omega
    exact .inr ⟨e,by simp,hb,.inr h⟩
  exact .inr ⟨e',by simp[he],hb⟩
theorem L3{l:List Nat}{n:Nat}:UH l n=true↔n∈l:=by
 simp only[UH,List.any_eq_true,Cb,ll];exact⟨fun⟨x,hx,he⟩=>he▸hx,fun h=>⟨n,h,rfl⟩⟩
section
variable {P:Program}{V:Env P}{rd:Option Nat}{N:Nat}{W0:World}{X:m6}{M0:m5}{l:List Oper}{s0:AS}
def N8(l:List Oper)(L:Array Bool):Prop:=∀j o,l[j]? = some o->L.getD j false=true->∀e∈o.after,Region.binds .any e=true->L.getD e.on false=true
theorem K8(hb:Oj l=true){L:Array Bool}(hL:N8 l L):∀(n j:Nat),j<n->∀o,l[j]? = some o->(∀e∈o.after,Region.binds .any e=true->L.getD e.on false=true)->∀i,((D0 l []).getD j 0).testBit i=true->L.getD i false=true/\i<j
 |n+1,j,hj,o,ho,hd,i,hi=>by
  have hm:=Ug l [] j o ho;simp only[j9,mw]at hm;rw[aE,hm,Option.getD_some]at hi;have hlt:∀e∈o.after,Region.binds .any e=true->e.on<j:=fun e he hbe=>by
   have h1:=(List.all_eq_true.1 hb) (o,j) (List.mem_zipIdx_iff_getElem?.2 (by simpa using ho));have h2:=(List.all_eq_true.1 h1) e (by simpa using he);simp only[hbe,mc,mh]at h2;exact mr h2
  rcases ZG _ i _ 0 hi with h|⟨e,he,hbe,h⟩
  ·simp at h
  have he':e∈o.after:=by simpa using he
  have hon:=hd e he' hbe;have helt:=hlt e he' hbe;rcases h with rfl|h
  ·exact⟨hon,helt⟩
  have hget:((D0 l []).take j).getD e.on 0=(D0 l []).getD e.on 0:=by
   rw[aE,aE,List.getElem?_take_of_lt helt]
  rw[hget]at h;cases hoo:l[e.on]? with
  |none =>
   have:(D0 l []).getD e.on 0=0:=by
    rw[aE,cw (by rw[OV];simp;exact List.getElem?_eq_none_iff.1 hoo)];rfl
   rw[this]at h;simp at h
  |some o2 =>
   have:=K8 hb hL n e.on mz o2 hoo (hL e.on o2 hoo hon) i h;exact⟨this.1,by omega⟩
def stN(P:Program)(V:Env P)(N:Nat)(l:List Oper)(s0:AS):Nat->AS
 |0=>s0
 |k+1=>match l[k]? with
  |some o=>(match Ly P V N l.toArray o (stN P V N l s0 k)with
   |some (_,s1)=>s1
   |none=>stN P V N l s0 k)
  |none=>stN P V N l s0 k
theorem Nk:∀(r:List Oper) (k:Nat) (s s1:AS) (cs:List Prop),(∀j,r[j]? = l[k+j]?)->s=stN P V N l s0 k->Nl P V N l.toArray r s=some (cs,s1)->CI cs ->
  s1=stN P V N l s0 (k+r.length)/\∀j o,r[j]? = some o->∃ds,Ly P V N l.toArray o (stN P V N l s0 (k+j))=some (ds,stN P V N l s0 (k+j+1))/\CI ds
 |[],k,s,s1,cs,_,hs,hr,_=>by
  simp only[Nl,l7,l8]at hr;exact⟨by rw[<- hr.2];exact hs,fun j o h=>by simp at h⟩
 |o::r,k,s,s1,cs,hl,hs,hr,hc=>by
  simp only[Nl]at hr;split at hr
  ·rename_i cs1 s2 h1;split at hr
   ·rename_i ds s3 h2;simp only[l7,l8]at hr;obtain⟨rfl,rfl⟩:=hr;obtain⟨hc1,hc2⟩:=hc.append;have h0:l[k]? = some o:=by simpa using (hl 0).symm
    have hst:stN P V N l s0 (k+1)=s2:=by
     simp only[stN,h0];rw[<- hs,h1]
    obtain⟨h3,h4⟩:=Nk r (k+1) s2 s3 ds (fun j=>by have:=hl (j+1);simpa [mv,Nat.add_comm 1 j]using this) hst.symm h2 hc2;refine⟨by rw[h3];congr 1;simp;omega,fun j o' hj=>?_⟩;cases j with
    |zero =>
     simp at hj;subst hj;exact⟨cs1,by rw[Nat.add_zero,<- hs,hst];exact h1,hc1⟩
    |succ j =>
     have:=h4 j o' (by simpa using hj)
     rwa [show k+1+j=k+(j+1)by omega]at this
   cases hr
  cases hr
theorem YE:∀(r:List Oper) (k:Nat) (R:List Rec),(∀j,r[j]? = l[k+j]?)->qQ P V N l.toArray r (stN P V N l s0 k)=some R->R.length=r.length/\∀j o,r[j]? = some o->R[j]? = some (Jz P V l.toArray o (stN P V N l s0 (k+j)) (stN P V N l s0 (k+j+1)))
 |[],k,R,_,h=>by simp only[qQ,l7]at h;subst h;exact⟨rfl,fun j o h=>by simp at h⟩
 |o::r,k,R,hl,h=>by
  simp only[qQ]at h;split at h
  ·rename_i cs s1 h1;obtain⟨R',hR',rfl⟩:=Option.map_eq_some_iff.1 h;have h0:l[k]? = some o:=by simpa using (hl 0).symm
   have hst:stN P V N l s0 (k+1)=s1:=by simp only[stN,h0,h1]
   rw[<- hst]at hR';obtain⟨h2,h3⟩:=YE r (k+1) R' (fun j=>by have:=hl (j+1);simpa [mv,Nat.add_comm 1 j]using this) hR';refine⟨by simp[h2],fun j o' hj=>?_⟩;cases j with
   |zero=>simp at hj;subst hj;simp[hst]
   |succ j =>
    have:=h3 j o' (by simpa using hj);rw[show k+1+j=k+(j+1)by omega]at this;simpa using this
  cases h
end
end
section
open Go.RowKit
section
variable {P:Program}{V:Env P}{rd:Option Nat}{N:Nat}{W0:World}{X:m6}{M0:m5}{l:List Oper}{s0:AS}
def AgT(l:List Oper)(L:Array Bool)(x k:Nat):Prop:=∀j o,l[j]? = some o->o.dst=some x->(L.getD j false=true↔j<k)
def AgH(P:Program)(V:Env P)(N:Nat)(l:List Oper)(s0:AS)(L:Array Bool)(m k:Nat):Prop:=∀j o,l[j]? = some o->m∈Em P V o (stN P V N l s0 j)->(L.getD j false=true↔j<k)
def LB(P:Program)(V:Env P)(N:Nat)(l:List Oper)(s0:AS):Prop:=∀(j:Nat) o,l[j]? = some o->∃ds,Ly P V N l.toArray o (stN P V N l s0 j)=some (ds,stN P V N l s0 (j+1))/\CI ds
theorem bD(h:LB P V N l s0){x:Nat}:∀(d i k:Nat),k=i+d->k<=l.length->(∀(j:Nat) o,i<=j->j<k->l[j]? = some o->o.dst≠some x)->get (stN P V N l s0 k).t x=get (stN P V N l s0 i).t x
 |0,i,k,hk,_,_=>by subst hk;rfl
 |d+1,i,k,hk,hkl,hno=>by
  subst hk;have hlt:i+d<l.length:=by omega
  obtain⟨ds,hst,_⟩:=h (i+d) _ (ea hlt);have hf:=congrFun (FV hst).1 x;rw[show i+(d+1)=i+d+1 by omega,hf,if_neg (hno (i+d) _ mz mz (ea hlt))];exact bD h d i (i+d) rfl mz fun j o h1 h2 h3=>hno j o h1 mz h3
theorem bE(h:LB P V N l s0){m:Nat}:∀(d i k:Nat),k=i+d->k<=l.length->(∀(j:Nat) o,i<=j->j<k->l[j]? = some o->m ∉ Em P V o (stN P V N l s0 j))->get (stN P V N l s0 k).h m=get (stN P V N l s0 i).h m
 |0,i,k,hk,_,_=>by subst hk;rfl
 |d+1,i,k,hk,hkl,hno=>by
  subst hk;have hlt:i+d<l.length:=by omega
  obtain⟨ds,hst,_⟩:=h (i+d) _ (ea hlt);have hf:=congrFun (FV hst).2 m;rw[show i+(d+1)=i+d+1 by omega,hf,if_neg (hno (i+d) _ mz mz (ea hlt))];exact bE h d i (i+d) rfl mz fun j o h1 h2 h3=>hno j o h1 mz h3
theorem bK(h:LB P V N l s0){L:Array Bool}{x k i:Nat}(hk:k<=l.length)(hi:i<=l.length)(h1:AgT l L x k)(h2:AgT l L x i):get (stN P V N l s0 k).t x=get (stN P V N l s0 i).t x:=by
 rcases Nat.le_total k i with hle|hle
 ·exact(bD h (i-k) k i mz hi fun j o a b c d=>by have:=(h1 j o c d).symm.trans (h2 j o c d);omega).symm
 exact bD h (k-i) i k mz hk fun j o a b c d=>by have:=(h1 j o c d).symm.trans (h2 j o c d);omega
theorem bL(h:LB P V N l s0){L:Array Bool}{m k i:Nat}(hk:k<=l.length)(hi:i<=l.length)(h1:AgH P V N l s0 L m k)(h2:AgH P V N l s0 L m i):get (stN P V N l s0 k).h m=get (stN P V N l s0 i).h m:=by
 rcases Nat.le_total k i with hle|hle
 ·exact(bE h (i-k) k i mz hi fun j o a b c d=>by have:=(h1 j o c d).symm.trans (h2 j o c d);omega).symm
 exact bE h (k-i) i k mz hk fun j o a b c d=>by have:=(h1 j o c d).symm.trans (h2 j o c d);omega
theorem uR(h:LB P V N l s0){x:Nat}{v:Tv}:∀k,k<=l.length->get (stN P V N l s0 k).t x=some v->get s0.t x=some v\/∃(j:Nat) (o:Oper),j<k/\l[j]? = some o/\o.dst=some x/\get (stN P V N l s0 (j+1)).t x=some v
 |0,_,hv=>.inl hv
 |k+1,hk,hv=>by
  have hlt:k<l.length:=by omega
  obtain⟨ds,hst,_⟩:=h k _ (ea hlt);have hf:=congrFun (FV hst).1 x
  by_cases hd:l[k].dst=some x
  ·exact .inr ⟨k,_,by omega,ea hlt,hd,hv⟩
  rw[hf,if_neg hd]at hv;rcases uR h k mz hv with h'|⟨j,o,h1,h2⟩
  ·exact .inl h'
  exact .inr ⟨j,o,by omega,h2⟩
theorem uS(h:LB P V N l s0){m:Nat}{b:Blk}:∀k,k<=l.length->get (stN P V N l s0 k).h m=some b->get s0.h m=some b\/∃(j:Nat) (o:Oper),j<k/\l[j]? = some o/\m∈Em P V o (stN P V N l s0 j)/\get (stN P V N l s0 (j+1)).h m=some b
 |0,_,hv=>.inl hv
 |k+1,hk,hv=>by
  have hlt:k<l.length:=by omega
  obtain⟨ds,hst,_⟩:=h k _ (ea hlt);have hf:=congrFun (FV hst).2 m
  by_cases hd:m∈Em P V l[k] (stN P V N l s0 k)
  ·exact .inr ⟨k,_,by omega,ea hlt,hd,hv⟩
  rw[hf,if_neg hd]at hv;rcases uS h k mz hv with h'|⟨j,o,h1,h2⟩
  ·exact .inl h'
  exact .inr ⟨j,o,by omega,h2⟩
structure RV (P:Program) (V:Env P) (N:Nat) (l:List Oper) (s0:AS) (A:Nat->Nat->Prop):Prop where
 tt:∀ (i j:Nat) oi oj,l[i]? = some oi->l[j]? = some oj->i<j->∀ d,oi.dst=some d->d∈oj.looksAt l.toArray\/oj.dst=some d->A j i
 tr:∀ (i j:Nat) oi oj,l[i]? = some oi->l[j]? = some oj->i<j->∀ d,oj.dst=some d->d∈oi.looksAt l.toArray->A j i
 hh:∀ (i j:Nat) oi oj,l[i]? = some oi->l[j]? = some oj->i<j->∀ n,n∈Em P V oi (stN P V N l s0 i)->n∈MB P V l.toArray oj (stN P V N l s0 j)\/n∈Em P V oj (stN P V N l s0 j)->A j i
 hr:∀ (i j:Nat) oi oj,l[i]? = some oi->l[j]? = some oj->i<j->∀ n,n∈Em P V oj (stN P V N l s0 j)->n∈MB P V l.toArray oi (stN P V N l s0 i)->A j i
 new0:∀ (i:Nat) oi,l[i]? = some oi->J9 P V oi (stN P V N l s0 i)=true->∀ d,oi.dst=some d->Ts (get s0.t) (get s0.h) d
 newT:∀ (i j:Nat) oi oj,l[i]? = some oi->l[j]? = some oj->i≠j->J9 P V oi (stN P V N l s0 i)=true->∀ d,oi.dst=some d->A j i\/((∀ x v,oj.dst=some x->get (stN P V N l s0 (j+1)).t x=some v->v.no d=true)/\∀ n b,n∈Em P V oj (stN P V N l s0 j)->get (stN P V N l s0 (j+1)).h n=some b->n≠d/\b.no d=true)
theorem Sr(hb:Qf P V N l s0=true):Oj l=true/\RV P V N l s0 (fun j i=>((D0 l []).getD j 0).testBit i=true):=by
 unfold Qf at hb;split at hb
 ·rename_i R hR;simp only[me]at hb;obtain⟨⟨hback,hp⟩,hn⟩:=hb;obtain⟨hlen,hget⟩:=YE (V:=V) (s0:=s0) l 0 R (fun j=>by rw[mw]) hR;simp only[mw]at hget;have pair:∀(i j:Nat) oi oj,l[i]? = some oi->l[j]? = some oj->((Nat.ble j i || !dN (Jz P V l.toArray oi (stN P V N l s0 i) (stN P V N l s0 (i+1))) (Jz P V l.toArray oj (stN P V N l s0 j) (stN P V N l s0 (j+1)))||((D0 l []).getD j 0).testBit i)=true /\
    (Nat.beq i j || !J9 P V oi (stN P V N l s0 i)||((D0 l []).getD j 0).testBit i||(match oi.dst with|some d=>(Jz P V l.toArray oj (stN P V N l s0 j) (stN P V N l s0 (j+1))).out d|none=>true))=true):=fun i j oi oj hi hj=>by
   have h1:=(List.all_eq_true.1 hp) (_,j) (List.mem_zipIdx_iff_getElem?.2 (by simpa using hget j oj hj));have h2:=(List.all_eq_true.1 h1) (_,i) (List.mem_zipIdx_iff_getElem?.2 (by simpa using hget i oi hi));simp only[me]at h2;exact h2
  have nle:∀ {i j:Nat},i<j->Nat.ble j i=false:=fun {i j} h=>by
   cases hq:Nat.ble j i with
   |false=>rfl
   |true=>have:=mr hq;omega
  have cf:∀(i j:Nat) oi oj,l[i]? = some oi->l[j]? = some oj->i<j->dN (Jz P V l.toArray oi (stN P V N l s0 i) (stN P V N l s0 (i+1))) (Jz P V l.toArray oj (stN P V N l s0 j) (stN P V N l s0 (j+1)))=true->((D0 l []).getD j 0).testBit i=true:=fun i j oi oj hi hj hlt hc=>by
   have:=(pair i j oi oj hi hj).1;rw[nle hlt,hc]at this;simpa using this
  refine⟨hback,⟨fun i j oi oj hi hj hlt d hd hor=>cf i j oi oj hi hj hlt ?_,fun i j oi oj hi hj hlt d hd hor=>cf i j oi oj hi hj hlt ?_,fun i j oi oj hi hj hlt n hn hor=>cf i j oi oj hi hj hlt ?_,fun i j oi oj hi hj hlt n hn hor=>cf i j oi oj hi hj hlt ?_,fun i oi hi hnew d hd=>?_,fun i j oi oj hi hj hne hnew d hd=>?_⟩⟩
  ·simp only[dN,Jz,hd];rcases hor with h|h
   ·simp[L3.2 h]
   simp[h,Nat.beq_refl]
  ·simp only[dN,Jz,hd];simp[L3.2 hor]
  ·have:((Em P V oi (stN P V N l s0 i)).any fun n=>UH (MB P V l.toArray oj (stN P V N l s0 j)) n||UH (Em P V oj (stN P V N l s0 j)) n)=true:=by
    rw[List.any_eq_true];refine⟨n,hn,?_⟩;rcases hor with h|h
    ·simp[L3.2 h]
    simp[L3.2 h]
   simp only[dN,Jz,this];simp
  ·have:((Em P V oj (stN P V N l s0 j)).any fun n=>UH (MB P V l.toArray oi (stN P V N l s0 i)) n)=true:=by
    rw[List.any_eq_true];exact⟨n,hn,L3.2 hor⟩
   simp only[dN,Jz,this];simp
  ·have h1:=(List.all_eq_true.1 hn) _ (mo (hget i oi hi));simp only[Jz,hnew,mc,mh,hd]at h1;exact MA h1
  have h1:=(pair i j oi oj hi hj).2;have hbn:Nat.beq i j=false:=by rw[Cb];simp[hne]
  simp only[hbn,hnew,hd,mc,mh,mg]at h1;rcases h1 with h1|h1
  ·exact .inl h1
  refine .inr ?_;simp only[Jz,me]at h1;refine⟨fun x v hx hv=>?_,fun n b hn hv=>?_⟩
  ·have:=h1.1;simp only[hx,hv]at this;exact this
  have:=(List.all_eq_true.1 h1.2) n hn;simp only[hv,me]at this;exact⟨QA this.2,this.1⟩
 cases hb
theorem Mo{α:Type}{p q:α->Bool}:∀ {l:List α},(∀x∈l,p x=true->q x=true)->∀ {y:α},y∈l->q y=true->p y=false->l.countP p<l.countP q
 |[],_,_,hy,_,_=>by cases hy
 |x::l,h,y,hy,hq,hp=>by
  have hle:l.countP p<=l.countP q:=List.countP_mono_left fun z hz=>h z (by simp[hz]);rw[List.countP_cons,List.countP_cons];rcases List.mem_cons.1 hy with rfl|hy
  ·simp[hq,hp];omega
  have:=Mo (fun z hz=>h z (by simp[hz])) hy hq hp;have hx:(if p x=true then 1 else 0)<=(if q x=true then 1 else 0):=by
   by_cases hpx:p x=true
   ·simp[hpx,h x m3 hpx]
   simp[hpx]
  omega
def eF(P:Program)(V:Env P)(N:Nat)(W0:World)(X:m6)(M0:m5)(l:List Oper)(s0:AS)(L:Array Bool)(a:Act)(w:World):Prop :=
 ∃M σ T H,Sim N W0 X M0 M σ T H a w/\(∀x,∃k,k<=l.length/\AgT l L x k/\T x=get (stN P V N l s0 k).t x)/\∀m,∃k,k<=l.length/\AgH P V N l s0 L m k/\H m=get (stN P V N l s0 k).h m
theorem U7(hV:MQ P V)(hrun:LB P V N l s0)(hback:Oj l=true)(hord:RV P V N l s0 (fun j i=>((D0 l []).getD j 0).testBit i=true)){L:Array Bool}(hsz:l.length<=L.size)(hcl:N8 l L){a:Act}{w:World}(hinv:eF P V N W0 X M0 l s0 L a w){i:Nat}{o:Oper}(ho:l[i]? = some o)(hun:L.getD i false=false)(hpre:∀e∈o.after,Region.binds .any e=true->L.getD e.on false=true)
 {K:Act->World->Prop}{Q:Exit->Act->World->Prop}(hK:∀a' w',eF P V N W0 X M0 l s0 (L.setIfInBounds i true) a' w'->K a' w'):if Region.wanted o (yielded l.toArray a.tmps)then o.wpIn (FW rd) 0 P a w K Q else(∀f,o.about P w a.eval=some f->(FW rd).fn f)/\K (a.put o.dst undef) w:=by
 obtain⟨M,σ,T,H,hs,hT,hH⟩:=hinv;have hil:i<l.length:=(List.getElem?_eq_some_iff.1 ho).1;obtain⟨ds,hst,hds⟩:=hrun i o ho;have anc:∀j,((D0 l []).getD i 0).testBit j=true->L.getD j false=true/\j<i:=fun j hj=>K8 hback hcl (i+1) i mz o ho hpre j hj
 -- an operation that is done,or that comes behind
 have notdone:∀j oj,l[j]? = some oj->((D0 l []).getD j 0).testBit i=true->L.getD j false=false:=fun j oj hj hbit=>by
  cases hd:L.getD j false with
  |false=>rfl
  |true =>
   have:=K8 hback hcl (j+1) j mz oj hj (hcl j oj hj hd) i hbit;rw[hun]at this;cases this.1
 have set_get:∀j,(L.setIfInBounds i true).getD j false=true↔(j=i\/L.getD j false=true):=fun j=>by
  by_cases hji:i=j
  ·subst hji;simp[show i<L.size by omega]
  rw[getD_set_ne false hji];simp[Ne.symm hji]
 -- the reads
 have agT:∀x,(∀j oj,l[j]? = some oj->oj.dst=some x->j<i->((D0 l []).getD i 0).testBit j=true)->(∀j oj,l[j]? = some oj->oj.dst=some x->i<j->((D0 l []).getD j 0).testBit i=true)->AgT l L x i:=fun x h1 h2 j oj hj hd=>by
  constructor
  ·intro hdone;rcases Nat.lt_trichotomy j i with h|h|h
   ·exact h
   ·subst h;rw[hun]at hdone;cases hdone
   have:=notdone j oj hj (h2 j oj hj hd h);rw[hdone]at this;cases this
  intro hlt;exact(anc j (h1 j oj hj hd hlt)).1
 have agH:∀m,(∀j oj,l[j]? = some oj->m∈Em P V oj (stN P V N l s0 j)->j<i->((D0 l []).getD i 0).testBit j=true)->(∀j oj,l[j]? = some oj->m∈Em P V oj (stN P V N l s0 j)->i<j->((D0 l []).getD j 0).testBit i=true)->AgH P V N l s0 L m i:=fun x h1 h2 j oj hj hd=>by
  constructor
  ·intro hdone;rcases Nat.lt_trichotomy j i with h|h|h
   ·exact h
   ·subst h;rw[hun]at hdone;cases hdone
   have:=notdone j oj hj (h2 j oj hj hd h);rw[hdone]at this;cases this
  intro hlt;exact(anc j (h1 j oj hj hd hlt)).1
 have readT:∀x∈o.looksAt l.toArray,T x=get (stN P V N l s0 i).t x:=fun x hx=>by
  obtain⟨k,hk,hag,he⟩:=hT x;rw[he];exact bK hrun hk mz hag (agT x (fun j oj hj hd hlt=>hord.tt j i oj o hj ho hlt x hd (.inl hx)) (fun j oj hj hd hlt=>hord.tr i j o oj ho hj hlt x hd hx))
 have readH:∀m∈MB P V l.toArray o (stN P V N l s0 i),H m=get (stN P V N l s0 i).h m:=fun m hm=>by
  obtain⟨k,hk,hag,he⟩:=hH m;rw[he];exact bL hrun hk mz hag (agH m (fun j oj hj hd hlt=>hord.hh j i oj o hj ho hlt m hd (.inl hm)) (fun j oj hj hd hlt=>hord.hr i j o oj ho hj hlt m hd hm))
 have hfresh:J9 P V o (stN P V N l s0 i)=true->∀d,o.dst=some d->Ts T H d:=fun hn d hd=>by
  have h0:=hord.new0 i o ho hn d hd;have notA:∀j,L.getD j false=true->∀oj,l[j]? = some oj->¬ ((D0 l []).getD j 0).testBit i=true:=fun j hj oj hoj hb=>by
   have:=notdone j oj hoj hb;rw[hj]at this;cases this
  refine⟨fun x v hv=>?_,fun m b hb=>?_⟩
  ·obtain⟨k,hk,hag,he⟩:=hT x;rw[he]at hv;rcases uR hrun k hk hv with h|⟨j,oj,hjk,hj,hjd,hjv⟩
   ·exact h0.1 x v h
   have hdone:=(hag j oj hj hjd).2 hjk;have hne:i≠j:=fun e=>by subst e;rw[hun]at hdone;cases hdone
   rcases hord.newT i j o oj ho hj hne hn d hd with h|h
   ·exact absurd h (notA j hdone oj hj)
   exact h.1 x v hjd hjv
  obtain⟨k,hk,hag,he⟩:=hH m;rw[he]at hb;rcases uS hrun k hk hb with h|⟨j,oj,hjk,hj,hjd,hjv⟩
  ·exact h0.2 m b h
  have hdone:=(hag j oj hj hjd).2 hjk;have hne:i≠j:=fun e=>by subst e;rw[hun]at hdone;cases hdone
  rcases hord.newT i j o oj ho hj hne hn d hd with h|h
  ·exact absurd h (notA j hdone oj hj)
  exact h.2 m b hjd hjv
 refine SY hV hst hds hs readT readH hfresh fun M' σ' a' w' hs'=>hK a' w' ⟨M',σ',_,_,hs',fun x=>?_,fun m=>?_⟩
 ·by_cases hx:o.dst=some x
  ·simp only[hx,if_true];refine⟨i+1,by omega,fun j oj hj hd=>?_,rfl⟩;rw[set_get];rcases Nat.lt_trichotomy j i with h|h|h
   ·have:=(anc j (hord.tt j i oj o hj ho h x hd (.inr hx))).1;exact⟨fun _=>by omega,fun _=>.inr this⟩
   ·exact⟨fun _=>by omega,fun _=>.inl h⟩
   have:=notdone j oj hj (hord.tt i j o oj ho hj h x hx (.inr hd));refine⟨fun hh=>?_,fun hh=>by omega⟩;rcases hh with hh|hh
   ·omega
   rw[this]at hh;cases hh
  simp only[hx,if_false];obtain⟨k,hk,hag,he⟩:=hT x;refine⟨k,hk,fun j oj hj hd=>?_,he⟩;rw[set_get];have hji:j≠i:=fun e=>by subst e;rw[ho]at hj;injection hj with hj;subst hj;exact hx hd
  simpa [hji]using hag j oj hj hd
 by_cases hm:m∈Em P V o (stN P V N l s0 i)
 ·simp only[hm,if_true];refine⟨i+1,by omega,fun j oj hj hd=>?_,rfl⟩;rw[set_get];rcases Nat.lt_trichotomy j i with h|h|h
  ·have:=(anc j (hord.hh j i oj o hj ho h m hd (.inr hm))).1;exact⟨fun _=>by omega,fun _=>.inr this⟩
  ·exact⟨fun _=>by omega,fun _=>.inl h⟩
  have:=notdone j oj hj (hord.hh i j o oj ho hj h m hm (.inr hd));refine⟨fun hh=>?_,fun hh=>by omega⟩;rcases hh with hh|hh
  ·omega
  rw[this]at hh;cases hh
 simp only[hm,if_false];obtain⟨k,hk,hag,he⟩:=hH m;refine⟨k,hk,fun j oj hj hd=>?_,he⟩;rw[set_get];have hji:j≠i:=fun e=>by subst e;rw[ho]at hj;injection hj with hj;subst hj;exact hm hd
 simpa [hji]using hag j oj hj hd
theorem vC(hV:MQ P V)(hrun:LB P V N l s0)(hback:Oj l=true)(hord:RV P V N l s0 (fun j i=>((D0 l []).getD j 0).testBit i=true)){Q:Exit->Act->World->Prop}(hQ:∀M' σ' a' w',Sim N W0 X M0 M' σ' (get (stN P V N l s0 l.length).t) (get (stN P V N l s0 l.length).h) a' w'->Q .normal a' w') :
  ∀(f:Nat) (L:Array Bool) (a:Act) (w:World),L.size=l.length->N8 l L->(List.range l.length).countP (fun j=>!L.getD j false)<=f->eF P V N W0 X M0 l s0 L a w->wpAnyIn (FW rd) 0 P .any l.toArray Q f L a w:=by
 have hdone:∀(L:Array Bool) (a:Act) (w:World),L.size=l.length->N8 l L->Region.ready .any l.toArray L=[]->eF P V N W0 X M0 l s0 L a w->Q .normal a w:=by
  intro L a w hsz hcl hr hinv;have all:∀n j,j<n->j<l.length->L.getD j false=true:=by
   intro n;induction n with
   |zero=>intro j h;omega
   |succ n ih =>
    intro j hj hjl;cases hd:L.getD j false with
    |true=>rfl
    |false =>
     have ho:=ea hjl;have:j∈Region.ready .any l.toArray L:=by
      rw[mem_ready];refine⟨?_,l[j],by simp,fun e he hb=>?_⟩
      ·have hj':j<L.size:=by omega
       simp[hj']at hd ⊢;exact hd
      have h1:=(List.all_eq_true.1 hback) (l[j],j) (List.mem_zipIdx_iff_getElem?.2 m3);have h2:=(List.all_eq_true.1 h1) e (by simpa using he);simp only[hb,mc,mh]at h2;have hlt:=mr h2;exact ih e.on mz mz
     rw[hr]at this;cases this
  obtain⟨M,σ,T,H,hs,hT,hH⟩:=hinv;have eT:T=get (stN P V N l s0 l.length).t:=by
   funext x;obtain⟨k,hk,hag,he⟩:=hT x;rw[he];refine bK hrun hk (lu _) hag fun j oj hj hd=>?_;have hjl:j<l.length:=(List.getElem?_eq_some_iff.1 hj).1;exact⟨fun _=>hjl,fun _=>all (j+1) j mz hjl⟩
  have eH:H=get (stN P V N l s0 l.length).h:=by
   funext x;obtain⟨k,hk,hag,he⟩:=hH x;rw[he];refine bL hrun hk (lu _) hag fun j oj hj hd=>?_;have hjl:j<l.length:=(List.getElem?_eq_some_iff.1 hj).1;exact⟨fun _=>hjl,fun _=>all (j+1) j mz hjl⟩
  rw[eT,eH]at hs;exact hQ M σ a w hs
 intro f;induction f with
 |zero =>
  intro L a w hsz hcl hcnt hinv;have hr:Region.ready .any l.toArray L=[]:=by
   rw[List.eq_nil_iff_forall_not_mem];intro j hj;rw[mem_ready]at hj;obtain⟨h1,o,ho,_⟩:=hj;have hjl:j<l.length:=by have:=(List.getElem?_eq_some_iff.1 (by simpa using ho:l[j]? = some o)).1;exact this
   have h0:(List.range l.length).countP (fun j=>!L.getD j false)=0:=by omega
   rw[List.countP_eq_zero]at h0;have:=h0 j (List.mem_range.2 hjl);have hj':j<L.size:=by omega
   simp[hj']at h1 this;rw[h1]at this;cases this
  exact⟨hr,hdone L a w hsz hcl hr hinv⟩
 |succ f ih =>
  intro L a w hsz hcl hcnt hinv;refine⟨fun hr=>hdone L a w hsz hcl hr hinv,fun i hi=>?_⟩;rw[mem_ready]at hi;obtain⟨h1,o,ho,hpre⟩:=hi;have ho':l[i]? = some o:=by simpa using ho
  have hil:i<l.length:=(List.getElem?_eq_some_iff.1 ho').1;have hun:L.getD i false=false:=by
   have hi':i<L.size:=by omega
   simp[hi']at h1 ⊢;exact h1
  unfold wpOpIn;rw[ho];have hfin:=U7 (rd:=rd) (a:=a) (w:=w) (Q:=Q) (K:=wpAnyIn (FW rd) 0 P .any l.toArray Q f (L.setIfInBounds i true)) hV hrun hback hord (Nat.le_of_eq hsz.symm) hcl hinv ho' hun hpre fun a' w' hinv'=>by
   refine ih _ a' w' (by simp[hsz]) ?_ ?_ hinv'
   ·intro j oj hj hd e he hb
    by_cases hji:j=i
    ·subst hji;rw[ho']at hj;injection hj with hj;subst hj
     exact getD_set_true (hpre e he hb)
    rw[getD_set_ne false (Ne.symm hji)]at hd;exact getD_set_true (hcl j oj hj hd e he hb)
   have hlt:(List.range l.length).countP (fun j=>!(L.setIfInBounds i true).getD j false)<(List.range l.length).countP (fun j=>!L.getD j false):=by
    refine Mo ?_ (List.mem_range.2 hil) ?_ ?_
    ·intro j _ hj
     by_cases hji:i=j
     ·subst hji;simp[show i<L.size by omega]at hj
     rwa [getD_set_ne false hji]at hj
    ·rw[hun];rfl
    simp[show i<L.size by omega]
   omega
  by_cases hw:Region.wanted o (yielded l.toArray a.tmps)=true
  ·simp only[hw,if_true]at hfin ⊢;exact hfin
  simp only[hw]at hfin ⊢;exact hfin
end
section
variable {P:Program}{V:Env P}{rd:Option Nat}{N:Nat}{W0:World}{X:m6}{M0 M:m5}{σ:Nat→Loc}{w:World}{a:Act}{Q:Exit→AS→Prop}{s:AS}
theorem XT(hm:P.follows .mixedOrders=true){E:TypeId->Option (List Kd)}(hE:LS P ⟨fun _=>none,E,fun _=>false,fun _=>none⟩){id:Nat}{l:List Oper}(ow:List Nat)(qs:List (Nat×(Bool×Nat)))(tbl:List (Nat×FuncId×List Av×Ef))(ts ns:List Nat)(cs:List Prop)(S:AS)(htbl:FR P tbl)(hr:Nm P ⟨EE tbl,E,A6 ow,get qs⟩ N l ts ns s=some (cs,S))(hd:Qf P ⟨EE tbl,E,A6 ow,get qs⟩ N l s=true)(hc:CI cs)(h:Q .normal S):AWp P rd N W0 X M0 (.region id l.toArray true) Q s:=by
 have hV:=htbl.env (O:=A6 ow) (q:=get qs) hE;intro M σ a w hs;unfold Nm at hr;split at hr
 ·rename_i cs1 s1 h1;simp only[l7,l8]at hr;obtain⟨rfl,rfl⟩:=hr;obtain⟨e1,hruns⟩:=Nk (s0:=s) l 0 s s1 cs1 (fun j=>by rw[mw]) rfl h1 hc;simp only[mw]at e1 hruns;obtain⟨hback,hord⟩:=Sr hd;have hrep:∀j,¬ ((Array.replicate l.toArray.size false).getD j false=true):=fun j hh=>by
   by_cases hj':j<l.length
   ·simp[hj']at hh
   simp[hj']at hh
  have hs0:Sim N W0 X M0 M σ (get s.t) (get s.h) a { w with drawn:=w.drawn+1 }:=⟨hs.os,hs.tape,hs.output,hs.size,hs.old,hs.sub,hs.new,hs.pin,hs.defers,hs.room,hs.tmps,hs.imm,fun n b hb=>(hs.blk n b hb).mono (fun _ _ h=>h) (fun _ _=>rfl) (fun _=>rfl),hs.loc,hs.inj⟩;have hinv:eF P ⟨EE tbl,E,A6 ow,get qs⟩ N W0 X M0 l s (Array.replicate l.toArray.size false) a { w with drawn:=w.drawn+1 } :=
   ⟨M,σ,get s.t,get s.h,hs0,fun x=>⟨0,lv _,fun j o hj hd=>⟨fun hh=>absurd hh (hrep j),fun hh=>absurd hh mz⟩,rfl⟩,fun m=>⟨0,lv _,fun j o hj hd=>⟨fun hh=>absurd hh (hrep j),fun hh=>absurd hh mz⟩,rfl⟩⟩
  have hfin:∀M' σ' a' w',Sim N W0 X M0 M' σ' (get (stN P ⟨EE tbl,E,A6 ow,get qs⟩ N l s l.length).t) (get (stN P ⟨EE tbl,E,A6 ow,get qs⟩ N l s l.length).h) a' w'->∃s' M'' σ'',Q .normal s'/\Sim N W0 X M0 M'' σ'' (get s'.t) (get s'.h) a' w':=fun M' σ' a' w' hs'=>by
   rw[<- e1]at hs';exact⟨_,M',σ',h,Gs hs' ts ns⟩
  refine wpIn_region_any hm ?_;exact vC hV hruns hback hord (Q:=fun e a' w'=>∃s' M' σ',Q e s'/\Sim N W0 X M0 M' σ' (get s'.t) (get s'.h) a' w') hfin _ _ _ _ m3 (fun j o hj hd=>absurd hd (hrep j)) (ln List.countP_le_length m3) hinv
 cases hr
end
end
section
open Go.RowKit
def Cl.sc:Cl->Bool
 |.val _=>true
 |.clo _ k _=>Nat.beq k 0
 |_=>false
def Av.sc:Av->Bool
 |.one c=>c.sc
 |.agg l=>l.all Cl.sc
def Tv.sc:Tv->Bool
 |.av x=>x.sc
 |.tup l=>l.all Av.sc
 |.grd _ _=>false
theorem RT_sc{M M':m5}{σ σ':Nat->Loc}{r:Tv}{U:Value}(hd:r.sc=true)(h:RT M σ r U):RT M' σ' r U:=by
 have cl:∀ {c:Cl} {U:Value},c.sc=true->R M σ c U->R M' σ' c U:=fun {c U} hd h=>by
  cases c with
  |val v=>exact h
  |clo f k caps =>
   have:=lx hd;subst this;obtain⟨cs,h1,h2,_⟩:=h;exact⟨cs,h1,h2,fun i hi=>absurd hi mz⟩
  |list=>cases hd
  |eptr=>cases hd
  |mp=>cases hd
  |ptr=>cases hd
  |own=>cases hd
  |rptr=>cases hd
  |osl=>cases hd
  |om=>cases hd
  |any=>exact h
 have av:∀ {x:Av} {U:Value},x.sc=true->RA M σ x U->RA M' σ' x U:=fun {x U} hd h=>by
  cases x with
  |one c=>exact cl hd h
  |agg l=>obtain⟨vs,h1,h2⟩:=h;exact⟨vs,h1,h2.mono fun c hc b hb=>cl ((List.all_eq_true.1 hd) c hc) hb⟩
 cases r with
 |av x=>exact av hd h
 |tup l=>obtain⟨vs,h1,h2⟩:=h;exact⟨vs,h1,h2.mono fun c hc b hb=>av ((List.all_eq_true.1 hd) c hc) hb⟩
 |grd g x=>cases hd
section
variable {P:Program}
theorem Pu(g:Nat->Cl){k i:Nat}(hi:i<k):BZ ((List.range k).map g) i=g i:=by
 simp[BZ,aE,hi]
def toC(cs:List (Nat×Blk)):Cl->Cl
 |.ptr n off=>match get cs n with
  |some (.cells l _)=>.eptr l.length 1 (fun _ j=>l.getD j default) 0 off
  |_=>.ptr n off
 |.clo f k caps=>.clo f k (BZ ((List.range k).map fun i=>toC cs (caps i)))
 |x=>x
def toE(cs:List (Nat×Blk)):Av->Av
 |.one c=>.one (toC cs c)
 |.agg l=>.agg (l.map (toC cs))
def MF:Blk->Bool
 |.cells l _=>l.all Cl.dv
 |_=>false
theorem Y7{h:Nat->Option Blk}:∀ {ns:List Nat} {bs:List Blk},G3 h ns=some bs->∀n b,get (ns.zip bs) n=some b->h n=some b
 |[],bs,hg,n,b,hz=>by simp[get]at hz
 |m::ns,bs,hg,n,b,hz=>by
  simp only[G3]at hg;split at hg
  ·rename_i b0 bs0 h1 h2;injection hg with hg
   subst hg;simp only[List.zip_cons_cons,get,Cb]at hz
   by_cases hmn:m=n
   ·subst hmn;simp at hz;subst hz;exact h1
   simp[hmn]at hz;exact Y7 h2 n b hz
  cases hg
theorem lL{f:FuncId}{xs:List Av}{ns:List Nat}{bs:List Blk}{r:Tv}(h1:∀args w,(callFunc f args).run P w=.ok (.enter f args) w)(hb:bs.all MF=true)(hr:r.sc=true)(h:G4 P f (xs.map (toE (ns.zip bs))) r):EI P f xs (rdI ns bs r):=by
 classical
 refine .inl ⟨h1,fun M σ w hh args cs' g hs hargs hres hc=>?_⟩;simp only[rdI,res]at hres;split at hres
 ·rename_i bs' hg;simp only[l7,l8]at hres;obtain⟨rfl,rfl⟩:=hres;have:=hc.head;subst this
  let M':m5:=fun b=>if ∃n bl,get (ns.zip bs') n=some bl/\(σ n).b=b then w.heap[b]? else M b
  have himm:∀b o,M' b=some o->w.heap[b]? = some o:=fun b o hm=>by
   simp only[M']at hm;split at hm
   ·exact hm
   exact hs.imm b o hm
  have hsub:∀b o,M b=some o->M' b=some o:=fun b o hm=>by
   simp only[M'];split
   ·exact hs.imm b o hm
   exact hm
  have hC:∀ {c:Cl} {V:Value},R M σ c V->R M' σ (toC (ns.zip bs') c) V:=by
   intro c;induction c with
   |ptr n off =>
    intro V hR;simp only[toC];split
    ·rename_i l T hgl;have hh:=Y7 hg n _ hgl;obtain⟨hnil,c,hblk,hl⟩:=hs.blk n _ hh;have hcap:l.all Cl.dv=true:=by
      have:(Blk.cells l T)∈bs':=by
       have:=DH hgl;exact(List.of_mem_zip this).2
      exact(List.all_eq_true.1 hb) _ this
     have hV0:V=.pointer (some ⟨(σ n).b,off,none⟩):=hR;subst hV0;have hM':M' (σ n).b=some (.cells c.toArray T):=by
      simp only[M'];rw[if_pos ⟨n,_,hgl,rfl⟩];exact hblk
     show RC M' _ _;have:=RC.eptr (M:=M') l.length 1 (fun _ j=>l.getD j default) 0 off (σ n).b 0 (fun j=>c.getD j undef) (fun j hj=>by
      have hjc:j<c.length:=by rw[<- hl.length];exact hj
      simp only[F2,hM',mw,List.getElem?_toArray];simp[List.getD,hjc]) (fun j hj=>by
      obtain⟨u,hu,hRu⟩:=hl.get j _ (ea hj);simp only[List.getD,ea hj,hu,Option.getD_some];exact FS hsub ((Mx ((List.all_eq_true.1 hcap) _ (List.getElem_mem _))).1 hRu))
     rw[mw]at this;exact this
    exact hR
   |clo f k caps ih =>
    intro V hR;obtain⟨cs,e1,e2,e3⟩:=hR;exact⟨cs,e1,e2,fun i hi=>by rw[Pu _ hi];exact ih i (e3 i hi)⟩
   |val v=>intro V hR;exact hR
   |own=>intro V hR;exact DO hsub (fun _ _=>rfl) hR
   |rptr=>intro V hR;exact DO hsub (fun _ _=>rfl) hR
   |osl=>intro V hR;exact DO hsub (fun _ _=>rfl) hR
   |om=>intro V hR;exact DO hsub (fun _ _=>rfl) hR
   |any=>intro V hR;exact hR
   |list=>intro V hR;exact DO hsub (fun _ _=>rfl) hR
   |eptr=>intro V hR;exact DO hsub (fun _ _=>rfl) hR
   |mp=>intro V hR;exact DO hsub (fun _ _=>rfl) hR
  have hx:L2 (RA M' σ) (xs.map (toE (ns.zip bs'))) args:=by
   refine L2.of (by rw[ke];exact hargs.length) fun i x V hx hV=>?_;rw[ld]at hx;obtain⟨x0,hx0,rfl⟩:=Option.map_eq_some_iff.1 hx;obtain⟨V',hV',hR⟩:=hargs.get i x0 hx0;rw[hV]at hV';injection hV' with hV';subst hV'
   cases x0 with
   |one c=>exact hC hR
   |agg l =>
    obtain⟨vs,e1,e2⟩:=hR;refine⟨vs,e1,?_⟩;clear hx0 e1 hx;induction e2 with
    |nil=>exact .nil
    |cons e3 _ ih=>exact .cons (hC e3) ih
  refine(h M' σ w args himm hx).mono ?_;rintro en w' ⟨U,hU,M'',hk,hRU⟩;exact⟨U,hU,fun dst _=>⟨M,σ,⟨hk.os,hk.tape,hk.output,hk.size,hk.old,fun _ _ h=>h,fun _ _ h h'=>by(rw[h]at h';cases h'),fun b o hm=>hk.imm b o (hk.sub b o (hsub b o hm))⟩,rfl,RT_sc hr (hRU σ)⟩⟩
 cases hres
theorem OU(k:Nat):A6 [k] k=true:=by unfold A6;rw[Nat.beq_refl];rfl
def Wr(P:Program)(f:FuncId)(K:Nat)(xs:List Av)(b0:Blk)(r:Tv)(b1:Blk):Prop:=∀(M:m5) (σ:Nat->Loc) (w:World) (args:List Value),(∀b o,M b=some o->w.heap[b]? = some o)->Bl M σ w (σ K) b0->(σ K).nil=false->M (σ K).b=none->L2 (RA M σ) xs args ->
 Calls P f args.toArray w fun en w'=>∃U,en=.returned U/\∃M',Gk w w' M M' (only (σ K))/\(∀σ',RT M' σ' r U)/\∀σ',Bl M' σ' w' (σ K) b1
theorem Hd{M:m5}{σ σ':Nat->Loc}{w:World}{x:Loc}{b:Blk}(hd:MF b=true)(h:Bl M σ w x b):Bl M σ' w x b:=by
 cases b with
 |row=>cases hd
 |omap=>cases hd
 |rowx=>cases hd
 |cells l ty =>
  obtain⟨h0,c,hc,hl⟩:=h;exact⟨h0,c,hc,hl.mono fun a ha b hb=>(Mx ((List.all_eq_true.1 hd) a ha)).2 ((Mx ((List.all_eq_true.1 hd) a ha)).1 hb)⟩
def CH(K n:Nat):Av->Av
 |.one (.ptr m off)=>bif Nat.beq m K then .one (.ptr n off)else .one (.ptr m off)
 |x=>x
def qP(K:Nat):Av->Bool
 |.one (.ptr m _)=>Nat.beq m K
 |x=>x.dv
theorem lK{f:FuncId}{K n:Nat}{xs:List Av}{b0 b1:Blk}{r:Tv}(h1:∀args w,(callFunc f args).run P w=.ok (.enter f args) w)(hx:xs.all (qP K)=true)(hd0:MF b0=true)(h:Wr P f K xs b0 r b1):EI P f (xs.map (CH K n)) (wrI n b0 r b1):=by
 refine .inl ⟨h1,fun M σ w hh args cs' g hs hargs hres hc=>?_⟩;simp only[wrI,res,G3]at hres;cases hn:hh n with
 |none=>rw[hn]at hres;cases hres
 |some b =>
  rw[hn]at hres;simp only[l7,l8]at hres;obtain⟨rfl,rfl⟩:=hres;have:=hc.head;subst this;have hblk:=hs.blk n _ hn;have hnil:(σ n).nil=false:=by
   cases b with
   |row=>cases hd0
   |omap=>cases hd0
   |rowx=>cases hd0
   |cells l ty=>exact hblk.1
  have hM:M (σ n).b=none:=by
   rcases hs.loc n _ hn with h|h
   ·rw[hnil]at h;cases h
   exact h
  let σ2:Nat->Loc:=upd σ K (σ n)
  have hK:σ2 K=σ n:=BH _ _ _;have hargs2:L2 (RA M σ2) xs args:=by
   refine L2.of (by have:=hargs.length;simpa using this) fun i x V hxi hV=>?_;obtain⟨V',hV',hR⟩:=hargs.get i (CH K n x) (by rw[ld,hxi];rfl);rw[hV]at hV';injection hV' with hV';subst hV'
   have hok:=(List.all_eq_true.1 hx) x (mo hxi);unfold qP at hok;split at hok
   ·rename_i m off;simp only[CH,hok,mi]at hR;have:=lx hok;subst this;have hR':V=.pointer (some ⟨(σ n).b,off,none⟩):=hR;show V=.pointer (some ⟨(σ2 m).b,off,none⟩);rw[hK];exact hR'
   rename_i hne;have:CH K n x=x:=by
    unfold CH;split
    ·rename_i m off;exact(hne m off rfl).elim
    rfl
   rw[this]at hR;have:=IL (σ':=σ2) (r:=.av x) hok hR;exact this
  refine(h M σ2 w args hs.imm (by rw[hK];exact Hd hd0 hblk) (by rw[hK];exact hnil) (by rw[hK];exact hM) hargs2).mono ?_;rintro en w' ⟨U,hU,M',hk,hR,hb⟩;rw[hK]at hk;refine⟨U,hU,fun dst _=>⟨M',σ,hk,rfl,hR σ,?_⟩⟩;have:=hb σ;rw[hK]at this;exact this
end
def O9(P:Program)(rd:Option Nat)(N:Nat)(W0:World)(X:m6)(M0:m5)(c:Code)(Q:Exit->AS->Prop):Nat->AS->Prop
 |0,_=>False
 |n+1,s=>AWp P rd N W0 X M0 c (ATh (O9 P rd N W0 X M0 c Q n) Q) s
theorem Bs{P:Program}{rd:Option Nat}{N:Nat}{W0:World}{X:m6}{M0:m5}{c:Code}{Q:Exit->AS->Prop}{n:Nat}{s:AS}(h:AWp P rd N W0 X M0 c (ATh (O9 P rd N W0 X M0 c Q n) Q) s):O9 P rd N W0 X M0 c Q (n+1) s:=h
theorem Dq{P:Program}{rd:Option Nat}{N:Nat}{W0:World}{X:m6}{M0:m5}{c:Code}{Q:Exit->AS->Prop}{s:AS}(n:Nat)(h:O9 P rd N W0 X M0 c Q n s):AWp P rd N W0 X M0 (.loop c) Q s:=by
 have key:∀n s,O9 P rd N W0 X M0 c Q n s->∀M σ a w,Sim N W0 X M0 M σ (get s.t) (get s.h) a w->Code.roundsIn (FW rd) 0 P c (fun e a' w'=>∃s' M' σ',Q e s'/\Sim N W0 X M0 M' σ' (get s'.t) (get s'.h) a' w') n a w:=by
  intro n;induction n with
  |zero=>intro s h;exact h.elim
  |succ n ih =>
   intro s h M σ a w hs;rw[roundsIn_succ];refine wpIn_mono (h M σ a w hs) ?_;rintro e a' w' ⟨s',M',σ',h1,h2⟩;cases e with
   |normal=>exact ih s' h1 M' σ' a' w' h2
   |_=>exact⟨s',M',σ',h1,h2⟩
 intro M σ a w hs;exact wpIn_loop_rounds n (key n s h M σ a w hs)
inductive ClE:Cl->Cl->Prop
 | refl (c:Cl):ClE c c
 | list (t t':Bool) (sz len:Nat) (f f':Nat->Nat->Cl) (h:∀ i j,i<len->j<sz->ClE (f i j) (f' i j)) (ht:t'=true->t=true):ClE (.list t sz len f) (.list t' sz len f')
 | nil (sz:Nat) (f:Nat->Nat->Cl):ClE (.val (.slice none 0 0)) (.list false sz 0 f)
 | own (n sz:Nat) {l l':Nat} (h:l=l'):ClE (.own n sz l) (.own n sz l')
 | clo (f:FuncId) (k:Nat) (c c':Nat->Cl) (h:∀ i,i<k->c i=c' i):ClE (.clo f k c) (.clo f k c')
 | any (c:Cl):ClE c .any
theorem eC{M:m5}{c c':Cl}(he:ClE c c'):∀V,RC M c V->RC M c' V:=by
 induction he with
 |refl=>exact fun _ h=>h
 |nil sz f=>intro V h;cases h with|val _ _=>exact RC.nil _ _ _ rfl
 |own n sz hl=>intro V h;cases h
 |any c=>intro V h;exact .any V (MK (σ:=fun _=>⟨0,0,false⟩) (QC h))
 |clo f k c c' hc =>
  intro V h;cases h with
  |clo _ _ _ cs h1 h2=>exact .clo _ _ _ cs h1 fun i hi=>by rw[<- hc i hi];exact h2 i hi
 |list t t' sz len f f' hf ht ih =>
  intro V h;cases h with
  |nil _ _ _ h0 =>
   refine .nil _ _ _ ?_;cases t' with
   |false=>rfl
   |true=>rw[ht rfl]at h0;cases h0
  |mt _ _ _ p0 cap h5=>exact .mt _ _ _ p0 cap (fun h=>h5 (ht h))
  |list _ _ _ _ b off cap g h1 h2 h4 h5=>exact .list _ _ _ _ b off cap g h1 (fun i j hi hj=>ih i j hi hj _ (h2 i j hi hj)) h4 (fun h=>h5 (ht h))
theorem iV{M:m5}{σ:Nat->Loc}{c c':Cl}{V:Value}(he:ClE c c')(h:R M σ c V):R M σ c' V:=by
 cases he with
 |refl=>exact h
 |nil sz f=>obtain⟨rfl,_⟩:=h;exact RC.nil _ _ _ rfl
 |own n sz hl=>subst hl;exact h
 |any c=>exact MK h
 |clo f k c c' hc =>
  obtain⟨cs,h1,h2,h3⟩:=h;exact⟨cs,h1,h2,fun i hi=>by rw[<- hc i hi];exact h3 i hi⟩
 |list t t' sz len f f' hf ht=>exact eC (.list t t' sz len f f' hf ht) V h
section
variable {P:Program}{rd:Option Nat}{N:Nat}{W0:World}{X:m6}{M0 M:m5}{Q:Exit→AS→Prop}{s:AS}
end
end
section
open Go.ChangeShapes Go.WideShapes Go.ChangeAt Go.RowKit
def MW(w:World):m5:=fun b=>w.heap[b]?
def Cn(P:Program)(t:TypeId){T:Type}(c:T->List Cl)(ok:T->Prop):Prop :=
 ∀ {H:Type} (enc:TypeId×Value->H) (w:World) (base:Nat) (spare:Nat->Bool) (held:Bool) (fuel:Nat) (cs:List Value) (x:DataW H×List MemPlace),
  DataW.trod enc P w base spare held fuel t cs=some x->∃a:T,ok a/\L2 (RC (MW w)) (c a) cs
def WF(k:IntKind)(n:Int):Prop:=(Lit.int k n).wf=true
section
variable {P:Program}{t:TypeId}
theorem Be{k:IntKind}(ht:P.underlying t=some (.int k)):Cn P t (fun n:Int=>[.val (.int k n)]) (WF k):=by
 intro H enc w base spare held fuel cs x h;obtain⟨n,rfl,_,hw⟩:=DataW.trod_int ht h;exact⟨n,hw,.cons (.val _ rfl) .nil⟩
theorem cG(ht:P.underlying t=some .bool):Cn P t (fun b:Bool=>[.val (.bool b)]) (fun _=>True):=by
 intro H enc w base spare held fuel cs x h;obtain⟨b,rfl,_⟩:=DataW.trod_bool ht h;exact⟨b,trivial,.cons (.val _ rfl) .nil⟩
theorem C3(ht:P.underlying t=some .string):Cn P t (fun b:my=>[.val (.string b)]) (fun s=>s.size<=maxLen):=by
 intro H enc w base spare held fuel cs x h;obtain⟨b,rfl,_,hl⟩:=DataW.trod_string ht h;exact⟨b,hl,.cons (.val _ rfl) .nil⟩
theorem Cy{T S:Type}{c:T->List Cl}{ok:T->Prop}{c':S->List Cl}{ok':S->Prop}(h:Cn P t c ok)(g:∀a,ok a->∃s,ok' s/\c' s=c a):Cn P t c' ok':=by
 intro H enc w base spare held fuel cs x hx;obtain⟨a,h1,h2⟩:=h enc w base spare held fuel cs x hx;obtain⟨s,h3,h4⟩:=g a h1;exact⟨s,h3,by rw[h4];exact h2⟩
def Xw(P:Program):List Field->Nat
 |[]=>0
 |f::r=>P.cellsOf f.type+Xw P r
def Xc(P:Program)(off:Nat)(fs:List Field){T:Type}(c:T->List Cl)(ok:T->Prop):Prop :=
 ∀ {H:Type} (enc:TypeId×Value->H) (w:World) (base:Nat) (spare:Nat->Bool) (held:Bool) (fuel:Nat) (cs:List Value),
  (∀f∈fs,∃y,DataW.trod enc P w base spare held fuel f.type ((cs.drop f.offset).take (P.cellsOf f.type))=some y)->off+Xw P fs=cs.length->∃a:T,ok a/\L2 (RC (MW w)) (c a) (cs.drop off)
theorem Cj{off:Nat}:Xc P off [] (fun _:Unit=>[]) (fun _=>True):=by
 intro H enc w base spare held fuel cs _ hl;simp only[Xw,Nat.add_zero]at hl;refine⟨(),trivial,?_⟩;rw[List.drop_eq_nil_of_le mz];exact .nil
theorem Aa{off:Nat}{f:Field}{fs:List Field}{T S:Type}{c:T->List Cl}{ok:T->Prop}{c':S->List Cl}{ok':S->Prop}(n:Nat)(hn:P.cellsOf f.type=n)(ho:f.offset=off)(h:Cn P f.type c ok)(h':Xc P (off+n) fs c' ok') :
  Xc P off (f::fs) (fun p:T×S=>c p.1++c' p.2) (fun p=>ok p.1/\ok' p.2):=by
 subst hn;intro H enc w base spare held fuel cs hf hl;obtain⟨y,hy⟩:=hf f (li ..);obtain⟨a,h1,h2⟩:=h enc w base spare held fuel _ _ hy;simp only[Xw]at hl;obtain⟨b,h3,h4⟩:=h' enc w base spare held fuel cs (fun f' hm=>hf f' (lh _ hm)) mz;refine⟨(a,b),⟨h1,h3⟩,?_⟩;rw[ho]at h2;have:=h2.append h4
 rwa [<- List.drop_drop,List.take_append_drop]at this
theorem B6{fs:Array Field}{T:Type}{c:T->List Cl}{ok:T->Prop}(ht:P.underlying t=some (.struct fs))(htot:Xw P fs.toList=P.cellsOf t)(h:Xc P 0 fs.toList c ok):Cn P t c ok:=by
 intro H enc w base spare held fuel cs x hx;obtain⟨xs,n,_,_,hcs,hxs,hi⟩:=DataW.trod_struct ht hx;obtain⟨a,h1,h2⟩:=h enc w base spare held n cs (fun f hm=>by
  obtain⟨i,hi',hfi⟩:=List.getElem_of_mem hm;have h1:=hi i f (by rw[<- hfi];simp);have h2:xs[i]? = some (xs[i]'(by rw[hxs];simpa using hi')):=ea _;exact⟨_,h1.trans h2⟩) mz
 exact⟨a,h1,by simpa using h2⟩
theorem YK{n:Nat}{e:TypeId}{T:Type}{c:T->List Cl}{ok:T->Prop}(ht:P.underlying t=some (.array n e))(htot:n*P.cellsOf e=P.cellsOf t)(h:Cn P e c ok):Cn P t (fun xs:List T=>xs.flatMap c) (fun xs=>xs.length=n/\∀x∈xs,ok x):=by
 intro H enc w base spare held fuel cs x hx;obtain⟨xs,m,_,_,hcs,hxs,hi⟩:=DataW.trod_array ht hx;have key:∀(k:Nat) (ds:List Value),ds.length=k*P.cellsOf e->(∀i,i<k->∃y,DataW.trod enc P w base spare held m e ((ds.drop (i*P.cellsOf e)).take (P.cellsOf e))=some y)->∃zs:List T,(zs.length=k/\∀x∈zs,ok x)/\L2 (RC (MW w)) (zs.flatMap c) ds:=by
  intro k;induction k with
  |zero =>
   intro ds hl _;have:ds=[]:=List.eq_nil_of_length_eq_zero mz;subst this;exact⟨[],⟨rfl,fun x hx=>by cases hx⟩,.nil⟩
  |succ k ih =>
   intro ds hl hd;obtain⟨y,hy⟩:=hd 0 mz;simp only[Nat.zero_mul,km]at hy;obtain⟨a,h1,h2⟩:=h enc w base spare held m _ _ hy;obtain⟨zs,⟨h3,h4⟩,h5⟩:=ih (ds.drop (P.cellsOf e)) (by rw[List.length_drop,hl,Nat.succ_mul];omega) (fun i hi=>by
    have:=hd (i+1) mz
    rwa [Nat.succ_mul,Nat.add_comm,<- List.drop_drop]at this)
   refine⟨a::zs,⟨by simp[h3],fun x hx=>?_⟩,?_⟩
   ·rcases List.mem_cons.1 hx with rfl|hx
    ·exact h1
    exact h4 x hx
   have:=h2.append h5
   rwa [List.take_append_drop]at this
 exact key n cs mz (fun i hi'=>by
  have h1:=hi i hi';have h2:xs[i]? = some (xs[i]'mz):=ea _;exact⟨_,h1.trans h2⟩)
theorem P4{w:World}{base:Nat}{a:Addr}{n:Nat}{ci:List Value}(h:w.cells? base a n=some ci):ci.length=n/\∀j,j<n->w.cell? (a.add j)=ci[j]? := by
 unfold World.cells? at h;split at h
 ·exact⟨by simpa using mapM_some_length h,fun j hj=>mapM_some_get h j j (by simp[hj])⟩
 cases h
theorem VF{w:World}{a:Addr}{v:Value}(h:w.cell? a=some v):a.spot=none/\F2 (MW w) a.block a.off=some v:=by
 unfold World.cell? at h;unfold F2 MW;split at h
 ·rename_i c t f hh;rw[hh];split at h
  ·cases h
  rename_i hs;exact⟨by simpa using hs,h⟩
 cases h
def SQ(S:Bool)(P:Program)(t:TypeId){H:Type}(d:DataW H):Prop:=S=true->∀n∈d.weights P t,n<=reachBytes
theorem sq_no{P:Program}{t:TypeId}{H:Type}{d:DataW H}:SQ false P t d:=fun h=>by cases h
theorem QP{P:Program}{e:TypeId}{H:Type}{d:DataW H}:∀ {l:List (DataW H)},d∈l->∀n∈d.weights P e,n∈DataW.weightsAll P e l
 |[],h,_,_=>by cases h
 |x::l,h,n,hn=>by
  simp only[DataW.weightsAll,kh];rcases List.mem_cons.1 h with rfl|h
  ·exact .inl hn
  exact .inr (QP h n hn)
theorem xK{S:Bool}{P:Program}{t e:TypeId}{H:Type}{elems spare:List (DataW H)}{d:DataW H}(ht:P.underlying t=some (.slice e))(h:SQ S P t (.slice elems spare))(hd:d∈elems):SQ S P e d:=fun hs n hn =>
 h hs n (by simp only[DataW.weights,ht,kg,kh];exact .inr (.inl (QP hd n hn)))
def wY(S:Bool)(fuel:Nat)(P:Program)(t:TypeId){T:Type}(c:T->List Cl)(ok:T->Prop):Prop :=
 ∀ {H:Type} (enc:TypeId×Value->H) (w:World) (base:Nat) (spare:Nat->Bool) (held:Bool) (cs:List Value) (x:DataW H×List MemPlace),
  DataW.trod enc P w base spare held fuel t cs=some x->SQ S P t x.1->∃a:T,ok a/\L2 (RC (MW w)) (c a) cs
theorem Ss{S:Bool}{e:TypeId}{T:Type}[Inhabited T]{c:T->List Cl}{ok:T->Prop}(sz:Nat)(ht:P.underlying t=some (.slice e))(hsz:P.cellsOf e=sz)(hpos:0<sz)(fuel:Nat)(h:∀n,fuel=n+1->wY S n P e c ok):wY S fuel P t (fun xs:List T=>[lst sz c xs]) (fun xs=>xs.length<=maxLen/\∀x∈xs,ok x):=by
 subst hsz;intro H enc w base spare held cs x hx hq;rcases DataW.trod_slice ht hx with ⟨rfl,_⟩|⟨a,len,cap,elems,rest,n,hfu,rfl,hx2,_,hlc,hcm,hel,hi,_,_⟩
 ·exact⟨[],⟨lv _,fun x hx=>by cases hx⟩,.cons (show RC _ (.list false _ 0 _) _ from .nil _ _ _ rfl) .nil⟩
 have hex:∀i,∃a':T,i<len->ok a'/\∃ci,w.cells? base (a.add (i*P.cellsOf e)) (P.cellsOf e)=some ci/\L2 (RC (MW w)) (c a') ci:=fun i=>by
  by_cases hil:i<len
  ·have h1:=hi i hil;have h2:elems[i]? = some (elems[i]'mz):=ea _;rw[h2]at h1;cases hci:w.cells? base (a.add (i*P.cellsOf e)) (P.cellsOf e)with
   |none=>rw[hci]at h1;cases h1
   |some ci =>
    rw[hci]at h1;obtain⟨a',h3,h4⟩:=h n hfu enc w base spare held ci _ h1 (xK ht (by rw[hx2]at hq;exact hq) (List.mem_map.2 ⟨_,List.getElem_mem _,rfl⟩));exact⟨a',fun _=>⟨h3,ci,rfl,h4⟩⟩
  exact⟨default,fun k=>absurd k hil⟩
 let A:Nat->T:=fun i=>Classical.choose (hex i)
 have hA:∀i,i<len->ok (A i)/\∃ci,w.cells? base (a.add (i*P.cellsOf e)) (P.cellsOf e)=some ci/\L2 (RC (MW w)) (c (A i)) ci:=fun i=>Classical.choose_spec (hex i);refine⟨(List.range len).map A,⟨by simp;omega,fun x hx=>?_⟩,.cons ?_ .nil⟩
 ·obtain⟨i,hi,rfl⟩:=List.mem_map.1 hx;exact(hA i (List.mem_range.1 hi)).1
 unfold lst;rw[ke,List.length_range]
 by_cases hl0:len=0
 ·subst hl0;exact .mt _ _ _ _ _ (fun h=>by cases h)
 have hsp:a.spot=none:=by
  obtain⟨_,ci,h1,_⟩:=hA 0 mz;obtain⟨h2,h3⟩:=P4 h1;have h4:=h3 0 hpos;have h5:ci[0]? = some (ci[0]'mz):=ea _;rw[h5]at h4;have:=(VF h4).1;simpa [Addr.add]using this
 obtain⟨b,off,sp⟩:=a;simp only at hsp;subst hsp;refine .list false _ _ _ b off cap (fun i j=>((w.cells? base (Addr.add ⟨b,off,none⟩ (i*P.cellsOf e)) (P.cellsOf e)).getD []).getD j undef) (fun i j hil hj=>?_) (fun i j hil hj=>?_) hlc (fun h=>by cases h)
 ·obtain⟨_,ci,h1,_⟩:=hA i hil;obtain⟨h2,h3⟩:=P4 h1;have h4:=h3 j hj;have h5:ci[j]? = some (ci[j]'mz):=ea _;rw[h5]at h4;have h6:=(VF h4).2;rw[Addr.add_lit,Addr.add_lit]at h6;rw[h1];simp only[Option.getD_some,aE,h5];simpa [mv]using h6
 obtain⟨_,ci,h1,h7⟩:=hA i hil;obtain⟨h2,_⟩:=P4 h1;have h5:ci[j]? = some (ci[j]'mz):=ea _;obtain⟨k,h8,h9⟩:=h7.get' j _ h5;have e1:((List.range len).map A).getD i default=A i:=by
  rw[aE];simp[hil]
 rw[e1,h1];simp only[Option.getD_some,aE,h5,h8];exact h9
theorem CV{e:TypeId}{T:Type}[Inhabited T]{c:T->List Cl}{ok:T->Prop}(sz:Nat)(ht:P.underlying t=some (.slice e))(hsz:P.cellsOf e=sz)(hpos:0<sz)(h:Cn P e c ok):Cn P t (fun xs:List T=>[lst sz c xs]) (fun xs=>xs.length<=maxLen/\∀x∈xs,ok x) :=
 fun enc w base spare held fuel cs x hx=>Ss (S:=false) sz ht hsz hpos fuel (fun n _=>fun enc w base spare held cs x hx _=>h enc w base spare held n cs x hx) enc w base spare held cs x hx sq_no
theorem jY{e:TypeId}{α:Type}[Inhabited α](ht:P.underlying t=some (.slice e)):Cn P t (fun _:α=>[.any]) (fun _=>True):=by
 intro H enc w base spare held fuel cs x hx;rcases DataW.trod_slice ht hx with ⟨rfl,_⟩|⟨a,len,cap,elems,rest,n,hfu,rfl,_⟩
 ·exact⟨default,trivial,.cons (.any _ rfl) .nil⟩
 exact⟨default,trivial,.cons (.any _ rfl) .nil⟩
end
theorem L2_RC{M:m5}{σ:Nat->Loc}{l:List Cl}{cs:List Value}(h:L2 (RC M) l cs):L2 (R M σ) l cs:=h.mono fun _ _ _ hc=>QC hc
section
variable {H:Type}{enc:TypeId×Value→H}{P:Program}{W:World}{base b0:Nat}{spare:Nat→Bool}{held:Bool}{r:Reach}{t:TypeId}{v:Value}{d:DataW H}{ps:List MemPlace}
theorem YL{T:Type}{c:T->List Cl}{ok:T->Prop}(ho:Cn P t c ok)(hs:(∃fs,P.underlying t=some (.struct fs))\/∃n e,P.underlying t=some (.array n e))(hv:Value.okWide P W r b0 t v)(h:DataW.Trod enc P W base spare held t v d ps):∃a:T,ok a/\∀σ,RA (MW W) σ (.agg (c a)) v:=by
 have:∃cs,v=.agg cs:=by
  rcases hs with ⟨fs,hs⟩|⟨n,e,hs⟩<;>simp only[Value.okWide,hs]at hv<;>obtain⟨cs,h1,_⟩:=hv<;>exact⟨cs,h1⟩
 obtain⟨⟨cs⟩,rfl⟩:=this;obtain⟨fuel,hx⟩:=h;obtain⟨a,h1,h2⟩:=ho enc W base spare held fuel cs _ hx;exact⟨a,h1,fun σ=>⟨cs,rfl,L2_RC h2⟩⟩
theorem OI(hl:laidOutB P=true){W W':World}(hb:Below W.heap.size W W'):∀(ts:List TypeId) (vs:List Value) (ds:List (DataW H)) (ps:List MemPlace),(∀t∈ts,P.readableRec t=true/\t<P.types.size) ->
  DataW.TrodAll enc P W 0 (fun _=>true) true ts vs ds ps->(∀x∈ps,x.block<W.heap.size)->∀sp:Nat->Bool,(∀x∈ps,sp x.block=true)->DataW.TrodAll enc P W' 0 sp true ts vs ds ps
 |[],[],[],ps,_,h,_,_,_=>h
 |[],[],_::_,_,_,h,_,_,_=>h.elim
 |[],_::_,_,_,_,h,_,_,_=>by cases h
 |_::_,[],_,_,_,h,_,_,_=>by cases h
 |_::_,_::_,[],_,_,h,_,_,_=>h.elim
 |t::ts,v::vs,d::ds,ps,hr,h,hlt,sp,hsp=>by
  obtain⟨p,q,h1,h2,rfl⟩:=h;have hr1:=hr t (li ..);exact⟨p,q,WideElems.Trod_stays hl hr1.1 hr1.2 h1 (fun x hx=>hb.same (hlt x (List.mem_append_left _ hx))) (fun x hx=>hsp x (List.mem_append_left _ hx)),
   OI hl hb ts vs ds q (fun t' ht=>hr t' (lh _ ht)) h2 (fun x hx=>hlt x (List.mem_append_right _ hx)) sp (fun x hx=>hsp x (List.mem_append_right _ hx)),rfl⟩
theorem tU{f:Func}{s:ChangeSpec}{W W':World}{args:Array Value}{ds gs:List (DataW H)}{before:List MemPlace}{tb:TypeId}
 (hW:DataW.Whole enc P f.params.toList s.vars false W args.toList ds gs before)(hvars:s.vars=[])(hspec:s.fn H (ds++[])={ results:=[.lit (.bool true)],args:=ds })
 (hl:laidOutB P=true)(hr:∀t∈f.params.toList,P.readableRec t=true/\t<P.types.size)(hres:f.resultTypes = #[tb])(htb:P.underlying tb=some .bool)(hb:Below W.heap.size W W') :
  s.post enc P f false true false false W args (.bool true) W':=by
 have hlt:∀p∈before,p.block<W.heap.size:=fun p hp=>hW.lt p hp;have hW':=hW;obtain⟨p,q,hA,hV,rfl,hz,hn⟩:=hW;rw[hvars]at hV;obtain⟨rfl,rfl⟩:=trodVars_none hV;refine⟨ds,[],p++[],[],p,[],hW',?_,?_,?_,World.keptBut_mono (fun x hx=>⟨hx,?_⟩) (hb.frame (·∈p++[])),fun h=>by cases h⟩
 ·rw[hspec,hres];exact trodAll_cons_mk (shut_bool htb true) trodAll_mk0
 ·rw[hspec];exact OI hl hb _ _ _ _ hr hA (fun x hx=>hlt x (List.mem_append_left _ hx)) _ (fun x hx=>by simpa using hlt x (List.mem_append_left _ hx))
 ·rw[hspec,hvars];exact rfl
 rw[kh]at hx;exact Or.inr (by simpa using hx)
theorem Yw{f:FuncId}{xs:List Av}{args:List Value}{ans:Bool}(h:G4 P f xs (.av (.one (.b ans))))(ha:ans=true)(hx:L2 (fun x v=>∀σ,RA (MW W) σ x v) xs args):Calls P f args.toArray W fun e W'=>e=.returned (.bool true)/\Below W.heap.size W W':=by
 subst ha;refine(h (MW W) (fun _=>⟨0,0,false⟩) W args (fun _ _ h=>h) (hx.mono fun _ _ _ h=>h _)).mono ?_;rintro en w' ⟨U,rfl,M',hk,hR⟩;have:U=.bool true:=(hR (fun _=>⟨0,0,false⟩)).1;subst this;exact⟨rfl,hk.os,hk.tape,hk.output,hk.size,fun b hb=>hk.old b hb (fun h=>h)⟩
theorem Yl{n:Nat}(h:n<=maxLen):(n:Int)<=9223372036854775807:=by
 have:maxLen<=9223372036854775807:=by decide
 omega
end
end
section
open Go.RowKit
def Av.map(g:Cl->Cl):Av->Av
 |.one c=>.one (g c)
 |.agg l=>.agg (l.map g)
def Tv.map(g:Cl->Cl):Tv->Tv
 |.av x=>.av (x.map g)
 |.tup l=>.tup (l.map (Av.map g))
 |.grd p x=>.grd p (x.map g)
def Blk.map(g:Cl->Cl):Blk->Blk
 |.cells l ty=>.cells (l.map g) ty
 |.rowx sz len f ty hs=>.rowx sz len f ty (hs.map fun p=>(p.1,p.2.map g))
 |b=>b
def Q2{α:Type}(F:α->α):List (Nat×α)->List (Nat×α)
 |[]=>[]
 |(k,v)::r=>(k,F v)::Q2 F r
theorem ZA{α β:Type}(F:α->β)(l:List (Nat×α))(n:Nat):get (l.map fun p=>(p.1,F p.2)) n=(get l n).map F:=by
 induction l with
 |nil=>rfl
 |cons p r ih =>
  obtain⟨k,v⟩:=p;simp only[List.map_cons,get,Cb]
  by_cases h:k=n
  ·simp[h]
  simp only[h,mm,mj,ih]
theorem Gu{α:Type}(F:α->α)(l:List (Nat×α))(n:Nat):get (Q2 F l) n=(get l n).map F:=by
 induction l with
 |nil=>rfl
 |cons p r ih =>
  obtain⟨k,v⟩:=p;simp only[Q2,get,Cb]
  by_cases h:k=n
  ·simp[h]
  simp only[h,mm,mj,ih]
def Tl(p:Cl->Prop):Av->Prop
 |.one c=>p c
 |.agg l=>∀c∈l,p c
def wT(p:Cl->Prop):Tv->Prop
 |.av x=>Tl p x
 |.tup l=>∀x∈l,Tl p x
 |.grd _ x=>Tl p x
def b6(p:Cl->Prop):Blk->Prop
 |.cells l _=>∀c∈l,p c
 |.rowx _ _ _ _ hs=>∀i l,get hs i=some l->∀c∈l,p c
 |_=>True
section
variable {M M':m5}{σ σ':Nat→Loc}{g:Cl→Cl}{p:Cl→Prop}
theorem eD(h:∀c V,p c->R M σ c V->R M' σ' (g c) V):∀ {x:Av} {V:Value},Tl p x->RA M σ x V->RA M' σ' (x.map g) V
 |.one c,V,hp,hx=>h c V hp hx
 |.agg l,V,hp,⟨vs,h1,h2⟩=>by
  refine⟨vs,h1,?_⟩
  replace hp:∀c∈l,p c:=hp
  clear h1;induction h2 with
  |nil=>exact .nil
  |cons h3 _ ih=>exact .cons (h _ _ (hp _ m3) h3) (ih fun c hc=>hp c (by simp[hc]))
theorem eA(h:∀c V,p c->R M σ c V->R M' σ' (g c) V):∀ {x:Tv} {V:Value},wT p x->RT M σ x V->RT M' σ' (x.map g) V
 |.av x,V,hp,hx=>eD h hp hx
 |.tup l,V,hp,⟨vs,h1,h2⟩=>by
  refine⟨vs,h1,?_⟩
  replace hp:∀c∈l,Tl p c:=hp
  clear h1;induction h2 with
  |nil=>exact .nil
  |cons h3 _ ih=>exact .cons (eD h (hp _ m3) h3) (ih fun c hc=>hp c (by simp[hc]))
 |.grd q x,V,hp,hx=>⟨fun hq=>eD h hp (hx.1 hq),hx.2⟩
theorem Xd(h:∀c V,p c->R M σ c V->R M' σ' (g c) V){l:List Cl}{vs:List Value}(hp:∀c∈l,p c)(h2:L2 (R M σ) l vs):L2 (R M' σ') (l.map g) vs:=by
 induction h2 with
 |nil=>exact .nil
 |cons h3 _ ih=>exact .cons (h _ _ (hp _ m3) h3) (ih fun c hc=>hp c (by simp[hc]))
end
theorem Sg{M M':m5}{σ σ':Nat->Loc}{g:Cl->Cl}{p:Cl->Prop}{w:World}{x:Loc}{sz len:Nat}{f:Nat->Nat->Cl}{ty:TypeId}{hs:List (Nat×List Cl)}(hM:∀b o,M b=some o->M' b=some o)(h:∀c V,p c->R M σ c V->R M' σ' (g c) V)(hp:b6 p (.rowx sz len f ty hs))(h0:Bl M σ w x (.rowx sz len f ty hs)) :
  Bl M' σ' w x (Blk.map g (.rowx sz len f ty hs)):=by
 obtain⟨e0,c,e1,e2,e3,e4,gv,e5,e6⟩:=h0;refine⟨e0,c,e1,e2,e3,e4,gv,fun i j hi hj=>⟨(e5 i j hi hj).1,fun hn=>FS hM ((e5 i j hi hj).2 ?_)⟩,fun i l hl=>?_⟩
 ·rw[ZA]at hn;cases hg:get hs i with
  |none=>rfl
  |some l=>rw[hg]at hn;cases hn
 rw[ZA]at hl;cases hg:get hs i with
 |none=>rw[hg]at hl;cases hl
 |some l0 =>
  rw[hg]at hl;simp only[Option.map_some,l7]at hl;subst hl;exact⟨(e6 i l0 hg).1,Xd h (hp i l0 hg) (e6 i l0 hg).2⟩
def fzC(n sz len:Nat)(f:Nat->Nat->Cl):Cl->Cl
 |.own m s l=>bif Nat.beq m n then .list false sz len f else .own m s l
 |c=>c
def fzP(n sz len:Nat):Cl->Prop
 |.own m s l=>bif Nat.beq m n then l=len/\s=sz else True
 |_=>True
def fzS(n sz len:Nat)(f:Nat->Nat->Cl)(s:AS):AS:=⟨Q2 (Tv.map (fzC n sz len f)) s.t,del (Q2 (Blk.map (fzC n sz len f)) s.h) n⟩
def Zm(p:Cl->Prop):List (Nat×Tv)->Prop
 |[]=>True
 |(_,v)::r=>wT p v/\Zm p r
def Xh(p:Cl->Prop):List (Nat×Blk)->Prop
 |[]=>True
 |(_,v)::r=>b6 p v/\Xh p r
theorem Zm.get{p:Cl->Prop}:∀ {l:List (Nat×Tv)},Zm p l->∀i v,get l i=some v->wT p v
 |[],_,i,v,h=>by cases h
 |(k,u)::r,h,i,v,hg=>by
  simp only[Go.Proofs.YtheobjkgllmnmaaGreat.get,Cb]at hg
  by_cases hk:k=i
  ·simp[hk]at hg;subst hg;exact h.1
  simp[hk]at hg;exact Zm.get h.2 i v hg
theorem Xh.get{p:Cl->Prop}:∀ {l:List (Nat×Blk)},Xh p l->∀i v,get l i=some v->b6 p v
 |[],_,i,v,h=>by cases h
 |(k,u)::r,h,i,v,hg=>by
  simp only[Go.Proofs.YtheobjkgllmnmaaGreat.get,Cb]at hg
  by_cases hk:k=i
  ·simp[hk]at hg;subst hg;exact h.1
  simp[hk]at hg;exact Xh.get h.2 i v hg
section
variable {P:Program}{rd:Option Nat}{N:Nat}{W0:World}{X:m6}{M0 M:m5}{σ:Nat→Loc}{w:World}{a:Act}{Q:Exit→AS→Prop}{s:AS}
theorem iy:∀ {l:List Nat} {n:Nat},A6 l n=true->n∈l
 |[],n,h=>by cases h
 |k::r,n,h=>by
  unfold A6 at h;cases hb:Nat.beq k n with
  |true=>rw[lx hb];exact li ..
  |false=>rw[hb]at h;exact lh _ (iy h)
def xok(K:List Nat)(n:Nat)(s:AS):Bool:=K.all fun k=>!Nat.beq k n&&(match get s.h k with
  |some (.cells ..)=>true
  |_=>false)
abbrev DJ(X:m6)(W0:World)(K:List Nat):Prop:=∀k x,X k=some x->A6 K k=true\/(k=299999/\W0.heap.size<=x.b)
theorem pV{K:List Nat}{n:Nat}(hX:DJ X W0 K)(hK:xok K n s=true)(hs:Sim N W0 X M0 M σ (get s.t) (get s.h) a w){b0:Blk}(hn:get s.h n=some b0)(hnil:(σ n).nil=false):inX X (σ n).b->W0.heap.size<=(σ n).b:=by
 rintro⟨k,x,hk,hx⟩;rcases hX k x hk with hm|⟨_,hm⟩
 ·have h0:=List.all_eq_true.1 hK k (iy hm);simp only[me]at h0;obtain⟨h1,h2⟩:=h0;have hne:n≠k:=(QA h1).symm;split at h2
  ·rename_i l ty hg;have hnk:(σ k).nil=false:=(hs.blk k _ hg).1;have hp:=(hs.pin k x hk).2;rcases hs.inj n k _ _ hn hg hne with h3|h3|h3
   ·rw[hnil]at h3;cases h3
   ·rw[hnk]at h3;cases h3
   rw[hp]at h3;exact absurd hx.symm h3
  cases h2
 rw[<- hx];exact hm
theorem bG{K:List Nat}(n sz len:Nat)(f:Nat->Nat->Cl)(ty:TypeId)(hX:DJ X W0 K)(hK:xok K n s=true)(hn:get s.h n=some (.row sz len f ty))(ht:Zm (fzP n sz len) s.t)(hb:Xh (fzP n sz len) s.h)(hs:Sim N W0 X M0 M σ (get s.t) (get s.h) a w):∃M',Sim N W0 X M0 M' σ (get (fzS n sz len f s).t) (get (fzS n sz len f s).h) a w:=by
 have hrow:=hs.blk n _ hn
 -- the new M
 obtain⟨M',hsub,hnew,himm,hother,hR⟩:∃M':m5,(∀b o,M b=some o->M' b=some o)/\(∀b o,M' b=some o->M b=none->W0.heap.size<=b)/\(∀b o,M' b=some o->w.heap[b]? = some o)/\(∀b,((σ n).nil=true\/b≠(σ n).b)->M' b=M b) /\
   (∀c V,fzP n sz len c->R M σ c V->R M' σ (fzC n sz len f c) V):=by
  cases hnil:(σ n).nil with
  |true =>
   have hl0:len=0:=by
    rcases hrow with ⟨_,h⟩|⟨h,_⟩
    ·exact h
    rw[hnil]at h;cases h
   subst hl0;refine⟨M,fun _ _ h=>h,fun b o h1 h2=>(by rw[h1]at h2;cases h2),hs.imm,fun _ _=>rfl,fun c V hp hc=>?_⟩;cases c with
   |own m s' l =>
    simp only[fzC,fzP]at *;cases hm:Nat.beq m n with
    |false=>exact hc
    |true =>
     rw[hm]at hp;obtain⟨rfl,rfl⟩:=hp;have:=lx hm;subst this;simp only[R,hnil,if_true]at hc;rw[hc.2];exact .nil _ _ _ rfl
   |_=>exact hc
  |false =>
   rcases hrow with ⟨h,_⟩|⟨_,cc,hcc,hsz,hlc,hcm,gg,hgg⟩
   ·rw[hnil]at h;cases h
   have hloc:M (σ n).b=none/\W0.heap.size<=(σ n).b:=by
    rcases hs.loc n _ hn with h|⟨h1,h2|h2⟩
    ·rw[hnil]at h;cases h
    ·exact⟨h1,h2⟩
    exact⟨h1,pV hX hK hs hn hnil h2⟩
   refine⟨fun b=>if b=(σ n).b then w.heap[b]? else M b,fun b o h1=>?_,fun b o h1 h2=>?_,fun b o h1=>?_,fun b hb=>?_,fun c V hp hc=>?_⟩
   ·by_cases hb:b=(σ n).b
    ·subst hb;rw[hloc.1]at h1;cases h1
    simp only[hb,if_false];exact h1
   ·by_cases hb:b=(σ n).b
    ·subst hb;exact hloc.2
    simp only[hb,if_false]at h1;rw[h1]at h2;cases h2
   ·by_cases hb:b=(σ n).b
    ·simp only[hb,if_true]at h1;rw[hb];exact h1
    simp only[hb,if_false]at h1;exact hs.imm b o h1
   ·rcases hb with hb|hb
    ·cases hb
    simp only[hb,if_false]
   have hsub:∀b o,M b=some o->(fun b=>if b=(σ n).b then w.heap[b]? else M b) b=some o:=fun b o h1=>by
    by_cases hb:b=(σ n).b
    ·subst hb;rw[hloc.1]at h1;cases h1
    simp only[hb,if_false];exact h1
   have hmono:∀c V,R M σ c V->R (fun b=>if b=(σ n).b then w.heap[b]? else M b) σ c V:=fun c V h=>DO hsub (fun _ _=>rfl) h;cases c with
   |own m s' l =>
    simp only[fzC,fzP]at *;cases hm:Nat.beq m n with
    |false=>exact hmono _ _ hc
    |true =>
     rw[hm]at hp;obtain⟨rfl,rfl⟩:=hp;have:=lx hm;subst this;simp only[R,hnil,Bool.false_eq_true,if_false]at hc;rw[hc];refine .list _ _ _ _ _ 0 _ gg (fun i j hi hj=>?_) (fun i j hi hj=>FS hsub (hgg i j hi hj).2) hlc (fun h=>by cases h);unfold F2;simp only[if_true,hcc,mw];exact(hgg i j hi hj).1
   |_=>exact hmono _ _ hc
 refine⟨M',hs.os,hs.tape,hs.output,hs.size,hs.old,fun b o h1=>hsub b o (hs.sub b o h1),fun b o h1 h2=>?_,hs.pin,hs.defers.mono hsub,hs.room,fun i v hv=>?_,himm,fun m b hb' => ?_,fun m b hb' => ?_,fun m k b c h1 h2=>?_⟩
 ·cases hM:M b with
  |none=>exact hnew b o h1 hM
  |some o'=>exact hs.new b o' hM h2
 ·simp only[fzS,Gu]at hv;cases hg:get s.t i with
  |none=>rw[hg]at hv;cases hv
  |some v0 =>
   rw[hg]at hv;simp only[Option.map_some,l7]at hv;subst hv;exact eA hR (ht.get i v0 hg) (hs.tmps i v0 hg)
 ·simp only[fzS,Kt,Gu]at hb';split at hb'
  ·cases hb'
  rename_i hne;cases hg:get s.h m with
  |none=>rw[hg]at hb';cases hb'
  |some b0 =>
   rw[hg]at hb';simp only[Option.map_some,l7]at hb';subst hb';have h0:=hs.blk m b0 hg;cases b0 with
   |cells l ty' =>
    obtain⟨h1,cc,h2,h3⟩:=h0;exact⟨h1,cc,h2,Xd hR (hb.get m _ hg) h3⟩
   |row=>exact Bl.mono hsub (fun _ _=>rfl) (fun _=>rfl) h0
   |omap=>exact Bl.mono hsub (fun _ _=>rfl) (fun _=>rfl) h0
   |rowx=>exact Sg hsub hR (hb.get m _ hg) h0
 ·simp only[fzS,Kt,Gu]at hb';split at hb'
  ·cases hb'
  rename_i hne;cases hg:get s.h m with
  |none=>rw[hg]at hb';cases hb'
  |some b0 =>
   rcases hs.loc m b0 hg with h1|⟨h1,h2⟩
   ·exact .inl h1
   by_cases hmn:(σ m).nil=true
   ·exact .inl hmn
   refine .inr ⟨?_,h2⟩;rw[hother]
   ·exact h1
   rcases hs.inj n m _ _ hn hg hne with h3|h3|h3
   ·exact .inl h3
   ·exact absurd h3 hmn
   exact .inr (Ne.symm h3)
 simp only[fzS,Kt,Gu]at h1 h2;split at h1
 ·cases h1
 split at h2
 ·cases h2
 intro hne;cases hg:get s.h m with
 |none=>rw[hg]at h1;cases h1
 |some b0 =>
  cases hg2:get s.h k with
  |none=>rw[hg2]at h2;cases h2
  |some c0=>exact hs.inj m k b0 c0 hg hg2 hne
def Cv(N:Nat)(W0:World)(X:m6)(M0:m5)(s t:AS):Prop:=∀M σ a w,Sim N W0 X M0 M σ (get s.t) (get s.h) a w->∃M' σ',Sim N W0 X M0 M' σ' (get t.t) (get t.h) a w
theorem Cv.refl(s:AS):Cv N W0 X M0 s s:=fun M σ _ _ hs=>⟨M,σ,hs⟩
theorem Cv.trans{s t u:AS}(h:Cv N W0 X M0 s t)(k:Cv N W0 X M0 t u):Cv N W0 X M0 s u:=fun M σ a w hs=>(h M σ a w hs).elim fun M' h1=>h1.elim fun σ' h2=>k M' σ' a w h2
theorem CK{s:AS}(ts ns:List Nat)(S:AS)(hS:L6 ts ns s=S):Cv N W0 X M0 s S:=fun M σ _ _ hs=>⟨M,σ,hS▸Gs hs ts ns⟩
theorem ji{s:AS}{K:List Nat}(S:AS)(n sz len:Nat)(f:Nat->Nat->Cl)(ty:TypeId)(hX:DJ X W0 K)(hK:xok K n s=true)(hn:get s.h n=some (.row sz len f ty))(ht:Zm (fzP n sz len) s.t)(hb:Xh (fzP n sz len) s.h)(hS:fzS n sz len f s=S):Cv N W0 X M0 s S:=by
 subst hS;intro M σ a w hs;obtain⟨M',h1⟩:=bG n sz len f ty hX hK hn ht hb hs;exact⟨M',σ,h1⟩
theorem AZ{c:Code}{s S:AS}(h:Cv N W0 X M0 s S)(k:AWp P rd N W0 X M0 c Q S):AWp P rd N W0 X M0 c Q s:=fun M σ a w hs=>(h M σ a w hs).elim fun M' h1=>h1.elim fun σ' h2=>k M' σ' a w h2
theorem EG{c:Code}{s:AS}(h:AWp P rd N W0 X M0 c (fun e s=>∃t,Cv N W0 X M0 s t/\Q e t) s):AWp P rd N W0 X M0 c Q s:=by
 intro M σ a w hs;refine wpIn_mono (h M σ a w hs) ?_;rintro e a' w' ⟨s',M',σ',⟨t,h1,h2⟩,h3⟩;obtain⟨M'',σ'',h4⟩:=h1 M' σ' a' w' h3;exact⟨t,M'',σ'',h2,h4⟩
theorem B4{c:Code}{K:AS->Prop}{s:AS}(S:AS)(h1:AWp P rd N W0 X M0 c (ATh (fun s'=>Cv N W0 X M0 s' S) Q) s)(h2:K S):AWp P rd N W0 X M0 c (ATh K Q) s:=by
 intro M σ a w hs;refine wpIn_mono (h1 M σ a w hs) ?_;rintro e a' w' ⟨s',M',σ',h3,h4⟩;cases e with
 |normal =>
  obtain⟨M'',σ'',h5⟩:=(show Cv N W0 X M0 s' S from h3) M' σ' a' w' h4;exact⟨_,M'',σ'',h2,h5⟩
 |_=>exact⟨s',M',σ',h3,h4⟩
theorem wL{ι:Type}{c:Code}(S:ι->AS)(Inv:ι->Prop)(μ:ι->Nat)(round:∀x,Inv x->AWp P rd N W0 X M0 c (ATh (fun s'=>∃y,Inv y/\μ y<μ x/\Cv N W0 X M0 s' (S y)) Q) (S x))(x:ι)(hx:Inv x):AWp P rd N W0 X M0 (.loop c) Q (S x):=by
 refine bz S Inv μ (fun x hx=>?_) x hx;intro M σ a w hs;refine wpIn_mono (round x hx M σ a w hs) ?_;rintro e a' w' ⟨s',M',σ',h1,h2⟩;cases e with
 |normal =>
  obtain⟨y,hy,hm,hc⟩:=h1;obtain⟨M'',σ'',h5⟩:=hc M' σ' a' w' h2;exact⟨S y,M'',σ'',⟨y,hy,hm,rfl⟩,h5⟩
 |_=>exact⟨s',M',σ',h1,h2⟩
end
end
section
open Go.RowKit
def UC(q d:Nat):Cl->Cl
 |.ptr n off=>.ptr (bif Nat.beq n q then d else n) off
 |.own n sz len=>.own (bif Nat.beq n q then d else n) sz len
 |.rptr n sz i off=>.rptr (bif Nat.beq n q then d else n) sz i off
 |.osl n sz lo len=>.osl (bif Nat.beq n q then d else n) sz lo len
 |.om n=>.om (bif Nat.beq n q then d else n)
 |.clo f k caps=>.clo f k (BZ ((List.range k).map fun i=>UC q d (caps i)))
 |c=>c
theorem Yc{n d:Nat}(h:(!Nat.beq n d)=true):n≠d:=QA h
theorem Q9{M:m5}{σ:Nat->Loc}(q d:Nat):∀ {c:Cl} {V:Value},c.no d=true->R M σ c V->R M (upd σ d (σ q)) (UC q d c) V
 |.val _,_,_,h=>h
 |.ptr n off,V,hd,h=>by
  have hne:=Yc hd;simp only[UC,R,Cb]at *
  by_cases hq:n=q
  ·subst hq;simp only[ml,mi,BH];exact h
  simp only[hq,mm,mj,CW _ _ hne];exact h
 |.own n sz len,V,hd,h=>by
  have hne:=Yc hd;simp only[UC,R,Cb]at *
  by_cases hq:n=q
  ·subst hq;simp only[ml,mi,BH];exact h
  simp only[hq,mm,mj,CW _ _ hne];exact h
 |.rptr n sz i off,V,hd,h=>by
  have hne:=Yc hd;simp only[UC,R,Cb]at *
  by_cases hq:n=q
  ·subst hq;simp only[ml,mi,BH];exact h
  simp only[hq,mm,mj,CW _ _ hne];exact h
 |.osl n sz lo len,V,hd,h=>by
  have hne:=Yc hd;simp only[UC,R,Cb]at *
  by_cases hq:n=q
  ·subst hq;simp only[ml,mi,BH];exact h
  simp only[hq,mm,mj,CW _ _ hne];exact h
 |.om n,V,hd,h=>by
  have hne:=Yc hd;simp only[UC,R,Cb]at *
  by_cases hq:n=q
  ·subst hq;simp only[ml,mi,BH];exact h
  simp only[hq,mm,mj,CW _ _ hne];exact h
 |.list ..,_,_,h=>h
 |.eptr ..,_,_,h=>h
 |.mp ..,_,_,h=>h
 |.any,_,_,h=>h
 |.clo f k caps,V,hd,h=>by
  obtain⟨cs,h1,h2,h3⟩:=h;refine⟨cs,h1,h2,fun i hi=>?_⟩;rw[Pu _ hi];refine Q9 q d ?_ (h3 i hi);simp only[Cl.no,ku]at hd;exact hd i (by simpa using hi)
def xZ(q d:Nat):List (Nat×Blk)->List (Nat×Blk)
 |[]=>[]
 |(k,v)::r=>(bif Nat.beq k q then d else k,v.map (UC q d))::xZ q d r
theorem KB{q d:Nat}:∀ {l:List (Nat×Blk)},get l d=none->∀m b,get (xZ q d l) m=some b->∃m0 b0,get l m0=some b0/\b=b0.map (UC q d)/\((m0=q/\m=d)\/(m0≠q/\m0=m/\m≠d))
 |[],_,m,b,h=>by cases h
 |(k,v)::r,hd,m,b,h=>by
  simp only[get,Cb]at hd
  by_cases hkd:k=d
  ·simp[hkd]at hd
  simp only[hkd,mm,mj]at hd;simp only[xZ,get,Cb]at h
  by_cases hkq:k=q
  ·simp only[hkq,ml,mi]at h
   by_cases hdm:d=m
   ·simp only[hdm,ml,mi,l7]at h;exact⟨q,v,by simp[get,Cb,hkq],by rw[hdm];exact h.symm,.inl ⟨rfl,hdm.symm⟩⟩
   simp only[hdm,mm,mj]at h;obtain⟨m0,b0,h1,h2,h3⟩:=KB hd m b h;refine⟨m0,b0,?_,h2,h3⟩;rcases h3 with ⟨_,h4⟩|⟨h4,_⟩
   ·exact absurd h4.symm hdm
   simp only[get,Cb];have:¬ k=m0:=fun e=>h4 (e▸hkq);simp[this,h1]
  simp only[hkq,mm,mj]at h
  by_cases hkm:k=m
  ·simp only[hkm,ml,mi,l7]at h;exact⟨k,v,by simp[get,Cb],h.symm,.inr ⟨hkq,hkm,hkm▸hkd⟩⟩
  simp only[hkm,mm,mj]at h;obtain⟨m0,b0,h1,h2,h3⟩:=KB hd m b h;refine⟨m0,b0,?_,h2,h3⟩;simp only[get,Cb];have:¬ k=m0:=by
   rcases h3 with ⟨h4,_⟩|⟨_,h4,_⟩
   ·rw[h4];exact hkq
   rw[h4];exact hkm
  simp[this,h1]
def noD(d:Nat)(s:AS):Bool:=s.t.all (fun p=>p.2.no d)&&s.h.all (fun p=>p.2.no d)&&(match get s.h d with
 |none=>true
 |_=>false)
def LR(K:List Nat)(n:Nat):Bool:=(K.all fun k=>!Nat.beq k n) && !Nat.beq 299999 n
theorem Ws{X:m6}{W0:World}{K:List Nat}{d:Nat}(hX:DJ X W0 K)(h:LR K d=true){n:Nat}{x:Loc}(hx:X n=some x):n≠d:=by
 unfold LR at h;simp only[me]at h;rcases hX n x hx with hm|⟨rfl,_⟩
 ·exact QA (List.all_eq_true.1 h.1 n (iy hm))
 exact QA h.2
def xY(q d:Nat)(s:AS):AS:=⟨Q2 (Tv.map (UC q d)) s.t,xZ q d s.h⟩
theorem b5{d:Nat}{v:Tv}(h:v.no d=true):wT (fun c=>c.no d=true) v:=by
 have av:∀x:Av,x.no d=true->Tl (fun c=>c.no d=true) x:=fun x hx=>by
  cases x with
  |one c=>exact hx
  |agg l=>exact fun c hc=>(List.all_eq_true.1 hx) c hc
 cases v with
 |av x=>exact av x h
 |tup l=>exact fun x hx=>av x ((List.all_eq_true.1 h) x hx)
 |grd g x=>exact av x h
section
variable {P:Program}{rd:Option Nat}{N:Nat}{W0:World}{X:m6}{M0 M:m5}{σ:Nat→Loc}{w:World}{a:Act}{Q:Exit→AS→Prop}{s:AS}
theorem gC{d:Nat}(h:noD d s=true){i:Nat}{v:Tv}(hg:get s.t i=some v):v.no d=true:=by
 simp only[noD,me,ku]at h;exact h.1.1 _ (DH hg)
theorem Yd{d:Nat}(h:noD d s=true){i:Nat}{v:Blk}(hg:get s.h i=some v):v.no d=true:=by
 simp only[noD,me,ku]at h;exact h.1.2 _ (DH hg)
theorem gE{d:Nat}(h:noD d s=true):get s.h d=none:=by
 simp only[noD,me]at h;have:=h.2;split at this
 ·assumption
 cases this
theorem CR{K:List Nat}(S:AS)(q d:Nat)(hX:DJ X W0 K)(h1:LR K q=true)(h2:LR K d=true)(hd:noD d s=true)(hS:xY q d s=S):Cv N W0 X M0 s S:=by
 subst hS;intro M σ a w hs;have hg:=gE hd;have hu:∀n,n≠d->upd σ d (σ q) n=σ n:=fun n hn=>CW _ _ hn;have hud:upd σ d (σ q) d=σ q:=BH _ _ _;refine⟨M,upd σ d (σ q),⟨hs.os,hs.tape,hs.output,hs.size,hs.old,hs.sub,hs.new,fun n x hx=>?_,hs.defers,hs.room,fun i v hv=>?_,hs.imm,fun m b hb=>?_,fun m b hb=>?_,fun m k b b' hb hb' hne=>?_⟩⟩
 ·have hne:n≠d:=Ws hX h2 hx;rw[hu n hne];exact hs.pin n x hx
 ·simp only[xY,Gu]at hv;cases hgi:get s.t i with
  |none=>rw[hgi]at hv;cases hv
  |some v0 =>
   rw[hgi]at hv;simp only[Option.map_some,l7]at hv;subst hv;exact eA (p:=fun c=>c.no d=true) (fun c V hp hc=>Q9 q d hp hc) (b5 (gC hd hgi)) (hs.tmps i v0 hgi)
 ·obtain⟨m0,b0,g1,rfl,g3⟩:=KB hg m b hb;have hloc:upd σ d (σ q) m=σ m0:=by
   rcases g3 with ⟨rfl,rfl⟩|⟨_,rfl,h4⟩
   ·exact hud
   exact hu _ h4
  rw[hloc];have h0:=hs.blk m0 b0 g1;have hno:=Yd hd g1;cases b0 with
  |cells l ty =>
   obtain⟨e1,cc,e2,e3⟩:=h0;exact⟨e1,cc,e2,Xd (p:=fun c=>c.no d=true) (fun c V hp hc=>Q9 q d hp hc) (fun c hc=>(List.all_eq_true.1 hno) c hc) e3⟩
  |row=>exact h0
  |omap=>exact h0
  |rowx=>exact Sg (p:=fun c=>c.no d=true) (fun _ _ h=>h) (fun c V hp hc=>Q9 q d hp hc) (fun i l hl c hc=>List.all_eq_true.1 (List.all_eq_true.1 hno _ (DH hl)) c hc) h0
 ·obtain⟨m0,b0,g1,rfl,g3⟩:=KB hg m b hb;have hloc:upd σ d (σ q) m=σ m0:=by
   rcases g3 with ⟨rfl,rfl⟩|⟨_,rfl,h4⟩
   ·exact hud
   exact hu _ h4
  rw[hloc];exact hs.loc m0 b0 g1
 obtain⟨m0,b0,g1,rfl,g3⟩:=KB hg m b hb;obtain⟨k0,b0',g1',rfl,g3'⟩:=KB hg k b' hb';have hl1:upd σ d (σ q) m=σ m0:=by
  rcases g3 with ⟨rfl,rfl⟩|⟨_,rfl,h4⟩
  ·exact hud
  exact hu _ h4
 have hl2:upd σ d (σ q) k=σ k0:=by
  rcases g3' with ⟨rfl,rfl⟩|⟨_,rfl,h4⟩
  ·exact hud
  exact hu _ h4
 rw[hl1,hl2];refine hs.inj m0 k0 b0 b0' g1 g1' ?_;rintro rfl;rcases g3 with ⟨e1,e2⟩|⟨e1,e2,_⟩<;>rcases g3' with ⟨e3,e4⟩|⟨e3,e4,_⟩
 ·exact hne (e2.trans e4.symm)
 ·exact e3 e1
 ·exact e1 e3
 exact hne (e2.symm.trans e4)
def iw(n:Nat):List Nat->Bool
 |[]=>false
 |k::r=>Nat.beq k n||iw n r
def Ye(d sz:Nat):Cl->Cl
 |.val (.slice none 0 0)=>.own d sz 0
 |c=>c
def mapIx(g:Cl->Cl)(is:List Nat):Nat->List Cl->List Cl
 |_,[]=>[]
 |k,c::r=>(bif iw k is then g c else c)::mapIx g is (k+1) r
def Av.mapIx(g:Cl->Cl)(is:List Nat):Av->Av
 |.one c=>.one (bif iw 0 is then g c else c)
 |.agg l=>.agg (Go.Proofs.YtheobjkgllmnmaaGreat.mapIx g is 0 l)
def Tv.mapIx(g:Cl->Cl)(is:List Nat):Tv->Tv
 |.av x=>.av (x.mapIx g is)
 |v=>v
def lB(g:Cl->Cl)(is:List Nat):Nat->List (Nat×List Cl)->List (Nat×List Cl)
 |_,[]=>[]
 |k,(m,l)::r=>(m,Go.Proofs.YtheobjkgllmnmaaGreat.mapIx g is k l)::lB g is (k+l.length) r
def Blk.mapIx(g:Cl->Cl)(is:List Nat):Blk->Blk
 |.cells l ty=>.cells (Go.Proofs.YtheobjkgllmnmaaGreat.mapIx g is 0 l) ty
 |.rowx sz len f ty hs=>.rowx sz len f ty (lB g is 0 hs)
 |b=>b
theorem ZB(g:Cl->Cl)(is:List Nat):∀(hs:List (Nat×List Cl)) (k i:Nat) (l:List Cl),get (lB g is k hs) i=some l->∃k' l0,get hs i=some l0/\l=Go.Proofs.YtheobjkgllmnmaaGreat.mapIx g is k' l0
 |[],k,i,l,h=>by cases h
 |(m,l0)::r,k,i,l,h=>by
  simp only[lB,get,Cb]at h ⊢
  by_cases e:m=i
  ·simp[e]at h;exact⟨k,l0,by simp[e],h.symm⟩
  simp only[e,mm,mj]at h ⊢;exact ZB g is r _ i l h
theorem NE(g:Cl->Cl)(is:List Nat):∀(hs:List (Nat×List Cl)) (k i:Nat),get (lB g is k hs) i=none->get hs i=none
 |[],k,i,h=>rfl
 |(m,l0)::r,k,i,h=>by
  simp only[lB,get,Cb]at h ⊢
  by_cases e:m=i
  ·simp[e]at h
  simp only[e,mm,mj]at h ⊢;exact NE g is r _ i h
def Uh{α:Type}(F:List Nat->α->α)(is:List (Nat×List Nat)):List (Nat×α)->List (Nat×α)
 |[]=>[]
 |(k,v)::r=>(k,F ((get is k).getD []) v)::Uh F is r
theorem Ut{α:Type}(F:List Nat->α->α)(is:List (Nat×List Nat))(l:List (Nat×α))(n:Nat):get (Uh F is l) n=(get l n).map (F ((get is n).getD [])):=by
 induction l with
 |nil=>rfl
 |cons p r ih =>
  obtain⟨k,v⟩:=p;simp only[Uh,get,Cb]
  by_cases h:k=n
  ·simp[h]
  simp only[h,mm,mj,ih]
theorem gH{d sz:Nat}{x:Loc}(hx:x.nil=true):∀ {c:Cl} {V:Value},c.no d=true->R M σ c V->∀t:Bool,R M (upd σ d x) (bif t then Ye d sz c else c) V:=by
 intro c V hd hc t;have keep:R M (upd σ d x) c V:=DO (fun _ _ h=>h) (fun n hn=>by
  by_cases e:n=d
  ·subst e;rw[hd]at hn;cases hn
  exact CW _ _ e) hc
 cases t with
 |false=>exact keep
 |true =>
  show R M (upd σ d x) (Ye d sz c) V;unfold Ye;split
  ·obtain⟨rfl,_⟩:=hc;simp only[R,BH,hx,if_true];exact⟨trivial,trivial⟩
  exact keep
theorem Oq{d sz:Nat}{x:Loc}(hx:x.nil=true)(is:List Nat):∀(k:Nat) {l:List Cl} {vs:List Value},(∀c∈l,c.no d=true)->L2 (R M σ) l vs->L2 (R M (upd σ d x)) (mapIx (Ye d sz) is k l) vs
 |k,[],vs,hp,h=>by cases h;exact .nil
 |k,c::r,vs,hp,h=>by
  cases h with|cons h1 h2 =>
  exact .cons (gH hx (hp c m3) h1 _) (Oq hx is (k+1) (fun c hc=>hp c (by simp[hc])) h2)
def ghS(d sz:Nat)(f:Nat->Nat->Cl)(ty:TypeId)(it ih:List (Nat×List Nat))(s:AS):AS:=⟨Uh (Tv.mapIx (Ye d sz)) it s.t,(d,.row sz 0 f ty)::Uh (Blk.mapIx (Ye d sz)) ih s.h⟩
theorem Gw{K:List Nat}(S:AS)(d sz:Nat)(f:Nat->Nat->Cl)(ty:TypeId)(it ih:List (Nat×List Nat))(hX:DJ X W0 K)(h2:LR K d=true)(hd:noD d s=true)(hS:ghS d sz f ty it ih s=S):Cv N W0 X M0 s S:=by
 subst hS;intro M σ a w hs;have hg:=gE hd;have hu:∀n,n≠d->upd σ d ⟨0,0,true⟩ n=σ n:=fun n hn=>CW _ _ hn;have hud:(upd σ d ⟨0,0,true⟩ d)=⟨0,0,true⟩:=BH _ _ _;have hkey:∀m b,get ((d,Blk.row sz 0 f ty)::Uh (Blk.mapIx (Ye d sz)) ih s.h) m=some b->(m=d/\b=.row sz 0 f ty)\/(m≠d/\∃b0,get s.h m=some b0/\b=b0.mapIx (Ye d sz) ((get ih m).getD [])):=fun m b hb=>by
  simp only[get,Cb]at hb
  by_cases e:d=m
  ·simp[e]at hb;exact .inl ⟨e.symm,by rw[<- hb]⟩
  simp only[e,mm,mj,Ut]at hb;cases hg0:get s.h m with
  |none=>rw[hg0]at hb;cases hb
  |some b0 =>
   rw[hg0]at hb;simp only[Option.map_some,l7]at hb;exact .inr ⟨Ne.symm e,b0,rfl,hb.symm⟩
 refine⟨M,upd σ d ⟨0,0,true⟩,⟨hs.os,hs.tape,hs.output,hs.size,hs.old,hs.sub,hs.new,fun n x hx=>?_,hs.defers,hs.room,fun i v hv=>?_,hs.imm,fun m b hb=>?_,fun m b hb=>?_,fun m k b b' hb hb' hne=>?_⟩⟩
 ·have hne:n≠d:=Ws hX h2 hx;rw[hu n hne];exact hs.pin n x hx
 ·simp only[ghS,Ut]at hv;cases hgi:get s.t i with
  |none=>rw[hgi]at hv;cases hv
  |some v0 =>
   rw[hgi]at hv;simp only[Option.map_some,l7]at hv;subst hv;have h0:=hs.tmps i v0 hgi;have hno:=gC hd hgi;have hmono:RT M (upd σ d ⟨0,0,true⟩) v0 (a.tmps.getD i undef):=D6 (fun _ _ h=>h) (fun n hn=>by
    by_cases e:n=d
    ·subst e;rw[hno]at hn;cases hn
    exact hu n e) h0
   cases v0 with
   |av x =>
    cases x with
    |one c=>exact gH rfl hno h0 _
    |agg l =>
     obtain⟨vs,e1,e2⟩:=h0;exact⟨vs,e1,Oq rfl _ 0 (fun c hc=>(List.all_eq_true.1 hno) c hc) e2⟩
   |tup l=>exact hmono
   |grd g x=>exact hmono
 ·rcases hkey m b hb with ⟨rfl,rfl⟩|⟨hne,b0,g1,rfl⟩
  ·rw[hud];exact .inl ⟨rfl,rfl⟩
  rw[hu m hne];have h0:=hs.blk m b0 g1;have hno:=Yd hd g1;cases b0 with
  |cells l ty' =>
   obtain⟨e1,cc,e2,e3⟩:=h0;exact⟨e1,cc,e2,Oq rfl _ 0 (fun c hc=>(List.all_eq_true.1 hno) c hc) e3⟩
  |row=>exact h0
  |omap=>exact h0
  |rowx sz' len' f' ty' hh =>
   obtain⟨e0,c,e1,e2,e3,e4,gv,e5,e6⟩:=h0;refine⟨e0,c,e1,e2,e3,e4,gv,fun i j hi hj=>⟨(e5 i j hi hj).1,fun hn=>(e5 i j hi hj).2 (NE _ _ _ _ _ hn)⟩,fun i l hl=>?_⟩;obtain⟨k',l0,hl0,rfl⟩:=ZB _ _ _ _ _ _ hl;exact⟨(e6 i l0 hl0).1,Oq rfl _ k' (fun c hc=>List.all_eq_true.1 (List.all_eq_true.1 hno _ (DH hl0)) c hc) (e6 i l0 hl0).2⟩
 ·rcases hkey m b hb with ⟨rfl,rfl⟩|⟨hne,b0,g1,rfl⟩
  ·rw[hud];exact .inl rfl
  rw[hu m hne];exact hs.loc m b0 g1
 rcases hkey m b hb with ⟨rfl,rfl⟩|⟨h3,b0,g1,rfl⟩
 ·rw[hud];exact .inl rfl
 rcases hkey k b' hb' with ⟨rfl,rfl⟩|⟨h4,b0',g1',rfl⟩
 ·rw[hud];exact .inr (.inl rfl)
 rw[hu m h3,hu k h4];exact hs.inj m k b0 b0' g1 g1' hne
end
def AL{α:Type}[Inhabited α](c:α->List Cl)(xs:List α):Nat->Nat->Cl:=fun i j=>(c (xs.getD i default)).getD j default
theorem xV{α:Type}[Inhabited α](c:α->List Cl)(xs ys:List α)(sz:Nat)(g:Nat->Nat->Cl)(hg:∀i j,i<ys.length->j<sz->g i j=AL c ys i j):∀i j,i<(xs++ys).length->j<sz->(if i<xs.length then AL c xs i j else g (i-xs.length) j)=AL c (xs++ys) i j:=by
 intro i j hi hj;rw[d9]at hi;unfold AL at *
 by_cases h:i<xs.length
 ·rw[if_pos h];simp only[aE,la h]
 rw[if_neg h,hg _ _ mz hj];simp only[aE,kz (Nat.le_of_not_lt h)]
theorem xU{α:Type}[Inhabited α](c:α->List Cl)(xs:List α)(k:Nat)(v:α)(l:List Cl)(sz off m:Nat)(hk:k<xs.length)(hv:∀j,j<sz->(if off<=j/\j<off+m then l.getD (j-off) default else(c (xs.getD k default)).getD j default)=(c v).getD j default) :
  ∀i j,i<(xs.set k v).length->j<sz->(if i=k/\off<=j/\j<off+m then l.getD (j-off) default else AL c xs i j)=AL c (xs.set k v) i j:=by
 intro i j hi hj;unfold AL
 by_cases h:i=k
 ·subst h;have:=hv j hj;simp only[aE,List.getElem?_set_self hk,Option.getD_some,true_and]at *;exact this
 rw[if_neg (fun k=>h k.1)];simp only[aE,List.getElem?_set_ne (Ne.symm h)]
end
section
open Go.RowKit
def fxC(n:Nat)(l:List Cl):Cl->Cl
 |.ptr m off=>bif Nat.beq m n then .eptr l.length 1 (fun _ j=>l.getD j default) 0 off else .ptr m off
 |.clo f k caps=>.clo f k (BZ ((List.range k).map fun i=>fxC n l (caps i)))
 |c=>c
def fxS(n:Nat)(l:List Cl)(s:AS):AS:=⟨Q2 (Tv.map (fxC n l)) s.t,del (Q2 (Blk.map (fxC n l)) s.h) n⟩
theorem lQ:∀v:Tv,wT (fun _=>True) v:=by
 have av:∀x:Av,Tl (fun _=>True) x:=fun x=>by cases x<;>simp[Tl]
 intro v;cases v with
 |av x=>exact av x
 |tup l=>exact fun x _=>av x
 |grd g x=>exact av x
section
variable {P:Program}{rd:Option Nat}{N:Nat}{W0:World}{X:m6}{M0 M:m5}{σ:Nat→Loc}{w:World}{a:Act}{Q:Exit→AS→Prop}{s:AS}
theorem fF(n:Nat)(l:List Cl)(ty:TypeId)(hnx:(σ n).nil=false->inX X (σ n).b->W0.heap.size<=(σ n).b)(hn:get s.h n=some (.cells l ty))(hdv:l.all Cl.dv=true)(hs:Sim N W0 X M0 M σ (get s.t) (get s.h) a w):∃M',Sim N W0 X M0 M' σ (get (fxS n l s).t) (get (fxS n l s).h) a w:=by
 obtain⟨hnil,cc,hcc,hl⟩:=hs.blk n _ hn;have hloc:M (σ n).b=none/\W0.heap.size<=(σ n).b:=by
  rcases hs.loc n _ hn with h|⟨h1,h2|h2⟩
  ·rw[hnil]at h;cases h
  ·exact⟨h1,h2⟩
  exact⟨h1,hnx hnil h2⟩
 obtain⟨M',hM'⟩:∃M':m5,M'=fun b=>if b=(σ n).b then w.heap[b]? else M b:=⟨_,rfl⟩
 have hsub:∀b o,M b=some o->M' b=some o:=fun b o h1=>by
  subst hM'
  by_cases hb:b=(σ n).b
  ·subst hb;rw[hloc.1]at h1;cases h1
  simp only[hb,if_false];exact h1
 have himm:∀b o,M' b=some o->w.heap[b]? = some o:=fun b o h1=>by
  subst hM'
  by_cases hb:b=(σ n).b
  ·simp only[hb,if_true]at h1;rw[hb];exact h1
  simp only[hb,if_false]at h1;exact hs.imm b o h1
 have hother:∀b,b≠(σ n).b->M' b=M b:=fun b hb=>by subst hM';simp only[hb,if_false]
 have hself:M' (σ n).b=w.heap[(σ n).b]? := by subst hM';simp only[if_true]
 have hR:∀ {c:Cl} {V:Value},R M σ c V->R M' σ (fxC n l c) V:=by
  intro c;induction c with
  |ptr m off =>
   intro V hc;simp only[fxC];cases hm:Nat.beq m n with
   |false=>exact hc
   |true =>
    have:=lx hm;subst this;simp only[R]at hc;rw[hc];have key:=RC.eptr (M:=M') l.length 1 (fun _ j=>l.getD j default) 0 off (σ m).b 0 (fun j=>cc.getD j undef) (fun j hj=>by
     have hjc:j<cc.length:=by have:=hl.length;omega
     unfold F2;rw[hself,hcc,mw];simp[aE,hjc]) (fun j hj=>by
     have hjl:l[j]? = some (l[j]'hj):=ea hj;obtain⟨v,hv,hRv⟩:=hl.get j _ hjl;simp only[aE,hjl,hv,Option.getD_some];exact FS hsub ((Mx ((List.all_eq_true.1 hdv) _ (List.getElem_mem hj))).1 hRv))
    rw[mw]at key;exact key
  |clo f k caps ih =>
   intro V hc;obtain⟨cs,h1,h2,h3⟩:=hc;exact⟨cs,h1,h2,fun i hi=>by rw[Pu _ hi];exact ih i (h3 i hi)⟩
  |val v=>intro V hc;exact hc
  |own=>intro V hc;exact DO hsub (fun _ _=>rfl) hc
  |rptr=>intro V hc;exact DO hsub (fun _ _=>rfl) hc
  |osl=>intro V hc;exact DO hsub (fun _ _=>rfl) hc
  |list=>intro V hc;exact DO hsub (fun _ _=>rfl) hc
  |eptr=>intro V hc;exact DO hsub (fun _ _=>rfl) hc
  |mp=>intro V hc;exact DO hsub (fun _ _=>rfl) hc
  |om=>intro V hc;exact DO hsub (fun _ _=>rfl) hc
  |any=>intro V hc;exact hc
 refine⟨M',hs.os,hs.tape,hs.output,hs.size,hs.old,fun b o h1=>hsub b o (hs.sub b o h1),fun b o h1 h2=>?_,hs.pin,hs.defers.mono hsub,hs.room,fun i v hv=>?_,himm,fun m b hb' => ?_,fun m b hb' => ?_,fun m k b c h1 h2=>?_⟩
 ·by_cases hb:b=(σ n).b
  ·subst hb;exact hloc.2
  rw[hother b hb]at h1;exact hs.new b o h1 h2
 ·simp only[fxS,Gu]at hv;cases hg:get s.t i with
  |none=>rw[hg]at hv;cases hv
  |some v0 =>
   rw[hg]at hv;simp only[Option.map_some,l7]at hv;subst hv;exact eA (p:=fun _=>True) (fun c V _ hc=>hR hc) (lQ v0) (hs.tmps i v0 hg)
 ·simp only[fxS,Kt,Gu]at hb';split at hb'
  ·cases hb'
  cases hg:get s.h m with
  |none=>rw[hg]at hb';cases hb'
  |some b0 =>
   rw[hg]at hb';simp only[Option.map_some,l7]at hb';subst hb';have h0:=hs.blk m b0 hg;cases b0 with
   |cells l' ty' =>
    obtain⟨h1,cc',h2,h3⟩:=h0;exact⟨h1,cc',h2,Xd (p:=fun _=>True) (fun c V _ hc=>hR hc) (fun _ _=>trivial) h3⟩
   |row=>exact Bl.mono hsub (fun _ _=>rfl) (fun _=>rfl) h0
   |omap=>exact Bl.mono hsub (fun _ _=>rfl) (fun _=>rfl) h0
   |rowx=>exact Sg (p:=fun _=>True) hsub (fun c V _ hc=>hR hc) (fun _ _ _ _ _=>trivial) h0
 ·simp only[fxS,Kt,Gu]at hb';split at hb'
  ·cases hb'
  rename_i hne;cases hg:get s.h m with
  |none=>rw[hg]at hb';cases hb'
  |some b0 =>
   rcases hs.loc m b0 hg with h1|⟨h1,h2⟩
   ·exact .inl h1
   by_cases hmn:(σ m).nil=true
   ·exact .inl hmn
   refine .inr ⟨?_,h2⟩;rw[hother]
   ·exact h1
   rcases hs.inj n m _ _ hn hg hne with h3|h3|h3
   ·rw[hnil]at h3;cases h3
   ·exact absurd h3 hmn
   exact Ne.symm h3
 simp only[fxS,Kt,Gu]at h1 h2;split at h1
 ·cases h1
 split at h2
 ·cases h2
 intro hne;cases hg:get s.h m with
 |none=>rw[hg]at h1;cases h1
 |some b0 =>
  cases hg2:get s.h k with
  |none=>rw[hg2]at h2;cases h2
  |some c0=>exact hs.inj m k b0 c0 hg hg2 hne
theorem Jq{K:List Nat}(S:AS)(n:Nat)(l:List Cl)(ty:TypeId)(hX:DJ X W0 K)(hK:xok K n s=true)(hn:get s.h n=some (.cells l ty))(hdv:l.all Cl.dv=true)(hS:fxS n l s=S):Cv N W0 X M0 s S:=by
 subst hS;intro M σ a w hs;obtain⟨M',h1⟩:=fF n l ty (fun hnil=>pV hX hK hs hn hnil) hn hdv hs;exact⟨M',σ,h1⟩
theorem Ma:∀ {l:List Nat} {n:Nat},A6 l n=true->n∈l
 |[],_,h=>by cases h
 |k::r,n,h=>by
  simp only[A6]at h;cases hk:Nat.beq k n with
  |true=>have:=lx hk;subst this;exact li ..
  |false=>rw[hk]at h;exact lh _ (Ma h)
end
end
section
open Go.RowKit
inductive AvE:Av->Av->Prop
 | one {c c':Cl} (h:ClE c c'):AvE (.one c) (.one c')
 | agg {l l':List Cl} (h:L2 ClE l l'):AvE (.agg l) (.agg l')
inductive TvE:Tv->Tv->Prop
 | refl (v:Tv):TvE v v
 | av {x x':Av} (h:AvE x x'):TvE (.av x) (.av x')
 | tup {l l':List Av} (h:L2 AvE l l'):TvE (.tup l) (.tup l')
inductive Ic:Blk->Blk->Prop
 | refl (b:Blk):Ic b b
 | cells {l l':List Cl} (ty:TypeId) (h:L2 ClE l l'):Ic (.cells l ty) (.cells l' ty)
 | row (sz:Nat) {len len':Nat} {f f':Nat->Nat->Cl} (ty:TypeId) (hl:len=len') (h:∀ i j,i<len'->j<sz->ClE (f i j) (f' i j)):Ic (.row sz len f ty) (.row sz len' f' ty)
 | omap (agg:Bool) (nv:Nat) {len len':Nat} {kf kf':Nat->Value} {f f':Nat->Nat->Cl} (hl:len=len') (hk:∀ i,i<len'->kf i=kf' i) (h:∀ i j,i<len'->j<nv->ClE (f i j) (f' i j)):Ic (.omap agg nv len kf f) (.omap agg nv len' kf' f')
 | rowx (sz len:Nat) (f:Nat->Nat->Cl) (ty:TypeId) {hs hs':List (Nat×List Cl)} (h:L2 (fun p q=>p.1=q.1/\L2 ClE p.2 q.2) hs hs'):Ic (.rowx sz len f ty hs) (.rowx sz len f ty hs')
theorem AvE.refl:∀x:Av,AvE x x
 |.one c=>.one (.refl c)
 |.agg l=>.agg (by
   induction l with
   |nil=>exact .nil
   |cons c l ih=>exact .cons (.refl c) ih)
theorem L2.trans3{α β:Type}{r:α->β->Prop}{q:α->α->Prop}{r':α->β->Prop}(hq:∀a a' b,q a a'->r a b->r' a' b){l l':List α}{m:List β}(h:L2 q l l')(k:L2 r l m):L2 r' l' m:=by
 induction h generalizing m with
 |nil=>cases k;exact .nil
 |cons h1 _ ih=>cases k with|cons k1 k2=>exact .cons (hq _ _ _ h1 k1) (ih k2)
section
variable {P:Program}{rd:Option Nat}{N:Nat}{W0:World}{X:m6}{M0 M:m5}{σ:Nat→Loc}{w:World}{a:Act}{Q:Exit→AS→Prop}{s S:AS}
theorem Tn{x x':Av}{V:Value}(he:AvE x x')(h:RA M σ x V):RA M σ x' V:=by
 cases he with
 |one h1=>exact iV h1 h
 |agg h1 =>
  obtain⟨vs,e1,e2⟩:=h;exact⟨vs,e1,L2.trans3 (r:=R M σ) (r':=R M σ) (fun _ _ _=>iV) h1 e2⟩
theorem ML{x x':Tv}{V:Value}(he:TvE x x')(h:RT M σ x V):RT M σ x' V:=by
 cases he with
 |refl=>exact h
 |av h1=>exact Tn h1 h
 |tup h1 =>
  obtain⟨vs,e1,e2⟩:=h;exact⟨vs,e1,L2.trans3 (r:=RA M σ) (r':=RA M σ) (fun _ _ _=>Tn) h1 e2⟩
theorem Pz{α:Type}{r:α->α->Prop}{l l':List (Nat×α)}(h:L2 (fun p q=>p.1=q.1/\r p.2 q.2) l l')(i:Nat){v':α}(hv:get l' i=some v'):∃v,get l i=some v/\r v v':=by
 induction h with
 |nil=>cases hv
 | @cons p q l l' h1 _ ih =>
  obtain⟨k,v⟩:=p;obtain⟨k',u⟩:=q;obtain⟨rfl,h2⟩:=h1;simp only[get,Cb]at hv ⊢
  by_cases hk:k=i
  ·simp[hk]at hv ⊢;subst hv;exact h2
  simp only[hk,mm,mj]at hv ⊢;exact ih hv
theorem ZD{α:Type}{r:α->α->Prop}{l l':List (Nat×α)}(h:L2 (fun p q=>p.1=q.1/\r p.2 q.2) l l')(i:Nat)(hv:get l' i=none):get l i=none:=by
 induction h with
 |nil=>rfl
 | @cons p q l l' h1 _ ih =>
  obtain⟨k,v⟩:=p;obtain⟨k',u⟩:=q;obtain⟨h3,h2⟩:=h1;simp only at h3;subst h3;simp only[get,Cb]at hv ⊢
  by_cases hk:k=i
  ·simp[hk]at hv
  simp only[hk,mm,mj]at hv ⊢;exact ih hv
theorem JR{x:Loc}{b b':Blk}(he:Ic b b')(h:Bl M σ w x b):Bl M σ w x b':=by
 cases he with
 |refl=>exact h
 |cells ty h1 =>
  obtain⟨h0,c,hc,hl⟩:=h;exact⟨h0,c,hc,L2.trans3 (r:=R M σ) (r':=R M σ) (fun _ _ _=>iV) h1 hl⟩
 |row sz ty hl hf =>
  subst hl;rcases h with h0|⟨e0,cc,e1,e2,e3,e4,g,e5⟩
  ·exact .inl h0
  exact .inr ⟨e0,cc,e1,e2,e3,e4,g,fun i j hi hj=>⟨(e5 i j hi hj).1,eC (hf i j hi hj) _ (e5 i j hi hj).2⟩⟩
 |omap agg nv hl hk hf =>
  subst hl;obtain⟨e0,es,ck,g,e1,e2,e3,e4⟩:=h;exact⟨e0,es,ck,g,e1,e2,fun i e he=>by
   have hi:i<es.size:=(Array.getElem?_eq_some_iff.1 he).1;rw[<- hk i mz];exact e3 i e he,fun i j hi hj=>eC (hf i j hi hj) _ (e4 i j hi hj)⟩
 |rowx sz len f ty h1 =>
  obtain⟨e0,c,e1,e2,e3,e4,gv,e5,e6⟩:=h;refine⟨e0,c,e1,e2,e3,e4,gv,fun i j hi hj=>⟨(e5 i j hi hj).1,fun hn=>(e5 i j hi hj).2 (ZD h1 i hn)⟩,fun i l hl=>?_⟩;obtain⟨l0,hl0,he⟩:=Pz h1 i hl;exact⟨(e6 i l0 hl0).1,L2.trans3 (r:=R M σ) (r':=R M σ) (fun _ _ _=>iV) he (e6 i l0 hl0).2⟩
def TE:List (Nat×Tv)->List (Nat×Tv)->Prop:=L2 fun p q=>p.1=q.1/\TvE p.2 q.2
def HE:List (Nat×Blk)->List (Nat×Blk)->Prop:=L2 fun p q=>p.1=q.1/\Ic p.2 q.2
theorem ez(ht:TE s.t S.t)(hh:HE s.h S.h)(hs:Sim N W0 X M0 M σ (get s.t) (get s.h) a w):Sim N W0 X M0 M σ (get S.t) (get S.h) a w :=
 ⟨hs.os,hs.tape,hs.output,hs.size,hs.old,hs.sub,hs.new,hs.pin,hs.defers,hs.room,fun i v h=>(Pz ht i h).elim fun u hu=>ML hu.2 (hs.tmps i u hu.1),hs.imm,
  fun n b h=>(Pz hh n h).elim fun u hu=>JR hu.2 (hs.blk n u hu.1),fun n b h=>(Pz hh n h).elim fun u hu=>hs.loc n u hu.1,
  fun n m b c h1 h2=>(Pz hh n h1).elim fun u hu=>(Pz hh m h2).elim fun v hv=>hs.inj n m u v hu.1 hv.1⟩
theorem DD(S:AS)(ht:TE s.t S.t)(hh:HE s.h S.h):Cv N W0 X M0 s S:=fun M σ _ _ hs=>⟨M,σ,ez ht hh hs⟩
theorem Cq{f:FuncId}{xs xs':List Av}{e:Ef}(h:EI P f xs' e)(hx:L2 AvE xs xs'):EI P f xs e :=
 match h with
 |.inl h=>.inl ⟨h.1,fun M σ w hh args cs g hs hargs hr hc=>h.2 M σ w hh args cs g hs (L2.trans3 (r:=RA M σ) (r':=RA M σ) (fun _ _ _=>Tn) hx hargs) hr hc⟩
 |.inr ⟨cs,v,he,h⟩=>.inr ⟨cs,v,he,fun M σ w args himm hc hargs=>h M σ w args himm hc (L2.trans3 (r:=RA M σ) (r':=RA M σ) (fun _ _ _=>Tn) hx hargs)⟩
theorem yJ{f:FuncId}{xs xs':List Av}{r:Tv}(h:G4 P f xs' r)(hx:L2 AvE xs xs'):G4 P f xs r :=
 fun M σ w args himm hargs=>h M σ w args himm (L2.trans3 (r:=RA M σ) (r':=RA M σ) (fun _ _ _=>Tn) hx hargs)
def ceI(xs:List Av)(c:FuncId×List Av×Ef):FuncId×List Av×Ef:=(c.1,xs,c.2.2)
def My(P:Program)(N:Nat)(W0:World)(X:m6)(M0:m5)(fn:Func)(φ:Tv->AS->Prop):Exit->AS->Prop:=fun e s=>∃t,Cv N W0 X M0 s t/\RetQ P fn φ e t
theorem YF{f:FuncId}{fn:Func}{c:Code}(hf:P.funcs[f]? = some fn)(hb:fn.body=some c){xs:List Av}{r:Tv}(hN:Nat.ble xs.length fn.ntmps=true)(hd:r.dv=true)
 (h:∀(W0:World) (M0:m5),AWp P none fn.ntmps W0 noX M0 c (My P fn.ntmps W0 noX M0 fn fun r' _=>TvE r' r) ⟨FP 0 xs,[]⟩):G4 P f xs r:=by
 intro M σ w args himm hargs;refine Ew (X:=noX) (σ:=σ) (h0:=[]) hf hb (mr hN) himm hargs (fun n b h=>by cases h) (fun n b h=>by cases h) (fun n x h=>by cases h) (fun n m b c h=>by cases h) (EG (h w M)) ?_;rintro r' s' M' σ' a' w' U he hs hR;exact⟨U,rfl,M',⟨hs.os,hs.tape,hs.output,hs.size,fun b hb _=>hs.old b hb (He b),hs.sub,hs.new,hs.imm⟩,fun σ''=>IL hd (ML he hR)⟩
theorem Jw{f:FuncId}{fn:Func}{c:Code}(hf:P.funcs[f]? = some fn)(hb:fn.body=some c){K:Nat}{xs:List Av}{b0 b1:Blk}{r:Tv}(hN:Nat.ble xs.length fn.ntmps=true)(hK:Nat.ble fn.ntmps K=true)(hd:r.dv=true)(hd1:MF b1=true)
 (h:∀(W0:World) (M0:m5) (X:m6),DJ X W0 [K]->AWp P none fn.ntmps W0 X M0 c (My P fn.ntmps W0 X M0 fn fun r' s'=>TvE r' r/\∃b,get s'.h K=some b/\Ic b b1) ⟨FP 0 xs,[(K,b0)]⟩):Wr P f K xs b0 r b1:=by
 intro M σ w args himm hblk hnil hM hargs
 let X:m6:=upd noX K (some (σ K))
 have hX:X K=some (σ K):=BH _ _ _;have one:∀n b,get [(K,b0)] n=some b->n=K/\b=b0:=fun n b hn=>by
  simp only[get,Cb]at hn
  by_cases hk:K=n
  ·simp[hk]at hn;exact⟨hk.symm,hn.symm⟩
  simp[hk]at hn
 have pins:∀n x,X n=some x->n=K/\x=σ K:=fun n x hx=>by
  by_cases hk:n=K
  ·subst hk;rw[hX]at hx;injection hx with hx;exact⟨rfl,hx.symm⟩
  simp only[X]at hx;rw[CW _ _ hk]at hx;cases hx
 have hXK:∀k x,X k=some x->A6 [K] k=true:=fun k x hk=>by rw[(pins k x hk).1];exact OU _
 refine Ew (X:=X) (σ:=σ) (h0:=[(K,b0)]) hf hb (mr hN) himm hargs (fun n b hn=>?_) (fun n b hn=>?_) (fun n x hx=>?_) (fun n m b c hn hm hne=>?_) (EG (h w M X fun k x hk=>.inl (hXK k x hk))) ?_
 ·obtain⟨rfl,rfl⟩:=one n b hn;exact hblk
 ·obtain⟨rfl,rfl⟩:=one n b hn;exact .inr ⟨hM,n,σ n,hX,rfl⟩
 ·obtain⟨rfl,rfl⟩:=pins n x hx;exact⟨mr hK,rfl⟩
 ·exact absurd ((one n b hn).1.trans (one m c hm).1.symm) hne
 rintro r' s' M' σ' a' w' U ⟨he,b,hb1,hbe⟩ hs hR;have hpin:=(hs.pin K _ hX).2;have hbk:=hs.blk K _ hb1;rw[hpin]at hbk;refine⟨U,rfl,M',⟨hs.os,hs.tape,hs.output,hs.size,fun b hb hne=>hs.old b hb ?_,hs.sub,hs.new,hs.imm⟩,fun σ''=>IL hd (ML he hR),fun σ''=>Hd hd1 (JR hbe hbk)⟩;rintro⟨n,x,hx,rfl⟩;obtain⟨rfl,rfl⟩:=pins n x hx;exact hne ⟨hnil,rfl⟩
end
def prC(n:Nat):Cl->List (Nat×Nat)
 |.own m s l=>bif Nat.beq m n then [(l,s)]else []
 |_=>[]
def prA(n:Nat):Av->List (Nat×Nat)
 |.one c=>prC n c
 |.agg l=>l.flatMap (prC n)
def prT(n:Nat):Tv->List (Nat×Nat)
 |.av x=>prA n x
 |.tup l=>l.flatMap (prA n)
 |.grd _ x=>prA n x
def prB(n:Nat):Blk->List (Nat×Nat)
 |.cells l _=>l.flatMap (prC n)
 |.rowx _ _ _ _ hs=>hs.flatMap fun p=>p.2.flatMap (prC n)
 |_=>[]
def prS(n:Nat)(s:AS):List (Nat×Nat):=s.t.flatMap (fun p=>prT n p.2)++s.h.flatMap fun p=>prB n p.2
section
variable {n sz len:Nat}
theorem rF{c:Cl}(h:∀p∈prC n c,p=(len,sz)):fzP n sz len c:=by
 cases c with
 |own m s l =>
  simp only[prC,fzP]at *;cases hb:Nat.beq m n with
  |true =>
   rw[hb]at h;have:=h (l,s) (List.mem_singleton.2 rfl);exact⟨congrArg Prod.fst this,congrArg Prod.snd this⟩
  |false=>trivial
 |_=>trivial
theorem bS{l:List Cl}(h:∀p∈l.flatMap (prC n),p=(len,sz)):∀c∈l,fzP n sz len c:=fun c hc=>rF fun p hp=>h p (List.mem_flatMap.2 ⟨c,hc,hp⟩)
theorem bU{x:Av}(h:∀p∈prA n x,p=(len,sz)):Tl (fzP n sz len) x:=by
 cases x with
 |one c=>exact rF h
 |agg l=>exact bS h
theorem bR:∀ {l:List (Nat×Tv)},(∀p∈l.flatMap (fun p=>prT n p.2),p=(len,sz))->Zm (fzP n sz len) l
 |[],_=>trivial
 |(k,v)::l,h=>by
  refine⟨?_,bR fun p hp=>h p (List.mem_flatMap.2 (by obtain⟨q,h1,h2⟩:=List.mem_flatMap.1 hp;exact⟨q,lh _ h1,h2⟩))⟩;have hv:∀p∈prT n v,p=(len,sz):=fun p hp=>h p (List.mem_flatMap.2 ⟨(k,v),li ..,hp⟩);cases v with
  |av x=>exact bU hv
  |tup l=>exact fun x hx=>bU fun p hp=>hv p (List.mem_flatMap.2 ⟨x,hx,hp⟩)
  |grd _ x=>exact bU hv
theorem bT:∀ {l:List (Nat×Blk)},(∀p∈l.flatMap (fun p=>prB n p.2),p=(len,sz))->Xh (fzP n sz len) l
 |[],_=>trivial
 |(k,b)::l,h=>by
  have hr:=bT (l:=l) fun p hp=>h p (List.mem_flatMap.2 (by obtain⟨q,h1,h2⟩:=List.mem_flatMap.1 hp;exact⟨q,lh _ h1,h2⟩));have hv:∀p∈prB n b,p=(len,sz):=fun p hp=>h p (List.mem_flatMap.2 ⟨(k,b),li ..,hp⟩);cases b with
  |cells l ty=>exact⟨bS hv,hr⟩
  |row=>exact⟨trivial,hr⟩
  |omap=>exact⟨trivial,hr⟩
  |rowx _ _ _ _ hs =>
   refine⟨fun i l hl=>bS fun p hp=>hv p (List.mem_flatMap.2 ⟨(i,l),DH hl,hp⟩),hr⟩
end
def fzN(n:Nat)(s:AS):AS:=match get s.h n with
 |some (.row sz len f _)=>fzS n sz len f s
 |_=>s
def fzK(K:List Nat)(n:Nat)(s:AS):Bool:=xok K n s&&(match get s.h n with
 |some (.row ..)=>true
 |_=>false)
def fzE(n:Nat)(s:AS):List (Nat×Nat):=match get s.h n with
 |some (.row sz len _ _)=>(prS n s).map fun _=>(len,sz)
 |_=>[]
section
variable {N:Nat}{W0:World}{X:m6}{M0:m5}{s:AS}
theorem dK{K:List Nat}(n:Nat)(hX:DJ X W0 K)(hk:fzK K n s=true)(he:prS n s=fzE n s):Cv N W0 X M0 s (fzN n s):=by
 unfold fzK at hk;unfold fzE at he;unfold fzN;rw[me]at hk;obtain⟨h1,h2⟩:=hk;split at h2
 ·rename_i sz len f ty hn;rw[hn]at he;have hp:∀p∈prS n s,p=(len,sz):=fun p hp=>by
   rw[he]at hp;obtain⟨_,_,h⟩:=List.mem_map.1 hp;exact h.symm
  exact ji _ n sz len f ty hX h1 hn (bR fun p h=>hp p (List.mem_append.2 (.inl h))) (bT fun p h=>hp p (List.mem_append.2 (.inr h))) rfl
 cases h2
theorem KD{K:List Nat}(S:AS)(n:Nat)(hX:DJ X W0 K)(hk:fzK K n s=true:=by kernel_rfl)(he:prS n s=fzE n s:=by kernel_rfl)(hS:fzN n s=S:=by kernel_rfl):Cv N W0 X M0 s S:=hS▸dK n hX hk he
theorem Az{S:AS}(h:s=S):Cv N W0 X M0 s S:=h▸Cv.refl s
end
theorem F5{x y:Tv}(h:x=y):TvE x y:=h▸.refl x
theorem De{x y z:Tv}(h:TvE x y)(e:y=z):TvE x z:=e▸h
theorem Ea{x y:Blk}(h:x=y):Ic x y:=h▸.refl x
theorem XS{x y z:Blk}(h:Ic x y)(e:y=z):Ic x z:=e▸h
def HT{α:Type}[Inhabited α](sz len:Nat)(f:Nat->Nat->Cl)(c:α->List Cl)(xs:List α):Prop:=len=xs.length/\∀i j,i<xs.length->j<sz->ClE (f i j) (AL c xs i j)
section
variable {α:Type}[Inhabited α]{sz n m:Nat}{f g:Nat→Nat→Cl}{c:α→List Cl}{xs ys:List α}
theorem AU(sz:Nat)(c:α->List Cl)(xs:List α):HT sz xs.length (AL c xs) c xs:=⟨rfl,fun _ _ _ _=>.refl _⟩
theorem MS(sz:Nat)(c:α->List Cl)(xs:List α)(h:xs.length=n):HT sz n (AL c xs) c xs:=⟨h.symm,fun _ _ _ _=>.refl _⟩
theorem Bh(sz:Nat)(f:Nat->Nat->Cl)(c:α->List Cl):HT sz 0 f c []:=⟨rfl,fun _ _ h=>absurd h (lw _)⟩
theorem Ac(h:HT sz n f c xs)(k:HT sz m g c ys):HT sz (n+m) (fun i j=>if i<n then f i j else g (i-n) j) c (xs++ys):=by
 obtain⟨rfl,h⟩:=h;obtain⟨rfl,k⟩:=k;refine⟨List.length_append.symm,fun i j hi hj=>?_⟩;rw[<- xV c xs ys sz (AL c ys) (fun _ _ _ _=>rfl) i j hi hj];show ClE (if i<xs.length then f i j else g (i-xs.length) j) _
 by_cases hl:i<xs.length
 ·rw[if_pos hl,if_pos hl];exact h i j hl hj
 rw[if_neg hl,if_neg hl];exact k (i-xs.length) j (by rw[d9]at hi;omega) hj
theorem DU{l:List Cl}{off q k:Nat}(h:HT sz n f c xs)(hk:k<n)(v:α)(hv:∀j,j<sz->(if off<=j/\j<off+q then l.getD (j-off) default else(c (xs.getD k default)).getD j default)=(c v).getD j default) :
  HT sz n (fun i j=>if i=k/\off<=j/\j<off+q then l.getD (j-off) default else f i j) c (xs.set k v):=by
 obtain⟨rfl,h⟩:=h;refine⟨by simp,fun i j hi hj=>?_⟩;rw[<- xU c xs k v l sz off q hk hv i j hi hj];show ClE (if i=k/\off<=j/\j<off+q then l.getD (j-off) default else f i j) _;have hi':i<xs.length:=by simpa using hi
 by_cases hc:i=k/\off<=j/\j<off+q
 ·rw[if_pos hc,if_pos hc];exact .refl _
 rw[if_neg hc,if_neg hc];exact h i j hi' hj
theorem SV(h:HT sz n f c xs){a b:Int}(ha:0<=a)(hab:a<=b)(hb:b<=(n:Int)):HT sz (b.toNat-a.toNat) (fun i j=>f (i+a.toNat) j) c ((xs.take b.toNat).drop a.toNat):=by
 obtain⟨rfl,h⟩:=h;refine⟨by simp;omega,fun i j hi hj=>?_⟩;have hi':i<min b.toNat xs.length-a.toNat:=by simpa using hi
 suffices e:AL c xs (i+a.toNat) j=AL c ((xs.take b.toNat).drop a.toNat) i j by rw[<- e];exact h (i+a.toNat) j mz hj
 unfold AL;rw[aE,aE,aE,aE,List.getElem?_drop,List.getElem?_take_of_lt (show a.toNat+i<b.toNat by omega),Nat.add_comm]
theorem eZ{n':Nat}{f':Nat->Nat->Cl}(h:HT sz n f c xs)(q:Nat->Nat)(ys:List α)(hl:n'=ys.length)(hq:∀i,i<ys.length->q i<xs.length/\ys[i]? = xs[q i]?)(hf:∀i j,i<ys.length->f' i j=f (q i) j):HT sz n' f' c ys:=by
 refine⟨hl,fun i j hi hj=>?_⟩;obtain⟨h1,h2⟩:=hq i hi;rw[hf i j hi];have e:AL c xs (q i) j=AL c ys i j:=by
  unfold AL;rw[aE,aE,aE,aE,h2]
 rw[<- e];exact h.2 (q i) j h1 hj
def UF{α:Type}(xs:List α)(n1 lo2 n2:Nat):List α:=xs.take n1++(xs.drop lo2).take n2
def LP{α:Type}(xs:List α)(lo1 lo2 m:Nat):List α:=xs.take lo1++((xs.drop lo2).take m++xs.drop (lo1+m))
theorem rQ{α:Type}(xs:List α)(n1 lo2 n2:Nat):(UF xs n1 lo2 n2).length=min n1 xs.length+min n2 (xs.length-lo2):=by simp[UF]
theorem L0{α:Type}(xs:List α)(lo1 lo2 m:Nat):(LP xs lo1 lo2 m).length=min lo1 xs.length+(min m (xs.length-lo2)+(xs.length-(lo1+m))):=by simp[LP]
theorem OT(a b:Nat):Nat.min a b=min a b:=rfl
theorem UP{n1 lo2 n2:Nat}(h:HT sz n f c xs)(h1:n1<=n)(h2:lo2+n2<=n):HT sz (n1+n2) (fun i j=>if i<n1 then f i j else f (i-n1+lo2) j) c (UF xs n1 lo2 n2):=by
 obtain⟨rfl,_⟩:=id h;have hl:(UF xs n1 lo2 n2).length=n1+n2:=by simp[UF];omega
 refine eZ h (fun i=>if i<n1 then i else i-n1+lo2) _ hl.symm (fun i hi=>?_) (fun i j hi=>by by_cases hc:i<n1<;>simp[hc]);rw[hl]at hi;have ht:(xs.take n1).length=n1:=by rw[ki];omega
 unfold UF
 by_cases hc:i<n1
 ·simp only[if_pos hc];refine⟨by omega,?_⟩;rw[la mz,List.getElem?_take_of_lt hc]
 simp only[if_neg hc];refine⟨by omega,?_⟩;rw[kz mz,ht,List.getElem?_take_of_lt mz,List.getElem?_drop,Nat.add_comm]
theorem MR{lo1 lo2 m1 m2:Nat}(h:HT sz n f c xs)(h1:lo1+m1<=n)(h2:lo2+m2<=n):HT sz n (fun i j=>if lo1<=i/\i<lo1+Nat.min m2 m1 then f (i-lo1+lo2) j else f i j) c (LP xs lo1 lo2 (Nat.min m2 m1)):=by
 obtain⟨rfl,_⟩:=id h;have a1:Nat.min m2 m1<=m1:=Nat.min_le_right _ _;have a2:Nat.min m2 m1<=m2:=Nat.min_le_left _ _;generalize Nat.min m2 m1=m at *;have hl:(LP xs lo1 lo2 m).length=xs.length:=by simp[LP];omega
 refine eZ h (fun i=>if lo1<=i/\i<lo1+m then i-lo1+lo2 else i) _ hl.symm (fun i hi=>?_) (fun i j hi=>by
  by_cases hc:lo1<=i/\i<lo1+m
  ·simp only[if_pos hc]
  simp only[if_neg hc])
 rw[hl]at hi;have ht:(xs.take lo1).length=lo1:=by rw[ki];omega
 have ht2:((xs.drop lo2).take m).length=m:=by rw[ki,List.length_drop];omega
 unfold LP
 by_cases hc:lo1<=i/\i<lo1+m
 ·simp only[if_pos hc];refine⟨by omega,?_⟩;rw[kz mz,ht,la mz,List.getElem?_take_of_lt mz,List.getElem?_drop,Nat.add_comm]
 simp only[if_neg hc];refine⟨hi,?_⟩
 by_cases hb:i<lo1
 ·rw[la mz,List.getElem?_take_of_lt hb]
 rw[kz mz,ht,kz mz,ht2,List.getElem?_drop];congr 1;omega
theorem jC(h:HT sz n f c xs){a:Int}(ha:0<=a)(hab:a<=((n:Nat):Int)):HT sz (((n:Nat):Int).toNat-a.toNat) (fun i j=>f (i+a.toNat) j) c (xs.drop a.toNat):=by
 have:=SV h ha hab (Int.le_refl _)
 rwa [show xs.take ((n:Nat):Int).toNat=xs from by rw[h.1];simp]at this
theorem FF(h:HT sz n f c xs){b:Int}(hab:0<=b)(hb:b<=(n:Int)):HT sz (b.toNat-(0:Int).toNat) (fun i j=>f (i+(0:Int).toNat) j) c (xs.take b.toNat):=by
 have:=SV h (Int.le_refl 0) hab hb
 rwa [show(xs.take b.toNat).drop (0:Int).toNat=xs.take b.toNat from by simp]at this
def tab(n:Nat)(p:Nat->Cl):List Cl:=(List.range n).map p
def WX(n sz:Nat)(p:Nat->Nat->Cl):List (List Cl):=(List.range n).map fun i=>tab sz (p i)
theorem Do{n:Nat}{p q:Nat->Cl}(h:tab n p=tab n q):∀j,j<n->p j=q j:=by
 intro j hj;have:=congrArg (fun l=>l[j]?) h;simpa [tab,hj]using this
theorem BN(hl:n=xs.length)(h:WX n sz f=WX n sz (AL c xs)):HT sz n f c xs:=by
 refine⟨hl,fun i j hi hj=>?_⟩;subst hl;have:=congrArg (fun l=>l[i]?) h;simp only[WX,ld,lc hi,Option.map_some,l7]at this;rw[Do this j hj];exact .refl _
theorem Ai(sz:Nat)(c:α->List Cl)(xs:List α)(h:WX xs.length sz (A9 sz xs.length (xs.flatMap c))=WX xs.length sz (AL c xs):=by kernel_rfl):HT sz xs.length (A9 sz xs.length (xs.flatMap c)) c xs:=BN rfl h
theorem Dn{y z:List (List Cl)}(hl:n=xs.length)(e1:WX n sz f=y)(e2:WX n sz (AL c xs)=z)(h:L2 (L2 ClE) y z):HT sz n f c xs:=by
 refine⟨hl,fun i j hi hj=>?_⟩;subst hl;subst e1;subst e2;obtain⟨b,hb,hL⟩:=h.get i (tab sz (f i)) (by simp[WX,hi]);obtain⟨b',hb',hR⟩:=hL.get j (f i j) (by simp[tab,hj]);have e3:b=tab sz (AL c xs i):=by
  simp only[WX,ld,lc hi,Option.map_some,l7]at hb;exact hb.symm
 subst e3;simp only[tab,ld,lc hj,Option.map_some,l7]at hb';rw[hb'];exact hR
theorem BO(t:Bool)(h:HT sz n f c xs):ClE (.list t sz n f) (lst sz c xs):=by
 obtain⟨rfl,h⟩:=h;exact .list _ _ _ _ _ _ h (fun h=>by cases h)
theorem CS(ty:TypeId)(h:HT sz n f c xs):Ic (.row sz n f ty) (.row sz xs.length (AL c xs) ty):=.row _ _ h.1 h.2
theorem Ca(sz:Nat)(c:α->List Cl):ClE (.val (.slice none 0 0)) (lst sz c []):=.nil _ _
end
def Lx(n len:Nat):Cl->Cl
 |.own m s l=>bif Nat.beq m n then .own m s len else .own m s l
 |c=>c
def db(g:Cl->Cl):Tv->Tv
 |.av x=>.av (x.map g)
 |.tup l=>.tup (l.map (Av.map g))
 |v=>v
def fC(g:Cl->Cl):Blk->Blk
 |.cells l ty=>.cells (l.map g) ty
 |b=>b
def fD(n len:Nat)(f:Nat->Nat->Cl):List (Nat×Blk)->List (Nat×Blk)
 |[]=>[]
 |(k,b)::r=>bif Nat.beq k n then(k,match b with
  |.row sz _ _ ty=>.row sz len f ty
  |b=>b)::Q2 (fC (Lx n len)) r else(k,fC (Lx n len) b)::fD n len f r
def dc(n len:Nat)(f:Nat->Nat->Cl)(s:AS):AS:=⟨Q2 (db (Lx n len)) s.t,fD n len f s.h⟩
def qM(n:Nat)(s:AS):Option (Nat×Nat×(Nat->Nat->Cl)):=match get s.h n with
 |some (.row sz len f _)=>some (sz,len,f)
 |_=>none
section
variable {n sz len len':Nat}
theorem qB(e:len=len'){c:Cl}(h:fzP n sz len c):ClE c (Lx n len' c):=by
 cases c with
 |own m s l =>
  simp only[fzP]at h;simp only[Lx];cases hb:Nat.beq m n with
  |true=>rw[hb]at h;exact .own _ _ (h.1.trans e)
  |false=>exact .refl _
 |_=>exact .refl _
theorem bB(e:len=len'):∀ {l:List Cl},(∀c∈l,fzP n sz len c)->L2 ClE l (l.map (Lx n len'))
 |[],_=>.nil
 |c::l,h=>.cons (qB e (h c (li ..))) (bB e fun c hc=>h c (lh _ hc))
theorem qD(e:len=len'){x:Av}(h:Tl (fzP n sz len) x):AvE x (x.map (Lx n len')):=by
 cases x with
 |one c=>exact .one (qB e h)
 |agg l=>exact .agg (bB e h)
theorem fB(e:len=len'):∀ {l:List Av},(∀x∈l,Tl (fzP n sz len) x)->L2 AvE l (l.map (Av.map (Lx n len')))
 |[],_=>.nil
 |c::l,h=>.cons (qD e (h c (li ..))) (fB e fun c hc=>h c (lh _ hc))
theorem pZ(e:len=len'):∀ {l:List (Nat×Tv)},Zm (fzP n sz len) l->TE l (Q2 (db (Lx n len')) l)
 |[],_=>.nil
 |(k,v)::l,h=>by
  refine .cons ⟨rfl,?_⟩ (pZ e h.2);have h1:=h.1;cases v with
  |av x=>exact .av (qD e h1)
  |tup l=>exact .tup (fB e h1)
  |grd _ x=>exact .refl _
theorem qC(e:len=len'){b:Blk}(h:b6 (fzP n sz len) b):Ic b (fC (Lx n len') b):=by
 cases b with
 |cells l ty=>exact .cells _ (bB e h)
 |_=>exact .refl _
theorem qA(e:len=len'):∀ {l:List (Nat×Blk)},Xh (fzP n sz len) l->HE l (Q2 (fC (Lx n len')) l)
 |[],_=>.nil
 |(k,b)::l,h=>.cons ⟨rfl,qC e h.1⟩ (qA e h.2)
theorem fA{ty:TypeId}{f f':Nat->Nat->Cl}(e:len=len')(hf:∀i j,i<len'->j<sz->ClE (f i j) (f' i j)):∀ {l:List (Nat×Blk)},Xh (fzP n sz len) l->get l n=some (.row sz len f ty)->HE l (fD n len' f' l)
 |[],_,h=>by cases h
 |(k,b)::l,h,hg=>by
  unfold get at hg;unfold fD;cases hb:Nat.beq k n with
  |true =>
   rw[hb]at hg;injection hg with hg
   subst hg;exact .cons ⟨rfl,.row _ _ e hf⟩ (qA e h.2)
  |false =>
   rw[hb]at hg;exact .cons ⟨rfl,qC e h.1⟩ (fA e hf h.2 hg)
end
section
variable {N:Nat}{W0:World}{X:m6}{M0:m5}{s:AS}{α:Type}[Inhabited α]{sz len:Nat}{f:Nat→Nat→Cl}{c:α→List Cl}{xs:List α}
theorem Ag(n:Nat)(h:HT sz len f c xs)(hn:qM n s=some (sz,len,f):=by kernel_rfl)(he:prS n s=fzE n s:=by kernel_rfl):Cv N W0 X M0 s (dc n xs.length (AL c xs) s):=by
 unfold qM at hn;unfold fzE at he;split at hn
 ·rename_i sz' len' f' ty hg;injection hn with hn
  injection hn with h1 hn
  injection hn with h2 h3
  subst h1 h2 h3;rw[hg]at he;have hp:∀p∈prS n s,p=(len',sz'):=fun p hp=>by
   rw[he]at hp;obtain⟨_,_,h⟩:=List.mem_map.1 hp;exact h.symm
  exact DD _ (pZ h.1 (bR fun p h=>hp p (List.mem_append.2 (.inl h)))) (fA h.1 h.2 (bT fun p h=>hp p (List.mem_append.2 (.inr h))) hg)
 cases hn
theorem GJ(S:AS)(n:Nat)(h:HT sz len f c xs)(hn:qM n s=some (sz,len,f):=by kernel_rfl)(he:prS n s=fzE n s:=by kernel_rfl)(hS:dc n xs.length (AL c xs) s=S:=by kernel_rfl):Cv N W0 X M0 s S:=hS▸Ag n h hn he
end
def tI(x:Int):Tv:=.av (.one (.i x))
def tB(x:Bool):Tv:=.av (.one (.b x))
def tP(a b:Nat):Tv:=.av (.one (.ptr a b))
theorem L8{a n:Int}(ha:0<=a)(hn:0<n):0<=Int.tmod a n/\Int.tmod a n<n:=⟨Int.tmod_nonneg _ ha,Int.tmod_lt_of_pos _ hn⟩
end
section
open Go.RowKit
inductive NM:Cl->Prop
 | val (v:Value):NM (.val v)
 | ptr (n off:Nat):NM (.ptr n off)
 | own (n sz len:Nat):NM (.own n sz len)
 | rptr (n sz i off:Nat):NM (.rptr n sz i off)
 | om (n:Nat):NM (.om n)
 | any:NM .any
 | list (t:Bool) (sz len:Nat) (f:Nat->Nat->Cl) (h:∀ i j,NM (f i j)):NM (.list t sz len f)
 | eptr (sz len:Nat) (f:Nat->Nat->Cl) (i off:Nat) (h:∀ i j,NM (f i j)):NM (.eptr sz len f i off)
 | clo (g:FuncId) (k:Nat) (caps:Nat->Cl) (h:∀ i,NM (caps i)):NM (.clo g k caps)
section
variable {M M':m5}
theorem Qi(h:∀b c t f,M b=some (.cells c t f)->M' b=some (.cells c t f)){b o:Nat}{v:Value}(hv:F2 M b o=some v):F2 M' b o=some v:=by
 unfold F2 at *;cases hb:M b with
 |none=>rw[hb]at hv;cases hv
 |some x =>
  rw[hb]at hv;cases x with
  |cells c t f=>rw[h b c t f hb];exact hv
  |_=>cases hv
theorem XY(h:∀b c t f,M b=some (.cells c t f)->M' b=some (.cells c t f)){c:Cl}{V:Value}(hr:RC M c V):NM c->RC M' c V:=by
 induction hr with
 |val v h0=>intro _;exact .val v h0
 |nil t sz f h0=>intro _;exact .nil t sz f h0
 |mt t sz f a cap h5=>intro _;exact .mt t sz f a cap h5
 |list t sz len f b off cap g h1 h2 h4 h5 ih =>
  intro hn;cases hn with
  |list _ _ _ _ hf=>exact .list t sz len f b off cap g (fun i j hi hj=>Qi h (h1 i j hi hj)) (fun i j hi hj=>ih i j hi hj (hf i j)) h4 h5
 |clo f k caps cs h1 h2 ih =>
  intro hn;cases hn with
  |clo _ _ _ hf=>exact .clo f k caps cs h1 fun i hi=>ih i hi (hf i)
 |eptr sz len f i off b base g h1 h2 ih =>
  intro hn;cases hn with
  |eptr _ _ _ _ _ hf=>exact .eptr sz len f i off b base g (fun j hj=>Qi h (h1 j hj)) (fun j hj=>ih j hj (hf i j))
 |mp=>intro hn;cases hn
 |any V h0=>intro _;exact .any V h0
theorem iU(h:∀b c t f,M b=some (.cells c t f)->M' b=some (.cells c t f)){σ:Nat->Loc}:∀ {c:Cl} {V:Value},R M σ c V->NM c->R M' σ c V
 |.val _,_,hr,_=>hr
 |.ptr ..,_,hr,_=>hr
 |.own ..,_,hr,_=>hr
 |.rptr ..,_,hr,_=>hr
 |.osl ..,_,hr,_=>hr
 |.list ..,_,hr,hn=>XY h hr hn
 |.eptr ..,_,hr,hn=>XY h hr hn
 |.mp ..,_,_,hn=>by cases hn
 |.om ..,_,hr,_=>hr
 |.any,_,hr,_=>hr
 |.clo g k caps,_,hr,hn=>by
  obtain⟨cs,h1,h2,h3⟩:=hr;cases hn with
  |clo _ _ _ hf=>exact⟨cs,h1,h2,fun i hi=>iU h (h3 i hi) (hf i)⟩
def AvM(x:Av):Prop:=∀c∈x.cells,NM c
def TvM:Tv->Prop
 |.av x=>AvM x
 |.tup l=>∀x∈l,AvM x
 |.grd _ x=>AvM x
def TsM(t:List (Nat×Tv)):Prop:=∀n b,get t n=some b->TvM b
theorem Xa(h:∀b c t f,M b=some (.cells c t f)->M' b=some (.cells c t f)){σ:Nat->Loc}{x:Av}{V:Value}(hr:RA M σ x V)(hn:AvM x):RA M' σ x V:=by
 cases x with
 |one c=>exact iU h hr (hn c (by simp[Av.cells]))
 |agg l =>
  obtain⟨vs,h1,h2⟩:=hr;exact⟨vs,h1,h2.mono fun c hc b hb=>iU h hb (hn c (by simpa [Av.cells]using hc))⟩
theorem eB(h:∀b c t f,M b=some (.cells c t f)->M' b=some (.cells c t f)){σ:Nat->Loc}{x:Tv}{V:Value}(hr:RT M σ x V)(hn:TvM x):RT M' σ x V:=by
 cases x with
 |av x=>exact Xa h hr hn
 |tup l =>
  obtain⟨vs,h1,h2⟩:=hr;exact⟨vs,h1,h2.mono fun c hc b hb=>Xa h hb (hn c hc)⟩
 |grd g x=>exact⟨fun hg=>Xa h (hr.1 hg) hn,hr.2⟩
end
theorem vB{d:Nat}:∀ {c:Cl},c.dv=true->c.no d=true
 |.val _,_=>rfl
 |.any,_=>rfl
 |.list ..,_=>rfl
 |.eptr ..,_=>rfl
 |.mp ..,_=>rfl
 |.clo _ k caps,h=>by
  simp only[Cl.dv,Cl.no,ku]at *;exact fun i hi=>vB (h i hi)
def pvT(ids:List Nat):Tv->Bool
 |.av (.one (.ptr n _))=>A6 ids n
 |.av x=>x.dv
 |.tup l=>l.all Av.dv
 |.grd _ x=>x.dv
theorem MH{d:Nat}{x:Av}(h:x.dv=true):x.no d=true:=by
 cases x with
 |one c=>exact vB h
 |agg l=>simp only[Av.dv,Av.no,ku]at *;exact fun c hc=>vB (h c hc)
theorem FZ:∀ {l:List Nat} {n:Nat},A6 l n=true->n∈l
 |[],_,h=>by cases h
 |k::r,n,h=>by
  simp only[A6]at h;cases hk:Nat.beq k n with
  |true=>have:=lx hk;subst this;exact li ..
  |false=>rw[hk]at h;exact lh _ (FZ h)
theorem Sj{ids:List Nat}{d:Nat}{v:Tv}(h:pvT ids v=true)(hd:v.no d=false):d∈ids:=by
 have key:∀x:Av,x.dv=true->x.no d=false->False:=fun x h1 h2=>by rw[MH h1]at h2;cases h2
 cases v with
 |av x =>
  cases x with
  |one c =>
   cases c with
   |ptr n off =>
    have hn:n=d:=by simp[Tv.no,Av.no,Cl.no]at hd;exact hd
    subst hn;exact FZ h
   |_=>exact(key (.one _) h hd).elim
  |agg l=>exact(key (.agg l) h hd).elim
 |tup l =>
  simp only[pvT,ku]at h;simp only[Tv.no]at hd;have:l.all (Av.no d)=true:=by rw[ku];exact fun x hx=>MH (h x hx)
  rw[this]at hd;cases hd
 |grd g x=>exact(key x h hd).elim
def UT(t:List (Nat×Tv)):List Tmp->List Av->List (Nat×Tv)
 |p::ps,e::es=>UT ((p,.av e)::t) ps es
 |_,_=>t
theorem gY{M:m5}{σ:Nat->Loc}{N:Nat}:∀(ps:List Tmp) (es:List Av) (vs:List Value) (t:List (Nat×Tv)) (tm:Array Value),(∀i v,get t i=some v->RT M σ v (tm.getD i undef))->tm.size=N->L2 (RA M σ) es vs->ps.length=es.length->(∀p∈ps,p<N) ->
  ((ps.zip vs).foldl (fun t (x:Tmp×Value)=>t.setIfInBounds x.1 x.2) tm).size=N/\∀i v,get (UT t ps es) i=some v->RT M σ v (((ps.zip vs).foldl (fun t (x:Tmp×Value)=>t.setIfInBounds x.1 x.2) tm).getD i undef)
 |[],[],_,t,tm,h,hs,hl,_,_=>⟨hs,h⟩
 |[],_::_,_,_,_,_,_,_,hn,_=>by simp at hn
 |_::_,[],_,_,_,_,_,_,hn,_=>by simp at hn
 |p::ps,e::es,vs,t,tm,h,hs,hl,hn,hp=>by
  cases hl with
  |cons h1 h2 =>
   rename_i v vs;refine gY ps es vs ((p,.av e)::t) (tm.setIfInBounds p v) (fun i u hu=>?_) (by simpa using hs) h2 (by simpa using hn) (fun q hq=>hp q (lh _ hq));have hpN:=hp p (li ..);simp only[get,Cb]at hu
   by_cases hi:p=i
   ·subst hi;simp at hu;subst hu;have hpt:p<tm.size:=by rw[hs];exact hpN
    have:(tm.setIfInBounds p v).getD p undef=v:=by simp[l6,hpt]
    rw[this];exact h1
   simp[hi]at hu;have:(tm.setIfInBounds p v).getD i undef=tm.getD i undef:=by simp[l6,l5,hi]
   rw[this];exact h i u hu
structure OwS (Ow:World->Nat->Prop) (n0:Nat):Prop where
 st:∀ W W':World,n0<=W.heap.size->(∀ b,b<W.heap.size->W'.heap[b]? = W.heap[b]?)->∀ b,Ow W' b->Ow W b
def KpS(Ow:World->Nat->Prop)(W W':World):Prop:=W.heap.size<=W'.heap.size/\(∀b (o:Obj),W.heap[b]? = some o->o.isCells=true->¬ Ow W b->W'.heap[b]? = some o)/\∀b,Ow W' b->Ow W b\/(W.heap.size<=b/\b<W'.heap.size)
theorem KpS.trans{Ow:World->Nat->Prop}{A B C:World}(h1:KpS Ow A B)(h2:KpS Ow B C):KpS Ow A C:=by
 refine⟨ln h1.1 h2.1,fun b o hb hc ho=>?_,fun b hb=>?_⟩
 ·refine h2.2.1 b o (h1.2.1 b o hb hc ho) hc fun h=>?_;have hl:=(Array.getElem?_eq_some_iff.1 hb).1;rcases h1.2.2 b h with h3|h3
  ·exact ho h3
  omega
 rcases h2.2.2 b hb with h3|⟨h3,h4⟩
 ·exact(h1.2.2 b h3).imp id fun h5=>⟨h5.1,lp h5.2 h2.1⟩
 exact .inr ⟨ln h1.1 h3,h4⟩
section
variable {P:Program}{N:Nat}{W0 W W':World}{X:m6}{M0 M:m5}{σ:Nat→Loc}{T:Nat→Option Tv}{H:Nat→Option Blk}{a:Act}
def Blk.isM:Blk->Bool
 |.omap .. => true
 |_=>false
end
end
section
open Go.RowKit
def UE(pids:List Nat)(σ:Nat->Loc)(X:m6)(n:Nat):Option Loc:=bif A6 pids n then some (σ n)else X n
def Qb(fid:Nat)(fl:Loc)(X:m6)(n:Nat):Option Loc:=bif Nat.beq n fid then some fl else X n
def Mw(M1 M3:m5)(b:Nat):Option Obj:=match M1 b with
 |some o=>some o
 |none=>match M3 b with
  |some (.cells c t f)=>some (.cells c t f)
  |_=>none
def Cln(M M':m5):Prop:=(∀b o,M b=some o->M' b=some o)/\∀b o,M' b=some o->o.isCells=false->M b=some o
theorem KE{M1 M3:m5}(h:∀b o,M1 b=some o->M3 b=some o){b:Nat}{o:Obj}(hb:Mw M1 M3 b=some o):M3 b=some o:=by
 unfold Mw at hb;cases h1:M1 b with
 |some o'=>rw[h1]at hb;injection hb with hb;subst hb;exact h b _ h1
 |none =>
  rw[h1]at hb;cases h3:M3 b with
  |none=>rw[h3]at hb;cases hb
  |some o' =>
   rw[h3]at hb;cases o' with
   |cells c t f=>exact hb
   |_=>cases hb
theorem U9{M1 M3:m5}{b:Nat}{o:Obj}(h:M1 b=some o):Mw M1 M3 b=some o:=by unfold Mw;rw[h]
theorem TW{M1 M3:m5}(h:∀b o,M1 b=some o->M3 b=some o)(b:Nat)(c:Array Value)(t:TypeId)(f:Nat×Nat)(h3:M3 b=some (.cells c t f)):Mw M1 M3 b=some (.cells c t f):=by
 unfold Mw;cases h1:M1 b with
 |some o'=>have:=h b _ h1;rw[h3]at this;injection this with this;rw[this]
 |none=>simp only[h3]
theorem vJ{M M1 M3:m5}(hc:Cln M M1)(h:∀b o,M1 b=some o->M3 b=some o):Cln M (Mw M1 M3):=by
 refine⟨fun b o hb=>U9 (hc.1 b o hb),fun b o hb ho=>?_⟩;unfold Mw at hb;cases h1:M1 b with
 |some o'=>rw[h1]at hb;injection hb with hb;subst hb;exact hc.2 b _ h1 ho
 |none =>
  rw[h1]at hb;cases h3:M3 b with
  |none=>rw[h3]at hb;cases hb
  |some o' =>
   rw[h3]at hb;cases o' with
   |cells c t f=>injection hb with hb;subst hb;cases ho
   |_=>cases hb
section
variable {P:Program}{N:Nat}{W0 W W' w:World}{X:m6}{M0 M M' M3:m5}{σ σ' σ3:Nat→Loc}{T T':Nat→Option Tv}{H H':Nat→Option Blk}{a a':Act}{pids:List Nat}{fid:Nat}{fl:Loc}
end
end
section
open Go.RowKit
def bN(D:Nat)(M:m5)(b:Nat):Option Obj:=bif Nat.beq b D then some (.deferred (some []))else M b
theorem iA{M0 M:m5}:∀ {l:List Deferred} {d:Deferred},JC M0 M l->d∈l->∃D,d={ target:=.collected D,args := #[] }/\M D=some (.deferred (some []))
 |d0::l,d,h,hd=>by
  rcases List.mem_cons.1 hd with rfl|hd
  ·obtain⟨⟨D,h1,h2,_⟩,_⟩:=h;exact⟨D,h1,h2⟩
  exact iA h.2 hd
theorem qK{N:Nat}{W0 W:World}{XA X:m6}{M0 M:m5}{σ:Nat->Loc}{T:Nat->Option Tv}{H:Nat->Option Blk}{a:Act}{D:Nat}(hs:Sim N W0 XA M0 M σ T H a W)
 (hD:W.heap[D]? = some (.deferred (some [])))(hD0:M0 D=none)(hDl:W0.heap.size<=D)(hne:∀d'∈a.defers,d'≠{ target:=.collected D,args := #[] })(hpin:∀m x,X m=some x->N<=m/\σ m=x)(hXA:∀b,inX XA b->W0.heap.size<=b\/inX X b)(hnf:¬ Tu X) :
  Sim N W0 X M0 (bN D M) σ T H { a with defers:={ target:=.collected D,args := #[] }::a.defers } W:=by
 have hM:∀b o,M b=some o->bN D M b=some o:=fun b o h=>by
  unfold bN;cases hb:Nat.beq b D with
  |true =>
   have:=lx hb;subst this;have h2:=hs.imm b o h;rw[hD]at h2;exact h2
  |false=>exact h
 have hput:bN D M D=some (.deferred (some [])):=by unfold bN;rw[Nat.beq_refl];rfl
 have hoth:∀b,b≠D->bN D M b=M b:=fun b h=>by unfold bN;rw[show Nat.beq b D=false by rw[Cb];simp[h]];rfl
 refine⟨hs.os,hs.tape,hs.output,hs.size,fun b hb hx=>hs.old b hb fun h=>?_,fun b o h=>hM b o (hs.sub b o h),fun b o h h' => ?_,hpin,⟨⟨⟨D,rfl,hput,hD0,hne⟩,JC.mono hM hs.defers.1⟩,fun h=>absurd h hnf⟩,hs.room,fun i v h=>D6 hM (fun _ _=>rfl) (hs.tmps i v h),fun b o h=>?_,fun n b h=>(hs.blk n b h).mono hM (fun _ _=>rfl) (fun _=>rfl),fun n b h=>?_,hs.inj⟩
 ·rcases hXA b h with h|h
  ·omega
  exact hx h
 ·by_cases e:b=D
  ·subst e;exact hDl
  rw[hoth b e]at h;exact hs.new b o h h'
 ·by_cases e:b=D
  ·subst e;rw[hput]at h;injection h with h;subst h;exact hD
  rw[hoth b e]at h;exact hs.imm b o h
 by_cases hn:(σ n).nil=true
 ·exact .inl hn
 rcases hs.loc n b h with h1|⟨h1,h2⟩
 ·exact .inl h1
 refine .inr ⟨?_,?_⟩
 ·rw[hoth _ fun e=>?_]
  ·exact h1
  have h3:=hs.blk n b h;cases b with
  |cells l ty=>obtain⟨_,c,hc,_⟩:=h3;rw[e,hD]at hc;cases hc
  |row sz len f ty =>
   rcases h3 with ⟨h4,_⟩|⟨_,c,hc,_⟩
   ·exact hn h4
   rw[e,hD]at hc;cases hc
  |omap=>obtain⟨_,es,ck,g,hc,_⟩:=h3;rw[e,hD]at hc;cases hc
  |rowx=>obtain⟨_,c,hc,_⟩:=h3;rw[e,hD]at hc;cases hc
 rcases h2 with h2|h2
 ·exact .inl h2
 exact hXA _ h2
section
variable {P:Program}{N:Nat}{W0:World}{X:m6}{M0:m5}
end
end
end Go.Proofs.YtheobjkgllmnmaaGreat
