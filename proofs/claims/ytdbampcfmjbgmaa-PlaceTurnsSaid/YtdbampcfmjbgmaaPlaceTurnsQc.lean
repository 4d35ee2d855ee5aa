/-
  No statement is proved in this text. It holds a part of what the proof of PlaceTurns needs.
-/
import Derived.Test.YtdbampcfmjbgmaaPlaceTurnsQb
namespace Go.Proofs.Ytdbampcfmjbgmaa
set_option maxRecDepth 100000
set_option linter.unusedVariables false
set_option linter.unusedSimpArgs false
open Go.RowKit
section
open Go.RowKit
theorem aL:Try.prog.follows .mixedOrders=true:=by kernel_rfl
structure AD where
 X:Int
 Y:Int
 deriving Inhabited
def AD.c (x:AD):List Cl:=[.i x.X,.i x.Y]
structure AV where
 At:AD
 Turn:Int
 Mirror:Bool
 deriving Inhabited
def AV.c (x:AV):List Cl:=[.i x.At.X,.i x.At.Y,.i x.Turn,.b x.Mirror]
structure AO where
 Kind:Int
 A:AD
 B:AD
 C:AD
 deriving Inhabited
def AO.c (x:AO):List Cl:=[.i x.Kind,.i x.A.X,.i x.A.Y,.i x.B.X,.i x.B.Y,.i x.C.X,.i x.C.Y]
structure Al where
 X0:Int
 Y0:Int
 X1:Int
 Y1:Int
 deriving Inhabited
def Al.c (x:Al):List Cl:=[.i x.X0,.i x.Y0,.i x.X1,.i x.Y1]
structure AC where
 L:(List Int)
 At:Int
 deriving Inhabited
def AC.c (x:AC):List Cl:=[lst 1 (fun x=>[.i x]) x.L,.i x.At]
structure OpL where
 len:Nat
 f:Nat->Nat->Cl
 deriving Inhabited
abbrev opL (x:OpL):Cl:=.list false 8 x.len x.f
structure Ab where
 Ref:ByteArray
 Pad:ByteArray
 deriving Inhabited
def Ab.c (x:Ab):List Cl:=[.s x.Ref,.s x.Pad]
structure A3 where
 Name:ByteArray
 Pins:(List Ab)
 deriving Inhabited
def A3.c (x:A3):List Cl:=[.s x.Name,lst 2 Ab.c x.Pins]
structure AF where
 Id:Int
 Ref:ByteArray
 Type':ByteArray
 At:AD
 Turn:Int
 Under:Bool
 deriving Inhabited
def AF.c (x:AF):List Cl:=[.i x.Id,.s x.Ref,.s x.Type',.i x.At.X,.i x.At.Y,.i x.Turn,.b x.Under]
structure Ah where
 Kind:Int
 Edges:(List AO)
 R:Int
 deriving Inhabited
def Ah.c (x:Ah):List Cl:=[.i x.Kind,lst 7 AO.c x.Edges,.i x.R]
structure A1 where
 Name:ByteArray
 Shape:Ah
 At:AD
 Drill:Int
 deriving Inhabited
def A1.c (x:A1):List Cl:=[.s x.Name,.i x.Shape.Kind,lst 7 AO.c x.Shape.Edges,.i x.Shape.R,.i x.At.X,.i x.At.Y,.i x.Drill]
structure Bm where
 Pad:ByteArray
 Group:Int
 deriving Inhabited
def Bm.c (x:Bm):List Cl:=[.s x.Pad,.i x.Group]
structure Az where
 Kind:Int
 Legs:(List Bm)
 deriving Inhabited
def Az.c (x:Az):List Cl:=[.i x.Kind,lst 2 Bm.c x.Legs]
structure AQ where
 Name:ByteArray
 Pads:(List A1)
 Gates:(List Az)
 deriving Inhabited
def AQ.c (x:AQ):List Cl:=[.s x.Name,lst 7 A1.c x.Pads,lst 2 Az.c x.Gates]
structure Aj where
 Id:Int
 Net:ByteArray
 Layer:Int
 Shape:Ah
 deriving Inhabited
def Aj.c (x:Aj):List Cl:=[.i x.Id,.s x.Net,.i x.Layer,.i x.Shape.Kind,lst 7 AO.c x.Shape.Edges,.i x.Shape.R]
structure Br where
 Id:Int
 Net:ByteArray
 At:AD
 R:Int
 Drill:Int
 From:Int
 To:Int
 deriving Inhabited
def Br.c (x:Br):List Cl:=[.i x.Id,.s x.Net,.i x.At.X,.i x.At.Y,.i x.R,.i x.Drill,.i x.From,.i x.To]
structure BB where
 Id:Int
 Net:ByteArray
 Layer:Int
 Pitch:Int
 Priority:Int
 Relief:Int
 Spoke:Int
 Rects:(List Al)
 deriving Inhabited
def BB.c (x:BB):List Cl:=[.i x.Id,.s x.Net,.i x.Layer,.i x.Pitch,.i x.Priority,.i x.Relief,.i x.Spoke,lst 4 Al.c x.Rects]
structure BQ where
 Id:Int
 Layer:Int
 Shape:Ah
 deriving Inhabited
def BQ.c (x:BQ):List Cl:=[.i x.Id,.i x.Layer,.i x.Shape.Kind,lst 7 AO.c x.Shape.Edges,.i x.Shape.R]
structure BX where
 Id:Int
 Shape:Ah
 deriving Inhabited
def BX.c (x:BX):List Cl:=[.i x.Id,.i x.Shape.Kind,lst 7 AO.c x.Shape.Edges,.i x.Shape.R]
structure BI where
 Name:ByteArray
 Nets:(List ByteArray)
 deriving Inhabited
def BI.c (x:BI):List Cl:=[.s x.Name,lst 1 (fun x=>[.s x]) x.Nets]
structure BL where
 Op:Int
 Text:ByteArray
 N:Int
 Box:Al
 L:OpL
 deriving Inhabited
def BL.c (x:BL):List Cl:=[.i x.Op,.s x.Text,.i x.N,.i x.Box.X0,.i x.Box.Y0,.i x.Box.X1,.i x.Box.Y1,opL x.L]
structure Ap where
 Name:ByteArray
 Priority:Int
 What:Int
 A:BL
 B:BL
 Value:Int
 deriving Inhabited
def Ap.c (x:Ap):List Cl:=[.s x.Name,.i x.Priority,.i x.What,.i x.A.Op,.s x.A.Text,.i x.A.N,.i x.A.Box.X0,.i x.A.Box.Y0,.i x.A.Box.X1,.i x.A.Box.Y1,opL x.A.L,.i x.B.Op,.s x.B.Text,.i x.B.N,.i x.B.Box.X0,.i x.B.Box.Y0,.i x.B.Box.X1,.i x.B.Box.Y1,opL x.B.L,.i x.Value]
structure Am where
 A:Int
 B:Int
 Rule:ByteArray
 deriving Inhabited
def Am.c (x:Am):List Cl:=[.i x.A,.i x.B,.s x.Rule]
structure BT where
 Name:ByteArray
 Nets:(List ByteArray)
 Within:Int
 deriving Inhabited
def BT.c (x:BT):List Cl:=[.s x.Name,lst 1 (fun x=>[.s x]) x.Nets,.i x.Within]
structure AG where
 Layers:Int
 Outline:Ah
 Parts:(List AF)
 Nets:(List A3)
 Tracks:(List Aj)
 Vias:(List Br)
 Pours:(List BB)
 Keeps:(List BQ)
 Slots:(List BX)
 Classes:(List BI)
 Rules:(List Ap)
 Waivers:(List Am)
 Matches:(List BT)
 deriving Inhabited
def AG.c (x:AG):List Cl:=[.i x.Layers,.i x.Outline.Kind,lst 7 AO.c x.Outline.Edges,.i x.Outline.R,lst 7 AF.c x.Parts,lst 2 A3.c x.Nets,lst 6 Aj.c x.Tracks,lst 8 Br.c x.Vias,lst 8 BB.c x.Pours,lst 5 BQ.c x.Keeps,lst 4 BX.c x.Slots,lst 2 BI.c x.Classes,lst 20 Ap.c x.Rules,lst 3 Am.c x.Waivers,lst 3 BT.c x.Matches]
structure A5 where
 Id:Int
 Pad:ByteArray
 Kind:Int
 Net:ByteArray
 From:Int
 To:Int
 Shape:Ah
 deriving Inhabited
def A5.c (x:A5):List Cl:=[.i x.Id,.s x.Pad,.i x.Kind,.s x.Net,.i x.From,.i x.To,.i x.Shape.Kind,lst 7 AO.c x.Shape.Edges,.i x.Shape.R]
structure aN where
 deriving Inhabited
def aN.c (x:aN):List Cl:=[]
def eqE:TypeId->Option (List Kd):=fun T=>get [(25,[.str,.str]),(52,[.int .i64,.int .i64]),(66,[.int .i64,.int .i64,.int .i64,.bool]),(76,[.int .i64,.int .i64,.int .i64,.int .i64]),(133,[.int .i64,.int .i64,.int .i64,.int .i64,.int .i64,.int .i64,.int .i64])] T
theorem D9:IW Try.prog ⟨fun _=>none,eqE,fun _=>false,fun _=>none⟩:=by
 intro T ks h
 have hm:(T,ks)∈_:=De h
 simp only [List.mem_cons,Prod.mk.injEq,List.not_mem_nil,or_false] at hm
 rcases hm with ⟨rfl,rfl⟩ | ⟨rfl,rfl⟩ | ⟨rfl,rfl⟩ | ⟨rfl,rfl⟩ | ⟨rfl,rfl⟩
 all_goals exact ⟨by kernel_rfl,by kernel_rfl,_,rfl,rfl⟩
theorem rg {rd:Option Nat} {N:Nat} {W0:World} {X:Nat→Option Loc} {M0:Nat→Option Obj} {Q:Exit→AS→Prop} {s:AS} {id:Nat} {l:List Oper} (S:AS) (h:Q .normal S) (hr:Ni Try.prog ⟨G5 [],eqE,BM [],get []⟩ N l (S.t.map Prod.fst) (S.h.map Prod.fst) s=some ([],S):=by kernel_rfl):AWp Try.prog rd N W0 X M0 (.region id l.toArray false) Q s:=DW D9 [] [] [] _ _ [] S .nil hr .nil h
theorem rn {rd:Option Nat} {N:Nat} {W0:World} {X:Nat→Option Loc} {M0:Nat→Option Obj} {K:AS→Prop} {Q:Exit→AS→Prop} {s:AS} {id:Nat} {l:List Oper} (S:AS) (h:K S) (hr:Ni Try.prog ⟨G5 [],eqE,BM [],get []⟩ N l (S.t.map Prod.fst) (S.h.map Prod.fst) s=some ([],S):=by kernel_rfl):AWp Try.prog rd N W0 X M0 (.region id l.toArray false) (ATh K Q) s:=rg S (AH h) hr
theorem rc {rd:Option Nat} {N:Nat} {W0:World} {X:Nat→Option Loc} {M0:Nat→Option Obj} {Q:Exit→AS→Prop} {s:AS} {id:Nat} {l:List Oper} (tbl:List (Nat×FuncId×List Av×Ef)) (cs:List Prop) (S:AS) (htbl:Gp Try.prog tbl) (hc:Bs cs) (h:Q .normal S) (hr:Ni Try.prog ⟨G5 tbl,eqE,BM [],get []⟩ N l (S.t.map Prod.fst) (S.h.map Prod.fst) s=some (cs,S):=by kernel_rfl):AWp Try.prog rd N W0 X M0 (.region id l.toArray false) Q s:=DW D9 [] [] tbl _ _ cs S htbl hr hc h
abbrev gi (c:Bool):Prop:=c=false→c=false
abbrev gt (c:Bool):Prop:=c=true→c=true
abbrev gj (c:Bool) (p:Prop):Prop:=c=false→p
abbrev gk (c:Bool) (p:Prop):Prop:=c=true→p
theorem ci {p:Prop} {l:List Prop} (h:Bs l):Bs ((p→p)::l):=.cons id h
abbrev tO (c:Cl):Tv:=.av (.one c)
abbrev gD (l:List Cl):Nat→Nat→Cl:=fun _ j_=>l.getD j_ default
theorem rr {a:Cl} {x y:List Cl} (h:L2 ClE x y):L2 ClE (a::x) (a::y):=.cons (.refl _) h
theorem oT {p:Prop} [Decidable p] (h:decide p=true):p:=of_decide_eq_true h
theorem oF {p:Prop} [Decidable p] (h:decide p=false):¬ p:=of_decide_eq_false h
theorem vk {N:Nat} {W0:World} {X:Nat→Option Loc} {M0:Nat→Option Obj} {s:AS} (ts ns:List Nat):Cv N W0 X M0 s (Js ts ns s):=UY ts ns _ rfl
theorem ck {N:Nat} {W0:World} {X:Nat→Option Loc} {M0:Nat→Option Obj} {s:AS} (S:AS) (h:Js (S.t.map Prod.fst) (S.h.map Prod.fst) s=S:=by kernel_rfl):Cv N W0 X M0 s S:=UY _ _ S h
theorem wr {N:Nat} {W0:World} {X:Nat→Option Loc} {M0:Nat→Option Obj} {s:AS} {K:List Nat} (S:AS) (q d:Nat) (hX:∀ k x,X k=some x→BM K k=true) (h1:P5 K q=true:=by kernel_rfl) (h2:P5 K d=true:=by kernel_rfl) (hd:noD d s=true:=by kernel_rfl) (hS:Yx q d s=S:=by kernel_rfl):Cv N W0 X M0 s S:=cQ S q d hX h1 h2 hd hS
theorem vr {N:Nat} {W0:World} {X:Nat→Option Loc} {M0:Nat→Option Obj} {s:AS} {K:List Nat} (q d:Nat) (hX:∀ k x,X k=some x→BM K k=true) (h1:P5 K q=true:=by kernel_rfl) (h2:P5 K d=true:=by kernel_rfl) (hd:noD d s=true:=by kernel_rfl):Cv N W0 X M0 s (Yx q d s):=wr _ q d hX h1 h2 hd rfl
theorem wf {N:Nat} {W0:World} {X:Nat→Option Loc} {M0:Nat→Option Obj} {s:AS} {K:List Nat} (S:AS) (n sz len:Nat) (f:Nat→Nat→Cl) (ty:TypeId) (hX:∀ k x,X k=some x→BM K k=true) (ho:Bs (Sp n sz len s.t (RF n sz len s.h))) (hK:xok K n s=true:=by kernel_rfl) (hn:get s.h n=some (.row sz len f ty):=by kernel_rfl) (hS:fzS n sz len f s=S:=by kernel_rfl):Cv N W0 X M0 s S:=cv_fz S n sz len f ty hX hK hn ho hS
theorem vf {N:Nat} {W0:World} {X:Nat→Option Loc} {M0:Nat→Option Obj} {s:AS} {K:List Nat} (n sz len:Nat) (f:Nat→Nat→Cl) (ty:TypeId) (hX:∀ k x,X k=some x→BM K k=true) (ho:Bs (Sp n sz len s.t (RF n sz len s.h))) (hK:xok K n s=true:=by kernel_rfl) (hn:get s.h n=some (.row sz len f ty):=by kernel_rfl):Cv N W0 X M0 s (fzS n sz len f s):=wf _ n sz len f ty hX ho hK hn rfl
theorem wg {N:Nat} {W0:World} {X:Nat→Option Loc} {M0:Nat→Option Obj} {s:AS} {K:List Nat} (S:AS) (d sz:Nat) (f:Nat→Nat→Cl) (ty:TypeId) (it ih:List (Nat×List Nat)) (hX:∀ k x,X k=some x→BM K k=true) (h2:P5 K d=true:=by kernel_rfl) (hd:noD d s=true:=by kernel_rfl) (hS:ghS d sz f ty it ih s=S:=by kernel_rfl):Cv N W0 X M0 s S:=YD S d sz f ty it ih hX h2 hd hS
theorem vg {N:Nat} {W0:World} {X:Nat→Option Loc} {M0:Nat→Option Obj} {s:AS} {K:List Nat} (d sz:Nat) (f:Nat→Nat→Cl) (ty:TypeId) (it ih:List (Nat×List Nat)) (hX:∀ k x,X k=some x→BM K k=true) (h2:P5 K d=true:=by kernel_rfl) (hd:noD d s=true:=by kernel_rfl):Cv N W0 X M0 s (ghS d sz f ty it ih s):=wg _ d sz f ty it ih hX h2 hd rfl
theorem rs {rd:Option Nat} {N:Nat} {W0:World} {X:Nat→Option Loc} {M0:Nat→Option Obj} {Q:Exit→AS→Prop} {s:AS} {id:Nat} {l:List Oper} (d:Nat) (c:FuncId×List Av×Ef) (S:AS) (hx:EB Try.prog c.1 c.2.1 c.2.2) (h:Q .normal S) (hr:Ni Try.prog ⟨G5 [(d,c)],eqE,BM [],get []⟩ N l (S.t.map Prod.fst) (S.h.map Prod.fst) s=some ([Aw c.2.1],S):=by kernel_rfl):AWp Try.prog rd N W0 X M0 (.region id l.toArray false) Q s:=rc _ _ S (.cons hx .nil) (.cons rfl .nil) h hr
theorem rb {rd:Option Nat} {N:Nat} {W0:World} {X:Nat→Option Loc} {M0:Nat→Option Obj} {Q:Exit→AS→Prop} {s:AS} {id:Nat} {l:List Oper} (d:Nat) (c:FuncId×List Av×Ef) (b:Blk) (S:AS) (hx:EB Try.prog c.1 c.2.1 c.2.2) (h:Q .normal S) (hr:Ni Try.prog ⟨G5 [(d,c)],eqE,BM [],get []⟩ N l (S.t.map Prod.fst) (S.h.map Prod.fst) s=some ([Aw c.2.1,Bu b],S):=by kernel_rfl):AWp Try.prog rd N W0 X M0 (.region id l.toArray false) Q s:=rc _ _ S (.cons hx .nil) (.cons rfl (.cons rfl .nil)) h hr
theorem nz {a:Nat} {p:Prop} (h:a<0):p:=absurd h (Nat.not_lt_zero _)
abbrev gp (p:Prop):Prop:=p→p
abbrev t2 (c:Bool) (l:List Prop):List Prop:=gt c::gt c::l
abbrev i2 (c:Bool) (l:List Prop):List Prop:=gi c::gi c::l
theorem c2 {p:Prop} {l:List Prop} (h:Bs l):Bs ((p→p)::(p→p)::l):=ci (ci h)
abbrev t3 (c:Bool) (l:List Prop):List Prop:=gt c::gt c::gt c::l
abbrev i3 (c:Bool) (l:List Prop):List Prop:=gi c::gi c::gi c::l
theorem c3 {p:Prop} {l:List Prop} (h:Bs l):Bs ((p→p)::(p→p)::(p→p)::l):=ci (ci (ci h))
abbrev t4 (c:Bool) (l:List Prop):List Prop:=gt c::gt c::gt c::gt c::l
abbrev i4 (c:Bool) (l:List Prop):List Prop:=gi c::gi c::gi c::gi c::l
theorem c4 {p:Prop} {l:List Prop} (h:Bs l):Bs ((p→p)::(p→p)::(p→p)::(p→p)::l):=ci (ci (ci (ci h)))
abbrev t5 (c:Bool) (l:List Prop):List Prop:=gt c::gt c::gt c::gt c::gt c::l
abbrev i5 (c:Bool) (l:List Prop):List Prop:=gi c::gi c::gi c::gi c::gi c::l
theorem c5 {p:Prop} {l:List Prop} (h:Bs l):Bs ((p→p)::(p→p)::(p→p)::(p→p)::(p→p)::l):=ci (ci (ci (ci (ci h))))
theorem xl {P:Program} {N:Nat} {W0:World} {X:Nat→Option Loc} {M0:Nat→Option Obj} {fn:Func} {φ:Tv→AS→Prop} {s:AS} (V:Tv) (h:φ V s) (hr:Sd P s fn.results.toList=some V:=by kernel_rfl):Nt P N W0 X M0 fn φ .ret s:=⟨_,Cv.refl _,.inl rfl,V,hr,h⟩
theorem xn {P:Program} {N:Nat} {W0:World} {X:Nat→Option Loc} {M0:Nat→Option Obj} {fn:Func} {φ:Tv→AS→Prop} {s:AS} (V:Tv) (h:φ V s) (hr:Sd P s fn.results.toList=some V:=by kernel_rfl):Nt P N W0 X M0 fn φ .normal s:=⟨_,Cv.refl _,.inr rfl,V,hr,h⟩
theorem yl {P:Program} {N:Nat} {W0:World} {X:Nat→Option Loc} {M0:Nat→Option Obj} {fn:Func} {φ:Tv→AS→Prop} {s t:AS} (cv:Cv N W0 X M0 s t) (V:Tv) (h:φ V t) (hr:Sd P t fn.results.toList=some V:=by kernel_rfl):Nt P N W0 X M0 fn φ .ret s:=⟨_,cv,.inl rfl,V,hr,h⟩
theorem yn {P:Program} {N:Nat} {W0:World} {X:Nat→Option Loc} {M0:Nat→Option Obj} {fn:Func} {φ:Tv→AS→Prop} {s t:AS} (cv:Cv N W0 X M0 s t) (V:Tv) (h:φ V t) (hr:Sd P t fn.results.toList=some V:=by kernel_rfl):Nt P N W0 X M0 fn φ .normal s:=⟨_,cv,.inr rfl,V,hr,h⟩
theorem dw {rd:Option Nat} {N:Nat} {W0:World} {X:Nat→Option Loc} {M0:Nat→Option Obj} {Q:Exit→AS→Prop} {s:AS} {id:Nat} {l:List Oper} (ow:List Nat) (tbl:List (Nat×FuncId×List Av×Ef)) (cs:List Prop) (S:AS) (htbl:Gp Try.prog tbl) (hc:Bs cs) (h:Q .normal S) (hr:Ni Try.prog ⟨G5 tbl,eqE,BM ow,get []⟩ N l (S.t.map Prod.fst) (S.h.map Prod.fst) s=some (cs,S):=by kernel_rfl) (hd:UW Try.prog ⟨G5 tbl,eqE,BM ow,get []⟩ N l s=true:=by kernel_rfl):AWp Try.prog rd N W0 X M0 (.region id l.toArray true) Q s:=Ug aL D9 ow [] tbl _ _ cs S htbl hr hd hc h
abbrev CT:=FuncId×List Av×Ef
theorem hk0:∀ k x,noX k=some x→BM [] k=true:=fun k x h=>by cases h
abbrev OKc (c:CT):Prop:=EB Try.prog c.1 c.2.1 c.2.2
abbrev dfc:Nat→Cl:=fun _=>default
abbrev eIn:Int→List Cl:=fun x=>[.i x]
theorem oM {p:Prop} (h:p:=by omega):p:=h
abbrev PuP (f:FuncId) (xs:List Av) (r:Tv):Prop:=FG Try.prog f xs r
theorem pwf {f:FuncId} {fn:Func} {c:Code} (hf:Try.prog.funcs[f]? = some fn) {xs:List Av} {r:Tv}
    (h:∀ (W0:World) (M0:Nat→Option Obj),AWp Try.prog none fn.ntmps W0 noX M0 c (Nt Try.prog fn.ntmps W0 noX M0 fn fun r' _=>TvE r' r) ⟨EN 0 xs,[]⟩) (hb:fn.body=some c:=by rfl) (hN:Nat.ble xs.length fn.ntmps=true:=by kernel_rfl) (hd:r.dv=true:=by kernel_rfl):PuP f xs r:=Q5 hf hb hN hd h
theorem cWr {f:FuncId} {K n:Nat} {xs:List Av} {b0 b1:Blk} {r:Tv} (h:Wr Try.prog f K xs b0 r b1) (h1:∀ args w,(callFunc f args).run Try.prog w=.ok (.enter f args) w:=by intros;kernel_rfl) (hx:xs.all (Wi K)=true:=by kernel_rfl) (hd0:Ht b0=true:=by kernel_rfl):EB Try.prog f (xs.map (Bq K n)) (wrI n b0 r b1):=VZ h1 hx hd0 h
theorem cPu {f:FuncId} {xs:List Av} {cs:List Prop} {r:Tv} (h:FG Try.prog f xs r) (h1:∀ args w,(callFunc f args).run Try.prog w=.ok (.enter f args) w:=by intros;kernel_rfl):EB Try.prog f xs (.val cs r):=Rw h1 fun _=>h
theorem rr2 {a b:Cl} {x y:List Cl} (q:L2 ClE x y):L2 ClE (a::b::x) (a::b::y):=rr (rr q)
theorem rr3 {a b c:Cl} {x y:List Cl} (q:L2 ClE x y):L2 ClE (a::b::c::x) (a::b::c::y):=rr (rr (rr q))
theorem rr4 {a b c d:Cl} {x y:List Cl} (q:L2 ClE x y):L2 ClE (a::b::c::d::x) (a::b::c::d::y):=rr (rr (rr (rr q)))
theorem rr5 {a b c d e:Cl} {x y:List Cl} (q:L2 ClE x y):L2 ClE (a::b::c::d::e::x) (a::b::c::d::e::y):=rr (rr (rr (rr (rr q))))
theorem rr9 {a b c d e f g h i:Cl} {x y:List Cl} (q:L2 ClE x y):L2 ClE (a::b::c::d::e::f::g::h::i::x) (a::b::c::d::e::f::g::h::i::y):=rr (rr (rr (rr (rr (rr (rr (rr (rr q))))))))

def Cr (x0:AD):Bool:=bif decide (((max x0.X x0.Y):Int)<=67108864) then decide ((((-67108864)):Int)<=(min x0.X x0.Y)) else false
def Cp (x0:AD):CT:=(90,[.agg (AD.c x0)],.val [] (.av (.one (.b (Cr x0)))))
theorem Uz (x0:AD):PuP 90 (Cp x0).2.1 (tO (.b (Cr x0))):=by
 refine pwf Try.func90 fun W0 M0 => ?_
 refine AB<|rn ⟨[(1,tP 1 0)],[(1,.cells (AD.c x0) 52)]⟩<|AB ?_
 refine rc [] ((gt (decide (((max x0.X x0.Y):Int)<=67108864)))::(t5 (decide (((max x0.X x0.Y):Int)<=67108864)) [])) ⟨[(2,tB (bif decide (((max x0.X x0.Y):Int)<=67108864) then decide ((((-67108864)):Int)<=(min x0.X x0.Y)) else false))],[]⟩ .nil (ci (c5 .nil))<|AH<|Ae ?_
 exact xl (tO (.b (bif decide (((max x0.X x0.Y):Int)<=67108864) then decide ((((-67108864)):Int)<=(min x0.X x0.Y)) else false))) (An (by rfl))
theorem Et (x0:AD):OKc (Cp x0):=cPu<|Uz x0
def Bj (x0:AD) (x1:AD):AD:=AD.mk (W64 (x0.X-x1.X)) (W64 (x0.Y-x1.Y))
def J4 (x0:AD) (x1:AD):CT:=(110,[.agg (AD.c x0),.agg (AD.c x1)],.val [] (.av (.agg (AD.c (Bj x0 x1)))))
theorem Y4 (x0:AD) (x1:AD):PuP 110 (J4 x0 x1).2.1 (.av (.agg (AD.c (Bj x0 x1)))):=by
 refine pwf Try.func110 fun W0 M0 => ?_
 refine AB<|rn ⟨[(2,tP 2 0),(3,tP 3 0),(4,tP 4 0)],[(2,.cells (AD.c x0) 52),(3,.cells (AD.c x1) 52),(4,.cells [.i 0,.i 0] 52)]⟩<|AB ?_
 refine rn ⟨[(4,tP 4 0)],[(4,.cells [.i (W64 (x0.X-x1.X)),.i (W64 (x0.Y-x1.Y))] 52)]⟩<|Ae ?_
 exact xl (.av (.agg [.i (W64 (x0.X-x1.X)),.i (W64 (x0.Y-x1.Y))])) (An (by rfl))
theorem RI (x0:AD) (x1:AD):OKc (J4 x0 x1):=cPu<|Y4 x0 x1
def Fd (x0:AD) (x1:AD):AD:=AD.mk (W64 (x0.X+x1.X)) (W64 (x0.Y+x1.Y))
def QQ (x0:AD) (x1:AD):CT:=(65,[.agg (AD.c x0),.agg (AD.c x1)],.val [] (.av (.agg (AD.c (Fd x0 x1)))))
theorem Y5 (x0:AD) (x1:AD):PuP 65 (QQ x0 x1).2.1 (.av (.agg (AD.c (Fd x0 x1)))):=by
 refine pwf Try.func65 fun W0 M0 => ?_
 refine AB<|rn ⟨[(2,tP 2 0),(3,tP 3 0),(4,tP 4 0)],[(2,.cells (AD.c x0) 52),(3,.cells (AD.c x1) 52),(4,.cells [.i 0,.i 0] 52)]⟩<|AB ?_
 refine rn ⟨[(4,tP 4 0)],[(4,.cells [.i (W64 (x0.X+x1.X)),.i (W64 (x0.Y+x1.Y))] 52)]⟩<|Ae ?_
 exact xl (.av (.agg [.i (W64 (x0.X+x1.X)),.i (W64 (x0.Y+x1.Y))])) (An (by rfl))
theorem W7 (x0:AD) (x1:AD):OKc (QQ x0 x1):=cPu<|Y5 x0 x1
def CH (m:AV):Int:=A64 m.Turn 3
variable (a0 a1 a2:AD) (e:AO) (m:AV) (k:Int) (p:AD) (x0:AO)
def Kl:CT:=(64,[.agg (AV.c m)],.val [] (.av (.one (.i (CH m)))))
theorem Uy (m:AV):PuP 64 (Kl m).2.1 (tO (.i (CH m))):=by
 refine pwf Try.func64 fun W0 M0 => ?_
 refine AB<|rn ⟨[(1,tP 1 0)],[(1,.cells (AV.c m) 66)]⟩<|AB ?_
 refine rn ⟨[(2,tI (A64 m.Turn 3))],[]⟩<|Ae ?_
 exact xl (tO (.i (A64 m.Turn 3))) (An (by rfl))
theorem Ss (m:AV):OKc (Kl m):=cPu<|Uy m
theorem A64_3 (t:Int):0<=A64 t 3/\A64 t 3<=3:=by
 unfold A64
 rw [IntKind.wrap_i64]
 have h:((BitVec.ofInt 64 t &&& BitVec.ofInt 64 3).toNat)<=3:=by
  rw [BitVec.toNat_and]
  exact Nat.le_trans Nat.and_le_right (by decide)
 generalize (BitVec.ofInt 64 t &&& BitVec.ofInt 64 3).toNat=n at *
 omega
theorem Tl (m:AV):0<=CH m/\CH m<=3:=A64_3 m.Turn
def CC (m:AV) (p:AD):Nat->AD->Int->AD
 | 0,_,_=>default
 | n0+1,p',v13=>bif decide ((v13:Int)<(CH m)) then ((CC m p n0) (AD.mk (W64 (0-p'.Y)) p'.X) (v13+1)) else (Fd p' m.At)
def AY (m:AV) (p:AD):AD:=CC m p ((((CH m))-0).toNat+1) (AD.mk (bif m.Mirror then (W64 (0-p.X)) else p.X) p.Y) 0
def B6:CT:=(33,[.agg (AV.c m),.agg (AD.c p)],.val [] (.av (.agg (AD.c (AY m p)))))
theorem kr {p:Prop} (h:p:=by kernel_rfl):p:=h
theorem at0 {p:Prop} (h:p:=by simp only [List.length_append,List.length_cons,List.length_nil];omega):p:=h
theorem at1 {p:Prop} (h:p:=by simp only [List.length_set,List.length_append,List.length_cons,List.length_nil];omega):p:=h
theorem at2 {p:Prop} (h:p:=by simp only [C9];omega):p:=h
theorem ax0 {p:Prop} (h:p:=by first | omega | (dsimp only <;> first | trivial | omega | exact at0 | exact at1 | exact at2 | (simp;omega) | simp) | (first | trivial | omega | exact at0 | exact at1 | exact at2 | (simp;omega) | simp)):p:=h
theorem U0 (m:AV) (p:AD):PuP 33 (B6 m p).2.1 (.av (.agg (AD.c (AY m p)))):=by
 refine pwf Try.func33 fun W0 M0 => ?_
 refine AB<|rn ⟨[(2,tP 2 0),(3,tP 3 0),(4,tP 4 0)],[(2,.cells (AV.c m) 66),(3,.cells (AD.c p) 52),(4,.cells [.i 0,.i 0] 52)]⟩ ?_
 refine AB<|AB ?_
 refine rn ⟨[(2,tP 2 0),(3,tP 3 0),(4,tP 4 0),(6,tB m.Mirror)],[(2,.cells (AV.c m) 66),(3,.cells (AD.c p) 52),(4,.cells [.i 0,.i 0] 52)]⟩ ?_
 refine Bz (⟨[(2,tP 2 0),(3,tP 3 0),(4,tP 4 0)],[(2,.cells (AV.c m) 66),(3,.cells [.i (bif m.Mirror then (W64 (0-p.X)) else p.X),.i p.Y] 52),(4,.cells [.i 0,.i 0] 52)]⟩) ?_ ?_
 ·refine Aa _ rfl (fun h1 => ?_) (fun h1 => ?_)
  ·refine rn ⟨[(2,tP 2 0),(3,tP 3 0),(4,tP 4 0)],[(2,.cells (AV.c m) 66),(3,.cells [.i (W64 (0-p.X)),.i p.Y] 52),(4,.cells [.i 0,.i 0] 52)]⟩ ?_
   refine A6 ?_
   first | rfl | (simp only [h1,cond_true,cond_false] <;> rfl)
  refine Ac<|AH ?_
  refine Cv.trans (ck (⟨[(2,tP 2 0),(3,tP 3 0),(4,tP 4 0)],[(2,.cells (AV.c m) 66),(3,.cells (AD.c p) 52),(4,.cells [.i 0,.i 0] 52)]⟩)) (A6 ?_)
  first | rfl | (simp only [h1,cond_true,cond_false] <;> rfl)
 refine AB<|AB ?_
 refine rs 12 (Kl m) ⟨[(2,tP 2 0),(3,tP 3 0),(4,tP 4 0),(12,tI (CH m)),(13,tI 0)],[(2,.cells (AV.c m) 66),(3,.cells [.i (bif m.Mirror then (W64 (0-p.X)) else p.X),.i p.Y] 52),(4,.cells [.i 0,.i 0] 52)]⟩ (Ss m)<|AH<|AX ?_
 refine BH (ι:=Nat×AD×Int) (fun x=>⟨[(2,tP 2 0),(3,tP 3 0),(4,tP 4 0),(12,tI (CH m)),(13,tI x.2.2)],[(2,.cells (AV.c m) 66),(3,.cells (AD.c x.2.1) 52),(4,.cells [.i 0,.i 0] 52)]⟩) (fun x=>(((CH m))-x.2.2).toNat<x.1/\(0<=x.2.2/\x.2.2<=CH m)/\CC m p x.1 x.2.1 x.2.2=AY m p) (fun x=>x.1) ?_ ((((CH m))-0).toNat+1,AD.mk (bif m.Mirror then (W64 (0-p.X)) else p.X) p.Y,0) ⟨Nat.lt_succ_self _,(by show 0<=0/\0<=CH m;(have:=Tl m;omega)),(by simp only [AY,cond_true,cond_false])⟩
 rintro ⟨n0,p',v13⟩ ⟨hm0,hinv0,hF0⟩
 try dsimp only at hm0 hinv0 hF0
 cases n0 with | zero=>exact nz hm0 | succ n0 => ?_
 have ht:=Tl m
 have e1:W64 (v13+1)=v13+1:=Ao oM oM
 refine AB<|rn ⟨[(2,tP 2 0),(3,tP 3 0),(4,tP 4 0),(12,tI (CH m)),(13,tI v13),(14,tB (decide ((v13:Int)<(CH m))))],[(2,.cells (AV.c m) 66),(3,.cells (AD.c p') 52),(4,.cells [.i 0,.i 0] 52)]⟩<|AB ?_
 refine Aa _ rfl (fun h1 => ?_) (fun h1 => ?_)
 ·have g1:=oT h1
  refine Ac<|AH ?_
  refine AB<|AX ?_
  refine rg ⟨[(2,tP 2 0),(3,tP 3 0),(4,tP 4 0),(12,tI (CH m)),(13,tI v13)],[(2,.cells (AV.c m) 66),(3,.cells [.i (W64 (0-p'.Y)),.i p'.X] 52),(4,.cells [.i 0,.i 0] 52)]⟩<|Bd<|AH ?_
  refine rg ⟨[(2,tP 2 0),(3,tP 3 0),(4,tP 4 0),(12,tI (CH m)),(13,tI (W64 (v13+1)))],[(2,.cells (AV.c m) 66),(3,.cells [.i (W64 (0-p'.Y)),.i p'.X] 52),(4,.cells [.i 0,.i 0] 52)]⟩ ?_
  (try rw [e1])
  refine AH ?_
  refine ⟨(n0,AD.mk (W64 (0-p'.Y)) p'.X,v13+1),⟨?_,?_,(by rw [<- hF0];simp only [CC,h1,cond_true,cond_false])⟩,Nat.lt_succ_self _,A6 kr⟩
  ·show (((CH m))-(v13+1)).toNat<n0;omega
  exact ax0
 refine BJ<|A4 ?_
 refine A4<|BK ?_
 refine AH<|AB ?_
 refine rs 25 (QQ p' m.At) ⟨[(4,tP 4 0)],[(4,.cells (AD.c (Fd p' m.At)) 52)]⟩ (W7 p' m.At)<|AH<|Ae ?_
 exact xl (.av (.agg (AD.c (Fd p' m.At)))) (An (by rw [<- hF0];first | (simp only [CC,h1,cond_true,cond_false] <;> rfl)))
theorem DJ (m:AV) (p:AD):OKc (B6 m p):=cPu<|U0 m p
def Cc (x0:AO):Al:=Al.mk (min x0.A.X x0.B.X) (min x0.A.Y x0.B.Y) (max x0.A.X x0.B.X) (max x0.A.Y x0.B.Y)
def Hs:CT:=(51,[.agg (AO.c x0)],.val [] (.av (.agg (Al.c (Cc x0)))))
theorem Wt (x0:AO):PuP 51 (Hs x0).2.1 (.av (.agg (Al.c (Cc x0)))):=by
 refine pwf Try.func51 fun W0 M0 => ?_
 refine AB<|rn ⟨[(1,tP 1 0),(2,tP 2 0)],[(1,.cells (AO.c x0) 133),(2,.cells [.i 0,.i 0,.i 0,.i 0] 76)]⟩<|AB ?_
 refine rn ⟨[(2,tP 2 0)],[(2,.cells [.i (min x0.A.X x0.B.X),.i (min x0.A.Y x0.B.Y),.i (max x0.A.X x0.B.X),.i (max x0.A.Y x0.B.Y)] 76)]⟩<|Ae ?_
 exact xl (.av (.agg [.i (min x0.A.X x0.B.X),.i (min x0.A.Y x0.B.Y),.i (max x0.A.X x0.B.X),.i (max x0.A.Y x0.B.Y)])) (An (by rfl))
theorem OB (x0:AO):OKc (Hs x0):=cPu<|Wt x0
def DG (x0:AO) (x1:Int):Bool:=bif !((decide ((((Bj x0.A x0.C).X):Int)=0))==(decide ((((Bj x0.A x0.C).Y):Int)=0))) then (decide (((Bj x0.B x0.C).X)=((AY (AV.mk (AD.mk 0 0) x1 false) (Bj x0.A x0.C)).X))&&(decide (((Bj x0.B x0.C).Y)=((AY (AV.mk (AD.mk 0 0) x1 false) (Bj x0.A x0.C)).Y))&&true)) else false
def Fc (x1:Int):CT:=(106,[.agg (AO.c x0),.one (.i x1)],.val [] (.av (.one (.b (DG x0 x1)))))
theorem Ps (x0:AO) (x1:Int):PuP 106 (Fc x0 x1).2.1 (tO (.b (DG x0 x1))):=by
 refine pwf Try.func106 fun W0 M0 => ?_
 refine AB<|rn ⟨[(1,tI x1),(2,tP 2 0)],[(2,.cells (AO.c x0) 133)]⟩<|AB ?_
 refine rs 10 (J4 x0.A x0.C) ⟨[(1,tI x1),(2,tP 2 0),(5,tP 5 0)],[(2,.cells (AO.c x0) 133),(5,.cells (AD.c (Bj x0.A x0.C)) 52)]⟩ (RI x0.A x0.C)<|AH<|AB ?_
 refine dw [] [(23,J4 x0.B x0.C),(27,B6 (AV.mk (AD.mk 0 0) x1 false) (Bj x0.A x0.C))] (t4 (!((decide ((((Bj x0.A x0.C).X):Int)=0))==(decide ((((Bj x0.A x0.C).Y):Int)=0)))) ((gk (!((decide ((((Bj x0.A x0.C).X):Int)=0))==(decide ((((Bj x0.A x0.C).Y):Int)=0)))) (Aw (J4 x0.B x0.C).2.1))::(t3 (!((decide ((((Bj x0.A x0.C).X):Int)=0))==(decide ((((Bj x0.A x0.C).Y):Int)=0)))) ((gk (!((decide ((((Bj x0.A x0.C).X):Int)=0))==(decide ((((Bj x0.A x0.C).Y):Int)=0)))) (Aw (B6 (AV.mk (AD.mk 0 0) x1 false) (Bj x0.A x0.C)).2.1))::(t3 (!((decide ((((Bj x0.A x0.C).X):Int)=0))==(decide ((((Bj x0.A x0.C).Y):Int)=0)))) []))))) ⟨[(4,tB (bif !((decide ((((Bj x0.A x0.C).X):Int)=0))==(decide ((((Bj x0.A x0.C).Y):Int)=0))) then (decide (((Bj x0.B x0.C).X)=((AY (AV.mk (AD.mk 0 0) x1 false) (Bj x0.A x0.C)).X))&&(decide (((Bj x0.B x0.C).Y)=((AY (AV.mk (AD.mk 0 0) x1 false) (Bj x0.A x0.C)).Y))&&true)) else false))],[]⟩ (.cons (RI x0.B x0.C) (.cons (DJ (AV.mk (AD.mk 0 0) x1 false) (Bj x0.A x0.C)) .nil)) (c4 (.cons (fun _=>rfl) (c3 (.cons (fun _=>rfl) (c3 .nil)))))<|AH<|Ae ?_
 exact xl (tO (.b (bif !((decide ((((Bj x0.A x0.C).X):Int)=0))==(decide ((((Bj x0.A x0.C).Y):Int)=0))) then (decide (((Bj x0.B x0.C).X)=((AY (AV.mk (AD.mk 0 0) x1 false) (Bj x0.A x0.C)).X))&&(decide (((Bj x0.B x0.C).Y)=((AY (AV.mk (AD.mk 0 0) x1 false) (Bj x0.A x0.C)).Y))&&true)) else false))) (An (by rfl))
theorem Ia (x0:AO) (x1:Int):OKc (Fc x0 x1):=cPu<|Ps x0 x1
def Kz (x0:AO):Bool:=(decide (x0.C.X=0)&&(decide (x0.C.Y=0)&&true))
def Kq:CT:=(95,[.agg (AO.c x0)],.val [] (.av (.one (.b (Kz x0)))))
theorem U5 (x0:AO):PuP 95 (Kq x0).2.1 (tO (.b (Kz x0))):=by
 refine pwf Try.func95 fun W0 M0 => ?_
 refine AB<|rn ⟨[(1,tP 1 0)],[(1,.cells (AO.c x0) 133)]⟩<|AB ?_
 refine rn ⟨[(2,tB ((decide (x0.C.X=0)&&(decide (x0.C.Y=0)&&true))))],[]⟩<|Ae ?_
 exact xl (tO (.b ((decide (x0.C.X=0)&&(decide (x0.C.Y=0)&&true))))) (An (by rfl))
theorem Sw (x0:AO):OKc (Kq x0):=cPu<|U5 x0
def F3 (x0:AO):Bool:=DG x0 1
def F2:CT:=(98,[.agg (AO.c x0)],.val [] (.av (.one (.b (F3 x0)))))
theorem Mp (x0:AO):PuP 98 (F2 x0).2.1 (tO (.b (F3 x0))):=by
 refine pwf Try.func98 fun W0 M0 => ?_
 refine AB<|rn ⟨[(1,tP 1 0)],[(1,.cells (AO.c x0) 133)]⟩<|AB ?_
 refine rs 4 (Fc x0 1) ⟨[(2,tB (DG x0 1))],[]⟩ (Ia x0 1)<|AH<|Ae ?_
 exact xl (tO (.b (DG x0 1))) (An (by rfl))
theorem Lg (x0:AO):OKc (F2 x0):=cPu<|Mp x0
def FS (x0:AO):Bool:=DG x0 3
def FR:CT:=(101,[.agg (AO.c x0)],.val [] (.av (.one (.b (FS x0)))))
theorem Ld (x0:AO):PuP 101 (FR x0).2.1 (tO (.b (FS x0))):=by
 refine pwf Try.func101 fun W0 M0 => ?_
 refine AB<|rn ⟨[(1,tP 1 0)],[(1,.cells (AO.c x0) 133)]⟩<|AB ?_
 refine rs 4 (Fc x0 3) ⟨[(2,tB (DG x0 3))],[]⟩ (Ia x0 3)<|AH<|Ae ?_
 exact xl (tO (.b (DG x0 3))) (An (by rfl))
theorem Ka (x0:AO):OKc (FR x0):=cPu<|Ld x0
def JM:CT:=(89,[.one (.i 1)],.val [] (.tup [.agg [.clo 95 0 dfc,.clo 96 0 dfc,.clo 97 0 dfc,.i 1],.one (.b true)]))
theorem Sl  : FG Try.prog 89 (JM ).2.1 (.tup [.agg [.clo 95 0 dfc,.clo 96 0 dfc,.clo 97 0 dfc,.i 1],.one (.b true)]):=by
 refine pwf Try.func89 fun W0 M0 => ?_
 refine AB<|rn ⟨[(0,tI 1),(2,tP 2 0)],[(2,.cells [.val .nilFunc,.val .nilFunc,.val .nilFunc,.i 0] 173)]⟩ ?_
 refine AB<|AB ?_
 refine rn ⟨[(0,tI 1),(2,tP 2 0),(4,tI 1)],[(2,.cells [.val .nilFunc,.val .nilFunc,.val .nilFunc,.i 0] 173)]⟩ ?_
 refine AX<|AB ?_
 refine rn ⟨[(0,tI 1),(2,tP 2 0),(4,tI 1),(5,tB true)],[(2,.cells [.val .nilFunc,.val .nilFunc,.val .nilFunc,.i 0] 173)]⟩ ?_
 refine DX kr<|AB ?_
 refine rn ⟨[(2,tP 2 0),(3,tB true)],[(2,.cells [.clo 95 0 dfc,.clo 96 0 dfc,.clo 97 0 dfc,.i 1] 173)]⟩ ?_
 refine Ae<|Cq<|Bb ?_
 exact xl (.tup [.agg [.clo 95 0 dfc,.clo 96 0 dfc,.clo 97 0 dfc,.i 1],.one (.b true)]) (An rfl)
theorem RM  : OKc (JM ):=cPu<|Sl
def JL:CT:=(89,[.one (.i 2)],.val [] (.tup [.agg [.clo 98 0 dfc,.clo 99 0 dfc,.clo 100 0 dfc,.i 3],.one (.b true)]))
theorem Sk  : FG Try.prog 89 (JL ).2.1 (.tup [.agg [.clo 98 0 dfc,.clo 99 0 dfc,.clo 100 0 dfc,.i 3],.one (.b true)]):=by
 refine pwf Try.func89 fun W0 M0 => ?_
 refine AB<|rn ⟨[(0,tI 2),(2,tP 2 0)],[(2,.cells [.val .nilFunc,.val .nilFunc,.val .nilFunc,.i 0] 173)]⟩ ?_
 refine AB<|AB ?_
 refine rn ⟨[(0,tI 2),(2,tP 2 0),(4,tI 2)],[(2,.cells [.val .nilFunc,.val .nilFunc,.val .nilFunc,.i 0] 173)]⟩ ?_
 refine AX<|AB ?_
 refine rn ⟨[(0,tI 2),(2,tP 2 0),(4,tI 2),(5,tB false)],[(2,.cells [.val .nilFunc,.val .nilFunc,.val .nilFunc,.i 0] 173)]⟩ ?_
 refine Di kr<|AB ?_
 refine rn ⟨[(0,tI 2),(2,tP 2 0),(4,tI 2),(8,tB true)],[(2,.cells [.val .nilFunc,.val .nilFunc,.val .nilFunc,.i 0] 173)]⟩ ?_
 refine DX kr<|AB ?_
 refine rn ⟨[(2,tP 2 0),(3,tB true)],[(2,.cells [.clo 98 0 dfc,.clo 99 0 dfc,.clo 100 0 dfc,.i 3] 173)]⟩ ?_
 refine Ae<|Cq<|Bb ?_
 exact xl (.tup [.agg [.clo 98 0 dfc,.clo 99 0 dfc,.clo 100 0 dfc,.i 3],.one (.b true)]) (An rfl)
theorem RL  : OKc (JL ):=cPu<|Sk
def JK:CT:=(89,[.one (.i 3)],.val [] (.tup [.agg [.clo 101 0 dfc,.clo 99 0 dfc,.clo 100 0 dfc,.i 2],.one (.b true)]))
theorem Sj  : FG Try.prog 89 (JK ).2.1 (.tup [.agg [.clo 101 0 dfc,.clo 99 0 dfc,.clo 100 0 dfc,.i 2],.one (.b true)]):=by
 refine pwf Try.func89 fun W0 M0 => ?_
 refine AB<|rn ⟨[(0,tI 3),(2,tP 2 0)],[(2,.cells [.val .nilFunc,.val .nilFunc,.val .nilFunc,.i 0] 173)]⟩ ?_
 refine AB<|AB ?_
 refine rn ⟨[(0,tI 3),(2,tP 2 0),(4,tI 3)],[(2,.cells [.val .nilFunc,.val .nilFunc,.val .nilFunc,.i 0] 173)]⟩ ?_
 refine AX<|AB ?_
 refine rn ⟨[(0,tI 3),(2,tP 2 0),(4,tI 3),(5,tB false)],[(2,.cells [.val .nilFunc,.val .nilFunc,.val .nilFunc,.i 0] 173)]⟩ ?_
 refine Di kr<|AB ?_
 refine rn ⟨[(0,tI 3),(2,tP 2 0),(4,tI 3),(8,tB false)],[(2,.cells [.val .nilFunc,.val .nilFunc,.val .nilFunc,.i 0] 173)]⟩ ?_
 refine Di kr<|AB ?_
 refine rn ⟨[(0,tI 3),(2,tP 2 0),(11,tB true)],[(2,.cells [.val .nilFunc,.val .nilFunc,.val .nilFunc,.i 0] 173)]⟩ ?_
 refine DX kr<|AB ?_
 refine rn ⟨[(2,tP 2 0),(3,tB true)],[(2,.cells [.clo 101 0 dfc,.clo 99 0 dfc,.clo 100 0 dfc,.i 2] 173)]⟩ ?_
 refine Ae<|Cq<|Bb ?_
 exact xl (.tup [.agg [.clo 101 0 dfc,.clo 99 0 dfc,.clo 100 0 dfc,.i 2],.one (.b true)]) (An rfl)
theorem RK  : OKc (JK ):=cPu<|Sj
def JI:CT:=(89,[.one (.i k)],.val [] (.tup [.agg [.val .nilFunc,.val .nilFunc,.val .nilFunc,.i k],.one (.b false)]))
theorem Si (k:Int) (k1:¬ k=1) (k2:¬ k=2) (k3:¬ k=3):PuP 89 (JI k).2.1 (.tup [.agg [.val .nilFunc,.val .nilFunc,.val .nilFunc,.i k],.one (.b false)]):=by
 refine pwf Try.func89 fun W0 M0 => ?_
 refine AB<|rn ⟨[(0,tI k),(2,tP 2 0)],[(2,.cells [.val .nilFunc,.val .nilFunc,.val .nilFunc,.i 0] 173)]⟩ ?_
 refine AB<|AB ?_
 refine rn ⟨[(0,tI k),(2,tP 2 0),(4,tI k)],[(2,.cells [.val .nilFunc,.val .nilFunc,.val .nilFunc,.i 0] 173)]⟩ ?_
 refine AX<|AB ?_
 refine rn ⟨[(0,tI k),(2,tP 2 0),(4,tI k),(5,tB (decide ((k:Int)=1)))],[(2,.cells [.val .nilFunc,.val .nilFunc,.val .nilFunc,.i 0] 173)]⟩ ?_
 refine Aa _ rfl (fun h=>absurd ((decide_eq_false k1).symm.trans h) (by decide)) (fun _ => ?_)
 refine AB<|rn ⟨[(0,tI k),(2,tP 2 0),(4,tI k),(8,tB (decide ((k:Int)=2)))],[(2,.cells [.val .nilFunc,.val .nilFunc,.val .nilFunc,.i 0] 173)]⟩ ?_
 refine Aa _ rfl (fun h=>absurd ((decide_eq_false k2).symm.trans h) (by decide)) (fun _ => ?_)
 refine AB<|rn ⟨[(0,tI k),(2,tP 2 0),(11,tB (decide ((k:Int)=3)))],[(2,.cells [.val .nilFunc,.val .nilFunc,.val .nilFunc,.i 0] 173)]⟩ ?_
 refine Aa _ rfl (fun h=>absurd ((decide_eq_false k3).symm.trans h) (by decide)) (fun _ => ?_)
 refine Ac<|Bd ?_
 refine AH<|AB ?_
 refine rn ⟨[(2,tP 2 0),(3,tB false)],[(2,.cells [.val .nilFunc,.val .nilFunc,.val .nilFunc,.i k] 173)]⟩<|Ae ?_
 exact xl (.tup [.agg [.val .nilFunc,.val .nilFunc,.val .nilFunc,.i k],.one (.b false)]) (An rfl)
theorem RJ (k:Int) (k1:¬ k=1) (k2:¬ k=2) (k3:¬ k=3):OKc (JI k):=cPu<|Si k k1 k2 k3
def Z00:Bool:=bif Cr a0 then Cr a1 else false
def Z01:Bool:=bif Z00 a0 a1 then Cr a2 else false
def Z02:Bool:=bif Z01 a0 a1 a2 then Kz (AO.mk 1 a0 a1 a2) else false
def cW:CT:=(73,[.agg [.i 1,.i a0.X,.i a0.Y,.i a1.X,.i a1.Y,.i a2.X,.i a2.Y]],.val [] (.tup [.agg [.clo 95 0 dfc,.clo 96 0 dfc,.clo 97 0 dfc,.i 1],.one (.b (Z02 a0 a1 a2))]))
theorem cE {p:Prop} (h:p:=by
 refine pwf Try.func73 fun W0 M0 => ?_
 refine AB<|rn ⟨[(1,tP 1 0),(2,tP 2 0)],[(1,.cells [.i mp0,.i a0.X,.i a0.Y,.i a1.X,.i a1.Y,.i a2.X,.i a2.Y] 133),(2,.cells [.val .nilFunc,.val .nilFunc,.val .nilFunc,.i 0] 173)]⟩<|AB ?_
 refine rs 9 mp1 ⟨[(1,tP 1 0),(2,tP 2 0),(4,tP 4 0),(5,tB true)],[(1,.cells [.i mp0,.i a0.X,.i a0.Y,.i a1.X,.i a1.Y,.i a2.X,.i a2.Y] 133),(2,.cells [.val .nilFunc,.val .nilFunc,.val .nilFunc,.i 0] 173),(4,.cells [.clo mp2 0 (fun _=>default),.clo mp3 0 (fun _=>default),.clo mp4 0 (fun _=>default),.i mp5] 173)]⟩ (mp6)<|AH<|AB ?_
 refine dw [] [(17,Cp a0),(22,Cp a1),(27,Cp a2),(33,mp7 (AO.mk mp0 a0 a1 a2))] ((((true)=true)->((true)=true))::(((true)=true)->((true)=true))::(((true)=true)->(Aw (Cp a0).2.1))::((true)=true->((true)=true))::(t2 (Cr a0) ((gk (Cr a0) (Aw (Cp a1).2.1))::(gt (Cr a0))::(gp ((mp8 a0 a1)=true))::(gp ((mp8 a0 a1)=true))::(((mp8 a0 a1)=true)->(Aw (Cp a2).2.1))::(gp ((mp8 a0 a1)=true))::(t3 (mp9 a0 a1 a2) [gk (mp9 a0 a1 a2) (Aw (mp7 (AO.mk mp0 a0 a1 a2)).2.1),gt (mp9 a0 a1 a2)])))) ⟨[(2,tP 2 0),(3,tB (mp10 a0 a1 a2))],[(2,.cells [.clo mp2 0 (fun _=>default),.clo mp3 0 (fun _=>default),.clo mp4 0 (fun _=>default),.i mp5] 173)]⟩ (.cons (Et a0) (.cons (Et a1) (.cons (Et a2) (.cons (mp11 (AO.mk mp0 a0 a1 a2)) .nil)))) (ci (ci (.cons (fun _=>rfl) (ci (c2 (.cons (fun _=>rfl) (ci (ci (ci (.cons (fun _=>rfl) (ci (c3 (.cons (fun _=>rfl) (ci .nil))))))))))))))<|AH<|Ae ?_
 exact xl (.tup [.agg [.clo mp2 0 (fun _=>default),.clo mp3 0 (fun _=>default),.clo mp4 0 (fun _=>default),.i mp5],.one (.b (mp10 a0 a1 a2))]) (An rfl)):p:=h
section
 open Go.Proofs.Ytdbampcfmjbgmaa renaming ni1→mp0,JM→mp1,nn95→mp2,nn96→mp3,nn97→mp4,ni1→mp5,RM→mp6,Kq→mp7,Z00→mp8,Z01→mp9,Z02→mp10,Sw→mp11
theorem pof1 (a0:AD) (a1:AD) (a2:AD):PuP 73 (cW a0 a1 a2).2.1 (.tup [.agg [.clo 95 0 dfc,.clo 96 0 dfc,.clo 97 0 dfc,.i 1],.one (.b (Z02 a0 a1 a2))]):=cE
end
theorem okof1 (a0:AD) (a1:AD) (a2:AD):OKc (cW a0 a1 a2):=cPu<|pof1 a0 a1 a2
def Z03:Bool:=bif Cr a0 then Cr a1 else false
def Z04:Bool:=bif Z03 a0 a1 then Cr a2 else false
def Z05:Bool:=bif Z04 a0 a1 a2 then F3 (AO.mk 2 a0 a1 a2) else false
def cV:CT:=(73,[.agg [.i 2,.i a0.X,.i a0.Y,.i a1.X,.i a1.Y,.i a2.X,.i a2.Y]],.val [] (.tup [.agg [.clo 98 0 dfc,.clo 99 0 dfc,.clo 100 0 dfc,.i 3],.one (.b (Z05 a0 a1 a2))]))
section
 open Go.Proofs.Ytdbampcfmjbgmaa renaming ni2→mp0,JL→mp1,nn98→mp2,nn99→mp3,aH→mp4,ni3→mp5,RL→mp6,F2→mp7,Z03→mp8,Z04→mp9,Z05→mp10,Lg→mp11
theorem pof2 (a0:AD) (a1:AD) (a2:AD):PuP 73 (cV a0 a1 a2).2.1 (.tup [.agg [.clo 98 0 dfc,.clo 99 0 dfc,.clo 100 0 dfc,.i 3],.one (.b (Z05 a0 a1 a2))]):=cE
end
theorem okof2 (a0:AD) (a1:AD) (a2:AD):OKc (cV a0 a1 a2):=cPu<|pof2 a0 a1 a2
def Z06:Bool:=bif Cr a0 then Cr a1 else false
def Z07:Bool:=bif Z06 a0 a1 then Cr a2 else false
def Z08:Bool:=bif Z07 a0 a1 a2 then FS (AO.mk 3 a0 a1 a2) else false
def cU:CT:=(73,[.agg [.i 3,.i a0.X,.i a0.Y,.i a1.X,.i a1.Y,.i a2.X,.i a2.Y]],.val [] (.tup [.agg [.clo 101 0 dfc,.clo 99 0 dfc,.clo 100 0 dfc,.i 2],.one (.b (Z08 a0 a1 a2))]))
section
 open Go.Proofs.Ytdbampcfmjbgmaa renaming ni3→mp0,JK→mp1,aG→mp2,nn99→mp3,aH→mp4,ni2→mp5,RK→mp6,FR→mp7,Z06→mp8,Z07→mp9,Z08→mp10,Ka→mp11
theorem pof3 (a0:AD) (a1:AD) (a2:AD):PuP 73 (cU a0 a1 a2).2.1 (.tup [.agg [.clo 101 0 dfc,.clo 99 0 dfc,.clo 100 0 dfc,.i 2],.one (.b (Z08 a0 a1 a2))]):=cE
end
theorem okof3 (a0:AD) (a1:AD) (a2:AD):OKc (cU a0 a1 a2):=cPu<|pof3 a0 a1 a2
def cT:CT:=(73,[.agg (AO.c e)],.val [] (.tup [.agg [.val .nilFunc,.val .nilFunc,.val .nilFunc,.i e.Kind],.one (.b false)]))
theorem pofN (e:AO) (k1:¬ e.Kind=1) (k2:¬ e.Kind=2) (k3:¬ e.Kind=3):PuP 73 (cT e).2.1 (.tup [.agg [.val .nilFunc,.val .nilFunc,.val .nilFunc,.i e.Kind],.one (.b false)]):=by
 refine pwf Try.func73 fun W0 M0 => ?_
 refine AB<|rn ⟨[(1,tP 1 0),(2,tP 2 0)],[(1,.cells (AO.c e) 133),(2,.cells [.val .nilFunc,.val .nilFunc,.val .nilFunc,.i 0] 173)]⟩<|AB ?_
 refine rs 9 (JI e.Kind) ⟨[(1,tP 1 0),(2,tP 2 0),(4,tP 4 0),(5,tB false)],[(1,.cells (AO.c e) 133),(2,.cells [.val .nilFunc,.val .nilFunc,.val .nilFunc,.i 0] 173),(4,.cells [.val .nilFunc,.val .nilFunc,.val .nilFunc,.i e.Kind] 173)]⟩ (RJ e.Kind k1 k2 k3)<|AH<|AB ?_
 refine dw [] [(17,Cp e.A),(22,Cp e.B),(27,Cp e.C)] [((false)=true)->((false)=true),((false)=true)->((false)=true),((false)=true)->(Aw (Cp e.A).2.1),(false)=true->((false)=true),((false)=true)->((false)=true),((false)=true)->((false)=true),((false)=true)->(Aw (Cp e.B).2.1),(false)=true->((false)=true),((false)=true)->((false)=true),((false)=true)->((false)=true),((false)=true)->(Aw (Cp e.C).2.1),(false)=true->((false)=true),((false)=true)->((false)=true),¬ ((false)=true),(false)=true->((false)=true)] ⟨[(2,tP 2 0),(3,tB false)],[(2,.cells [.val .nilFunc,.val .nilFunc,.val .nilFunc,.i e.Kind] 173)]⟩ (.cons (Et e.A) (.cons (Et e.B) (.cons (Et e.C) .nil))) (ci (ci (.cons (fun _=>rfl) (ci (ci (ci (.cons (fun _=>rfl) (ci (ci (ci (.cons (fun _=>rfl) (ci (ci (.cons (by simp) (ci .nil)))))))))))))))<|AH<|Ae ?_
 exact xl (.tup [.agg [.val .nilFunc,.val .nilFunc,.val .nilFunc,.i e.Kind],.one (.b false)]) (An rfl)
theorem okofN (e:AO) (k1:¬ e.Kind=1) (k2:¬ e.Kind=2) (k3:¬ e.Kind=3):OKc (cT e):=cPu<|pofN e k1 k2 k3
def K8 (a0:AD) (a1:AD) (a2:AD) (m:AV):AO:=AO.mk 1 (AY m a0) (AY m a1) a2
def dB:CT:=(44,[.agg [.i 1,.i a0.X,.i a0.Y,.i a1.X,.i a1.Y,.i a2.X,.i a2.Y],.agg (AV.c m)],.val [] (.av (.agg (AO.c (K8 a0 a1 a2 m)))))
theorem bG (a0:AD) (a1:AD) (a2:AD) (m:AV):PuP 44 (dB a0 a1 a2 m).2.1 (.av (.agg (AO.c (K8 a0 a1 a2 m)))):=by
 refine pwf Try.func44 fun W0 M0 => ?_
 refine AB<|rn ⟨[(2,tP 2 0),(3,tP 3 0),(4,tP 4 0)],[(2,.cells [.i 1,.i a0.X,.i a0.Y,.i a1.X,.i a1.Y,.i a2.X,.i a2.Y] 133),(3,.cells (AV.c m) 66),(4,.cells [.i 0,.i 0,.i 0,.i 0,.i 0,.i 0,.i 0] 133)]⟩ ?_
 refine AB<|AB ?_
 refine rs 9 (cW a0 a1 a2) ⟨[(2,tP 2 0),(3,tP 3 0),(4,tP 4 0),(5,tP 5 0)],[(2,.cells [.i 1,.i a0.X,.i a0.Y,.i a1.X,.i a1.Y,.i a2.X,.i a2.Y] 133),(3,.cells (AV.c m) 66),(4,.cells [.i 0,.i 0,.i 0,.i 0,.i 0,.i 0,.i 0] 133),(5,.cells [.clo 95 0 dfc,.clo 96 0 dfc,.clo 97 0 dfc,.i 1] 173)]⟩ (okof1 a0 a1 a2)<|AH<|AB ?_
 refine rn ⟨[(2,tP 2 0),(3,tP 3 0),(4,tP 4 0),(5,tP 5 0),(13,tB m.Mirror)],[(2,.cells [.i 1,.i a0.X,.i a0.Y,.i a1.X,.i a1.Y,.i a2.X,.i a2.Y] 133),(3,.cells (AV.c m) 66),(4,.cells [.i 0,.i 0,.i 0,.i 0,.i 0,.i 0,.i 0] 133),(5,.cells [.clo 95 0 dfc,.clo 96 0 dfc,.clo 97 0 dfc,.i 1] 173)]⟩ ?_
 refine Bz (⟨[(2,tP 2 0),(3,tP 3 0),(4,tP 4 0)],[(2,.cells [.i 1,.i a0.X,.i a0.Y,.i a1.X,.i a1.Y,.i a2.X,.i a2.Y] 133),(3,.cells (AV.c m) 66),(4,.cells [.i 0,.i 0,.i 0,.i 0,.i 0,.i 0,.i 0] 133)]⟩) ?_ ?_
 ·refine Aa _ rfl (fun h1 => ?_) (fun h1 => ?_)
  ·refine rn ⟨[(2,tP 2 0),(3,tP 3 0),(4,tP 4 0)],[(2,.cells [.i 1,.i a0.X,.i a0.Y,.i a1.X,.i a1.Y,.i a2.X,.i a2.Y] 133),(3,.cells (AV.c m) 66),(4,.cells [.i 0,.i 0,.i 0,.i 0,.i 0,.i 0,.i 0] 133)]⟩ ?_
   refine A6 ?_
   first | rfl | (simp only [h1,cond_true,cond_false] <;> rfl)
  refine Ac<|AH ?_
  refine Cv.trans (ck (⟨[(2,tP 2 0),(3,tP 3 0),(4,tP 4 0)],[(2,.cells [.i 1,.i a0.X,.i a0.Y,.i a1.X,.i a1.Y,.i a2.X,.i a2.Y] 133),(3,.cells (AV.c m) 66),(4,.cells [.i 0,.i 0,.i 0,.i 0,.i 0,.i 0,.i 0] 133)]⟩)) (A6 ?_)
  first | rfl | (simp only [h1,cond_true,cond_false] <;> rfl)
 refine AB<|AB ?_
 refine rn ⟨[(2,tP 2 0),(3,tP 3 0),(4,tP 4 0),(19,tB false)],[(2,.cells [.i 1,.i a0.X,.i a0.Y,.i a1.X,.i a1.Y,.i a2.X,.i a2.Y] 133),(3,.cells (AV.c m) 66),(4,.cells [.i 0,.i 0,.i 0,.i 0,.i 0,.i 0,.i 0] 133)]⟩ ?_
 refine Di kr<|Ac ?_
 refine AH<|AB ?_
 refine dw [] [(28,B6 m a0),(32,B6 m a1)] [Aw (B6 m a0).2.1,Aw (B6 m a1).2.1] ⟨[(2,tP 2 0),(4,tP 4 0)],[(2,.cells [.i 1,.i ((AY m a0).X),.i ((AY m a0).Y),.i ((AY m a1).X),.i ((AY m a1).Y),.i a2.X,.i a2.Y] 133),(4,.cells [.i 0,.i 0,.i 0,.i 0,.i 0,.i 0,.i 0] 133)]⟩ (.cons (DJ m a0) (.cons (DJ m a1) .nil)) (.cons rfl (.cons rfl .nil))<|AH<|AB ?_
 refine rn ⟨[(4,tP 4 0)],[(4,.cells [.i 1,.i ((AY m a0).X),.i ((AY m a0).Y),.i ((AY m a1).X),.i ((AY m a1).Y),.i a2.X,.i a2.Y] 133)]⟩<|Ae ?_
 exact xl (.av (.agg [.i 1,.i ((AY m a0).X),.i ((AY m a0).Y),.i ((AY m a1).X),.i ((AY m a1).Y),.i a2.X,.i a2.Y])) (An (by rfl))
def JV (a0:AD) (a1:AD) (a2:AD) (m:AV):AO:=AO.mk (bif m.Mirror then 3 else 2) (AY m a0) (AY m a1) (AD.mk (bif !decide (((bif m.Mirror then 3 else 2):Int)=1) then ((AY m a2).X) else a2.X) (bif !decide (((bif m.Mirror then 3 else 2):Int)=1) then ((AY m a2).Y) else a2.Y))
def dA:CT:=(44,[.agg [.i 2,.i a0.X,.i a0.Y,.i a1.X,.i a1.Y,.i a2.X,.i a2.Y],.agg (AV.c m)],.val [] (.av (.agg (AO.c (JV a0 a1 a2 m)))))
theorem mac1 {p:Prop} (h:p:=by
 refine pwf Try.func44 fun W0 M0 => ?_
 refine AB<|rn ⟨[(2,tP 2 0),(3,tP 3 0),(4,tP 4 0)],[(2,.cells [.i mp0,.i a0.X,.i a0.Y,.i a1.X,.i a1.Y,.i a2.X,.i a2.Y] 133),(3,.cells (AV.c m) 66),(4,.cells [.i 0,.i 0,.i 0,.i 0,.i 0,.i 0,.i 0] 133)]⟩ ?_
 refine AB<|AB ?_
 refine rs 9 (mp1 a0 a1 a2) ⟨[(2,tP 2 0),(3,tP 3 0),(4,tP 4 0),(5,tP 5 0)],[(2,.cells [.i mp0,.i a0.X,.i a0.Y,.i a1.X,.i a1.Y,.i a2.X,.i a2.Y] 133),(3,.cells (AV.c m) 66),(4,.cells [.i 0,.i 0,.i 0,.i 0,.i 0,.i 0,.i 0] 133),(5,.cells [.clo mp2 0 (fun _=>default),.clo 99 0 dfc,.clo 100 0 dfc,.i mp3] 173)]⟩ (mp4 a0 a1 a2)<|AH<|AB ?_
 refine rn ⟨[(2,tP 2 0),(3,tP 3 0),(4,tP 4 0),(5,tP 5 0),(13,tB m.Mirror)],[(2,.cells [.i mp0,.i a0.X,.i a0.Y,.i a1.X,.i a1.Y,.i a2.X,.i a2.Y] 133),(3,.cells (AV.c m) 66),(4,.cells [.i 0,.i 0,.i 0,.i 0,.i 0,.i 0,.i 0] 133),(5,.cells [.clo mp2 0 (fun _=>default),.clo 99 0 dfc,.clo 100 0 dfc,.i mp3] 173)]⟩ ?_
 refine Bz (⟨[(2,tP 2 0),(3,tP 3 0),(4,tP 4 0)],[(2,.cells [.i (bif m.Mirror then mp5 else mp6),.i a0.X,.i a0.Y,.i a1.X,.i a1.Y,.i a2.X,.i a2.Y] 133),(3,.cells (AV.c m) 66),(4,.cells [.i 0,.i 0,.i 0,.i 0,.i 0,.i 0,.i 0] 133)]⟩) ?_ ?_
 ·refine Aa _ rfl (fun h1 => ?_) (fun h1 => ?_)
  ·refine rn ⟨[(2,tP 2 0),(3,tP 3 0),(4,tP 4 0)],[(2,.cells [.i mp3,.i a0.X,.i a0.Y,.i a1.X,.i a1.Y,.i a2.X,.i a2.Y] 133),(3,.cells (AV.c m) 66),(4,.cells [.i 0,.i 0,.i 0,.i 0,.i 0,.i 0,.i 0] 133)]⟩ ?_
   refine A6 ?_
   first | rfl | (simp only [h1,cond_true,cond_false] <;> rfl)
  refine Ac<|AH ?_
  refine Cv.trans (ck (⟨[(2,tP 2 0),(3,tP 3 0),(4,tP 4 0)],[(2,.cells [.i mp0,.i a0.X,.i a0.Y,.i a1.X,.i a1.Y,.i a2.X,.i a2.Y] 133),(3,.cells (AV.c m) 66),(4,.cells [.i 0,.i 0,.i 0,.i 0,.i 0,.i 0,.i 0] 133)]⟩)) (A6 ?_)
  first | rfl | (simp only [h1,cond_true,cond_false] <;> rfl)
 refine AB<|AB ?_
 refine rn ⟨[(2,tP 2 0),(3,tP 3 0),(4,tP 4 0),(19,tB (!decide (((bif m.Mirror then mp5 else mp6):Int)=1)))],[(2,.cells [.i (bif m.Mirror then mp5 else mp6),.i a0.X,.i a0.Y,.i a1.X,.i a1.Y,.i a2.X,.i a2.Y] 133),(3,.cells (AV.c m) 66),(4,.cells [.i 0,.i 0,.i 0,.i 0,.i 0,.i 0,.i 0] 133)]⟩ ?_
 refine Bz (⟨[(2,tP 2 0),(3,tP 3 0),(4,tP 4 0)],[(2,.cells [.i (bif m.Mirror then mp5 else mp6),.i a0.X,.i a0.Y,.i a1.X,.i a1.Y,.i (bif !decide (((bif m.Mirror then mp5 else mp6):Int)=1) then ((AY m a2).X) else a2.X),.i (bif !decide (((bif m.Mirror then mp5 else mp6):Int)=1) then ((AY m a2).Y) else a2.Y)] 133),(3,.cells (AV.c m) 66),(4,.cells [.i 0,.i 0,.i 0,.i 0,.i 0,.i 0,.i 0] 133)]⟩) ?_ ?_
 ·refine Aa _ rfl (fun h1 => ?_) (fun h1 => ?_)
  ·have g1:=Dd h1
   refine rs 23 (B6 m a2) ⟨[(2,tP 2 0),(3,tP 3 0),(4,tP 4 0)],[(2,.cells [.i (bif m.Mirror then mp5 else mp6),.i a0.X,.i a0.Y,.i a1.X,.i a1.Y,.i ((AY m a2).X),.i ((AY m a2).Y)] 133),(3,.cells (AV.c m) 66),(4,.cells [.i 0,.i 0,.i 0,.i 0,.i 0,.i 0,.i 0] 133)]⟩ (DJ m a2)<|AH ?_
   refine A6 ?_
   first | rfl | (simp only [h1,cond_true,cond_false] <;> rfl)
  have g1:=DR h1
  refine Ac<|AH ?_
  refine Cv.trans (ck (⟨[(2,tP 2 0),(3,tP 3 0),(4,tP 4 0)],[(2,.cells [.i (bif m.Mirror then mp5 else mp6),.i a0.X,.i a0.Y,.i a1.X,.i a1.Y,.i a2.X,.i a2.Y] 133),(3,.cells (AV.c m) 66),(4,.cells [.i 0,.i 0,.i 0,.i 0,.i 0,.i 0,.i 0] 133)]⟩)) (A6 ?_)
  first | rfl | (simp only [h1,cond_true,cond_false] <;> rfl)
 refine AB<|dw [] [(28,B6 m a0),(32,B6 m a1)] [Aw (B6 m a0).2.1,Aw (B6 m a1).2.1] ⟨[(2,tP 2 0),(4,tP 4 0)],[(2,.cells [.i (bif m.Mirror then mp5 else mp6),.i ((AY m a0).X),.i ((AY m a0).Y),.i ((AY m a1).X),.i ((AY m a1).Y),.i (bif !decide (((bif m.Mirror then mp5 else mp6):Int)=1) then ((AY m a2).X) else a2.X),.i (bif !decide (((bif m.Mirror then mp5 else mp6):Int)=1) then ((AY m a2).Y) else a2.Y)] 133),(4,.cells [.i 0,.i 0,.i 0,.i 0,.i 0,.i 0,.i 0] 133)]⟩ (.cons (DJ m a0) (.cons (DJ m a1) .nil)) (.cons rfl (.cons rfl .nil))<|AH<|AB ?_
 refine rn ⟨[(4,tP 4 0)],[(4,.cells [.i (bif m.Mirror then mp5 else mp6),.i ((AY m a0).X),.i ((AY m a0).Y),.i ((AY m a1).X),.i ((AY m a1).Y),.i (bif !decide (((bif m.Mirror then mp5 else mp6):Int)=1) then ((AY m a2).X) else a2.X),.i (bif !decide (((bif m.Mirror then mp5 else mp6):Int)=1) then ((AY m a2).Y) else a2.Y)] 133)]⟩<|Ae ?_
 exact xl (.av (.agg [.i (bif m.Mirror then mp5 else mp6),.i ((AY m a0).X),.i ((AY m a0).Y),.i ((AY m a1).X),.i ((AY m a1).Y),.i (bif !decide (((bif m.Mirror then mp5 else mp6):Int)=1) then ((AY m a2).X) else a2.X),.i (bif !decide (((bif m.Mirror then mp5 else mp6):Int)=1) then ((AY m a2).Y) else a2.Y)])) (An (by rfl))):p:=h
section
 open Go.Proofs.Ytdbampcfmjbgmaa renaming ni2→mp0,cV→mp1,nn98→mp2,ni3→mp3,okof2→mp4,nn3→mp5,nn2→mp6
theorem bF (a0:AD) (a1:AD) (a2:AD) (m:AV):PuP 44 (dA a0 a1 a2 m).2.1 (.av (.agg (AO.c (JV a0 a1 a2 m)))):=mac1
end
def JU (a0:AD) (a1:AD) (a2:AD) (m:AV):AO:=AO.mk (bif m.Mirror then 2 else 3) (AY m a0) (AY m a1) (AD.mk (bif !decide (((bif m.Mirror then 2 else 3):Int)=1) then ((AY m a2).X) else a2.X) (bif !decide (((bif m.Mirror then 2 else 3):Int)=1) then ((AY m a2).Y) else a2.Y))
def cZ:CT:=(44,[.agg [.i 3,.i a0.X,.i a0.Y,.i a1.X,.i a1.Y,.i a2.X,.i a2.Y],.agg (AV.c m)],.val [] (.av (.agg (AO.c (JU a0 a1 a2 m)))))
section
 open Go.Proofs.Ytdbampcfmjbgmaa renaming ni3→mp0,cU→mp1,aG→mp2,ni2→mp3,okof3→mp4,nn2→mp5,nn3→mp6
theorem bE (a0:AD) (a1:AD) (a2:AD) (m:AV):PuP 44 (cZ a0 a1 a2 m).2.1 (.av (.agg (AO.c (JU a0 a1 a2 m)))):=mac1
end
def H1 (e:AO) (m:AV):AO:=AO.mk e.Kind (AY m e.A) (AY m e.B) (AD.mk (bif !decide ((e.Kind:Int)=1) then ((AY m e.C).X) else e.C.X) (bif !decide ((e.Kind:Int)=1) then ((AY m e.C).Y) else e.C.Y))
def cY:CT:=(44,[.agg (AO.c e),.agg (AV.c m)],.val [] (.av (.agg (AO.c (H1 e m)))))
theorem bD (e:AO) (m:AV) (k1:¬ e.Kind=1) (k2:¬ e.Kind=2) (k3:¬ e.Kind=3):PuP 44 (cY e m).2.1 (.av (.agg (AO.c (H1 e m)))):=by
 refine pwf Try.func44 fun W0 M0 => ?_
 refine AB<|rn ⟨[(2,tP 2 0),(3,tP 3 0),(4,tP 4 0)],[(2,.cells (AO.c e) 133),(3,.cells (AV.c m) 66),(4,.cells [.i 0,.i 0,.i 0,.i 0,.i 0,.i 0,.i 0] 133)]⟩ ?_
 refine AB<|AB ?_
 refine rs 9 (cT e) ⟨[(2,tP 2 0),(3,tP 3 0),(4,tP 4 0),(5,tP 5 0)],[(2,.cells (AO.c e) 133),(3,.cells (AV.c m) 66),(4,.cells [.i 0,.i 0,.i 0,.i 0,.i 0,.i 0,.i 0] 133),(5,.cells [.val .nilFunc,.val .nilFunc,.val .nilFunc,.i e.Kind] 173)]⟩ (okofN e k1 k2 k3)<|AH<|AB ?_
 refine rn ⟨[(2,tP 2 0),(3,tP 3 0),(4,tP 4 0),(5,tP 5 0),(13,tB m.Mirror)],[(2,.cells (AO.c e) 133),(3,.cells (AV.c m) 66),(4,.cells [.i 0,.i 0,.i 0,.i 0,.i 0,.i 0,.i 0] 133),(5,.cells [.val .nilFunc,.val .nilFunc,.val .nilFunc,.i e.Kind] 173)]⟩ ?_
 refine Bz (⟨[(2,tP 2 0),(3,tP 3 0),(4,tP 4 0)],[(2,.cells (AO.c e) 133),(3,.cells (AV.c m) 66),(4,.cells [.i 0,.i 0,.i 0,.i 0,.i 0,.i 0,.i 0] 133)]⟩) ?_ ?_
 ·refine Aa _ rfl (fun h4 => ?_) (fun h4 => ?_)
  ·refine rn ⟨[(2,tP 2 0),(3,tP 3 0),(4,tP 4 0)],[(2,.cells (AO.c e) 133),(3,.cells (AV.c m) 66),(4,.cells [.i 0,.i 0,.i 0,.i 0,.i 0,.i 0,.i 0] 133)]⟩ ?_
   refine A6 ?_
   first | rfl | (simp only [h4,cond_true,cond_false] <;> rfl)
  refine Ac<|AH ?_
  refine Cv.trans (ck (⟨[(2,tP 2 0),(3,tP 3 0),(4,tP 4 0)],[(2,.cells (AO.c e) 133),(3,.cells (AV.c m) 66),(4,.cells [.i 0,.i 0,.i 0,.i 0,.i 0,.i 0,.i 0] 133)]⟩)) (A6 ?_)
  first | rfl | (simp only [h4,cond_true,cond_false] <;> rfl)
 refine AB<|AB ?_
 refine rn ⟨[(2,tP 2 0),(3,tP 3 0),(4,tP 4 0),(19,tB (!decide ((e.Kind:Int)=1)))],[(2,.cells (AO.c e) 133),(3,.cells (AV.c m) 66),(4,.cells [.i 0,.i 0,.i 0,.i 0,.i 0,.i 0,.i 0] 133)]⟩ ?_
 refine Bz (⟨[(2,tP 2 0),(3,tP 3 0),(4,tP 4 0)],[(2,.cells [.i e.Kind,.i e.A.X,.i e.A.Y,.i e.B.X,.i e.B.Y,.i (bif !decide ((e.Kind:Int)=1) then ((AY m e.C).X) else e.C.X),.i (bif !decide ((e.Kind:Int)=1) then ((AY m e.C).Y) else e.C.Y)] 133),(3,.cells (AV.c m) 66),(4,.cells [.i 0,.i 0,.i 0,.i 0,.i 0,.i 0,.i 0] 133)]⟩) ?_ ?_
 ·refine Aa _ rfl (fun h4 => ?_) (fun h4 => ?_)
  ·have g4:=Dd h4
   refine rs 23 (B6 m e.C) ⟨[(2,tP 2 0),(3,tP 3 0),(4,tP 4 0)],[(2,.cells [.i e.Kind,.i e.A.X,.i e.A.Y,.i e.B.X,.i e.B.Y,.i ((AY m e.C).X),.i ((AY m e.C).Y)] 133),(3,.cells (AV.c m) 66),(4,.cells [.i 0,.i 0,.i 0,.i 0,.i 0,.i 0,.i 0] 133)]⟩ (DJ m e.C)<|AH ?_
   refine A6 ?_
   first | rfl | (simp only [h4,cond_true,cond_false] <;> rfl)
  have g4:=DR h4
  refine Ac<|AH ?_
  refine Cv.trans (ck (⟨[(2,tP 2 0),(3,tP 3 0),(4,tP 4 0)],[(2,.cells (AO.c e) 133),(3,.cells (AV.c m) 66),(4,.cells [.i 0,.i 0,.i 0,.i 0,.i 0,.i 0,.i 0] 133)]⟩)) (A6 ?_)
  first | rfl | (simp only [h4,cond_true,cond_false] <;> rfl)
 refine AB<|dw [] [(28,B6 m e.A),(32,B6 m e.B)] [Aw (B6 m e.A).2.1,Aw (B6 m e.B).2.1] ⟨[(2,tP 2 0),(4,tP 4 0)],[(2,.cells [.i e.Kind,.i ((AY m e.A).X),.i ((AY m e.A).Y),.i ((AY m e.B).X),.i ((AY m e.B).Y),.i (bif !decide ((e.Kind:Int)=1) then ((AY m e.C).X) else e.C.X),.i (bif !decide ((e.Kind:Int)=1) then ((AY m e.C).Y) else e.C.Y)] 133),(4,.cells [.i 0,.i 0,.i 0,.i 0,.i 0,.i 0,.i 0] 133)]⟩ (.cons (DJ m e.A) (.cons (DJ m e.B) .nil)) (.cons rfl (.cons rfl .nil))<|AH<|AB ?_
 refine rn ⟨[(4,tP 4 0)],[(4,.cells [.i e.Kind,.i ((AY m e.A).X),.i ((AY m e.A).Y),.i ((AY m e.B).X),.i ((AY m e.B).Y),.i (bif !decide ((e.Kind:Int)=1) then ((AY m e.C).X) else e.C.X),.i (bif !decide ((e.Kind:Int)=1) then ((AY m e.C).Y) else e.C.Y)] 133)]⟩<|Ae ?_
 exact xl (.av (.agg [.i e.Kind,.i ((AY m e.A).X),.i ((AY m e.A).Y),.i ((AY m e.B).X),.i ((AY m e.B).Y),.i (bif !decide ((e.Kind:Int)=1) then ((AY m e.C).X) else e.C.X),.i (bif !decide ((e.Kind:Int)=1) then ((AY m e.C).Y) else e.C.Y)])) (An (by rfl))
def CV (e:AO) (m:AV):AO:=if e.Kind=1 then K8 e.A e.B e.C m else if e.Kind=2 then JV e.A e.B e.C m else if e.Kind=3 then JU e.A e.B e.C m else H1 e m
def Ue:CT:=(44,[.agg (AO.c e),.agg (AV.c m)],.val [] (.av (.agg (AO.c (CV e m)))))
theorem pMove (e:AO) (m:AV):PuP 44 (Ue e m).2.1 (.av (.agg (AO.c (CV e m)))):=by
 by_cases k1:e.Kind=1
 ·have hF:CV e m=K8 e.A e.B e.C m:=by unfold CV;rw [if_pos k1]
  rw [hF];obtain ⟨k,a0,a1,a2⟩:=e;simp only at k1;subst k1;exact bG a0 a1 a2 m
 by_cases k2:e.Kind=2
 ·have hF:CV e m=JV e.A e.B e.C m:=by unfold CV;rw [if_neg k1];rw [if_pos k2]
  rw [hF];obtain ⟨k,a0,a1,a2⟩:=e;simp only at k2;subst k2;exact bF a0 a1 a2 m
 by_cases k3:e.Kind=3
 ·have hF:CV e m=JU e.A e.B e.C m:=by unfold CV;rw [if_neg k1];rw [if_neg k2];rw [if_pos k3]
  rw [hF];obtain ⟨k,a0,a1,a2⟩:=e;simp only at k3;subst k3;exact bE a0 a1 a2 m
 have hF:CV e m=H1 e m:=by unfold CV;rw [if_neg k1,if_neg k2,if_neg k3]
 rw [hF];exact bD e m k1 k2 k3
theorem bR (e:AO) (m:AV):OKc (Ue e m):=cPu<|pMove e m
end
section
open Go.ChangeShapes Go.WideShapes Go.ChangeAt Go.RowKit
theorem own:ownKnob Try.prog.godebug=none:=by kernel_rfl
theorem Zc:laidOutB Try.prog=true:=by kernel_rfl
theorem opT82:HQ Try.prog 82 (fun xs:List Int=>[lst 1 eIn xs]) (fun xs=>xs.length<=maxLen/\∀ x∈xs,WF .i64 x):=LC 1 Try.underlying82 kr (by decide) (H5 Try.underlying3)
theorem opT22:HQ Try.prog 22 (fun xs:List (List Int)=>[lst 1 (fun x=>[lst 1 eIn x]) xs]) (fun xs=>xs.length<=maxLen/\∀ x∈xs,(x.length<=maxLen/\∀ y∈x,WF .i64 y)):=LC 1 Try.underlying22 kr (by decide) opT82
def AD.ok (x:AD):Prop:=WF .i64 x.X/\WF .i64 x.Y/\True
theorem opT52:HQ Try.prog 52 AD.c AD.ok:=by
 refine VD (Py Try.underlying52 kr (LD 1 kr rfl (H5 Try.underlying3) (LD 1 kr rfl (H5 Try.underlying3) Sr))) ?_
 rintro ⟨a0,a1,_⟩ ⟨h0,h1,_⟩
 exact ⟨⟨a0,a1⟩,⟨h0,h1,trivial⟩,rfl⟩
end
section
open Go.RowKit
def IWL (P:Program) (N:Nat) (Ow:World->Nat->Prop) (n0:Nat) (ops:Array Oper) (l:List Oper) (Q:IQ) (s:AS) (J:World->Prop) (al:Bool):Prop :=
 ∀ W0 M σ a w,(J W0/\a.defers=[]/\IOk Ow n0 al M W0)->Sim N W0 noX M M σ (get s.t) (get s.h) a w->wpListIn (FW none) 0 P ops (fun e a' w'=>∃ s' J' al' W0' M' σ',Q e s' J' al'/\(J' W0'/\a'.defers=[]/\IOk Ow n0 al' M' W0')/\Sim N W0' noX M' M' σ' (get s'.t) (get s'.h) a' w') l a w
section
variable {P:Program} {N:Nat} {Ow:World→Nat→Prop} {n0:Nat} {Q:IQ} {s:AS} {J:World→Prop} {al:Bool} {ops:Array Oper} {l:List Oper} {o:Oper}
theorem NA {id:Nat} (h:IWL P N Ow n0 l.toArray l Q s J al):IWp P N Ow n0 (.region id l.toArray false) Q s J al:=fun W0 M σ a w hJ hs=>wpIn_region_lit (h W0 M σ a w hJ hs)
theorem Ju (hO:OwS Ow n0) {E:TypeId->Option (List Kd)} (hE:IW P ⟨fun _=>none,E,fun _=>false,fun _=>none⟩) (k:Nat) (ts:List Nat) (cs:List Prop) (T:List (Nat×Tv)) (hr:N3 P ⟨G5 [],E,BM [],get []⟩ N ops (l.take k) ts [] s=some (cs,⟨T,[]⟩)) (hc:Bs cs)
  (hdv:∀ i v,get s.t i=some v->v.dv=true) (hh:s.h=[]) (h:IWL P N Ow n0 ops (l.drop k) Q ⟨T,[]⟩ J al):IWL P N Ow n0 ops l Q s J al:=by
 have hV:KE P ⟨G5 [],E,BM [],get []⟩:=(Gp.nil (P:=P)).env (O:=BM []) (q:=get []) hE
 intro W0 M σ a w hJ hs
 unfold N3 at hr
 split at hr
 ·rename_i cs1 s1 h1
  simp only [Option.some.injEq,Prod.mk.injEq] at hr
  obtain ⟨rfl,hS⟩:=hr
  have key:=Me (rd:=none) (ops:=ops) (Q':=fun e a' w'=>∃ s' J' al' W0' M' σ',Q e s' J' al'/\(J' W0'/\a'.defers=[]/\IOk Ow n0 al' M' W0')/\Sim N W0' noX M' M' σ' (get s'.t) (get s'.h) a' w') hV (l.drop k) (l.take k) s s1 cs1 h1 hc M _ a w (Ma hdv hh hJ.2.1 hs) fun M' σ' a' w' hs'=>by
   have hs2:=FA hs' ts []
   rw [hS] at hs2
   obtain ⟨hd,hs3⟩:=I7 hs2
   exact h W0 M' σ' a' w' ⟨hJ.1,hd,Jw hJ.2.2 hO hs2⟩ hs3
  rw [List.take_append_drop] at key
  exact key
 cases hr
theorem QE (h:Q .normal s J al):IWL P N Ow n0 ops [] Q s J al:=fun W0 M σ a w hJ hs=>⟨s,J,al,W0,M,σ,h,hJ,hs⟩
theorem M9 (ts:List Nat) (S:AS) (hS:Js ts [] s=S) (h:IWL P N Ow n0 ops l Q S J al):IWL P N Ow n0 ops l Q s J al:=by
 subst hS
 exact fun W0 M σ a w hJ hs=>h W0 M σ a w hJ (FA hs ts [])
theorem S4 (hO:OwS Ow n0) (hwant:∀ (M:Nat->Option Obj) (σ:Nat->Loc) (a:Act),(∀ i v,get s.t i=some v->RT M σ v (a.tmps.getD i undef))->a.tmps.size=N->Region.wanted o (yielded ops a.tmps)=true) {c:Call} {f:Operand} {ly d:Nat} (xs:List Av) (ho:o.op=.call c) (hcf:c.callee=.value f)
  (hf:evT (get s.t) f=some (.av (.one (.val (.func (.yield ly) #[] #[]))))) (hxs:EG (evT (get s.t)) c.args.toList=some xs) (hv:xs.all Av.isV=true) (hod:o.dst=some d) (hdN:Nat.blt d N=true) (hT1:∀ i v,get s.t i=some v->v.dv=true/\TvM v)
  (hJg:∀ A B,J A->A.grownBy B none->J B) (Jt Jf:World->Prop)
  (hY:∀ W,J W->YieldAt (FW none) 0 P ly (xs.map Av.toV).toArray W (fun e W'=>(e=.returned (.bool true)/\Jt W'/\KpS Ow W W')\/(e=.returned (.bool false)/\Jf W')))
  (tf:List Nat) (htf:∀ i v,get (Hn s.t tf) i=some v->∃ u,v=.av (.one (.val u))) (hh:s.h=[])
  (ht:IWL P N Ow n0 ops l Q ⟨(d,tB true)::s.t,[]⟩ Jt true) (hff:IWL P N Ow n0 ops l Q ⟨(d,tB false)::Hn s.t tf,[]⟩ Jf false):IWL P N Ow n0 ops (o::l) Q s J true:=by
 intro W0 M σ a w hJ hs
 refine wpListIn_step fun K0 hK' => ?_
 rw [if_pos (hwant M σ a hs.tmps hs.room)]
 have hgrow:W0.grownBy w none:={ os:=hs.os,tape:=hs.tape,output:=hs.output,size:=hs.size,block:=fun b hb _=>hs.old b hb (E4 b) }
 have hiok:=hJ.2.2
 have hdN':d<N:=by have:=Nat.le_of_ble_eq_true hdN;omega
 have hput:∀ (b:Bool) (T:List (Nat×Tv)) (M':Nat->Option Obj) (σ':Nat->Loc),(∀ i v,get T i=some v->RT M' σ' v (a.tmps.getD i undef))->∀ i v,get ((d,tB b)::T) i=some v->RT M' σ' v ((a.put o.dst (.bool b)).tmps.getD i undef):=fun b T M' σ' hT i v hv=>by
  have hds:d<a.tmps.size:=by rw [hs.room];exact hdN'
  simp only [get,Ce] at hv
  rw [hod]
  by_cases hi:d=i
  ·subst hi
   simp at hv;subst hv
   have:(a.put (some d) (.bool b)).tmps.getD d undef=.bool b:=by simp [Act.put,Array.getD_eq_getD_getElem?,hds]
   rw [this]
   exact ⟨rfl,rfl⟩
  simp [hi] at hv
  have:(a.put (some d) (.bool b)).tmps.getD i undef=a.tmps.getD i undef:=by simp [Act.put,Array.getD_eq_getD_getElem?,Array.getElem?_setIfInBounds,hi]
  rw [this];exact hT i v hv
 have hsize:∀ b:Bool,(a.put o.dst (.bool b)).tmps.size=N:=fun b=>by rw [hod];simpa [Act.put] using hs.room
 have hdef:∀ b:Bool,(a.put o.dst (.bool b)).defers=[]:=fun b=>by rw [hod];simpa [Act.put] using hJ.2.1
 have hnew:∀ (b:Bool) (w2:World) (T:List (Nat×Tv)) (Mn:Nat->Option Obj),(∀ i v,get T i=some v->RT Mn σ v (a.tmps.getD i undef))->(∀ b o,Mn b=some o->w2.heap[b]? = some o)->Sim N w2 noX Mn Mn σ (get ((d,tB b)::T)) (get []) (a.put o.dst (.bool b)) w2:=fun b w2 T Mn hT himm =>
  ⟨rfl,rfl,rfl,Nat.le_refl _,fun _ _ _=>rfl,fun _ _ h=>h,fun b o h h'=>(by rw [h] at h';cases h'),fun m x hx=>(by cases hx),⟨by rw [hdef b];trivial,fun _=>hdef b⟩,hsize b,hput b T Mn σ hT,himm,fun n b hb=>(by cases hb),fun n b hb=>(by cases hb),fun n m b c hb=>(by cases hb)⟩
 refine WT hs.tmps ho hcf hf hxs hv (hY w (hJg W0 w hJ.1 hgrow)) fun e w2 he => ?_
 rcases he with ⟨rfl,h5,h6⟩ | ⟨rfl,h5⟩
 ·have hst:∀ b,Ow w b->Ow W0 b:=hO.st W0 w (hiok rfl).1 fun b hb=>hs.old b hb (E4 b)
  refine ⟨_,rfl,hK' _ _ (ht w2 (QT M) σ _ w2 ⟨h5,hdef true,fun _=>⟨Nat.le_trans (hiok rfl).1 (Nat.le_trans hs.size h6.1),fun b h=>(h6.2.2 b h).elim (fun h7=>Nat.lt_of_lt_of_le ((hiok rfl).2.1 b (hst b h7)) (Nat.le_trans hs.size h6.1)) And.right,fun b o' h hw2 => ?_⟩⟩ (hnew true w2 s.t (QT M) (fun i v hv=>TY JN (hs.tmps i v hv) (hT1 i v hv).2) fun b o' h => ?_))⟩
  ·rcases h6.2.2 b hw2 with h7 | h7
   ·exact (hiok rfl).2.2 b o' (D1 h).1 (hst b h7)
   have:=(Array.getElem?_eq_some_iff.1 (hs.imm b o' (D1 h).1)).1;omega
  exact h6.2.1 b o' (hs.imm b o' (D1 h).1) (D1 h).2 fun h7=>(hiok rfl).2.2 b o' (D1 h).1 (hst b h7)
 refine ⟨_,rfl,hK' _ _ (hff w2 noM σ _ w2 ⟨h5,hdef false,fun h=>by cases h⟩ (hnew false w2 (Hn s.t tf) noM (fun i v hv => ?_) fun b o' h=>by cases h))⟩
 obtain ⟨u,rfl⟩:=htf i v hv
 exact hs.tmps i _ (Gh _ _ _ _ hv)
theorem S6 (hO:OwS Ow n0) (hgn:o.guard=none) {c:Call} {f:Operand} {ly d:Nat} (xs:List Av) (ho:o.op=.call c) (hcf:c.callee=.value f)
  (hf:evT (get s.t) f=some (.av (.one (.val (.func (.yield ly) #[] #[]))))) (hxs:EG (evT (get s.t)) c.args.toList=some xs) (hv:xs.all Av.isV=true) (hod:o.dst=some d) (hdN:Nat.blt d N=true) (hT1:∀ i v,get s.t i=some v->v.dv=true/\TvM v)
  (hJg:∀ A B,J A->A.grownBy B none->J B) (Jt Jf:World->Prop)
  (hY:∀ W,J W->YieldAt (FW none) 0 P ly (xs.map Av.toV).toArray W (fun e W'=>(e=.returned (.bool true)/\Jt W'/\KpS Ow W W')\/(e=.returned (.bool false)/\Jf W')))
  (tf:List Nat) (htf:∀ i v,get (Hn s.t tf) i=some v->∃ u,v=.av (.one (.val u))) (hh:s.h=[])
  (ht:IWL P N Ow n0 ops l Q ⟨(d,tB true)::s.t,[]⟩ Jt true) (hff:IWL P N Ow n0 ops l Q ⟨(d,tB false)::Hn s.t tf,[]⟩ Jf false):IWL P N Ow n0 ops (o::l) Q s J true :=
 S4 hO (fun M σ a h1 h2=>by simp [Region.wanted,hgn]) xs ho hcf hf hxs hv hod hdN hT1 hJg Jt Jf hY tf htf hh ht hff
theorem Qw {W0 w:World} {M0 M:Nat->Option Obj} {σ:Nat->Loc} {T:Nat->Option Tv} {H:Nat->Option Blk} {a:Act} (h:Sim N W0 noX M0 M σ T H a w) (hd:a.defers=[]):Sim N W0 noX M M σ T H a w :=
 ⟨h.os,h.tape,h.output,h.size,h.old,fun _ _ h=>h,fun b o h h'=>(by rw [h] at h';cases h'),h.pin,⟨by rw [hd];trivial,fun _=>hd⟩,h.room,h.tmps,h.imm,h.blk,h.loc,h.inj⟩
theorem Xf {c:Code} {S:AS} (hO:OwS Ow n0) (h:∀ W0 M1,Cv N W0 noX M1 s S) (k:IWp P N Ow n0 c Q S J al):IWp P N Ow n0 c Q s J al:=by
 intro W0 M σ a w hJ hs
 obtain ⟨M',σ',h2⟩:=h W0 M M σ a w hs
 exact k W0 M' σ' a w ⟨hJ.1,hJ.2.1,Jw hJ.2.2 hO h2⟩ (Qw h2 hJ.2.1)
end
end
theorem Yd {M:Nat->Option Obj} {c:Cl} {V:Value} (h:RC M c V):V.oneCell'=true:=by
 cases h with
 | val v h=>exact h
 | any V h=>exact h
 | _=>rfl
abbrev YP (t:Bool) (sz len:Nat) (f:Nat->Nat->Cl):Cl:=.eptr 1 1 (fun _ j=>([.list t sz len f]:List Cl).getD j default) 0 0
theorem Yz {M:Nat->Option Obj} {t:Bool} {sz len:Nat} {f:Nat->Nat->Cl} {v:Value} (h:RC M (.list t sz len f) v):∃ g:Nat->Nat->Value,RC M (.list t sz len (fun i j=>.val (g i j))) v/\∀ i j,i<len->j<sz->RC M (f i j) (g i j):=by
 cases h with
 | nil _ _ _ h0=>exact ⟨fun _ _=>undef,.nil _ _ _ h0,fun i j hi=>by omega⟩
 | mt _ _ _ a cap h5=>exact ⟨fun _ _=>undef,.mt _ _ _ a cap h5,fun i j hi=>by omega⟩
 | list _ _ _ _ b off cap g h1 h2 h4 h5=>exact ⟨g,.list _ _ _ _ b off cap g h1 (fun i j hi hj=>.val _ (Yd (h2 i j hi hj))) h4 h5,h2⟩
theorem Se {M:Nat->Option Obj} {t:Bool} {sz len:Nat} {f:Nat->Nat->Cl} {V:Value} (h:RC M (YP t sz len f) V):∃ g:Nat->Nat->Value,RC M (YP t sz len (fun i j=>.val (g i j))) V/\∀ i j,i<len->j<sz->RC M (f i j) (g i j):=by
 cases h with
 | eptr _ _ _ _ _ b base g0 h1 h2 =>
  obtain ⟨g,hg1,hg2⟩:=Yz (h2 0 (by decide))
  exact ⟨g,.eptr _ _ _ _ _ _ _ g0 h1 (fun j hj=>by
   have:j=0:=by omega
   subst this;exact hg1),hg2⟩
section
open Go.RowKit
section
variable {P:Program}
def WrR (P:Program) (f:FuncId) (K:Nat) (xs:List Av) (sz len:Nat) (F0:Nat->Nat->Cl) (ty:TypeId) (r:Tv) (F1:Nat->Nat->Cl):Prop:=∀ (M:Nat->Option Obj) (σ:Nat->Loc) (w:World) (args:List Value),(∀ b o,M b=some o->w.heap[b]? = some o)->Bv M σ w (σ K) (.row sz len F0 ty)->((σ K).nil=true\/M (σ K).b=none)->L2 (RA M σ) xs args ->
 Calls P f args.toArray w fun en w'=>∃ U,en=.returned U/\∃ M',F8 w w' M M' (only (σ K))/\(∀ σ',RT M' σ' r U)/\∀ σ',Bv M' σ' w' (σ K) (.row sz len F1 ty)
theorem I3 {f:FuncId} {fn:Func} {c:Code} (hf:P.funcs[f]? = some fn) (hb:fn.body=some c) {K:Nat} {xs:List Av} {sz len:Nat} {F0 F1:Nat->Nat->Cl} {ty:TypeId} {r:Tv} (hN:Nat.ble xs.length fn.ntmps=true) (hK:Nat.ble fn.ntmps K=true) (hd:r.dv=true)
  (h:∀ (W0:World) (M0:Nat->Option Obj) (X:Nat->Option Loc),(∀ k x,X k=some x->BM [K] k=true)->AWp P none fn.ntmps W0 X M0 c (Nt P fn.ntmps W0 X M0 fn fun r' s'=>TvE r' r/\∃ b,get s'.h K=some b/\GS b (.row sz len F1 ty)) ⟨EN 0 xs,[(K,.row sz len F0 ty)]⟩):WrR P f K xs sz len F0 ty r F1:=by
 intro M σ w args himm hblk hM hargs
 have one:∀ n b,get [(K,Blk.row sz len F0 ty)] n=some b->n=K/\b=.row sz len F0 ty:=fun n b hn=>by
  simp only [get,Ce] at hn
  by_cases hk:K=n
  ·simp [hk] at hn;exact ⟨hk.symm,hn.symm⟩
  simp [hk] at hn
 by_cases hnil:(σ K).nil=true
 ·have hlen:len=0:=by
   rcases hblk with h0 | ⟨h0,_⟩
   ·exact h0.2
   rw [hnil] at h0;cases h0
  refine EU (X:=noX) (σ:=σ) (h0:=[(K,.row sz len F0 ty)]) hf hb (Nat.le_of_ble_eq_true hN) himm hargs (fun n b hn => ?_) (fun n b hn => ?_) (fun n x hx=>by cases hx) (fun n m b c hn hm hne => ?_) (EF (h w M noX (fun k x hk=>by cases hk))) ?_
  ·obtain ⟨rfl,rfl⟩:=one n b hn;exact hblk
  ·obtain ⟨rfl,rfl⟩:=one n b hn;exact .inl hnil
  ·exact absurd ((one n b hn).1.trans (one m c hm).1.symm) hne
  rintro r' s' M' σ' a' w' U ⟨he,b,hb1,hbe⟩ hs hR
  exact ⟨U,rfl,M',⟨hs.os,hs.tape,hs.output,hs.size,fun b hb hne=>hs.old b hb (E4 b),hs.sub,hs.new,hs.imm⟩,fun σ''=>GR hd (JS he hR),fun σ''=>.inl ⟨hnil,hlen⟩⟩
 have hnil:(σ K).nil=false:=by simpa using hnil
 have hMK:M (σ K).b=none:=by
  rcases hM with h1 | h1
  ·rw [hnil] at h1;cases h1
  exact h1
 let X:Nat->Option Loc:=upd noX K (some (σ K))
 have hX:X K=some (σ K):=BP _ _ _
 have pins:∀ n x,X n=some x->n=K/\x=σ K:=fun n x hx=>by
  by_cases hk:n=K
  ·subst hk;rw [hX] at hx;injection hx with hx;exact ⟨rfl,hx.symm⟩
  simp only [X] at hx;rw [CS _ _ hk] at hx;cases hx
 have hXK:∀ k x,X k=some x->BM [K] k=true:=fun k x hk=>by rw [(pins k x hk).1];exact Jp _
 refine EU (X:=X) (σ:=σ) (h0:=[(K,.row sz len F0 ty)]) hf hb (Nat.le_of_ble_eq_true hN) himm hargs (fun n b hn => ?_) (fun n b hn => ?_) (fun n x hx => ?_) (fun n m b c hn hm hne => ?_) (EF (h w M X hXK)) ?_
 ·obtain ⟨rfl,rfl⟩:=one n b hn;exact hblk
 ·obtain ⟨rfl,rfl⟩:=one n b hn;exact .inr ⟨hMK,n,σ n,hX,rfl⟩
 ·obtain ⟨rfl,rfl⟩:=pins n x hx;exact ⟨Nat.le_of_ble_eq_true hK,rfl⟩
 ·exact absurd ((one n b hn).1.trans (one m c hm).1.symm) hne
 rintro r' s' M' σ' a' w' U ⟨he,b,hb1,hbe⟩ hs hR
 have hpin:=(hs.pin K _ hX).2
 have hbk:=hs.blk K _ hb1
 rw [hpin] at hbk
 refine ⟨U,rfl,M',⟨hs.os,hs.tape,hs.output,hs.size,fun b hb hne=>hs.old b hb ?_,hs.sub,hs.new,hs.imm⟩,fun σ''=>GR hd (JS he hR),fun σ''=>(IU hbe hbk:Bv M' σ' w' (σ K) (.row sz len F1 ty))⟩
 rintro ⟨n,x,hx,rfl⟩
 obtain ⟨rfl,rfl⟩:=pins n x hx
 exact hne ⟨hnil,rfl⟩
theorem JP {α:Type} [Inhabited α] {c:α->List Cl} {xs ys:List α} {sz n:Nat} {ty:TypeId} (h:xs=ys) (hl:xs.length=n):GS (.row sz xs.length (AU c xs) ty) (.row sz n (AU c ys) ty):=by
 subst h hl
 exact .refl _
def Q3 (K n:Nat):Av->Av
 | .one (.own m sz len)=>bif Nat.beq m K then .one (.own n sz len) else .one (.own m sz len)
 | x=>x
def Wh (K:Nat):Av->Bool
 | .one (.own m _ _)=>Nat.beq m K
 | x=>x.dv
theorem JO {f:FuncId} {K n:Nat} {xs:List Av} {sz len:Nat} {F0 F1:Nat->Nat->Cl} {ty:TypeId} {r:Tv} (h1:∀ args w,(callFunc f args).run P w=.ok (.enter f args) w) (hx:xs.all (Wh K)=true) (h:WrR P f K xs sz len F0 ty r F1):EB P f (xs.map (Q3 K n)) (wrI n (.row sz len F0 ty) r (.row sz len F1 ty)):=by
 refine .inl ⟨h1,fun M σ w hh args cs' g hs hargs hres hc => ?_⟩
 simp only [wrI,res,GP] at hres
 cases hn:hh n with
 | none=>rw [hn] at hres;cases hres
 | some b =>
  rw [hn] at hres
  simp only [Option.some.injEq,Prod.mk.injEq] at hres
  obtain ⟨rfl,rfl⟩:=hres
  have:=hc.head
  subst this
  have hblk:=hs.blk n _ hn
  let σ2:Nat->Loc:=upd σ K (σ n)
  have hK:σ2 K=σ n:=BP _ _ _
  have hargs2:L2 (RA M σ2) xs args:=by
   refine L2.of (by have:=hargs.length;simpa using this) fun i x V hxi hV => ?_
   obtain ⟨V',hV',hR⟩:=hargs.get i (Q3 K n x) (by rw [List.getElem?_map,hxi];rfl)
   rw [hV] at hV';injection hV' with hV';subst hV'
   have hok:=(List.all_eq_true.1 hx) x (List.mem_of_getElem? hxi)
   unfold Wh at hok
   split at hok
   ·rename_i m sz' len'
    simp only [Q3,hok,cond_true] at hR
    have:=Nat.eq_of_beq_eq_true hok
    subst this
    have hR':R M σ (.own n sz' len') V:=hR
    show R M σ2 (.own m sz' len') V
    unfold R at hR' ⊢
    rw [hK];exact hR'
   rename_i hne
   have:Q3 K n x=x:=by
    unfold Q3
    split
    ·rename_i m a b;exact (hne m a b rfl).elim
    rfl
   rw [this] at hR
   exact GR (σ':=σ2) (r:=.av x) hok hR
  refine (h M σ2 w args hs.imm (by rw [hK];exact hblk) (by rw [hK];exact hs.loc n _ hn) hargs2).mono ?_
  rintro en w' ⟨U,hU,M',hk,hR,hb⟩
  rw [hK] at hk
  refine ⟨U,hU,fun dst _=>⟨M',σ,hk,rfl,hR σ,?_⟩⟩
  have:=hb σ
  rw [hK] at this
  exact this
end
end
section
section
variable {α:Type} [Inhabited α]
def G0 (lt:α->Bool) (out:List α):Nat->Nat
 | 0=>0
 | k+1=>bif lt (out.getD k default) then G0 lt out k else k+1
def Rf (lt:α->α->Bool) (out:List α) (x:α):List α:=out.take (G0 (lt x) out out.length)++x::out.drop (G0 (lt x) out out.length)
def Fv (lt:α->α->Bool) (l:List α):List α:=l.foldl (Rf lt) []
theorem VR (lt:α->α->Bool) (out:List α) (x:α):(Rf lt out x).Perm (x::out):=by
 unfold Rf
 refine List.perm_middle.trans ?_
 rw [List.take_append_drop]
theorem LO (lt:α->α->Bool) (l:List α) (x:α):Fv lt (l++[x])=Rf lt (Fv lt l) x:=by
 unfold Fv
 rw [List.foldl_append];rfl
theorem Rd (lt:α->α->Bool) (l:List α):(Fv lt l).Perm l:=by
 have key:∀ (l out:List α),(l.foldl (Rf lt) out).Perm (out++l):=by
  intro l
  induction l with
  | nil=>intro out;simp
  | cons x l ih =>
   intro out
   rw [List.foldl_cons]
   refine (ih _).trans ?_
   refine ((VR lt out x).append_right l).trans ?_
   exact List.perm_middle.symm
 exact key l []
theorem NC (lt:α->α->Bool) (l:List α):(Fv lt l).length=l.length:=(Rd lt l).length_eq
theorem Uu (A:List α) (x y:α) (R:List α) :
  (A++y::x::R).getD A.length default=y/\(A++y::x::R).getD (A.length+1) default=x/\((A++y::x::R).set (A.length+1) y).set A.length x=A++x::y::R:=by
 refine ⟨?_,?_,?_⟩
 ·rw [List.getD_eq_getElem?_getD,List.getElem?_append_right (by omega)];simp
 ·rw [List.getD_eq_getElem?_getD,List.getElem?_append_right (by omega)];simp
 rw [List.set_append_right _ _ (by omega),List.set_append_right _ _ (by omega)];simp
theorem Dp (out:List α) (j:Nat) (h:j<out.length):out.take (j+1)=out.take j++[out.getD j default]/\out.drop j=out.getD j default::out.drop (j+1):=by
 constructor
 ·rw [List.take_add_one,List.getElem?_eq_getElem h,List.getD_eq_getElem?_getD,List.getElem?_eq_getElem h];rfl
 rw [List.drop_eq_getElem_cons h,List.getD_eq_getElem?_getD,List.getElem?_eq_getElem h];rfl
theorem cK {β:Type} (lt:α->α->Bool) (f:Nat->List α->Int->β) (K:List α->β)
  (hf:∀ m d (j:Nat),f (m+1) d j=bif (bif decide ((0:Int)<j) then lt (d.getD j default) (d.getD (j-1) default) else false) then f m ((d.set j (d.getD (j-1) default)).set (j-1) (d.getD j default)) ((j:Int)-1) else K d)
  (out rest:List α) (x:α):∀ (j m:Nat),j<=out.length->j<m->f m (out.take j++x::(out.drop j++rest)) j=K (out.take (G0 (lt x) out j)++x::(out.drop (G0 (lt x) out j)++rest)):=by
 intro j
 induction j with
 | zero =>
  intro m hj hm
  obtain ⟨m,rfl⟩:∃ k,m=k+1:=⟨m-1,by omega⟩
  rw [hf]
  simp [G0]
 | succ j ih =>
  intro m hj hm
  obtain ⟨m,rfl⟩:∃ k,m=k+1:=⟨m-1,by omega⟩
  obtain ⟨e1,e2⟩:=Dp out j (by omega)
  have hl:(out.take j).length=j:=by rw [List.length_take];omega
  obtain ⟨s1,s2,s3⟩:=Uu (out.take j) x (out.getD j default) (out.drop (j+1)++rest)
  rw [hl] at s1 s2 s3
  have hd:out.take (j+1)++x::(out.drop (j+1)++rest)=out.take j++out.getD j default::x::(out.drop (j+1)++rest):=by rw [e1];simp
  rw [hf,hd,Nat.add_sub_cancel,s1,s2,s3]
  have h0:decide ((0:Int)<((j+1:Nat):Int))=true:=decide_eq_true (by omega)
  rw [h0,cond_true]
  conv=>rhs;unfold G0
  cases hlt:lt x (out.getD j default) with
  | true =>
   rw [cond_true,cond_true]
   have:=ih m (by omega) (by omega)
   rw [e2] at this
   rw [show ((j+1:Nat):Int)-1=(j:Int) by omega,<- this]
   rfl
  | false =>
   rw [cond_false,cond_false,hd]
theorem cL {β:Type} (lt:α->α->Bool) (l:List α) (g:Nat->List α->Int->β) (K:List α->β) (hK:∀ m d (i:Nat),l.length<=i->g (m+1) d i=K d)
  (hg:∀ m (i:Nat) (out rest:List α) x,i<l.length->out.length=i->g (m+1) (out++x::rest) i=g m (Rf lt out x++rest) ((i:Int)+1)) :
  ∀ (k m i:Nat),l.length-i=k->i<=l.length->k<m->g m (Fv lt (l.take i)++l.drop i) i=K (Fv lt l):=by
 intro k
 induction k with
 | zero =>
  intro m i hk hi hm
  obtain ⟨m,rfl⟩:∃ k,m=k+1:=⟨m-1,by omega⟩
  rw [hK m _ i (by omega),List.drop_eq_nil_of_le (by omega),List.take_of_length_le (by omega),List.append_nil]
 | succ k ih =>
  intro m i hk hi hm
  obtain ⟨m,rfl⟩:∃ k,m=k+1:=⟨m-1,by omega⟩
  obtain ⟨e1,e2⟩:=Dp l i (by omega)
  rw [e2,hg m i _ _ _ (by omega) (by rw [NC,List.length_take];omega),<- LO,<- e1]
  have:=ih m (i+1) (by omega) (by omega) (by omega)
  rw [show ((i+1:Nat):Int)=(i:Int)+1 by omega] at this
  exact this
theorem cp_l {β:Type} (xs:List α) (g:Nat->List α->Int->β) (K:List α->Int->β) (h:∀ m acc (v:Nat),g (m+1) acc v=bif decide ((v:Int)<(xs.length:Int)) then g m (acc++[xs.getD v default]) ((v:Int)+1) else K acc v) :
  ∀ (k v m:Nat) (acc:List α),xs.length-v=k->v<=xs.length->k<m->g m acc v=K (acc++xs.drop v) (xs.length:Int):=by
 intro k
 induction k with
 | zero =>
  intro v m acc hk hv hm
  obtain ⟨m,rfl⟩:∃ k,m=k+1:=⟨m-1,by omega⟩
  rw [h,decide_eq_false (by omega),cond_false,List.drop_eq_nil_of_le (by omega),List.append_nil,show v=xs.length by omega]
 | succ k ih =>
  intro v m acc hk hv hm
  obtain ⟨m,rfl⟩:∃ k,m=k+1:=⟨m-1,by omega⟩
  obtain ⟨_,e2⟩:=Dp xs v (by omega)
  rw [h,decide_eq_true (by omega),cond_true,e2]
  have:=ih (v+1) m (acc++[xs.getD v default]) (by omega) (by omega) (by omega)
  rw [show ((v+1:Nat):Int)=(v:Int)+1 by omega] at this
  rw [this,List.append_assoc];rfl
theorem cO {β γ:Type} (xs:List α) (step:γ->α->γ) (g:Nat->γ->Int->β) (K:γ->Int->β) (h:∀ m acc (v:Nat),g (m+1) acc v=bif decide ((v:Int)<(xs.length:Int)) then g m (step acc (xs.getD v default)) ((v:Int)+1) else K acc v) :
  ∀ (k v m:Nat) (acc:γ),xs.length-v=k->v<=xs.length->k<m->g m acc v=K ((xs.drop v).foldl step acc) (xs.length:Int):=by
 intro k
 induction k with
 | zero =>
  intro v m acc hk hv hm
  obtain ⟨m,rfl⟩:∃ k,m=k+1:=⟨m-1,by omega⟩
  rw [h,decide_eq_false (by omega),cond_false,List.drop_eq_nil_of_le (by omega),show v=xs.length by omega];rfl
 | succ k ih =>
  intro v m acc hk hv hm
  obtain ⟨m,rfl⟩:∃ k,m=k+1:=⟨m-1,by omega⟩
  obtain ⟨_,e2⟩:=Dp xs v (by omega)
  rw [h,decide_eq_true (by omega),cond_true,e2]
  have:=ih (v+1) m (step acc (xs.getD v default)) (by omega) (by omega) (by omega)
  rw [show ((v+1:Nat):Int)=(v:Int)+1 by omega] at this
  rw [this,List.foldl_cons]
theorem Xw {β γ:Type} (xs:List α) (step:γ->α->γ) (g:Nat->Nat->γ->β) (K:γ->β) (h0:∀ x acc,g 0 x acc=K acc) (h:∀ m x acc,x<xs.length->g (m+1) x acc=g m (x+1) (step acc (xs.getD x default))) :
  ∀ (m x:Nat) (acc:γ),m+x=xs.length->g m x acc=K ((xs.drop x).foldl step acc):=by
 intro m
 induction m with
 | zero =>
  intro x acc hx
  rw [h0,List.drop_eq_nil_of_le (by omega)];rfl
 | succ m ih =>
  intro x acc hx
  obtain ⟨_,e2⟩:=Dp xs x (by omega)
  rw [h m x acc (by omega),ih (x+1) _ (by omega),e2,List.foldl_cons]
omit [Inhabited α] in
theorem OY {γ:Type} (f:α->γ):∀ (xs:List α) (acc:List γ),xs.foldl (fun acc x=>acc++[f x]) acc=acc++xs.map f
 | [],acc=>by simp
 | x::xs,acc=>by rw [List.foldl_cons,OY f xs,List.map_cons,List.append_assoc];rfl
def ixI (f:α->Bool) (xs:List α):Int:=match xs.findIdx? f with
 | some i=>(i:Int)
 | none => -1
omit [Inhabited α] in
theorem UM {f:α->Bool} {xs:List α} (h:¬ ixI f xs<0):0<=ixI f xs/\ixI f xs<(xs.length:Int):=by
 unfold ixI at *
 cases hk:xs.findIdx? f with
 | none=>rw [hk] at h;exact absurd (by decide) h
 | some i =>
  rw [hk] at h
  have:=(List.findIdx?_eq_some_iff_getElem.1 hk).1
  simp only
  omega
theorem Xc {f:α->Bool} {xs:List α} (h:¬ ixI f xs<0):f (xs.getD (ixI f xs).toNat default)=true/\xs.find? f=some (xs.getD (ixI f xs).toNat default):=by
 unfold ixI at *
 cases hk:xs.findIdx? f with
 | none=>rw [hk] at h;exact absurd (by decide) h
 | some i =>
  obtain ⟨h1,h2,h3⟩:=List.findIdx?_eq_some_iff_getElem.1 hk
  have e:xs.getD ((i:Int)).toNat default=xs[i]:=by rw [Int.toNat_natCast,List.getD_eq_getElem?_getD,List.getElem?_eq_getElem h1];rfl
  simp only [e]
  refine ⟨h2,?_⟩
  rw [List.find?_eq_some_iff_getElem]
  exact ⟨h2,i,h1,rfl,fun j hj=>by have:=h3 j hj;simpa using this⟩
omit [Inhabited α] in
theorem Xd {f:α->Bool} {xs:List α} (h:ixI f xs<0):xs.find? f=none:=by
 unfold ixI at h
 cases hk:xs.findIdx? f with
 | some i=>rw [hk] at h;exact absurd h (by simp only;omega)
 | none =>
  rw [List.find?_eq_none]
  rw [List.findIdx?_eq_none_iff] at hk
  intro x hx;rw [hk x hx];decide
theorem Xa (f:α->Bool) (xs:List α) (g:Nat->Int->Int) (hg:∀ m (v:Nat),g (m+1) v=bif decide ((v:Int)<(xs.length:Int)) then (bif f (xs.getD v default) then (v:Int) else g m ((v:Int)+1)) else -1) :
  ∀ (k v m:Nat),xs.length-v=k->v<=xs.length->k<m->g m v=match (xs.drop v).findIdx? f with | some i=>((v+i:Nat):Int) | none => -1:=by
 intro k
 induction k with
 | zero =>
  intro v m hk hv hm
  obtain ⟨m,rfl⟩:∃ k,m=k+1:=⟨m-1,by omega⟩
  rw [hg,decide_eq_false (by omega),cond_false,List.drop_eq_nil_of_le (by omega)]
  rfl
 | succ k ih =>
  intro v m hk hv hm
  obtain ⟨m,rfl⟩:∃ k,m=k+1:=⟨m-1,by omega⟩
  obtain ⟨_,e2⟩:=Dp xs v (by omega)
  rw [hg,decide_eq_true (by omega),cond_true,e2,List.findIdx?_cons]
  cases hf:f (xs.getD v default) with
  | true=>simp
  | false =>
   have:=ih (v+1) m (by omega) (by omega) (by omega)
   rw [show ((v+1:Nat):Int)=(v:Int)+1 by omega] at this
   rw [cond_false,this]
   cases (xs.drop (v+1)).findIdx? f with
   | none=>simp
   | some i =>
    simp only [Option.map_some]
    rw [show v+1+i=v+(i+1) by omega]
    rfl
end
end
def SeqV (P:Program) (gf:Nat) (lb:Array Value) (V:Nat->Array Value->World->Prop) (Kp:World->World->Prop) (n:Nat) (w:World):Prop :=
 ∀ (l:Nat) (J:Nat->World->Prop) (W:World),Below w.heap.size w W->(∀ j A B,J j A->A.grownBy B none->J j B) ->
  (∀ j v A,j<n->J j A->V j v A->YieldAt (FW none) 0 P l v A fun e B=>e=.returned (.bool true)/\J (j+1) B/\Kp A B)->J 0 W ->
  CallsIn (FW none) 1 P gf (#[.func (.yield l) #[] #[]]++lb) W fun e B=>(∃ u,e=.returned u)/\J n B
theorem Uq {P:Program} {g:Operand} {ps:Array Tmp} {assign body:Code} {Q:Exit->Act->World->Prop} {a:Act} {w:World} {gf:Nat} {lb:Array Value} (hg:a.eval g=.func (.func gf) #[] lb) (eg:∀ args w,(callFunc gf args).run P w=.ok (.enter gf args) w)
  {V:Nat->Array Value->World->Prop} {Kp:World->World->Prop} {n:Nat} (hseq:SeqV P gf lb V Kp n w) (hKt:∀ {A B C:World},Kp A B->Kp B C->Kp A C)
  (hKb:∀ (W:World) (l:Nat) (o o':Obj),w.heap.size<=l->W.heap[l]? = some o->o.isCells=false->Kp W (W.putObj l o')) (hsz:∀ j v W,V j v W->v.size=ps.size)
  (I:Nat->World->Prop) (hI:OwnFrom w.heap.size I) (h0:I 0 w) (Ax:Nat->Act->World->Prop) (hAx:∀ j a',OwnFrom w.heap.size fun (_:Unit) W=>Ax j a' W)
  (hassign:∀ (l j:Nat) (v:Array Value) (W:World) (K:Act->World->Prop),j<n->I j W->V j v W->(∀ a' W',KeepsFrom w.heap.size W W'->Kp W W'->I j W'->Ax j a' W'->K a' W') ->
   assign.wpIn ((FW none).inRound l) 0 P (Exit.then K fun _ _ _=>False) { tmps:=(ps.zip v).foldl (fun t (p,u)=>t.setIfInBounds p u) a.tmps,defers:=[] } W)
  (hbody:∀ (l j:Nat) (a':Act) (W:World),j<n->I j W->Ax j a' W->body.wpIn ((FW none).inRound l) 0 P (fun e _ W'=>e=.normal/\KeepsFrom w.heap.size W W'/\Kp W W'/\I (j+1) W') a' W)
  (hdone:∀ (D:Nat) (W:World),w.heap.size<=D->I n W->W.heap[D]? = some (.deferred (some []))->Q .normal { a with defers:={ target:=.collected D,args := #[] }::a.defers } W):(Code.rangeFunc g ps assign body).wpIn (FW none) 2 P Q a w:=by
 refine wpIn_rangeFunc fun fn hfn => ?_
 -- the two blocks of the statement: the mark's and the record's
 generalize hD:w.heap.size=D at *
 let rc:LoopState->Obj:=fun st=>.loop { state:=st,pending:=none,fn:=fn,tmps:=a.tmps,params:=ps,assign:=assign,body:=body,defers:=D }
 have hcell:∀ st,(rc st).isCells=false:=fun _=>rfl
 let U:=w.alloc (.deferred (some []))
 let Z:=U.alloc (rc .ready)
 have sU:U.heap.size=D+1:=by show (w.alloc _).heap.size=_;rw [World.size_alloc,hD]
 have zL:Z.heap[D+1]? = some (rc .ready):=by rw [<- sU];exact World.alloc_heap_new U _
 have zD:Z.heap[D]? = some (.deferred (some [])):=(Below.heap_alloc U _ _ (by omega)).trans (by rw [<- hD];exact World.alloc_heap_new w _)
 have hIa:∀ {j:Nat} {W:World} (o:Obj),I j W->I j (W.alloc o):=fun o h=>hI.alloc o h
 let J:Nat->World->Prop:=fun j W=>I j W/\W.heap[D+1]? = some (rc .ready)/\W.heap[D]? = some (.deferred (some []))
 refine ⟨D+1,[{ target:=.collected D,args := #[] }],Z,{ target:=.fn (.func gf) lb,args := #[.func (.yield (D+1)) #[] #[]] },Z,gf,#[.func (.yield (D+1)) #[] #[]]++lb,Z,?_,?_,?_,?_,fun _=>by decide,?_⟩
 ·have:=run_enterLoop_outer (P:=P) (w:=w) fn a.tmps ps assign body
  rw [hD] at this
  exact this
 ·simp only [resolve,hg]
  simp [go_sem]
 ·intro f' _;trivial
 ·simp [invoke,go_sem,eg]
 refine (hseq (D+1) J Z ?_ ?_ ?_ ⟨hIa _ (hIa _ h0),zL,zD⟩).mono ?_
 ·rw [hD]
  exact (((Below.refl D w).alloc (by omega) _).alloc (by rw [show (w.alloc (.deferred (some []))).heap.size=D+1 from sU];omega) _)
 ·rintro j A B ⟨h1,h2,h3⟩ hgr
  have keep:∀ b (o:Obj),A.heap[b]? = some o->B.heap[b]? = some o:=fun b o h=>(hgr.block b (Array.getElem?_eq_some_iff.1 h).1 (fun e=>by cases e)).trans h
  exact ⟨hI j A B none h1 hgr (fun r e=>by cases e),keep _ _ h2,keep _ _ h3⟩
 ·rintro j v A hj ⟨h1,h2,h3⟩ hv
  refine ⟨fn,_,assign,body,run_yield h2 (hsz j v A hv),roundIn_of_wpIn hfn (hassign (D+1) j v A _ hj h1 hv ?_)⟩
  intro a' B kf kp i1 ax
  have l1:B.heap[D+1]? = some (rc .ready):=kf.same _ _ (by omega) h2 rfl
  have d1:B.heap[D]? = some (.deferred (some [])):=kf.same _ _ (Nat.le_refl _) h3 rfl
  have hlt:D+1<B.heap.size:=(Array.getElem?_eq_some_iff.1 l1).1
  refine ⟨_,run_beginRound l1 rfl,?_⟩
  generalize hC:B.putObj (D+1) (.loop { state:=.busy,pending:=none,fn:=fn,tmps:=a.tmps,params:=ps,assign:=assign,body:=body,defers:=D })=C
  have l2:C.heap[D+1]? = some (rc .busy):=by rw [<- hC];exact World.putObj_heap_same hlt
  have d2:C.heap[D]? = some (.deferred (some [])):=by rw [<- hC];exact (World.putObj_heap_other (by omega)).trans d1
  have kp2:Kp B C:=by rw [<- hC];exact hKb _ _ _ _ (by omega) l1 rfl
  have i2:I j C:=by rw [<- hC];exact hI.putObj _ i1 (by omega) l1 rfl
  have ax2:Ax j a' C:=by rw [<- hC];exact (hAx j a').putObj (s:=()) _ ax (by omega) l1 rfl
  refine wpIn_mono (hbody (D+1) j a' C hj i2 ax2) ?_
  rintro e a3 G ⟨rfl,kf3,kp3,i3⟩
  have l3:G.heap[D+1]? = some (rc .busy):=kf3.same _ _ (by omega) l2 rfl
  have d3:G.heap[D]? = some (.deferred (some [])):=kf3.same _ _ (Nat.le_refl _) d2 rfl
  have kp4:=hKb G (D+1) _ (rc .ready) (by omega) l3 rfl
  exact ⟨_,_,run_endRound none l3,rfl,⟨hI.putObj _ i3 (by omega) l3 rfl,World.putObj_heap_same (Array.getElem?_eq_some_iff.1 l3).1,(World.putObj_heap_other (by omega)).trans d3⟩,hKt kp (hKt (hKt kp2 kp3) kp4)⟩
 rintro e B ⟨⟨u,rfl⟩,h1,h2,h3⟩
 exact ⟨none,_,run_endLoop h2 (fun e=>by cases e),hdone D _ (Nat.le_refl _) (hI.putObj _ h1 (by omega) h2 rfl) ((World.putObj_heap_other (by omega)).trans h3)⟩
section
open Go.RowKit
def Z0 (M:Nat->Option Obj) (Ow:World->Nat->Prop) (E:List Av) (v:Array Value) (W:World):Prop:=∃ Mj:Nat->Option Obj,E.length=v.size/\(∀ b o,Mj b=some o->W.heap[b]? = some o/\o.isCells=true/\¬ Ow W b) /\
 ∀ MM:Nat->Option Obj,(∀ b o,M b=some o->MM b=some o)->(∀ b o,Mj b=some o->MM b=some o)->L2 (fun e u=>∀ σ,RA MM σ e u) E v.toList
def Hz (P:Program) (gf:FuncId) (k:Nat) (caps:Nat->Cl) (n:Nat) (E:Fin n->List Av):Prop :=
 ∀ (M:Nat->Option Obj) (w:World) (cs:Array Value) (Ow:World->Nat->Prop),(∀ b o,M b=some o->w.heap[b]? = some o)->OwS Ow w.heap.size->(∀ b,Ow w b->b<w.heap.size/\M b=none)->cs.size=k->(∀ i,i<k->RC M (caps i) (cs.getD i undef)) ->
  SeqV P gf cs (fun j v W=>∃ hj:j<n,Z0 M Ow (E ⟨j,hj⟩) v W) (KpS Ow) n w
section
variable {P:Program} {N:Nat} {W0:World} {X:Nat→Option Loc} {M0:Nat→Option Obj}
theorem Vb {ι:Type} {Q:Exit->AS->Prop} {g:Operand} {ps:Array Tmp} {assign body:Code} {t0:List (Nat×Tv)} (pids:List Nat) (fid q off r:Nat) {gf:FuncId} {k:Nat} {caps:Nat->Cl} {n:Nat} {E:Fin n->List Av} (H:ι->List (Nat×Blk)) (t1:Fin n->List (Nat×Tv)) (Inv Fm:Nat->ι->Prop) (x0:ι)
  (hX0:∀ m,X m=none) (hg:evT (get t0) g=some (.av (.one (.clo gf k caps)))) (hcd:(Cl.clo gf k caps).dv=true) (eg:∀ args w,(callFunc gf args).run P w=.ok (.enter gf args) w)
  (It:Hz P gf k caps n E) (hE:∀ x,(E x).length=ps.size) (hps:∀ p∈ps.toList,p<N)
  (hpv:∀ i v,get t0 i=some v->pvT pids v=true) (hh:∀ x m b,get (H x) m=some b->((BM pids m=true/\b.isP=true)\/(m=r/\b.isR=true))/\b.no fid=true)
  (hpc:∀ x m,BM pids m=true->∃ b,get (H x) m=some b) (hfp:BM pids fid=false) (hrp:BM pids r=false) (hrf:r≠fid) (hfN:N<=fid) (hrN:N<=r) (hpN:∀ m∈pids,N<=m) (hmem:∀ m∈pids,BM pids m=true) (hq:BM pids q=true)
  (hEd:∀ x i v,get (N2 t0 ps.toList (E x)) i=some v->v.no fid=true)
  (hheld:∀ x,ND q off r (H x)=true) (hm:∀ x m b,get (H x) m=some b->BkN b)
  (ht1:∀ x,TsM (t1 x)) (ht1p:∀ x i v,get (t1 x) i=some v->pvT pids v=true)
  (hI0:Inv 0 x0) (hF0:Fm 0 x0)
  (hassign:∀ l W1 M1 X1 k j x,Inv j x->PXr pids r (∃ bb,get (H x) r=some bb) X1->AWp P (some l) N W1 X1 M1 assign (fun e s'=>e=.normal/\s'=⟨t1 k,H x⟩) ⟨N2 t0 ps.toList (E k),H x⟩)
  (hbody:∀ l W1 M1 X1 (k:Fin n) j x,(∀ m z,X1 m=some z->BM (fid::pids) m=true)->j<n->Inv j x->AWp P (some l) N W1 X1 M1 body (fun e s'=>e=.normal/\∃ y,Inv (j+1) y/\(k.val=j->Fm j x->Fm (j+1) y)/\∀ m b,get (H y) m=some b->get s'.h m=some b) ⟨t1 k,H x⟩)
  (hdone:∀ x,Inv n x->Fm n x->Q .normal ⟨t0,H x⟩):AWp P none N W0 X M0 (.rangeFunc g ps assign body) Q ⟨t0,H x0⟩:=by
 intro M σ a w hs
 have hnof:∀ v:Tv,pvT pids v=true->v.no fid=true:=fun v h=>by
  cases hn:v.no fid with
  | true=>rfl
  | false=>have:=hmem fid (Mh h hn);rw [hfp] at this;cases this
 have hpne:∀ m,BM pids m=true->m≠fid/\m≠r:=fun m h=>⟨fun e=>(by rw [e,hfp] at h;cases h),fun e=>(by rw [e,hrp] at h;cases h)⟩
 have hPb:∀ x m,BM pids m=true->∃ b,get (H x) m=some b/\b.isP=true:=fun x m h=>by
  obtain ⟨b,hb⟩:=hpc x m h
  rcases (hh x m b hb).1 with h1 | h1
  ·exact ⟨b,hb,h1.2⟩
  exact absurd h1.1 (hpne m h).2
 have hPn:∀ {X':Nat->Option Loc} {W1:World} {Mb M1:Nat->Option Obj} {σ1:Nat->Loc} {T:Nat->Option Tv} {b:Act} {A:World} {x:ι},Sim N W1 X' Mb M1 σ1 T (get (H x)) b A->∀ m,BM pids m=true->(σ1 m).nil=false/\(σ1 m).b<A.heap.size/\M1 (σ1 m).b=none:=fun {X' W1 Mb M1 σ1 T b A x} h1 m hmm=>by
  obtain ⟨bk,hbk,hp⟩:=hPb x m hmm
  have h2:=h1.blk m bk hbk
  have hn:(σ1 m).nil=false:=by
   cases bk with
   | cells l ty=>exact h2.1
   | omap=>exact h2.1
   | row=>cases hp
   | rowx=>cases hp
  refine ⟨hn,h2.lt hn,?_⟩
  rcases h1.loc m bk hbk with h | h
  ·rw [hn] at h;cases h
  exact h.1
 have hplt:∀ m,BM pids m=true->(σ m).b<w.heap.size:=fun m hmm=>(hPn hs m hmm).2.1
 -- the iterator's value
 obtain ⟨cs,hgv1,hgv2,hgv3⟩:=Fz hs.tmps hg
 have hcaps:∀ i,i<k->RC M (caps i) (cs.getD i undef):=fun i hi=>(HS (List.all_eq_true.1 hcd i (List.mem_range.2 hi))).1 (hgv3 i hi)
 obtain ⟨Ow,hOw⟩:∃ Ow:World->Nat->Prop,Ow=fun W b=>((∃ m,BM pids m=true/\(σ m).b=b)\/HR (σ q).b off W b)\/(b<w.heap.size/\M b=none):=⟨_,rfl⟩
 have hOi:∀ {W b},Ow W b->((∃ m,BM pids m=true/\(σ m).b=b)\/HR (σ q).b off W b)\/(b<w.heap.size/\M b=none):=fun h=>by rw [hOw] at h;exact h
 have hOr:∀ {W b},((∃ m,BM pids m=true/\(σ m).b=b)\/HR (σ q).b off W b)\/(b<w.heap.size/\M b=none)->Ow W b:=fun h=>by rw [hOw];exact h
 have hOo:∀ {W b},(∃ m,BM pids m=true/\(σ m).b=b)\/HR (σ q).b off W b->Ow W b:=fun h=>by rw [hOw];exact .inl h
 have hHeldSame:∀ {A B:World},B.heap[(σ q).b]? = A.heap[(σ q).b]? -> ∀ b,HR (σ q).b off B b->HR (σ q).b off A b:=fun h b ⟨o,len,cap,h1,h2⟩=>⟨o,len,cap,by rw [<- h];exact h1,h2⟩
 have hOg:∀ {A B:World},w.heap.size<=A.heap.size->B.heap[(σ q).b]? = A.heap[(σ q).b]? -> ∀ b,Ow B b->Ow A b:=fun _ hB b hb=>hOr ((hOi hb).imp (Or.imp id (hHeldSame hB b)) id)
 have hseq:=It M w cs Ow hs.imm ⟨fun A B hA hB b hb=>hOg hA (hB _ (Nat.lt_of_lt_of_le (hplt q hq) hA)) b hb⟩ (fun b hb=>by
  rcases hOi hb with (⟨m,hmm,rfl⟩ | hb) | hb
  ·exact ⟨hplt m hmm,(hPn hs m hmm).2.2⟩
  ·obtain ⟨⟨bk,hbk⟩,hn,rfl⟩:=QJ hs (hheld x0) hb
   refine ⟨(hs.blk r bk hbk).lt hn,?_⟩
   rcases hs.loc r bk hbk with h | h
   ·rw [hn] at h;cases h
   exact h.1
  exact hb) hgv2 hcaps
 -- names
 have hXPm:∀ m x,Nk pids σ X m=some x->BM pids m=true/\x=σ m:=fun m x hx=>by
  unfold Nk at hx
  cases hmm:BM pids m with
  | true=>rw [hmm] at hx;injection hx with hx;exact ⟨rfl,hx.symm⟩
  | false=>rw [hmm] at hx;have:X m=some x:=hx;rw [hX0] at this;cases this
 have hPp:∀ m,BM pids m=true->Nk pids σ X m=some (σ m):=fun m h=>by unfold Nk;rw [h];rfl
 obtain ⟨XP,hXPd⟩:∃ XP,XP=Nk pids σ X:=⟨_,rfl⟩
 have hXPi:∀ b,inX XP b↔∃ m,BM pids m=true/\(σ m).b=b:=fun b=>by
  rw [hXPd]
  constructor
  ·rintro ⟨m,x,h1,h2⟩
   obtain ⟨h3,rfl⟩:=hXPm m x h1
   exact ⟨m,h3,h2⟩
  rintro ⟨m,h1,h2⟩
  exact ⟨m,_,hPp m h1,h2⟩
 have hnfP:∀ l M4,(∀ b o,M b=some o->M4 b=some o)->l=a.defers->H4 XP M0 M4 l:=fun l M4 h4 e=>⟨by rw [e];exact F7.mono h4 hs.defers.1,fun ⟨m,x,h1,h2,_⟩=>by
  rw [hXPd] at h1
  obtain ⟨h3,rfl⟩:=hXPm m x h1
  rw [(hPn hs m h3).1] at h2;cases h2⟩
 have hT0:∀ (M4:Nat->Option Obj) (σ4:Nat->Loc),(∀ b o,M b=some o->M4 b=some o)->(∀ m,BM pids m=true->σ4 m=σ m)->∀ i v,get t0 i=some v->RT M4 σ4 v (a.tmps.getD i undef):=fun M4 σ4 h4 hσ i v hv =>
  Dk h4 (fun d hd=>hσ d (hmem d (Mh (hpv i v hv) hd))) (hs.tmps i v hv)
 have hs0:Sim N W0 XP M0 M σ (get t0) (get (H x0)) a w:=⟨hs.os,hs.tape,hs.output,hs.size,fun b hb hx=>hs.old b hb fun ⟨m,x,h1,h2⟩=>(by rw [hX0] at h1;cases h1),hs.sub,hs.new,fun m x hx=>by
   rw [hXPd] at hx
   obtain ⟨h3,rfl⟩:=hXPm m x hx
   exact ⟨hpN m (EC h3),rfl⟩,hnfP _ M (fun _ _ h=>h) rfl,hs.room,hs.tmps,hs.imm,hs.blk,fun m b hb=>(hs.loc m b hb).imp id fun h=>⟨h.1,.inl (h.2.elim id fun ⟨m,x,h1,_⟩=>by rw [hX0] at h1;cases h1)⟩,hs.inj⟩
 have hlt:∀ b o,M b=some o->b<w.heap.size:=fun b o h=>(Array.getElem?_eq_some_iff.1 (hs.imm b o h)).1
 have hσP:∀ {X':Nat->Option Loc} {M1:Nat->Option Obj} {σ1:Nat->Loc} {T:Nat->Option Tv} {HH:Nat->Option Blk} {b:Act} {A W1:World} {Mb:Nat->Option Obj},Sim N W1 X' Mb M1 σ1 T HH b A->(∀ m,BM pids m=true->X' m=some (σ m))->∀ m,BM pids m=true->σ1 m=σ m:=fun h1 h2 m hmm=>(h1.pin m _ (h2 m hmm)).2
 have hXPp:∀ m,BM pids m=true->XP m=some (σ m):=fun m h=>by rw [hXPd];exact hPp m h
 let SI:Nat->World->Prop:=fun j W=>∃ x M' σ',Sim N W0 XP M0 M' σ' (get t0) (get (H x)) a W/\Cln M M'/\Inv j x/\Fm j x/\w.heap.size<=W.heap.size
 let Ax:Nat->Act->World->Prop:=fun j a' W=>∃ (hj:j<n) (Mn:Nat->Option Obj),w.heap.size<=W.heap.size/\a'.tmps.size=N/\a'.defers=[]/\(∀ i v,get (t1 ⟨j,hj⟩) i=some v->RT Mn σ v (a'.tmps.getD i undef))/\∀ b o,Mn b=some o->W.heap[b]? = some o/\(o.isCells=true\/M b=some o)/\(M b=none->W0.heap.size<=b)/\¬ ((∃ m,BM pids m=true/\(σ m).b=b)\/HR (σ q).b off W b)
 -- one piece of a round
 have step:∀ {XA:Nat->Option Loc} {M' M3:Nat->Option Obj} {σ' σ3:Nat->Loc} {W W':World} {x y:ι} {T':Nat->Option Tv} {h':List (Nat×Blk)} {a':Act},Sim N W0 XP M0 M' σ' (get t0) (get (H x)) a W->Cln M M'->Sim N W XA M' M3 σ3 T' (get h') a' W'->(∀ m b,get (H y) m=some b->get h' m=some b) ->
   (∀ b,inX XA b->(∃ m,BM pids m=true/\(σ m).b=b)\/((∃ bb,get (H x) r=some bb)/\(σ' r).nil=false/\(σ' r).b=b))->(∀ m,BM pids m=true->σ3 m=σ m) ->
   KeepsFrom w.heap.size W W'/\KpS Ow W W'/\Sim N W0 XP M0 (IV M' M3) σ3 (get t0) (get (H y)) a W'/\Cln M (IV M' M3):=by
  intro XA M' M3 σ' σ3 W W' x y T' h' a' h1 h2 hr hy hX hσ3
  have hσ':=hσP h1 hXPp
  have hC:=YG h2 hr.sub
  have hXO:∀ b,inX XA b->Ow W b:=fun b hb=>by
   rcases hX b hb with h | ⟨⟨bb,hbb⟩,hn,rfl⟩
   ·exact hOo (.inl h)
   have:=Rh h1 (hheld x) hbb hn
   rw [hσ' q hq] at this
   exact hOo (.inr this)
  have hsim:Sim N W0 XP M0 (IV M' M3) σ3 (get t0) (get (H y)) a W':=by
   refine Wb h1 hr (fun b hb => ?_) hy (hm y) hs.room (hT0 _ σ3 hC.1 hσ3) (fun m z hz => ?_) (fun b=>Iff.rfl) (hnfP _ _ hC.1 rfl)
   ·rcases hX b hb with h | ⟨⟨bb,hbb⟩,hn,rfl⟩
    ·exact .inl ((hXPi b).2 h)
    rcases h1.loc r bb hbb with h3 | h3
    ·rw [hn] at h3;cases h3
    exact h3.2.symm
   rw [hXPd] at hz
   obtain ⟨h3,rfl⟩:=hXPm m z hz
   exact ⟨hpN m (EC h3),hσ3 m h3⟩
  refine ⟨⟨hr.size,fun b o hb ho hoc => ?_⟩,⟨hr.size,fun b o hb hc ho=>(hr.old b (Array.getElem?_eq_some_iff.1 hb).1 fun h=>ho (hXO b h)).trans hb,fun b hb => ?_⟩,hsim,hC⟩
  ·refine (hr.old b (Array.getElem?_eq_some_iff.1 ho).1 fun hX' => ?_).trans ho
   rcases hX b hX' with ⟨m,hmm,rfl⟩ | ⟨⟨bb,hbb⟩,hn,rfl⟩
   ·have:=hplt m hmm;omega
   have h3:=h1.blk r bb hbb
   have h4:=(hh x r bb hbb).1
   cases bb with
   | row sz len f ty =>
    rcases h3 with ⟨h5,_⟩ | ⟨_,c,hc,_⟩
    ·rw [hn] at h5;cases h5
    rw [ho] at hc;injection hc with hc;subst hc;cases hoc
   | cells=>rcases h4 with h4 | h4 <;> first | (rw [hrp] at h4;cases h4.1) | cases h4.2
   | omap=>rcases h4 with h4 | h4 <;> first | (rw [hrp] at h4;cases h4.1) | cases h4.2
   | rowx=>rcases h4 with h4 | h4 <;> first | cases h4.2 | (rw [hrp] at h4;cases h4.1)
  rcases hOi hb with (h | h) | h
  ·exact .inl (hOo (.inl h))
  rotate_left
  ·exact .inl (hOr (.inr h))
  rw [<- hσ3 q hq] at h
  obtain ⟨⟨bk,hbk⟩,hn,rfl⟩:=QJ hsim (hheld y) h
  rcases hr.loc r bk (hy r bk hbk) with h3 | ⟨_,h3 | h3⟩
  ·rw [hn] at h3;cases h3
  ·exact .inr ⟨h3,(hr.blk r bk (hy r bk hbk)).lt hn⟩
  exact .inl (hXO _ h3)
 -- what else is known to lie in the world
 have merge:∀ {M' Mn:Nat->Option Obj} {σ':Nat->Loc} {W:World} {x:ι},Sim N W0 XP M0 M' σ' (get t0) (get (H x)) a W->Cln M M'->(∀ b o,Mn b=some o->W.heap[b]? = some o/\(o.isCells=true\/M b=some o)/\(M b=none->W0.heap.size<=b)/\¬ ((∃ m,BM pids m=true/\(σ m).b=b)\/HR (σ q).b off W b)) ->
   ∃ MM:Nat->Option Obj,(∀ b o,M' b=some o->MM b=some o)/\(∀ b o,Mn b=some o->MM b=some o)/\Cln M MM/\Sim N W0 XP M0 MM σ' (get t0) (get (H x)) a W:=by
  intro M' Mn σ' W x h1 h2 hA4
  have hσ':=hσP h1 hXPp
  obtain ⟨MM,hMM⟩:∃ MM:Nat->Option Obj,MM=fun b=>match M' b with | some o=>some o | none=>Mn b:=⟨_,rfl⟩
  have hM1:∀ b o,M' b=some o->MM b=some o:=fun b o h=>by rw [hMM];simp only [h]
  have hM3:∀ b o,MM b=some o->M' b=some o\/Mn b=some o:=fun b o h=>by
   rw [hMM] at h
   cases h3:M' b with
   | some o'=>simp only [h3] at h;exact .inl h
   | none=>simp only [h3] at h;exact .inr h
  have hM2:∀ b o,Mn b=some o->MM b=some o:=fun b o h=>by
   cases h3:M' b with
   | some o' =>
    have h4:=h1.imm b o' h3
    rw [(hA4 b o h).1] at h4
    rw [h4];exact hM1 b o' h3
   | none=>rw [hMM];simp only [h3];exact h
  have hCM:Cln M MM:=⟨fun b o h=>hM1 b o (h2.1 b o h),fun b o h ho=>(hM3 b o h).elim (fun h'=>h2.2 b o h' ho) fun h'=>(hA4 b o h').2.1.elim (fun hc=>by rw [ho] at hc;cases hc) id⟩
  have h1M:Sim N W0 XP M0 MM σ' (get t0) (get (H x)) a W:=by
   refine ⟨h1.os,h1.tape,h1.output,h1.size,h1.old,fun b o h=>hM1 b o (h1.sub b o h),fun b o h h0 => ?_,h1.pin,hnfP _ MM hCM.1 rfl,h1.room,fun i v hv=>Dk hM1 (fun _ _=>rfl) (h1.tmps i v hv),fun b o h=>(hM3 b o h).elim (h1.imm b o) fun h'=>(hA4 b o h').1,fun m b hb=>(h1.blk m b hb).mono hM1 (fun _ _=>rfl) (fun _=>rfl),fun m b hb => ?_,h1.inj⟩
   ·rcases hM3 b o h with h | h
    ·exact h1.new b o h h0
    cases hMb:M b with
    | none=>exact (hA4 b o h).2.2.1 hMb
    | some o'=>exact hs.new b o' hMb h0
   cases hn:(σ' m).nil with
   | true=>exact .inl rfl
   | false =>
    rcases h1.loc m b hb with h | h
    ·rw [hn] at h;cases h
    refine .inr ⟨?_,h.2⟩
    cases hc:MM (σ' m).b with
    | none=>rfl
    | some o =>
     rcases hM3 _ o hc with h3 | h3
     ·rw [h.1] at h3;cases h3
     refine absurd ?_ (hA4 _ o h3).2.2.2
     rcases (hh x m b hb).1 with h4 | ⟨rfl,h4⟩
     ·exact .inl ⟨m,h4.1,by rw [hσ' m h4.1]⟩
     have:=Rh h1 (hheld x) hb hn
     rw [hσ' q hq] at this
     exact .inr this
  exact ⟨MM,hM1,hM2,hCM,h1M⟩
 have hgr:∀ {A B:World} {row:Option Nat},A.grownBy B row->(∀ r,row=some r->w.heap.size<=r/\∃ o:Obj,A.heap[r]? = some o/\o.isCells=false)->w.heap.size<=A.heap.size->∀ b,((∃ m,BM pids m=true/\(σ m).b=b)\/HR (σ q).b off B b)->((∃ m,BM pids m=true/\(σ m).b=b)\/HR (σ q).b off A b):=fun {A B row} hg' hr hA b hb=>hb.imp id (hHeldSame (hg'.block _ (Nat.lt_of_lt_of_le (hplt q hq) hA) fun e=>by
  have:=(hr _ e.symm).1
  have:=hplt q hq
  omega) b)
 refine wpIn_wide.2 ((wpIn_wide (n:=2)).1 ?_)
 refine Uq hgv1 eg hseq KpS.trans (fun W l o o' hl ho hoc=>⟨by simp,fun b o2 hb hb2 _ => ?_,fun b hb => ?_⟩) (fun j v W hv => ?hsz)
  SI ?hI ⟨x0,M,σ,hs0,⟨fun _ _ h=>h,fun _ _ h _=>h⟩,hI0,hF0,Nat.le_refl _⟩ Ax ?hAx ?assign ?body ?done
 ·rw [World.putObj_heap_other (fun e=>by subst e;rw [ho] at hb;injection hb with hb;subst hb;rw [hoc] at hb2;cases hb2)]
  exact hb
 ·refine .inl (hOr ((hOi hb).imp (Or.imp id (hHeldSame (World.putObj_heap_other (fun e => ?_)) b)) id))
  have:=hplt q hq
  omega
 case hsz =>
  obtain ⟨hj,Mj,hL,_⟩:=hv
  rw [hE] at hL
  exact hL.symm
 case hI =>
  rintro j A B row ⟨x,M',σ',h1,h2,h3,h4,h5⟩ hg' hr
  refine ⟨x,M',σ',SW h1 (fun m b hb hbm rr e => ?_) hg' (fun rr e => ?_),h2,h3,h4,Nat.le_trans h5 hg'.size⟩
  ·have h6:=(hr rr e).1
   have hmm:BM pids m=true:=by
    rcases (hh x m b hb).1 with h | h
    ·exact h.1
    cases b <;> first | (exfalso;cases hbm;done) | (exfalso;exact absurd h.2 (by simp [Blk.isR])) | exact absurd hbm (by simp [Blk.isM])
   rw [hσP h1 hXPp m hmm]
   have:=hplt m hmm
   omega
  obtain ⟨h6,o,h7,h8⟩:=hr rr e
  refine ⟨Nat.le_trans hs.size h6,⟨o,h7,h8⟩,?_⟩
  cases hM1:M' rr with
  | none=>rfl
  | some o' =>
   have h9:=h1.imm rr o' hM1
   rw [h7] at h9;injection h9 with h9;subst h9
   have:=hlt rr _ (h2.2 rr _ hM1 h8)
   omega
 case hAx =>
  rintro j a' _ A B row ⟨hj,Mn,h1,h2,h3,h4,h5⟩ hg' hr
  refine ⟨hj,Mn,Nat.le_trans h1 hg'.size,h2,h3,h4,fun b o hb => ?_⟩
  obtain ⟨h6,h7,h8,h9⟩:=h5 b o hb
  refine ⟨(hg'.block b (Array.getElem?_eq_some_iff.1 h6).1 fun e => ?_).trans h6,h7,h8,fun h=>h9 (hgr hg' hr h1 b h)⟩
  obtain ⟨h10,o',h11,h12⟩:=hr b e.symm
  rw [h6] at h11;injection h11 with h11;subst h11
  rcases h7 with h7 | h7
  ·rw [h12] at h7;cases h7
  have:=hlt b _ h7;omega
 case assign =>
  rintro l j vals W K hjn ⟨x,M'',σ',h1',h2',hinv,hfm,hws⟩ ⟨hj,Mj,_,hMj,hL⟩ hK
  obtain ⟨M',_,hMjM,h2,h1⟩:=merge h1' h2' (fun b o hb=>⟨(hMj b o hb).1,.inl (hMj b o hb).2.1,fun hMb=>by
   have h3:=(hMj b o hb).2.2
   have:¬ b<w.heap.size:=fun h=>h3 (hOr (.inr ⟨h,hMb⟩))
   have:=hs.size
   omega,fun h=>(hMj b o hb).2.2 (hOo h)⟩)
  obtain ⟨kx,hkx⟩:∃ kx:Fin n,kx=⟨j,hj⟩:=⟨_,rfl⟩
  rw [<- hkx] at hL
  have hσ':=hσP h1 hXPp
  obtain ⟨hfs,hft⟩:=UR ps.toList (E kx) vals.toList t0 a.tmps (hT0 M' σ' h2.1 hσ') hs.room ((hL M' h2.1 hMjM).mono fun e _ v hv=>hv σ') (by simpa using (hE kx).symm) hps
  have efold:(ps.zip vals).foldl (fun t (p,v)=>t.setIfInBounds p v) a.tmps=(ps.toList.zip vals.toList).foldl (fun t (y:Tmp×Value)=>t.setIfInBounds y.1 y.2) a.tmps:=by
   rw [<- Array.foldl_toList,Array.toList_zip]
  rw [efold]
  obtain ⟨pr,hpr1,hpr2,hpr3⟩:∃ pr:List Nat,(∀ m,BM pr m=true->BM pids m=true\/(m=r/\(∃ bb,get (H x) r=some bb)/\(σ' r).nil=false))/\(∀ m,BM pids m=true->BM pr m=true)/\((∃ bb,get (H x) r=some bb)/\(σ' r).nil=false->BM pr r=true):=by
   by_cases hrow:(∃ bb,get (H x) r=some bb)/\(σ' r).nil=false
   ·refine ⟨r::pids,fun m h => ?_,fun m h => ?_,fun _ => ?_⟩
    ·rcases List.mem_cons.1 (EC h) with e | e
     ·exact .inr ⟨e,hrow⟩
     exact .inl (hmem m e)
    ·exact Gd (List.mem_cons_of_mem _ (EC h))
    exact Gd (List.mem_cons_self ..)
   exact ⟨pids,fun m h=>.inl h,fun m h=>h,fun h=>absurd h hrow⟩
  obtain ⟨XA,hXA⟩:∃ XA,XA=LQ fid ⟨(σ q).b,424242,true⟩ (Nk pr σ' X):=⟨_,rfl⟩
  have hprf:∀ m,BM pr m=true->m≠fid:=fun m h=>(hpr1 m h).elim (fun h=>(hpne m h).1) fun h=>by rw [h.1];exact hrf
  have hXAf:∀ m z,XA m=some z->(m=fid/\z=⟨(σ q).b,424242,true⟩)\/(m≠fid/\BM pr m=true/\z=σ' m):=fun m z hz=>by
   rw [hXA] at hz
   unfold LQ at hz
   cases hb:Nat.beq m fid with
   | true=>rw [hb] at hz;injection hz with hz;exact .inl ⟨Nat.eq_of_beq_eq_true hb,hz.symm⟩
   | false =>
    rw [hb] at hz
    have hz:Nk pr σ' X m=some z:=hz
    unfold Nk at hz
    cases hp:BM pr m with
    | true=>rw [hp] at hz;injection hz with hz;exact .inr ⟨hprf m hp,rfl,hz.symm⟩
    | false=>rw [hp] at hz;have hz:X m=some z:=hz;rw [hX0] at hz;cases hz
  have hXAp:∀ m,BM pr m=true->XA m=some (σ' m):=fun m h=>by
   rw [hXA]
   unfold LQ
   rw [show Nat.beq m fid=false by rw [Ce];simp [hprf m h]]
   show Nk pr σ' X m=_
   unfold Nk
   rw [h];rfl
  have hflat:Zw XA:=⟨fid,⟨(σ q).b,424242,true⟩,by rw [hXA];unfold LQ;rw [Nat.beq_refl];rfl,rfl,rfl⟩
  have hin:=N1 (fid:=fid) (XB:=XA) (σ2:=upd σ' fid ⟨(σ q).b,424242,true⟩) h1 (a2:={ tmps:=_,defers:=[] }) rfl hfs (fun m z hz=>by
   rcases hXAf m z hz with ⟨rfl,rfl⟩ | ⟨h3,h4,rfl⟩
   ·exact ⟨hfN,BP _ _ _⟩
   ·refine ⟨(hpr1 m h4).elim (fun h=>hpN m (EC h)) fun h=>by rw [h.1];exact hrN,CS _ _ h3⟩) (fun m h=>CS _ _ h) (fun i v hv=>⟨hft i v hv,hEd kx i v hv⟩) (fun m b hb=>by
   obtain ⟨h3,h4⟩:=hh x m b hb
   rcases h3 with h3 | ⟨rfl,h3⟩
   ·exact ⟨(hpne m h3.1).1,h4,.inr ⟨m,_,hXAp m (hpr2 m h3.1),rfl⟩⟩
   refine ⟨hrf,h4,?_⟩
   cases hn:(σ' m).nil with
   | true=>exact .inl rfl
   | false=>exact .inr ⟨m,_,hXAp m (hpr3 ⟨⟨b,hb⟩,hn⟩),rfl⟩)
  refine wpIn_mono (hassign l W M' XA kx j x hinv (fun m z hz=>by
   rcases hXAf m z hz with ⟨rfl,rfl⟩ | ⟨h3,h4,rfl⟩
   ·exact .inl ⟨q,hq,_,hXAp q (hpr2 q hq),by rw [hσ' q hq]⟩
   rcases hpr1 m h4 with h5 | ⟨rfl,h6,h5⟩
   ·exact .inl ⟨m,h5,_,hXAp m h4,rfl⟩
   exact .inr ⟨rfl,h6,h5⟩) M' _ _ W hin) ?_
  rintro e a' W' ⟨s',M3,σ3,⟨rfl,rfl⟩,hr⟩
  have hσ3:∀ m,BM pids m=true->σ3 m=σ m:=fun m hmm=>(hr.pin m _ (hXAp m (hpr2 m hmm))).2.trans (hσ' m hmm)
  obtain ⟨k1,k2,k3,k4⟩:=step h1 h2 hr (y:=x) (fun _ _ h=>h) (fun b hb=>by
   obtain ⟨m,z,hz,hzb⟩:=hb
   rcases hXAf m z hz with ⟨rfl,rfl⟩ | ⟨h3,h4,rfl⟩
   ·exact .inl ⟨q,hq,hzb⟩
   rcases hpr1 m h4 with h5 | ⟨rfl,h5,h6⟩
   ·exact .inl ⟨m,h5,by rw [<- hσ' m h5];exact hzb⟩
   exact .inr ⟨h5,h6,hzb⟩) hσ3
  refine hK a' W' k1 k2 ⟨x,_,σ3,k3,k4,hinv,hfm,Nat.le_trans hws hr.size⟩ ⟨hj,IV M' M3,Nat.le_trans hws hr.size,hr.room,hr.defers.2 hflat,fun i v hv => ?_,fun b o hb=>⟨hr.imm b o (Gk hr.sub hb),?_,fun hMb => ?_,fun ho => ?_⟩⟩
  ·rw [<- hkx] at hv
   exact Dk (fun _ _ h=>h) (fun d hd=>(hσ3 d (hmem d (Mh (ht1p kx i v hv) hd))).symm) (TY (NP hr.sub) (hr.tmps i v hv) (ht1 kx i v hv))
  ·cases hc:o.isCells with
   | true=>exact .inl rfl
   | false=>exact .inr (k4.2 b o hb hc)
  ·cases h3:M' b with
   | some o' =>
    refine h1.new b o' h3 ?_
    cases h0:M0 b with
    | none=>rfl
    | some o2=>rw [hs.sub b o2 h0] at hMb;cases hMb
   | none=>exact Nat.le_trans h1.size (hr.new b o (Gk hr.sub hb) h3)
  have h3:=Gk hr.sub hb
  rcases ho with ⟨m,hmm,rfl⟩ | ho
  ·have:=(hPn hr m hmm).2.2
   rw [hσ3 m hmm,h3] at this;cases this
  rw [<- hσ3 q hq] at ho
  obtain ⟨⟨bk,hbk⟩,hn,rfl⟩:=QJ hr (hheld x) ho
  rcases hr.loc r bk hbk with h | h
  ·rw [hn] at h;cases h
  rw [h.1] at h3;cases h3
 case body =>
  rintro l j a' W hjn ⟨x,M',σ',h1,h2,hinv,hfm,hws⟩ ⟨hj,Mn,_,hA1,hA2,hA3,hA4⟩
  obtain ⟨kx,hkx⟩:∃ kx:Fin n,kx=⟨j,hj⟩:=⟨_,rfl⟩
  rw [<- hkx] at hA3
  have hσ':=hσP h1 hXPp
  obtain ⟨MM,hM1,hM2,hCM,h1M⟩:=merge h1 h2 hA4
  obtain ⟨fl,hfl1,hfl2,hfl3,hfl4⟩:∃ fl:Loc,fl.nil=true/\fl.cap=424242/\(fl.b=(σ q).b\/(((∃ bb,get (H x) r=some bb)/\(σ' r).nil=false)/\fl.b=(σ' r).b))/\((∃ bb,get (H x) r=some bb)/\(σ' r).nil=false->fl.b=(σ' r).b):=by
   by_cases hrow:(∃ bb,get (H x) r=some bb)/\(σ' r).nil=false
   ·exact ⟨⟨(σ' r).b,424242,true⟩,rfl,rfl,.inr ⟨hrow,rfl⟩,fun _=>rfl⟩
   exact ⟨⟨(σ q).b,424242,true⟩,rfl,rfl,.inl rfl,fun h=>absurd h hrow⟩
  obtain ⟨XB,hXB⟩:∃ XB,XB=LQ fid fl XP:=⟨_,rfl⟩
  have hXBf:∀ m z,XB m=some z->(m=fid/\z=fl)\/(m≠fid/\BM pids m=true/\z=σ m):=fun m z hz=>by
   rw [hXB] at hz
   unfold LQ at hz
   cases hb:Nat.beq m fid with
   | true=>rw [hb] at hz;injection hz with hz;exact .inl ⟨Nat.eq_of_beq_eq_true hb,hz.symm⟩
   | false =>
    rw [hb] at hz
    have hz:XP m=some z:=hz
    rw [hXPd] at hz
    obtain ⟨h3,h4⟩:=hXPm m z hz
    exact .inr ⟨(hpne m h3).1,h3,h4⟩
  have hXBp:∀ m,BM pids m=true->XB m=some (σ m):=fun m h=>by
   rw [hXB]
   unfold LQ
   rw [show Nat.beq m fid=false by rw [Ce];simp [(hpne m h).1]]
   exact hXPp m h
  have hXBfid:XB fid=some fl:=by rw [hXB];unfold LQ;rw [Nat.beq_refl];rfl
  have hin:=N1 (fid:=fid) (XB:=XB) (σ2:=upd σ' fid fl) h1M (a2:=a') hA2 hA1 (fun m z hz=>by
   rcases hXBf m z hz with ⟨rfl,rfl⟩ | ⟨h3,h4,rfl⟩
   ·exact ⟨hfN,BP _ _ _⟩
   ·exact ⟨hpN m (EC h4),(CS _ _ h3).trans (hσ' m h4)⟩) (fun m h=>CS _ _ h) (fun i v hv=>⟨Dk hM2 (fun d hd=>hσ' d (hmem d (Mh (ht1p kx i v hv) hd))) (hA3 i v hv),hnof v (ht1p kx i v hv)⟩) (fun m b hb=>by
   obtain ⟨h3,h4⟩:=hh x m b hb
   rcases h3 with h3 | ⟨rfl,h3⟩
   ·exact ⟨(hpne m h3.1).1,h4,.inr ⟨m,_,hXBp m h3.1,by rw [hσ' m h3.1]⟩⟩
   refine ⟨hrf,h4,?_⟩
   cases hn:(σ' m).nil with
   | true=>exact .inl rfl
   | false=>exact .inr ⟨fid,fl,hXBfid,hfl4 ⟨⟨b,hb⟩,hn⟩⟩)
  refine wpIn_mono (hbody l W MM XB kx j x (fun m z hz=>Gd ((hXBf m z hz).elim (fun h=>by rw [h.1];exact List.mem_cons_self ..) fun h=>List.mem_cons_of_mem _ (EC h.2.1))) hjn hinv MM _ a' W hin) ?_
  rintro e a2 W' ⟨s',M3,σ3,⟨rfl,y,hy1,hy2,hy3⟩,hr⟩
  have hσ3:∀ m,BM pids m=true->σ3 m=σ m:=fun m hmm=>(hr.pin m _ (hXBp m hmm)).2
  obtain ⟨k1,k2,k3,k4⟩:=step h1M hCM hr hy3 (fun b hb=>by
   obtain ⟨m,z,hz,hzb⟩:=hb
   rcases hXBf m z hz with ⟨rfl,rfl⟩ | ⟨h3,h4,rfl⟩
   ·rcases hfl3 with h5 | ⟨h5,h6⟩
    ·exact .inl ⟨q,hq,by rw [<- h5];exact hzb⟩
    exact .inr ⟨h5.1,h5.2,by rw [<- h6];exact hzb⟩
   exact .inl ⟨m,h4,hzb⟩) hσ3
  exact ⟨rfl,k1,k2,y,_,σ3,k3,k4,hy1,hy2 (by rw [hkx]) hfm,Nat.le_trans hws hr.size⟩
 case done =>
  rintro D W hD ⟨x,M',σ',h1,h2,hinv,hfm,hws⟩ hK
  refine ⟨⟨t0,H x⟩,_,σ',hdone x hinv hfm,Wc h1 hK ?_ (Nat.le_trans hs.size hD) (fun d' hd' e => ?_) (fun m x hx=>by rw [hX0] at hx;cases hx) (fun b hb => ?_) (fun ⟨m,x,h3,_⟩=>by rw [hX0] at h3;cases h3)⟩
  ·cases h0D:M0 D with
   | none=>rfl
   | some o=>have:=hlt D o (hs.sub D o h0D);omega
  ·obtain ⟨D',h3,h4⟩:=UX hs.defers.1 hd'
   rw [h3] at e
   injection e with e1 _
   injection e1 with e1
   subst e1
   have:=hlt _ _ h4
   omega
  obtain ⟨m,hmm,rfl⟩:=(hXPi b).1 hb
  obtain ⟨bk,hbk,_⟩:=hPb x0 m hmm
  rcases hs.loc m bk hbk with h | ⟨_,h⟩
  ·rw [(hPn hs m hmm).1] at h;cases h
  exact h
end
end
section
open Go.RowKit
section
variable {P:Program} {N:Nat} {W0:World} {X:Nat→Option Loc} {M0:Nat→Option Obj}
theorem NX {ι:Type} {Q:Exit->AS->Prop} {g:Operand} {ps:Array Tmp} {assign body:Code} {t0:List (Nat×Tv)} (pids:List Nat) (fid q off r:Nat) {gf:FuncId} {k:Nat} {caps:Nat->Cl} {n:Nat} {E:Fin n->List Av} (H:ι->List (Nat×Blk)) (t1:Fin n->List (Nat×Tv)) (Inv Fm:Nat->ι->Prop) (x0:ι)
  (hX0:∀ m,X m=none) (hg:evT (get t0) g=some (.av (.one (.clo gf k caps)))) (hcd:(Cl.clo gf k caps).dv=true) (eg:∀ args w,(callFunc gf args).run P w=.ok (.enter gf args) w)
  (It:Hz P gf k caps n E) (hck:Ts N pids fid q r t0 ps=true) (hfam:∀ x,famB pids fid q off r (H x)=true) (hE:∀ x,(E x).length=ps.size) (hEd:∀ x,(E x).all Av.dv=true) (hm:∀ x,HsN (H x))
  (ht1:∀ x,TsM (t1 x)) (ht1p:∀ x,(t1 x).all (fun p=>pvT pids p.2)=true) (hI0:Inv 0 x0) (hF0:Fm 0 x0)
  (hassign:∀ l W1 M1 X1 k j x,Inv j x->PXr pids r (∃ bb,get (H x) r=some bb) X1->AWp P (some l) N W1 X1 M1 assign (fun e s'=>e=.normal/\s'=⟨t1 k,H x⟩) ⟨N2 t0 ps.toList (E k),H x⟩)
  (hbody:∀ l W1 M1 X1 (k:Fin n) j x,(∀ m z,X1 m=some z->BM (fid::pids) m=true)->j<n->Inv j x->AWp P (some l) N W1 X1 M1 body (fun e s'=>e=.normal/\∃ y,Inv (j+1) y/\(k.val=j->Fm j x->Fm (j+1) y)/\∀ m b,get (H y) m=some b->get s'.h m=some b) ⟨t1 k,H x⟩)
  (hdone:∀ x,Inv n x->Fm n x->Q .normal ⟨t0,H x⟩):AWp P none N W0 X M0 (.rangeFunc g ps assign body) Q ⟨t0,H x0⟩:=by
 unfold Ts at hck
 simp only [Bool.and_eq_true,Bool.not_eq_true'] at hck
 obtain ⟨c1,c2,c3,c4,c5,c6,c7,c8,c9⟩:=hck
 have hpv:∀ i v,get t0 i=some v->pvT pids v=true:=fun i v hv=>List.all_eq_true.1 c1 (i,v) (De hv)
 have hno:∀ v:Tv,pvT pids v=true->v.no fid=true:=fun v h=>by
  cases hn:v.no fid with
  | true=>rfl
  | false=>have:=Gd (Mh h hn);rw [c3] at this;cases this
 have hf:∀ x,(∀ m b,get (H x) m=some b->((BM pids m=true/\b.isP=true)\/(m=r/\b.isR=true))/\b.no fid=true)/\(∀ m,BM pids m=true->∃ b,get (H x) m=some b)/\ND q off r (H x)=true:=fun x=>by
  have h:=hfam x
  unfold famB at h
  simp only [Bool.and_eq_true] at h
  obtain ⟨h1,h2,h3⟩:=h
  refine ⟨fun m b hb => ?_,fun m hmm=>Option.isSome_iff_exists.1 (List.all_eq_true.1 h2 m (EC hmm)),h3⟩
  have:=List.all_eq_true.1 h1 (m,b) (De hb)
  simp only [Bool.and_eq_true,Bool.or_eq_true] at this
  exact ⟨this.1.imp id fun h=>⟨Nat.eq_of_beq_eq_true h.1,h.2⟩,this.2⟩
 exact Vb pids fid q off r H t1 Inv Fm x0 hX0 hg hcd eg It hE (fun p hp=>Nat.le_of_ble_eq_true (List.all_eq_true.1 c9 p hp)) hpv (fun x=>(hf x).1) (fun x=>(hf x).2.1) c3 c4 (fun e=>by rw [e,Nat.beq_refl] at c5;cases c5) (Nat.le_of_ble_eq_true c6) (Nat.le_of_ble_eq_true c7) (fun m hmm=>Nat.le_of_ble_eq_true (List.all_eq_true.1 c2 m hmm)) (fun m hmm=>Gd hmm) c8 (fun x i v hv=>Qx _ _ _ (fun j u hu=>hno u (hpv j u hu)) (hEd x) i v hv) (fun x=>(hf x).2.2) hm ht1 (fun x i v hv=>List.all_eq_true.1 (ht1p x) (i,v) (De hv)) hI0 hF0 hassign hbody hdone
end
section
variable {P:Program} {N:Nat} {Ow:World→Nat→Prop} {n0:Nat} {Q:IQ} {s:AS} {J:World→Prop} {al:Bool} {ops:Array Oper} {l:List Oper} {o:Oper}
theorem Up {M:Nat->Option Obj} {σ:Nat->Loc} {w:World} {a:Act} {o:Oper} {c:Call} {f:Operand} {ly:Nat} {xs:List Av} {T:Nat->Option Tv} (hT:∀ i v,T i=some v->RT M σ v (a.tmps.getD i undef)) (ho:o.op=.call c) (hcf:c.callee=.value f) (hf:evT T f=some (.av (.one (.val (.func (.yield ly) #[] #[]))))) (hxs:EG (evT T) c.args.toList=some xs)
  {R:Ending->World->Prop} (hY:∀ v:Array Value,L2 (RA M σ) xs v.toList->YieldAt (FW none) 0 P ly v w R) {K:Act->World->Prop} {Q:Exit->Act->World->Prop} (hK:∀ e w',R e w'->∃ V,e=.returned V/\K (a.put o.dst V) w'):o.wpIn (FW none) 0 P a w K Q:=by
 have hargs:=II (fun x v=>Fz hT) _ _ hxs
 obtain ⟨fn,tmps,assign,body,hy,hR⟩:=hY (c.args.map a.eval) (by simpa using hargs)
 refine ⟨fun _ _=>trivial,?_⟩
 rw [Oper.semAt_eq _ _ _ (fun d h=>by rw [ho] at h;cases h)]
 have hfv:=(Fz hT hf).1
 have hres:(execOp a.eval o).run P w=.ok (.round ly fn tmps assign body) w:=by
  simp only [execOp,ho,Sem.run_bind,resolve,hcf,hfv,Deferred.ofValue]
  simpa [invoke] using hy
 rw [hres,Oper.uponIn_round]
 refine ⟨fun h=>(by cases h),?_⟩
 have h1:RoundIn (FW none) (0-1) P ly fn tmps assign body w R:=hR
 refine h1.mono ?_
 rintro e w' he
 obtain ⟨V,rfl,hk⟩:=hK e w' he
 exact hk
theorem S5 (hO:OwS Ow n0) (hgn:o.guard=none) {c:Call} {f:Operand} {ly d:Nat} (xs:List Av) (ho:o.op=.call c) (hcf:c.callee=.value f)
  (hf:evT (get s.t) f=some (.av (.one (.val (.func (.yield ly) #[] #[]))))) (hxs:EG (evT (get s.t)) c.args.toList=some xs) (hv:xs.all Av.dv=true) (hvm:∀ x∈xs,AvM x) (hod:o.dst=some d) (hdN:Nat.blt d N=true) (hT1:∀ i v,get s.t i=some v->v.dv=true/\TvM v)
  (hJg:∀ A B,J A->A.grownBy B none->J B) (Jt:World->Prop)
  (hY:∀ W v,J W->Z0 (fun _=>none) Ow xs v W->YieldAt (FW none) 0 P ly v W (fun e W'=>e=.returned (.bool true)/\Jt W'/\KpS Ow W W')) (hh:s.h=[])
  (ht:IWL P N Ow n0 ops l Q ⟨(d,tB true)::s.t,[]⟩ Jt true):IWL P N Ow n0 ops (o::l) Q s J true:=by
 intro W0 M σ a w hJ hs
 refine wpListIn_step fun K0 hK' => ?_
 rw [if_pos (by simp [Region.wanted,hgn])]
 have hgrow:W0.grownBy w none:={ os:=hs.os,tape:=hs.tape,output:=hs.output,size:=hs.size,block:=fun b hb _=>hs.old b hb (E4 b) }
 have hiok:=hJ.2.2
 have hdN':d<N:=by have:=Nat.le_of_ble_eq_true hdN;omega
 have hst:∀ b,Ow w b->Ow W0 b:=hO.st W0 w (hiok rfl).1 fun b hb=>hs.old b hb (E4 b)
 have hput:∀ (b:Bool) (T:List (Nat×Tv)) (M':Nat->Option Obj) (σ':Nat->Loc),(∀ i v,get T i=some v->RT M' σ' v (a.tmps.getD i undef))->∀ i v,get ((d,tB b)::T) i=some v->RT M' σ' v ((a.put o.dst (.bool b)).tmps.getD i undef):=fun b T M' σ' hT i v hv=>by
  have hds:d<a.tmps.size:=by rw [hs.room];exact hdN'
  simp only [get,Ce] at hv
  rw [hod]
  by_cases hi:d=i
  ·subst hi
   simp at hv;subst hv
   have:(a.put (some d) (.bool b)).tmps.getD d undef=.bool b:=by simp [Act.put,Array.getD_eq_getD_getElem?,hds]
   rw [this]
   exact ⟨rfl,rfl⟩
  simp [hi] at hv
  have:(a.put (some d) (.bool b)).tmps.getD i undef=a.tmps.getD i undef:=by simp [Act.put,Array.getD_eq_getD_getElem?,Array.getElem?_setIfInBounds,hi]
  rw [this];exact hT i v hv
 have hsize:∀ b:Bool,(a.put o.dst (.bool b)).tmps.size=N:=fun b=>by rw [hod];simpa [Act.put] using hs.room
 have hdef:∀ b:Bool,(a.put o.dst (.bool b)).defers=[]:=fun b=>by rw [hod];simpa [Act.put] using hJ.2.1
 refine Up hs.tmps ho hcf hf hxs (fun v hL=>hY w v (hJg W0 w hJ.1 hgrow) ⟨QT M,by have:=hL.length;simpa using this,fun b o' hb=>⟨hs.imm b o' (D1 hb).1,(D1 hb).2,fun h=>(hiok rfl).2.2 b o' (D1 hb).1 (hst b h)⟩,fun MM _ hMM => ?_⟩) fun e w2 he => ?_
 ·refine hL.mono fun x hx u hu σ' => ?_
  have h1:RA M σ' x u:=GR (r:=.av x) (List.all_eq_true.1 hv x hx) hu
  exact Lp hMM (fun _ _=>rfl) (Qc JN h1 (hvm x hx))
 obtain ⟨rfl,h5,h6⟩:=he
 refine ⟨_,rfl,hK' _ _ (ht w2 (QT M) σ _ w2 ⟨h5,hdef true,fun _=>⟨Nat.le_trans (hiok rfl).1 (Nat.le_trans hs.size h6.1),fun b h=>(h6.2.2 b h).elim (fun h7=>Nat.lt_of_lt_of_le ((hiok rfl).2.1 b (hst b h7)) (Nat.le_trans hs.size h6.1)) And.right,fun b o' h hw2 => ?_⟩⟩ ?_)⟩
 ·rcases h6.2.2 b hw2 with h7 | h7
  ·exact (hiok rfl).2.2 b o' (D1 h).1 (hst b h7)
  have:=(Array.getElem?_eq_some_iff.1 (hs.imm b o' (D1 h).1)).1;omega
 exact ⟨rfl,rfl,rfl,Nat.le_refl _,fun _ _ _=>rfl,fun _ _ h=>h,fun b o h h'=>(by rw [h] at h';cases h'),fun m x hx=>(by cases hx),⟨by rw [hdef true];trivial,fun _=>hdef true⟩,hsize true,hput true s.t (QT M) σ (fun i v hv=>TY JN (hs.tmps i v hv) (hT1 i v hv).2),fun b o' h=>h6.2.1 b o' (hs.imm b o' (D1 h).1) (D1 h).2 fun h7=>(hiok rfl).2.2 b o' (D1 h).1 (hst b h7),fun n b hb=>(by cases hb),fun n b hb=>(by cases hb),fun n m b c hb=>(by cases hb)⟩
end
def IEndV (n:Nat) (JJ:Nat->World->Prop):IQ:=fun e s' J' al'=>(e=.ret\/e=.normal)/\J'=JJ n
theorem Rc {P:Program} {gf:FuncId} {fn:Func} {c:Code} (hf:P.funcs[gf]? = some fn) (hb:fn.body=some c) (hnr:fn.results.toList=[]) {k:Nat} {caps:Nat->Cl} {n:Nat} {E:Fin n->List Av} (hN:Nat.ble (k+1) fn.ntmps=true) (hcd:∀ i,i<k->(caps i).dv=true)
  (h:∀ (Ow:World->Nat->Prop) (n0 ly:Nat) (JJ:Nat->World->Prop),OwS Ow n0->(∀ j A B,JJ j A->A.grownBy B none->JJ j B) ->
   (∀ j (hj:j<n) W v,JJ j W->Z0 (fun _=>none) Ow (E ⟨j,hj⟩) v W->YieldAt (FW none) 0 P ly v W (fun e W'=>e=.returned (.bool true)/\JJ (j+1) W'/\KpS Ow W W')) ->
   IWp P fn.ntmps Ow n0 c (IEndV n JJ) ⟨EN 0 (.one (.val (.func (.yield ly) #[] #[]))::Dg k caps),[]⟩ (JJ 0) true):Hz P gf k caps n E:=by
 intro M w cs Ow himm hOs hOw hcs hcaps l J W hB hJ hY h0
 have hlt:∀ b o,M b=some o->b<w.heap.size:=fun b o hb=>(Array.getElem?_eq_some_iff.1 (himm b o hb)).1
 have himmW:∀ b o,M b=some o->W.heap[b]? = some o:=fun b o hb=>(hB.block b (hlt b o hb)).trans (himm b o hb)
 have hst:∀ b,Ow W b->Ow w b:=hOs.st w W (Nat.le_refl _) fun b hb=>hB.block b hb
 have hbody:=h Ow w.heap.size l J hOs hJ (fun j hj W1 v h1 ⟨Mj,e1,e2,e3⟩=>hY j v W1 hj h1 ⟨hj,Mj,e1,e2,fun MM _ h3=>e3 MM (fun _ _ h=>by cases h) h3⟩)
 obtain ⟨a0,ha0⟩:∃ a0:Act,a0={ tmps:=(#[Value.func (.yield l) #[] #[]]++cs)++Array.replicate (fn.ntmps-(#[Value.func (.yield l) #[] #[]]++cs).size) undef,defers:=[] }:=⟨_,rfl⟩
 have hs0:Sim fn.ntmps W noX M M (fun _=>⟨0,0,false⟩) (get (EN 0 (.one (.val (.func (.yield l) #[] #[]))::Dg k caps))) (get []) a0 W := ?hs0
 ·have hbod:=hbody W M (fun _=>⟨0,0,false⟩) a0 W ⟨h0,by rw [ha0],fun _=>⟨hB.size,fun b hb=>Nat.lt_of_lt_of_le (hOw b (hst b hb)).1 hB.size,fun b o hb ho=>by rw [(hOw b (hst b ho)).2] at hb;cases hb⟩⟩ hs0
  rw [ha0] at hbod
  refine callsIn_wide.2 (callsIn_wide.1 (callsIn_of_wp_marks (F:=FW none) (n:=0) hf hb trivial (wpIn_mono hbod ?_)))
  clear hbod hs0
  rintro e a' w' ⟨s',J',al',W0',M',σ',⟨he,rfl⟩,⟨hJ',hd,_⟩,hs'⟩
  have hgrow:W0'.grownBy w' none:={ os:=hs'.os,tape:=hs'.tape,output:=hs'.output,size:=hs'.size,block:=fun b hb _=>hs'.old b hb (E4 b) }
  obtain ⟨U,hU,_⟩:=Tp (P:=P) (fn:=fn) (r:=.tup []) hs' (by rw [hnr];rfl)
  have key:LeavesInM (FW none) 0 P fn a'.tmps (fun e W'=>(∃ v,e=.returned v)/\J n W') a'.defers .returning w':=by
   rw [hd]
   exact ⟨U,hU,⟨U,rfl⟩,hJ n W0' w' hJ' hgrow⟩
  rcases he with rfl | rfl
  ·exact key
  exact key
 case hs0 =>
  subst ha0
  have hsz:(#[Value.func (.yield l) #[] #[]]++cs).size=k+1:=by simp [hcs];omega
  have hNk:=Nat.le_of_ble_eq_true hN
  refine ⟨rfl,rfl,rfl,Nat.le_refl _,fun _ _ _=>rfl,fun _ _ h=>h,fun b o h h'=>(by rw [h] at h';cases h'),fun m x hx=>(by cases hx),H4.nil,?_,fun i v hv => ?_,himmW,fun m b hb=>(by cases hb),fun m b hb=>(by cases hb),fun m m' b c hb=>(by cases hb)⟩
  ·simp only [Array.size_append,Array.size_replicate] at hsz ⊢
   omega
  obtain ⟨_,x,hx,rfl⟩:=JC _ _ _ _ hv
  rw [Nat.sub_zero] at hx
  have hargs:L2 (RA M fun _=>⟨0,0,false⟩) (.one (.val (.func (.yield l) #[] #[]))::Dg k caps) (.func (.yield l) #[] #[]::cs.toList):=by
   refine .cons ⟨rfl,rfl⟩ (L2.of (by simp [Dg,hcs]) fun i x y hx hy => ?_)
   have hi:i<k:=by have:=(List.getElem?_eq_some_iff.1 hx).1;simpa [Dg] using this
   have:=(HS (σ:=fun _=>⟨0,0,false⟩) (hcd i hi)).2 (hcaps i hi)
   simp only [Dg,List.getElem?_map,List.getElem?_range hi,Option.map_some,Option.some.injEq] at hx
   subst hx
   have hy':cs.getD i undef=y:=by
    simp only [Array.getD_eq_getD_getElem?]
    rw [<- Array.getElem?_toList,hy];rfl
   rw [hy'] at this
   exact this
  obtain ⟨u,hu,hRu⟩:=hargs.get i x hx
  have:((#[Value.func (.yield l) #[] #[]]++cs)++Array.replicate (fn.ntmps-(#[Value.func (.yield l) #[] #[]]++cs).size) undef).getD i undef=u:=by
   have hu2:(#[Value.func (.yield l) #[] #[]]++cs)[i]? = some u:=by
    rw [<- Array.getElem?_toList]
    simpa using hu
   have hi:i<(#[Value.func (.yield l) #[] #[]]++cs).size:=(Array.getElem?_eq_some_iff.1 hu2).1
   rw [Array.getD_eq_getD_getElem?,Array.getElem?_append_left hi,hu2];rfl
  show RA M _ x _
  rw [this]
  exact hRu
theorem NB {P:Program} {N:Nat} {Ow:World->Nat->Prop} {n0:Nat} {Q:IQ} {s:AS} {J:World->Prop} {al:Bool} {c:Code} (ts:List Nat) (S:AS) (hS:Js ts [] s=S) (h:IWp P N Ow n0 c Q S J al):IWp P N Ow n0 c Q s J al:=by
 subst hS
 exact fun W0 M σ a w hJ hs=>h W0 M σ a w hJ (FA hs ts [])
theorem Mi {P:Program} {f:FuncId} {xs:List Av} {sz len:Nat} {F:Nat->Nat->Cl} {ty:TypeId} (h:Fr P f xs (.row sz len F ty) (fun d=>.av (.one (.own d sz len)))):FG P f xs (.av (.one (.list false sz len F))):=by
 intro M σ w args himm hargs
 refine (h M σ w args himm hargs).mono ?_
 rintro en w' ⟨U,hU,M',x,hk,hx,hb,hR⟩
 refine ⟨U,hU,?_⟩
 have hV:R M' (fun _=>x) (.own 0 sz len) U:=hR (fun _=>x) 0 rfl
 unfold R at hV
 cases hn:x.nil with
 | true =>
  rw [hn] at hV
  obtain ⟨rfl,rfl⟩:len=0/\U=.slice none 0 0:=hV
  exact ⟨M',hk,fun σ'=>RC.nil _ _ _ rfl⟩
 | false =>
  rw [hn] at hV
  have hV:U=.slice (some ⟨x.b,0,none⟩) len x.cap:=hV
  subst hV
  obtain ⟨hx1,hx2⟩:w.heap.size<=x.b/\M' x.b=none:=by
   rcases hx with h0 | h0
   ·rw [hn] at h0;cases h0
   exact h0
  rcases hb (fun _=>x) with ⟨h0,_⟩ | ⟨_,c,hc,h1,h2,h3,g,hg⟩
  ·rw [hn] at h0;cases h0
  have key:∀ b o,M' b=some o->b≠x.b:=fun b o ho e=>by rw [e,hx2] at ho;cases ho
  refine ⟨fun b=>if b=x.b then some (.cells c ty) else M' b,⟨hk.os,hk.tape,hk.output,hk.size,hk.old,fun b o ho => ?_,fun b o ho h0 => ?_,fun b o ho => ?_⟩,fun σ' => ?_⟩
  ·have:=hk.sub b o ho
   simp only [if_neg (key b o this)];exact this
  ·by_cases e:b=x.b
   ·rw [e];exact hx1
   simp only [if_neg e] at ho;exact hk.new b o ho h0
  ·by_cases e:b=x.b
   ·simp only [if_pos e,Option.some.injEq] at ho;rw [e,<- ho];exact hc
   simp only [if_neg e] at ho;exact hk.imm b o ho
  show RC _ (.list false sz len F) _
  refine .list false sz len F x.b 0 x.cap g (fun i j hi hj => ?_) (fun i j hi hj=>Dl (fun b o ho => ?_) (hg i j hi hj).2) h2 (fun h=>by cases h)
  ·simp only [D4,if_pos]
   rw [Nat.zero_add]
   exact (hg i j hi hj).1
  simp only [if_neg (key b o ho)];exact ho
theorem VQ {P:Program} {gf:FuncId} {fn:Func} {c:Code} (hf:P.funcs[gf]? = some fn) (hb:fn.body=some c) (hnr:fn.results.toList=[]) {k:Nat} {caps:Nat->Cl} {n:Nat} {E:Fin n->List Av} (hE:∀ x,(E x).all Av.isV=true) (hE1:∀ x,∀ e∈E x,∀ c∈e.cells,c.toV.oneCell'=true) (hN:Nat.ble (k+1) fn.ntmps=true) (hcd:∀ i,i<k->(caps i).dv=true)
  (h:∀ (Ow:World->Nat->Prop) (n0 ly:Nat) (JJ Jx:Nat->World->Prop),OwS Ow n0->(∀ j A B,JJ j A->A.grownBy B none->JJ j B) ->
   (∀ j (hj:j<n) W,JJ j W->YieldAt (FW none) 0 P ly ((E ⟨j,hj⟩).map Av.toV).toArray W (fun e W'=>(e=.returned (.bool true)/\JJ (j+1) W'/\KpS Ow W W')\/(e=.returned (.bool false)/\Jx (j+1) W'))) ->
   IWp P fn.ntmps Ow n0 c (IEnd n JJ Jx) ⟨EN 0 (.one (.val (.func (.yield ly) #[] #[]))::Dg k caps),[]⟩ (JJ 0) true):Hz P gf k caps n E :=
 Rc hf hb hnr hN hcd fun Ow n0 ly JJ hO hJ hY=>by
  have h1:=h Ow n0 ly JJ (fun _ _=>False) hO hJ (fun j hj W hW=>by
   obtain ⟨fn',tm,as',bd,hy,hR⟩:=hY j hj W ((E ⟨j,hj⟩).map Av.toV).toArray hW ⟨fun _=>none,by simp,(fun b o hb=>by cases hb),fun MM _ _=>by
    have e1:=hE ⟨j,hj⟩
    have e2:=hE1 ⟨j,hj⟩
    show L2 _ (E ⟨j,hj⟩) ((E ⟨j,hj⟩).map Av.toV)
    generalize E ⟨j,hj⟩=l at e1 e2 ⊢
    induction l with
    | nil=>exact .nil
    | cons e l ih =>
     simp only [List.all_cons,Bool.and_eq_true] at e1
     exact .cons (fun σ=>aV e1.1 (e2 e (List.mem_cons_self ..))) (ih e1.2 fun e he=>e2 e (List.mem_cons_of_mem _ he))⟩
   exact ⟨fn',tm,as',bd,hy,hR.mono fun e W' he=>.inl he⟩)
  intro W0 M σ a w hJ0 hs
  refine wpIn_mono (h1 W0 M σ a w hJ0 hs) ?_
  rintro e a' w' ⟨s',J',al',W0',M',σ',⟨he,hend⟩,hJ',hs'⟩
  rcases hend with rfl | ⟨j,hj,rfl⟩
  ·exact ⟨s',_,al',W0',M',σ',⟨he,rfl⟩,hJ',hs'⟩
  exact hJ'.1.elim
theorem S7 {P:Program} {gf:FuncId} {t:Bool} {sz len:Nat} {f:Nat->Nat->Cl} {k:Nat} {caps:Nat->Cl} {n:Nat} {E:Fin n->List Av} (E':(Nat->Nat->Value)->Fin n->List Av) (h0:caps 0=YP t sz len f) (hk:0<k)
  (hI:∀ g:Nat->Nat->Value,(∀ i j,i<len->j<sz->(g i j).oneCell'=true)->Hz P gf k (fun i=>match i with | 0=>YP t sz len (fun i j=>.val (g i j)) | i+1=>caps (i+1)) n (E' g)) (hlen:∀ g x,(E' g x).length=(E x).length)
  (hE:∀ M g x (vs:List Value),(∀ i j,i<len->j<sz->RC M (f i j) (g i j))->L2 (fun e v=>∀ σ,RA M σ e v) (E' g x) vs->L2 (fun e v=>∀ σ,RA M σ e v) (E x) vs):Hz P gf k caps n E:=by
 intro M w cs Ow himm hOs hOw hcs hcaps
 have h:=hcaps 0 hk
 rw [h0] at h
 obtain ⟨g,h1,h2⟩:=Se h
 have h3:=hI g (fun i j hi hj=>Yd (h2 i j hi hj)) M w cs Ow himm hOs hOw hcs (fun i hi=>by
  cases i with
  | zero=>exact h1
  | succ i=>exact hcaps _ hi)
 intro l J W hB hJ hY hJ0
 exact h3 l J W hB hJ (fun j v A hj hJA ⟨hj',Mj,e1,e2,e3⟩=>hY j v A hj hJA ⟨hj',Mj,(hlen g _).symm.trans e1,e2,fun MM m1 m2=>hE MM g _ _ (fun i j hi hj=>Dl m1 (h2 i j hi hj)) (e3 MM m1 m2)⟩) hJ0
theorem S8 {P:Program} {gf:FuncId} {k:Nat} {caps caps':Nat->Cl} {n:Nat} {E:Fin n->List Av} (h:∀ i,i<k->caps' i=caps i) (H:Hz P gf k caps n E):Hz P gf k caps' n E :=
 fun M w cs Ow a b c d e=>H M w cs Ow a b c d fun i hi=>by rw [<- h i hi];exact e i hi
theorem Xe {P:Program} {N:Nat} {Ow:World->Nat->Prop} {n0:Nat} {Q:IQ} {s:AS} {J:World->Prop} {al:Bool} (hO:OwS Ow n0) {x y z:Code} (hdv:∀ i v,get s.t i=some v->v.dv=true) (hh:s.h=[])
  (h:∀ W0 X1 M1,(∀ k u,X1 k=some u->BM [N] k=true)->AWp P none N W0 X1 M1 x (ATh (AWp P none N W0 X1 M1 y (fun e s'=>e=.normal/\∃ S,(∀ W2 M2,Cv N W2 noX M2 s' S)/\IWp P N Ow n0 z Q S J al)) (fun _ _=>False)) s):IWp P N Ow n0 (.seq x (.seq y z)) Q s J al:=by
 intro W0 M σ a w hJ hs
 have hX:∀ k u,LS N W0.heap.size k=some u->BM [N] k=true:=fun k u hk=>by rw [(NH hk).1];exact Jp _
 refine wpIn_seq (wpIn_mono (h W0 _ M hX M _ a w (Ma hdv hh hJ.2.1 hs)) ?_)
 rintro e a' w' ⟨s',M',σ',h1,h2⟩
 cases e with
 | normal =>
  refine wpIn_seq (wpIn_mono (h1 M' σ' a' w' h2) ?_)
  rintro e a2 w2 ⟨s2,M2,σ2,⟨rfl,S,h3,h4⟩,h5⟩
  have h6:=Jw hJ.2.2 hO h5
  obtain ⟨hd,h7⟩:=I7 h5
  obtain ⟨M3,σ3,h8⟩:=h3 W0 M2 M2 σ2 a2 w2 h7
  exact h4 W0 M3 σ3 a2 w2 ⟨hJ.1,hd,Jw h6 hO h8⟩ (Qw h8 hd)
 | _=>exact h1.elim
end
def B7 (x0:AD) (x1:AD):AD:=AD.mk (W64 (x0.X+x1.X)) (W64 (x0.Y+x1.Y))
def ET (x0:AD) (x1:AD):CT:=(13,[.agg (AD.c x0),.agg (AD.c x1)],.val [] (.av (.agg (AD.c (B7 x0 x1)))))
theorem U4 (x0:AD) (x1:AD):PuP 13 (ET x0 x1).2.1 (.av (.agg (AD.c (B7 x0 x1)))):=by
 refine pwf Try.func13 fun W0 M0 => ?_
 refine AB<|rn ⟨[(2,tP 2 0),(3,tP 3 0),(4,tP 4 0)],[(2,.cells (AD.c x0) 52),(3,.cells (AD.c x1) 52),(4,.cells [.i 0,.i 0] 52)]⟩<|AB ?_
 refine rn ⟨[(4,tP 4 0)],[(4,.cells [.i (W64 (x0.X+x1.X)),.i (W64 (x0.Y+x1.Y))] 52)]⟩<|Ae ?_
 exact xl (.av (.agg [.i (W64 (x0.X+x1.X)),.i (W64 (x0.Y+x1.Y))])) (An (by rfl))
theorem I9 (x0:AD) (x1:AD):OKc (ET x0 x1):=cPu<|U4 x0 x1
def B4 (x0:Int):Int:=Int.tmod (W64 ((Int.tmod x0 4)+4)) 4
def Hr (x0:Int):CT:=(74,[.one (.i x0)],.val [] (.av (.one (.i (B4 x0)))))
theorem au15 {p:Prop} (h:p:=by first | assumption | decide | omega):p:=h
theorem Q6 (x0:Int):PuP 74 (Hr x0).2.1 (tO (.i (B4 x0))):=by
 refine pwf Try.func74 fun W0 M0 => ?_
 refine AB<|rn ⟨[(0,tI x0)],[]⟩<|AB ?_
 refine rc [] [(4:Int)≠0,(4:Int)≠0] ⟨[(2,tI (Int.tmod (W64 ((Int.tmod x0 4)+4)) 4))],[]⟩ .nil (.cons au15 (.cons au15 .nil))<|AH<|Ae ?_
 exact xl (tO (.i (Int.tmod (W64 ((Int.tmod x0 4)+4)) 4))) (An (by rfl))
theorem P0 (x0:Int):OKc (Hr x0):=cPu<|Q6 x0
def B5 (x0:AD) (x1:Int):AD:=bif decide (((B4 x1):Int)=1) then (AD.mk (W64 (0-x0.Y)) x0.X) else (bif decide (((B4 x1):Int)=2) then (AD.mk (W64 (0-x0.X)) (W64 (0-x0.Y))) else (bif decide (((B4 x1):Int)=3) then (AD.mk x0.Y (W64 (0-x0.X))) else (x0)))
def Fb (x0:AD) (x1:Int):CT:=(46,[.agg (AD.c x0),.one (.i x1)],.val [] (.av (.agg (AD.c (B5 x0 x1)))))
theorem Pm (x0:AD) (x1:Int):PuP 46 (Fb x0 x1).2.1 (.av (.agg (AD.c (B5 x0 x1)))):=by
 refine pwf Try.func46 fun W0 M0 => ?_
 refine AB<|rn ⟨[(1,tI x1),(2,tP 2 0),(4,tP 4 0)],[(2,.cells (AD.c x0) 52),(4,.cells [.i 0,.i 0] 52)]⟩ ?_
 refine AB<|AB ?_
 refine rs 6 (Hr x1) ⟨[(2,tP 2 0),(4,tP 4 0),(6,tI (B4 x1))],[(2,.cells (AD.c x0) 52),(4,.cells [.i 0,.i 0] 52)]⟩ (P0 x1)<|AH ?_
 refine AX<|AB ?_
 refine rn ⟨[(2,tP 2 0),(4,tP 4 0),(6,tI (B4 x1)),(7,tB (decide (((B4 x1):Int)=1)))],[(2,.cells (AD.c x0) 52),(4,.cells [.i 0,.i 0] 52)]⟩ ?_
 refine Aa _ rfl (fun h1 => ?_) (fun h1 => ?_)
 ·refine AB<|rn ⟨[(4,tP 4 0)],[(4,.cells [.i (W64 (0-x0.Y)),.i x0.X] 52)]⟩ ?_
  refine Ae<|Cq<|Bb ?_
  exact xl (.av (.agg [.i (W64 (0-x0.Y)),.i x0.X])) (An (by simp only [B5,h1,cond_true,cond_false] <;> rfl))
 refine AB<|rn ⟨[(2,tP 2 0),(4,tP 4 0),(6,tI (B4 x1)),(15,tB (decide (((B4 x1):Int)=2)))],[(2,.cells (AD.c x0) 52),(4,.cells [.i 0,.i 0] 52)]⟩ ?_
 refine Aa _ rfl (fun h2 => ?_) (fun h2 => ?_)
 ·refine AB<|rn ⟨[(4,tP 4 0)],[(4,.cells [.i (W64 (0-x0.X)),.i (W64 (0-x0.Y))] 52)]⟩ ?_
  refine Ae<|Cq<|Bb ?_
  exact xl (.av (.agg [.i (W64 (0-x0.X)),.i (W64 (0-x0.Y))])) (An (by simp only [B5,h1,h2,cond_true,cond_false] <;> rfl))
 refine AB<|rn ⟨[(2,tP 2 0),(4,tP 4 0),(24,tB (decide (((B4 x1):Int)=3)))],[(2,.cells (AD.c x0) 52),(4,.cells [.i 0,.i 0] 52)]⟩ ?_
 refine Aa _ rfl (fun h3 => ?_) (fun h3 => ?_)
 ·refine AB<|rn ⟨[(4,tP 4 0)],[(4,.cells [.i x0.Y,.i (W64 (0-x0.X))] 52)]⟩ ?_
  refine Ae<|Cq<|Bb ?_
  exact xl (.av (.agg [.i x0.Y,.i (W64 (0-x0.X))])) (An (by simp only [B5,h1,h2,h3,cond_true,cond_false] <;> rfl))
 refine Ac<|Bd ?_
 refine AH<|AB ?_
 refine rn ⟨[(4,tP 4 0)],[(4,.cells (AD.c x0) 52)]⟩<|Ae ?_
 exact xl (.av (.agg (AD.c x0))) (An (by simp only [B5,h1,h2,h3,cond_true,cond_false] <;> rfl))
theorem Nm (x0:AD) (x1:Int):OKc (Fb x0 x1):=cPu<|Pm x0 x1
def Be (x0:AD) (x1:Bool):AD:=AD.mk (bif x1 then (W64 (0-x0.X)) else x0.X) x0.Y
def Eh (x0:AD) (x1:Bool):CT:=(47,[.agg (AD.c x0),.one (.b x1)],.val [] (.av (.agg (AD.c (Be x0 x1)))))
theorem Mk (x0:AD) (x1:Bool):PuP 47 (Eh x0 x1).2.1 (.av (.agg (AD.c (Be x0 x1)))):=by
 refine pwf Try.func47 fun W0 M0 => ?_
 refine AB<|rn ⟨[(1,tB x1),(2,tP 2 0),(4,tP 4 0)],[(2,.cells (AD.c x0) 52),(4,.cells [.i 0,.i 0] 52)]⟩ ?_
 refine AB<|AB ?_
 refine rn ⟨[(2,tP 2 0),(4,tP 4 0),(5,tB x1)],[(2,.cells (AD.c x0) 52),(4,.cells [.i 0,.i 0] 52)]⟩ ?_
 refine Bz (⟨[(2,tP 2 0),(4,tP 4 0)],[(2,.cells [.i (bif x1 then (W64 (0-x0.X)) else x0.X),.i x0.Y] 52),(4,.cells [.i 0,.i 0] 52)]⟩) ?_ ?_
 ·refine Aa _ rfl (fun h1 => ?_) (fun h1 => ?_)
  ·refine rn ⟨[(2,tP 2 0),(4,tP 4 0)],[(2,.cells [.i (W64 (0-x0.X)),.i x0.Y] 52),(4,.cells [.i 0,.i 0] 52)]⟩ ?_
   refine A6 ?_
   first | rfl | (simp only [h1,cond_true,cond_false] <;> rfl)
  refine Ac<|AH ?_
  refine Cv.trans (ck (⟨[(2,tP 2 0),(4,tP 4 0)],[(2,.cells (AD.c x0) 52),(4,.cells [.i 0,.i 0] 52)]⟩)) (A6 ?_)
  first | rfl | (simp only [h1,cond_true,cond_false] <;> rfl)
 refine AB<|rn ⟨[(4,tP 4 0)],[(4,.cells [.i (bif x1 then (W64 (0-x0.X)) else x0.X),.i x0.Y] 52)]⟩<|Ae ?_
 exact xl (.av (.agg [.i (bif x1 then (W64 (0-x0.X)) else x0.X),.i x0.Y])) (An (by rfl))
theorem Lf (x0:AD) (x1:Bool):OKc (Eh x0 x1):=cPu<|Mk x0 x1
def Z09 (x1:AD) (x0:AV):AD:=B5 (Be x1 x0.Mirror) x0.Turn
def BZ (x0:AV) (x1:AD):AD:=B7 (Z09 x1 x0) x0.At
def C0 (x0:AV) (x1:AD):CT:=(17,[.agg (AV.c x0),.agg (AD.c x1)],.val [] (.av (.agg (AD.c (BZ x0 x1)))))
theorem Q7 (x0:AV) (x1:AD):PuP 17 (C0 x0 x1).2.1 (.av (.agg (AD.c (BZ x0 x1)))):=by
 refine pwf Try.func17 fun W0 M0 => ?_
 refine AB<|rn ⟨[(2,tP 2 0),(3,tP 3 0),(4,tP 4 0)],[(2,.cells (AV.c x0) 66),(3,.cells (AD.c x1) 52),(4,.cells [.i 0,.i 0] 52)]⟩<|AB ?_
 refine dw [] [(8,Eh x1 x0.Mirror),(11,Fb (Be x1 x0.Mirror) x0.Turn),(14,ET (Z09 x1 x0) x0.At)] [Aw (Eh x1 x0.Mirror).2.1,Aw (Fb (Be x1 x0.Mirror) x0.Turn).2.1,Aw (ET (Z09 x1 x0) x0.At).2.1] ⟨[(4,tP 4 0)],[(4,.cells (AD.c (B7 (Z09 x1 x0) x0.At)) 52)]⟩ (.cons (Lf x1 x0.Mirror) (.cons (Nm (Be x1 x0.Mirror) x0.Turn) (.cons (I9 (Z09 x1 x0) x0.At) .nil))) (.cons rfl (.cons rfl (.cons rfl .nil)))<|AH<|Ae ?_
 exact xl (.av (.agg (AD.c (B7 (Z09 x1 x0) x0.At)))) (An (by rfl))
theorem Ec (x0:AV) (x1:AD):OKc (C0 x0 x1):=cPu<|Q7 x0 x1
def Z0a (x2:Int) (x1:Int):AD:=BZ (AV.mk (AD.mk 0 0) x2 false) (AD.mk x1 0)
def Z0b (x3:Int) (x2:Int) (x1:Int):AD:=BZ (AV.mk (AD.mk 0 0) (bif decide ((x3:Int)=3) then (W64 (x2+3)) else (W64 (x2+1))) false) (AD.mk x1 0)
def EV (x0:AD) (x1:Int) (x2:Int) (x3:Int):AO:=AO.mk x3 (B7 x0 (Z0a x2 x1)) (B7 x0 (Z0b x3 x2 x1)) x0
def CA (x0:AD) (x1:Int) (x2:Int) (x3:Int):CT:=(79,[.agg (AD.c x0),.one (.i x1),.one (.i x2),.one (.i x3)],.val [] (.av (.agg (AO.c (EV x0 x1 x2 x3)))))
theorem U3 (x0:AD) (x1:Int) (x2:Int) (x3:Int):PuP 79 (CA x0 x1 x2 x3).2.1 (.av (.agg (AO.c (EV x0 x1 x2 x3)))):=by
 refine pwf Try.func79 fun W0 M0 => ?_
 refine AB<|rn ⟨[(1,tI x1),(2,tI x2),(3,tI x3),(4,tP 4 0),(8,tP 8 0)],[(4,.cells (AD.c x0) 52),(8,.cells [.i 0,.i 0,.i 0,.i 0,.i 0,.i 0,.i 0] 133)]⟩<|AB ?_
 refine rs 16 (C0 (AV.mk (AD.mk 0 0) x2 false) (AD.mk x1 0)) ⟨[(1,tI x1),(2,tI x2),(3,tI x3),(4,tP 4 0),(8,tP 8 0),(9,tP 9 0)],[(4,.cells (AD.c x0) 52),(8,.cells [.i 0,.i 0,.i 0,.i 0,.i 0,.i 0,.i 0] 133),(9,.cells (AD.c (Z0a x2 x1)) 52)]⟩ (Ec (AV.mk (AD.mk 0 0) x2 false) (AD.mk x1 0))<|AH<|AB ?_
 refine rn ⟨[(1,tI x1),(2,tI x2),(3,tI x3),(4,tP 4 0),(8,tP 8 0),(9,tP 9 0),(10,tI (W64 (x2+1)))],[(4,.cells (AD.c x0) 52),(8,.cells [.i 0,.i 0,.i 0,.i 0,.i 0,.i 0,.i 0] 133),(9,.cells (AD.c (Z0a x2 x1)) 52)]⟩ ?_
 refine AB<|AB ?_
 refine rn ⟨[(1,tI x1),(2,tI x2),(3,tI x3),(4,tP 4 0),(8,tP 8 0),(9,tP 9 0),(10,tI (W64 (x2+1))),(20,tB (decide ((x3:Int)=3)))],[(4,.cells (AD.c x0) 52),(8,.cells [.i 0,.i 0,.i 0,.i 0,.i 0,.i 0,.i 0] 133),(9,.cells (AD.c (Z0a x2 x1)) 52)]⟩ ?_
 refine Bz (⟨[(1,tI x1),(3,tI x3),(4,tP 4 0),(8,tP 8 0),(9,tP 9 0),(10,tI (bif decide ((x3:Int)=3) then (W64 (x2+3)) else (W64 (x2+1))))],[(4,.cells (AD.c x0) 52),(8,.cells [.i 0,.i 0,.i 0,.i 0,.i 0,.i 0,.i 0] 133),(9,.cells (AD.c (Z0a x2 x1)) 52)]⟩) ?_ ?_
 ·refine Aa _ rfl (fun h1 => ?_) (fun h1 => ?_)
  ·refine rn ⟨[(1,tI x1),(3,tI x3),(4,tP 4 0),(8,tP 8 0),(9,tP 9 0),(10,tI (W64 (x2+3)))],[(4,.cells (AD.c x0) 52),(8,.cells [.i 0,.i 0,.i 0,.i 0,.i 0,.i 0,.i 0] 133),(9,.cells (AD.c (Z0a x2 x1)) 52)]⟩ ?_
   refine A6 ?_
   first | rfl | (simp only [h1,cond_true,cond_false] <;> rfl)
  refine Ac<|AH ?_
  refine Cv.trans (ck (⟨[(1,tI x1),(3,tI x3),(4,tP 4 0),(8,tP 8 0),(9,tP 9 0),(10,tI (W64 (x2+1)))],[(4,.cells (AD.c x0) 52),(8,.cells [.i 0,.i 0,.i 0,.i 0,.i 0,.i 0,.i 0] 133),(9,.cells (AD.c (Z0a x2 x1)) 52)]⟩)) (A6 ?_)
  first | rfl | (simp only [h1,cond_true,cond_false] <;> rfl)
 refine AB<|rs 27 (C0 (AV.mk (AD.mk 0 0) (bif decide ((x3:Int)=3) then (W64 (x2+3)) else (W64 (x2+1))) false) (AD.mk x1 0)) ⟨[(3,tI x3),(4,tP 4 0),(8,tP 8 0),(9,tP 9 0),(11,tP 11 0)],[(4,.cells (AD.c x0) 52),(8,.cells [.i 0,.i 0,.i 0,.i 0,.i 0,.i 0,.i 0] 133),(9,.cells (AD.c (Z0a x2 x1)) 52),(11,.cells (AD.c (Z0b x3 x2 x1)) 52)]⟩ (Ec (AV.mk (AD.mk 0 0) (bif decide ((x3:Int)=3) then (W64 (x2+3)) else (W64 (x2+1))) false) (AD.mk x1 0))<|AH<|AB ?_
 refine dw [] [(31,ET x0 (Z0a x2 x1)),(34,ET x0 (Z0b x3 x2 x1))] [Aw (ET x0 (Z0a x2 x1)).2.1,Aw (ET x0 (Z0b x3 x2 x1)).2.1] ⟨[(8,tP 8 0)],[(8,.cells [.i x3,.i ((B7 x0 (Z0a x2 x1)).X),.i ((B7 x0 (Z0a x2 x1)).Y),.i ((B7 x0 (Z0b x3 x2 x1)).X),.i ((B7 x0 (Z0b x3 x2 x1)).Y),.i x0.X,.i x0.Y] 133)]⟩ (.cons (I9 x0 (Z0a x2 x1)) (.cons (I9 x0 (Z0b x3 x2 x1)) .nil)) (.cons rfl (.cons rfl .nil))<|AH<|Ae ?_
 exact xl (.av (.agg [.i x3,.i ((B7 x0 (Z0a x2 x1)).X),.i ((B7 x0 (Z0a x2 x1)).Y),.i ((B7 x0 (Z0b x3 x2 x1)).X),.i ((B7 x0 (Z0b x3 x2 x1)).Y),.i x0.X,.i x0.Y])) (An (by rfl))
theorem Dc (x0:AD) (x1:Int) (x2:Int) (x3:Int):OKc (CA x0 x1 x2 x3):=cPu<|U3 x0 x1 x2 x3
def Qg (n:Int) (m:Int):Int:=Int.tmod (W64 ((Int.tmod n m)+m)) m
def Zm (n:Int) (m:Int):CT:=(25,[.one (.i n),.one (.i m)],.val [] (.av (.one (.i (Qg n m)))))
theorem pMod (n:Int) (m:Int) (hm:m≠0):PuP 25 (Zm n m).2.1 (tO (.i (Qg n m))):=by
 refine pwf Try.func25 fun W0 M0 => ?_
 refine AB<|rn ⟨[(0,tI n),(1,tI m)],[]⟩<|AB ?_
 refine rc [] [(m:Int)≠0,(m:Int)≠0] ⟨[(4,tI (Int.tmod (W64 ((Int.tmod n m)+m)) m))],[]⟩ .nil (.cons au15 (.cons au15 .nil))<|AH<|Ae ?_
 exact xl (tO (.i (Int.tmod (W64 ((Int.tmod n m)+m)) m))) (An (by rfl))
theorem okMod (n:Int) (m:Int) (hm:m≠0):OKc (Zm n m):=cPu<|pMod n m hm
def Bf (d:AC):Prop:=0<=d.At/\d.At<=d.L.length/\(d.L.length:Int)<=9223372036854775807
def AA (d:AC) (n:Int):(Int×AC):=bif decide ((((d.L.length:Int)):Int)<=d.At) then ((0,d)) else ((Qg (d.L.getD ((W64 ((W64 (d.At+1))-1)).toNat) default) n,AC.mk d.L (W64 (d.At+1))))
theorem au9 {p:Prop} (h:p:=by first | with_reducible assumption | omega | decide | (simp only [List.length_cons,List.length_nil,List.length_append];omega) | assumption):p:=h
theorem au1 {p:Prop} (h:p:=by first | decide | omega | exact Jy (by first | omega | (simp only [C9];omega)) (by omega) | (simp only [C9];omega) | (constructor <;> omega) | (simp only [List.length_append,List.length_cons,List.length_nil];omega) | (simp only [List.length_append,List.length_cons,List.length_nil,List.length_drop,List.length_take] at *;omega)):p:=h
theorem BS  (d:AC) (n:Int) (hd:Bf d) (hn:n≠0):Wr Try.prog 54 1000 [.one (.ptr 1000 0),.one (.i n)] (.cells (AC.c d) 146) (tO (.i ((AA d n).1))) (.cells (AC.c ((AA d n).2)) 146):=by
 refine GX Try.func54 rfl kr kr kr kr fun W0 M0 X hX => ?_
 obtain ⟨a1,a2,a3⟩:=hd
 refine AB<|rn ⟨[(0,tP 1000 0),(1,tI n)],[(1000,.cells (AC.c d) 146)]⟩ ?_
 refine AB<|AB ?_
 refine dw [] [] [] ⟨[(0,tP 1000 0),(1,tI n),(14,tB (decide ((((d.L.length:Int)):Int)<=d.At)))],[(1000,.cells (AC.c d) 146)]⟩ .nil .nil<|AH ?_
 refine Aa _ rfl (fun h1 => ?_) (fun h1 => ?_)
 ·have g1:=oT h1
  refine AB<|rn ⟨[(4,tI 0)],[(1000,.cells (AC.c d) 146)]⟩ ?_
  refine Ae<|Bb ?_
  exact xl (tO (.i 0)) ⟨An (by simp only [AA,h1,cond_true,cond_false] <;> rfl),.cells (AC.c d) 146,by kernel_rfl,DV (by first | (simp only [AA,h1,cond_true,cond_false];done) | (simp only [AA,h1,cond_true,cond_false];kernel_rfl))⟩
 have g1:=oF h1
 refine Ac<|AH<|AB ?_
 refine rn ⟨[(0,tP 1000 0),(1,tI n)],[(1000,.cells [lst 1 eIn d.L,.i (W64 (d.At+1))] 146)]⟩<|AB ?_
 refine dw [] [(34,Zm (d.L.getD ((W64 ((W64 (d.At+1))-1)).toNat) default) n)] [0<=(W64 ((W64 (d.At+1))-1):Int)/\(W64 ((W64 (d.At+1))-1):Int)<((d.L.length:Nat):Int),Aw (Zm (d.L.getD ((W64 ((W64 (d.At+1))-1)).toNat) default) n).2.1] ⟨[(4,tI (Qg (d.L.getD ((W64 ((W64 (d.At+1))-1)).toNat) default) n))],[(1000,.cells [lst 1 eIn d.L,.i (W64 (d.At+1))] 146)]⟩ (.cons (okMod (d.L.getD ((W64 ((W64 (d.At+1))-1)).toNat) default) n au9) .nil) (.cons au1 (.cons rfl .nil))<|AH<|Ae ?_
 exact xl (tO (.i (Qg (d.L.getD ((W64 ((W64 (d.At+1))-1)).toNat) default) n))) ⟨An (by simp only [AA,h1,cond_true,cond_false] <;> rfl),.cells [lst 1 eIn d.L,.i (W64 (d.At+1))] 146,by kernel_rfl,DV (by first | (simp only [AA,h1,cond_true,cond_false];done) | (simp only [AA,h1,cond_true,cond_false];kernel_rfl))⟩
theorem Ca {l:List Int} (h:(l.length:Int)<=9223372036854775807):Bf (AC.mk l 0):=⟨Int.le_refl _,by show (0:Int)<=(l.length:Int);omega,h⟩
theorem BR {d:AC} {n:Int} (h:Bf d):Bf (AA d n).2:=by
 obtain ⟨h1,h2,h3⟩:=h
 unfold AA
 by_cases hc:(d.L.length:Int)<=d.At
 ·simp only [hc,decide_true,cond_true];exact ⟨h1,h2,h3⟩
 simp only [hc,decide_false,cond_false]
 rw [Ao (by omega) (by omega)]
 exact ⟨by show 0<=d.At+1;omega,by show d.At+1<=(d.L.length:Int);omega,h3⟩
theorem mod_b (n m:Int) (h0:0<m) (h1:m<=4611686018427387904):0<=Qg n m/\Qg n m<m:=by
 have e:Qg n m=n % m:=by
  unfold Qg W64
  rcases Int.lt_or_le n 0 with h | h
  ·have b1:=Int.emod_nonneg (-n) (show m≠0 by omega)
   have b2:=Int.emod_lt_of_pos (-n) h0
   rw [show n.tmod m = -((-n) % m) by rw [<- Int.tmod_eq_emod_of_nonneg (by omega),Int.neg_tmod,Int.neg_neg]]
   rw [IntKind.wrap_i64]
   rw [show (-((-n) % m)+m+9223372036854775808) % 18446744073709551616-9223372036854775808 = -((-n) % m)+m by omega]
   rw [Int.tmod_eq_emod_of_nonneg (by omega)]
   have e1:=Int.emod_add_mul_ediv (-n) m
   have e2 : -((-n) % m)+m=n+m*((-n)/m+1):=by grind
   rw [e2,Int.add_mul_emod_self_left]
  have b1:=Int.emod_nonneg n (show m≠0 by omega)
  have b2:=Int.emod_lt_of_pos n h0
  rw [Int.tmod_eq_emod_of_nonneg h,IntKind.wrap_i64]
  rw [show (n % m+m+9223372036854775808) % 18446744073709551616-9223372036854775808=n % m+m by omega]
  rw [Int.tmod_eq_emod_of_nonneg (by omega),Int.add_emod_right,Int.emod_emod_of_dvd _ (Int.dvd_refl m)]
 rw [e]
 exact ⟨Int.emod_nonneg n (by omega),Int.emod_lt_of_pos n h0⟩
theorem Cy (d:AC) (n:Int) (h0:0<n) (h1:n<=4611686018427387904):0<=(AA d n).1/\(AA d n).1<n:=by
 unfold AA
 by_cases hc:(d.L.length:Int)<=d.At
 ·simp only [hc,decide_true,cond_true];omega
 simp only [hc,decide_false,cond_false]
 exact mod_b _ n h0 h1
theorem QB {v a:Int} {d:AC} {n:Int} (h:v<W64 (a+(AA d n).1)) (h0:0<n) (h1:n<=1000000) (ha:0<=a) (hb:a<=1000000):v<a+n:=by
 have:=Cy d n h0 (by omega)
 rw [Ao (by omega) (by omega)] at h
 omega
theorem QL {v a:Int} {d:AC} {n:Int} (h:¬ v<W64 (a+(AA d n).1)) (h0:0<n) (h1:n<=1000000) (ha:0<=a) (hb:a<=1000000):W64 (a+(AA d n).1)<a+n:=by
 have:=Cy d n h0 (by omega)
 rw [Ao (by omega) (by omega)]
 omega
theorem QX {p q:Prop} [Decidable p] [Decidable q] (h:(bif decide p then decide q else false)=true):p/\q:=by
 by_cases hp:p
 ·rw [decide_eq_true hp] at h;exact ⟨hp,of_decide_eq_true h⟩
 rw [decide_eq_false hp] at h;cases h
theorem Ci {c:Bool} {a b:AC} (ha:Bf a) (hb:Bf b):Bf (bif c then a else b):=by cases c <;> assumption
theorem H8 (d:AC) (n k:Int) (h0:0<n) (h1:n<=4611686018427387904) (h2:n<=k):0<=(AA d n).1/\(AA d n).1<k:=⟨(Cy d n h0 h1).1,by have:=(Cy d n h0 h1).2;omega⟩
section
open Go.RowKit
def Ez (x:Int):Bool := !decide ((x:Int)=x)
variable (data' l:List AF) (x j n y:Int)
def QS:CT:=(88,[.one (.i x)],.val [] (.av (.one (.b (Ez x)))))
theorem aY (x:Int):PuP 88 (QS x).2.1 (tO (.b (Ez x))):=by
 refine pwf Try.func88 fun W0 M0 => ?_
 refine AB<|rn ⟨[(0,tI x)],[]⟩<|AB ?_
 refine rn ⟨[(2,tB (!decide ((x:Int)=x)))],[]⟩<|Ae ?_
 exact xl (tO (.b (!decide ((x:Int)=x)))) (An (by rfl))
theorem Tz (x:Int):OKc (QS x):=cPu<|aY x
def DZ (x:Int) (y:Int):Int:=bif Ez x then (bif Ez y then 0 else (-1)) else (bif Ez y then 1 else (bif decide ((x:Int)<y) then (-1) else (bif decide ((y:Int)<x) then 1 else 0)))
def NU:CT:=(72,[.one (.i x),.one (.i y)],.val [] (.av (.one (.i (DZ x y)))))
theorem Wz (x:Int) (y:Int):PuP 72 (NU x y).2.1 (tO (.i (DZ x y))):=by
 refine pwf Try.func72 fun W0 M0 => ?_
 refine AB<|rn ⟨[(0,tI x),(1,tI y)],[]⟩<|AB ?_
 refine rs 8 (QS x) ⟨[(0,tI x),(1,tI y),(5,tB (Ez x))],[]⟩ (Tz x)<|AH<|AB ?_
 refine rs 10 (QS y) ⟨[(0,tI x),(1,tI y),(5,tB (Ez x)),(6,tB (Ez y))],[]⟩ (Tz y)<|AH ?_
 refine AB<|AB ?_
 refine rn ⟨[(0,tI x),(1,tI y),(6,tB (Ez y)),(11,tB (Ez x))],[]⟩ ?_
 refine Aa _ rfl (fun h1 => ?_) (fun h1 => ?_)
 ·refine AB<|AB ?_
  refine rn ⟨[(12,tB (Ez y))],[]⟩ ?_
  refine Aa _ rfl (fun h2 => ?_) (fun h2 => ?_)
  ·refine AB<|rn ⟨[(4,tI 0)],[]⟩ ?_
   refine Ae<|Bb<|Bb ?_
   exact xl (tO (.i 0)) (An (by simp only [DZ,h1,h2,cond_true,cond_false] <;> rfl))
  refine Ac<|AH<|AB ?_
  refine rn ⟨[(4,tI (-1))],[]⟩ ?_
  refine Ae<|Bb ?_
  exact xl (tO (.i (-1))) (An (by simp only [DZ,h1,h2,cond_true,cond_false] <;> rfl))
 refine Ac<|AH ?_
 refine AB<|AB ?_
 refine rn ⟨[(0,tI x),(1,tI y),(13,tB (Ez y))],[]⟩ ?_
 refine Aa _ rfl (fun h2 => ?_) (fun h2 => ?_)
 ·refine AB<|rn ⟨[(4,tI 1)],[]⟩ ?_
  refine Ae<|Bb ?_
  exact xl (tO (.i 1)) (An (by simp only [DZ,h1,h2,cond_true,cond_false] <;> rfl))
 refine Ac<|AH ?_
 refine AB<|AB ?_
 refine rn ⟨[(0,tI x),(1,tI y),(16,tB (decide ((x:Int)<y)))],[]⟩ ?_
 refine Aa _ rfl (fun h3 => ?_) (fun h3 => ?_)
 ·refine AB<|rn ⟨[(4,tI (-1))],[]⟩ ?_
  refine Ae<|Bb ?_
  exact xl (tO (.i (-1))) (An (by simp only [DZ,h1,h2,h3,cond_true,cond_false] <;> rfl))
 refine Ac<|AH ?_
 refine AB<|AB ?_
 refine rn ⟨[(19,tB (decide ((y:Int)<x)))],[]⟩ ?_
 refine Aa _ rfl (fun h4 => ?_) (fun h4 => ?_)
 ·refine AB<|rn ⟨[(4,tI 1)],[]⟩ ?_
  refine Ae<|Bb ?_
  exact xl (tO (.i 1)) (An (by simp only [DZ,h1,h2,h3,h4,cond_true,cond_false] <;> rfl))
 refine Ac<|AH<|AB ?_
 refine rn ⟨[(4,tI 0)],[]⟩<|Ae ?_
 exact xl (tO (.i 0)) (An (by simp only [DZ,h1,h2,h3,h4,cond_true,cond_false] <;> rfl))
theorem VG (x:Int) (y:Int):OKc (NU x y):=cPu<|Wz x y
def LW (x:AF) (y:AF):Int:=DZ x.Id y.Id
def Ub (x:AF) (y:AF):CT:=(71,[.agg (AF.c x),.agg (AF.c y)],.val [] (.av (.one (.i (LW x y)))))
abbrev O4:List (Nat×Tv):=[(2,tP 2 0),(3,tP 3 0)]
theorem pcmpP (x:AF) (y:AF):PuP 71 (Ub x y).2.1 (tO (.i (LW x y))):=by
 refine pwf Try.func71 fun W0 M0 => ?_
 refine AB<|rn ⟨O4,[(2,.cells (AF.c x) 59),(3,.cells (AF.c y) 59)]⟩<|AB ?_
 refine rs 9 (NU x.Id y.Id) ⟨[(4,tI (DZ x.Id y.Id))],[]⟩ (VG x.Id y.Id)<|AH<|Ae ?_
 exact xl (tO (.i (DZ x.Id y.Id))) (An (by rfl))
theorem bQ (x:AF) (y:AF):OKc (Ub x y):=cPu<|pcmpP x y
def F6 (l:(List AF)) (n:Int) (data:List AF) (i:Int) (K0:List AF->Int->(List AF)):Nat->List AF->Int->(List AF)
 | 0,_,_=>default
 | n1+1,data',j=>bif bif decide ((0:Int)<j) then decide (((LW (data'.getD j.toNat default) (data'.getD (j-1).toNat default)):Int)<0) else false then ((F6 l n data i K0 n1) ((data'.set j.toNat (data'.getD (j-1).toNat default)).set (j-1).toNat (data'.getD j.toNat default)) (j-1)) else (K0 data' (i+1))
def Du (l:(List AF)) (n:Int):Nat->List AF->Int->(List AF)
 | 0,_,_=>default
 | n0+1,data,i=>bif decide ((i:Int)<n) then (F6 l n data i (Du l n n0) (i.toNat+1) data i) else data
def Ej (l:(List AF)) (n:Int):(List AF):=Du l n ((n-1).toNat+1) l 1
abbrev R8:=data'.set j.toNat (data'.getD (j-1).toNat default)
abbrev WK:Nat×Blk:=(1000,.row 7 ((R8 data' j).set (j-1).toNat (data'.getD j.toNat default)).length (AU AF.c ((R8 data' j).set (j-1).toNat (data'.getD j.toNat default))) 59)
abbrev Fo:Bool:=(decide ((0:Int)<j))
abbrev WA:Nat×Tv:=(0,tO (.own 1000 7 ((R8 data' j).set (j-1).toNat (data'.getD j.toNat default)).length))
abbrev In:Cl:=.own 1000 7 l.length
abbrev O7:Nat×Blk:=(1000,.row 7 l.length (AU AF.c l) 59)
theorem au0 {p:Prop} (h:p:=by first | (simp;done) | (simp;omega)):p:=h
theorem lr {p:Prop} (h:p:=by repeat (first | exact .nil | refine .cons ⟨rfl,.refl _⟩ ?_)):p:=h
theorem pInsP (l:(List AF)) (n:Int) (hn:n=(l.length:Int)) (hl:l.length<20):WrR Try.prog 93 1000 [.one (.own 1000 7 l.length),.one (.i 0),.one (.i n),.one (.clo 71 0 dfc)] 7 l.length (AU AF.c l) 59 (.tup []) (AU AF.c (Ej l n)):=by
 refine I3 Try.func93 rfl kr kr kr fun W0 M0 X hX => ?_
 refine AB<|rn ⟨[(0,tO (In l)),(1,tI 0),(2,tI n),(3,.av (.one (.clo 71 0 dfc))),(8,tI 1)],[(O7 l)]⟩<|AX ?_
 refine BH (ι:=Nat×List AF×Int) (fun x=>⟨[(0,tO (.own 1000 7 x.2.1.length)),(1,tI 0),(2,tI n),(3,.av (.one (.clo 71 0 dfc))),(8,tI x.2.2)],[(1000,.row 7 x.2.1.length (AU AF.c x.2.1) 59)]⟩) (fun x=>(n-x.2.2).toNat<x.1/\(1<=x.2.2/\x.2.1.length=l.length/\1<=x.2.2/\(x.2.2<=n\/x.2.2=1))/\Du l n x.1 x.2.1 x.2.2=Ej l n) (fun x=>x.1) ?_ ((n-1).toNat+1,l,1) ⟨Nat.lt_succ_self _,⟨ax0,ax0,ax0,ax0⟩,(by simp only [Ej,cond_true,cond_false])⟩
 rintro ⟨n0,data,i⟩ ⟨hm0,hinv0,hF0⟩
 try dsimp only at hm0 hinv0 hF0
 cases n0 with | zero=>exact nz hm0 | succ n0 => ?_
 refine AB<|AB ?_
 refine rn ⟨[(0,tO (.own 1000 7 data.length)),(1,tI 0),(2,tI n),(3,.av (.one (.clo 71 0 dfc))),(8,tI i),(14,tB (decide ((i:Int)<n)))],[(1000,.row 7 data.length (AU AF.c data) 59)]⟩ ?_
 refine Aa _ rfl (fun h1 => ?_) (fun h1 => ?_)
 ·have g1:=oT h1
  refine Ac<|AH ?_
  refine AB<|AX<|AB ?_
  refine rn ⟨[(0,tO (.own 1000 7 data.length)),(1,tI 0),(2,tI n),(3,.av (.one (.clo 71 0 dfc))),(8,tI i),(9,tI i)],[(1000,.row 7 data.length (AU AF.c data) 59)]⟩<|AX ?_
  refine BH (ι:=Nat×List AF×Int) (fun x=>⟨[(0,tO (.own 1000 7 x.2.1.length)),(1,tI 0),(2,tI n),(3,.av (.one (.clo 71 0 dfc))),(8,tI i),(9,tI x.2.2)],[(1000,.row 7 x.2.1.length (AU AF.c x.2.1) 59)]⟩) (fun x=>x.2.2.toNat<x.1/\(0<=x.2.2/\x.2.1.length=l.length/\x.2.2<n)/\F6 l n data i (Du l n n0) x.1 x.2.1 x.2.2=Ej l n) (fun x=>x.1) ?_ (i.toNat+1,data,i) ⟨Nat.lt_succ_self _,⟨ax0,ax0,ax0⟩,(by rw [<- hF0];simp only [Du,h1,cond_true,cond_false])⟩
  rintro ⟨n1,data',j⟩ ⟨hm1,hinv1,hF1⟩
  try dsimp only at hm1 hinv1 hF1
  cases n1 with | zero=>exact nz hm1 | succ n1 => ?_
  refine AB<|AB ?_
  refine dw [] [(32,Ub (data'.getD j.toNat default) (data'.getD (W64 (j-1)).toNat default))] (t2 (Fo j) ((gk (Fo j) (0<=(j:Int)/\(j:Int)<((data'.length:Nat):Int)))::(gt (Fo j))::(gk (Fo j) (j.toNat<data'.length))::(t3 (Fo j) ((gk (Fo j) (0<=(W64 (j-1):Int)/\(W64 (j-1):Int)<((data'.length:Nat):Int)))::(gt (Fo j))::(gk (Fo j) ((W64 (j-1)).toNat<data'.length))::(t3 (Fo j) ((gk (Fo j) (Aw (Ub (data'.getD j.toNat default) (data'.getD (W64 (j-1)).toNat default)).2.1))::(t2 (Fo j) []))))))) ⟨[(0,tO (.own 1000 7 data'.length)),(1,tI 0),(2,tI n),(3,.av (.one (.clo 71 0 dfc))),(8,tI i),(9,tI j),(34,tB (bif decide ((0:Int)<j) then decide (((LW (data'.getD j.toNat default) (data'.getD (W64 (j-1)).toNat default)):Int)<0) else false))],[(1000,.row 7 data'.length (AU AF.c data') 59)]⟩ (.cons (bQ (data'.getD j.toNat default) (data'.getD (W64 (j-1)).toNat default)) .nil) (c2 (.cons (fun hG=>by first | exact au1 | (simp only [decide_eq_true_eq,decide_eq_false_iff_not,Bool.not_eq_true,Bool.and_eq_true] at hG <;> omega) | (simp at hG <;> omega) | (simp only [decide_eq_true_eq,decide_eq_false_iff_not] at hG;simp only [C9];omega)) (ci (.cons (fun hG=>by first | exact au1 | (simp only [decide_eq_true_eq,decide_eq_false_iff_not,Bool.not_eq_true,Bool.and_eq_true] at hG <;> omega) | (simp at hG <;> omega) | (simp only [decide_eq_true_eq,decide_eq_false_iff_not] at hG;simp only [C9];omega)) (c3 (.cons (fun hG=>by first | exact au1 | (simp only [decide_eq_true_eq,decide_eq_false_iff_not,Bool.not_eq_true,Bool.and_eq_true] at hG <;> omega) | (simp at hG <;> omega) | (simp only [decide_eq_true_eq,decide_eq_false_iff_not] at hG;simp only [C9];omega)) (ci (.cons (fun hG=>by first | exact au1 | (simp only [decide_eq_true_eq,decide_eq_false_iff_not,Bool.not_eq_true,Bool.and_eq_true] at hG <;> omega) | (simp at hG <;> omega) | (simp only [decide_eq_true_eq,decide_eq_false_iff_not] at hG;simp only [C9];omega)) (c3 (.cons (fun _=>rfl) (c2 .nil))))))))))) ?_
  (try rw [(show W64 (j-1)=j-1 from Ao oM oM)])
  refine AH ?_
  refine Aa _ rfl (fun h2 => ?_) (fun h2 => ?_)
  ·have g2:=QX h2
   refine Ac<|AH ?_
   refine AB<|AX ?_
   refine dw [] [] [0<=(W64 (j-1):Int)/\(W64 (j-1):Int)<((data'.length:Nat):Int),(W64 (j-1)).toNat<data'.length,0<=(j:Int)/\(j:Int)<((data'.length:Nat):Int),j.toNat<data'.length,0<=(j:Int)/\(j:Int)<((data'.length:Nat):Int),j.toNat<data'.length,0<=(W64 (j-1):Int)/\(W64 (j-1):Int)<((data'.length:Nat):Int),(W64 (j-1)).toNat<data'.length] ⟨[(0,tO (.own 1000 7 data'.length)),(1,tI 0),(2,tI n),(3,.av (.one (.clo 71 0 dfc))),(8,tI i),(9,tI j)],[(1000,.row 7 data'.length (fun i_ j_=>if i_=(W64 (j-1)).toNat/\0<=j_/\j_<0+7 then ((AF.c (data'.getD j.toNat default)):List Cl).getD (j_-0) default else (fun i_ j_=>if i_=j.toNat/\0<=j_/\j_<0+7 then ((AF.c (data'.getD (W64 (j-1)).toNat default)):List Cl).getD (j_-0) default else (AU AF.c data') i_ j_) i_ j_) 59)]⟩ .nil (.cons au1 (.cons au1 (.cons au1 (.cons au1 (.cons au1 (.cons au1 (.cons au1 (.cons au1 .nil)))))))) ?_
   (try rw [(show W64 (j-1)=j-1 from Ao oM oM)])
   refine Bd<|AH ?_
   refine BN (Cv.trans (BF (⟨[(WA data' j),(1,tI 0),(2,tI n),(3,.av (.one (.clo 71 0 dfc))),(8,tI i),(9,tI j)],[(WK data' j)]⟩) (.cons ⟨rfl,.av (.one (.own _ _ au0))⟩ lr) (.cons ⟨rfl,Ai 59 (Hj (l:=(AF.c (data'.getD j.toNat default))) (off:=0) (q:=7) (k:=(j-1).toNat) (Hj (l:=(AF.c (data'.getD (j-1).toNat default))) (off:=0) (q:=7) (k:=j.toNat) (BA 7 AF.c data') au1 (data'.getD (j-1).toNat default) (FY kr)) au1 (data'.getD j.toNat default) (FY kr))⟩ .nil)) (Cv.refl _)) ?_
   refine rg ⟨[(WA data' j),(1,tI 0),(2,tI n),(3,.av (.one (.clo 71 0 dfc))),(8,tI i),(9,tI (W64 (j-1)))],[(WK data' j)]⟩ ?_
   (try rw [(show W64 (j-1)=j-1 from Ao oM oM)])
   refine AH ?_
   refine ⟨(n1,(data'.set j.toNat (data'.getD (j-1).toNat default)).set (j-1).toNat (data'.getD j.toNat default),j-1),⟨?_,?_,(by rw [<- hF1];simp only [F6,h2,cond_true,cond_false])⟩,Nat.lt_succ_self _,A6 kr⟩
   ·show (j-1).toNat<n1;omega
   exact ⟨ax0,ax0,ax0⟩
  refine BJ<|A4 ?_
  refine A4<|BK ?_
  refine Bd<|AH ?_
  refine rg ⟨[(0,tO (.own 1000 7 data'.length)),(1,tI 0),(2,tI n),(3,.av (.one (.clo 71 0 dfc))),(8,tI (W64 (i+1)))],[(1000,.row 7 data'.length (AU AF.c data') 59)]⟩ ?_
  (try rw [(show W64 (i+1)=i+1 from Ao oM oM)])
  refine AH ?_
  refine ⟨(n0,data',i+1),⟨?_,?_,(by rw [<- hF1];simp only [F6,h2,cond_true,cond_false])⟩,Nat.lt_succ_self _,A6 kr⟩
  ·show (n-(i+1)).toNat<n0;omega
  exact ⟨ax0,ax0,ax0,ax0⟩
 have g1:=oF h1
 refine BJ<|A4 ?_
 refine A4<|BK ?_
 exact xn (.tup []) ⟨An rfl,.row 7 data.length (AU AF.c data) 59,by kernel_rfl,JP (c:=AF.c) (xs:=data) (by rw [<- hF0];first | (simp only [Du,h1,cond_true,cond_false] <;> rfl)) (by first | omega | (simp only [List.length_set];omega) | simp)⟩
theorem R6 (l:List AF) (n:Int) (hn:n=(l.length:Int)):Ej l n=Fv (fun x y=>decide (LW x y<0)) l:=by
 unfold Ej
 cases l with
 | nil=>subst hn;rfl
 | cons a l =>
  have h:=cL (fun x y=>decide (LW x y<0)) (a::l) (Du (a::l) n) id (fun m d i hi=>by
   rw [Du,decide_eq_false (by omega),cond_false];rfl) (fun m i out rest x hi ho=>by
   rw [Du,decide_eq_true (by omega),cond_true]
   have h1:=cK (fun x y=>decide (LW x y<0)) (F6 (a::l) n (out++x::rest) i (Du (a::l) n m)) (fun d=>Du (a::l) n m d ((i:Int)+1)) (fun m d j=>by
    rw [F6,Int.toNat_natCast,show ((j:Int)-1).toNat=j-1 by omega]) out rest x i ((i:Int).toNat+1) (by omega) (by omega)
   subst ho
   rw [List.take_length,List.drop_length,List.nil_append] at h1
   rw [h1]
   unfold Rf
   rw [List.append_assoc];rfl) ((a::l).length-1) ((n-1).toNat+1) 1 rfl (by simp) (by omega)
  exact h
theorem IP (l:List AF) (n:Int) (hn:n=(l.length:Int)) (hl:l.length<20):(Ej l n).length=l.length:=by rw [R6 l n hn,NC]
abbrev MF:Blk:=.row 7 l.length (AU AF.c l) 59
def Z0c:CT:=(93,([.one (In l),.one (.i 0),.one (.i n),.one (.clo 71 0 dfc)]:List Av).map (Q3 1000 1000),wrI 1000 (MF l) (.tup []) (.row 7 l.length (AU AF.c (Ej l n)) 59))
def LX (l:(List AF)) (n:Int):(List AF):=Ej l n
theorem pStaP (l:(List AF)) (n:Int) (hn:n=(l.length:Int)) (hl:l.length<20):WrR Try.prog 87 1000 [.one (.own 1000 7 l.length),.one (.i n),.one (.clo 71 0 dfc)] 7 l.length (AU AF.c l) 59 (.tup []) (AU AF.c (LX l n)):=by
 refine I3 Try.func87 rfl kr kr kr fun W0 M0 X hX => ?_
 refine AB<|rn ⟨[(0,tO (In l)),(1,tI n),(2,.av (.one (.clo 71 0 dfc))),(6,tI 20)],[(O7 l)]⟩<|AB ?_
 refine rn ⟨[(0,tO (In l)),(1,tI n),(2,.av (.one (.clo 71 0 dfc))),(6,tI 20),(7,tI 0),(8,tI 20)],[(O7 l)]⟩ ?_
 refine AB<|AX ?_
 refine Ex 1 ?_
 refine DF<|AB<|AB ?_
 refine rn ⟨[(0,tO (In l)),(1,tI n),(2,.av (.one (.clo 71 0 dfc))),(6,tI 20),(7,tI 0),(8,tI 20),(13,tB (decide ((20:Int)<=n)))],[(O7 l)]⟩ ?_
 have h1:(decide ((20:Int)<=n))=false:=decide_eq_false oM
 have g1:=oF h1
 refine Aa _ rfl (fun h=>absurd (h1.symm.trans h) (by decide)) (fun _ => ?_)
 refine BJ<|A4 ?_
 refine A4<|BK ?_
 refine AH<|AB ?_
 refine rb 27 (Z0c l n) (MF l) ⟨[(0,tO (In l)),(1,tI n),(2,.av (.one (.clo 71 0 dfc))),(6,tI 20)],[(1000,.row 7 l.length (AU AF.c (Ej l n)) 59)]⟩ (JO (fun _ _=>kr) kr (pInsP l n au9 au9))<|AH ?_
 refine BN (Cv.trans (BF (⟨[(0,tO (.own 1000 7 (Ej l n).length)),(1,tI n),(2,.av (.one (.clo 71 0 dfc))),(6,tI 20)],[(1000,.row 7 (Ej l n).length (AU AF.c (Ej l n)) 59)]⟩) (.cons ⟨rfl,.av (.one (.own _ _ (IP l n au9 au9).symm))⟩ lr) (.cons ⟨rfl,Ai 59 (⟨(IP l n au9 au9).symm,fun _ _ _ _=>.refl _⟩)⟩ .nil)) (Cv.refl _))<|AX ?_
 refine Ex 1 ?_
 refine DF<|AB<|AB ?_
 refine rn ⟨[(0,tO (.own 1000 7 (Ej l n).length)),(1,tI n),(2,.av (.one (.clo 71 0 dfc))),(6,tI 20),(30,tB (decide ((20:Int)<n)))],[(1000,.row 7 (Ej l n).length (AU AF.c (Ej l n)) 59)]⟩ ?_
 have h2:(decide ((20:Int)<n))=false:=decide_eq_false oM
 have g2:=oF h2
 refine Aa _ rfl (fun h=>absurd (h2.symm.trans h) (by decide)) (fun _ => ?_)
 refine BJ<|A4 ?_
 refine A4<|BK ?_
 exact xn (.tup []) ⟨An rfl,.row 7 (Ej l n).length (AU AF.c (Ej l n)) 59,by kernel_rfl,JP (c:=AF.c) (xs:=Ej l n) (by simp only [LX,h1,h2,cond_true,cond_false] <;> rfl) (IP l n hn hl)⟩
theorem K7 (l:List AF) (n:Int) (hn:n=(l.length:Int)) (hl:l.length<20):(LX l n).length=l.length:=IP l n hn hl
abbrev O6:=(LX l ((l.length:Nat):Int))
def Z0d:CT:=(87,([.one (In l),.one (.i ((l.length:Nat):Int)),.one (.clo 71 0 dfc)]:List Av).map (Q3 1000 1000),wrI 1000 (MF l) (.tup []) (.row 7 l.length (AU AF.c (O6 l)) 59))
def CD (l:(List AF)):(List AF):=LX l ((l.length:Nat):Int)
theorem pSrtP (l:(List AF)) (hl:l.length<20):WrR Try.prog 70 1000 [.one (.own 1000 7 l.length),.one (.clo 71 0 dfc)] 7 l.length (AU AF.c l) 59 (.tup []) (AU AF.c (CD l)):=by
 refine I3 Try.func70 rfl kr kr kr fun W0 M0 X hX => ?_
 refine rb 8 (Z0d l) (MF l) ⟨[],[(1000,.row 7 l.length (AU AF.c (O6 l)) 59)]⟩ (JO (fun _ _=>kr) kr (pStaP l ((l.length:Nat):Int) au9 au9)) ?_
 exact yn (Cv.trans (BF (⟨[],[(1000,.row 7 (O6 l).length (AU AF.c (O6 l)) 59)]⟩) .nil (.cons ⟨rfl,Ai 59 (⟨(K7 l ((l.length:Nat):Int) au9 au9).symm,fun _ _ _ _=>.refl _⟩)⟩ .nil)) (Cv.refl _)) (.tup []) ⟨An rfl,.row 7 (LX l ((l.length:Nat):Int)).length (AU AF.c (LX l ((l.length:Nat):Int))) 59,by kernel_rfl,JP (c:=AF.c) (xs:=LX l ((l.length:Nat):Int)) (by rfl) (K7 l _ rfl hl)⟩
theorem IM (l:List AF) (hl:l.length<20):(CD l).length=l.length:=K7 l _ rfl hl
theorem R4 (l:List AF):CD l=Fv (fun x y=>decide (LW x y<0)) l:=R6 l _ rfl
end
section
open Go.RowKit
def R2 (p:A1):Prop:=(p.Shape.Edges.length:Int)<=1000000
def JT (g:Az):Prop:=(g.Legs.length:Int)<=1000000
def JR (t:AQ):Prop:=(t.Pads.length:Int)<=1000000/\(t.Gates.length:Int)<=1000000/\(∀ p∈t.Pads,R2 p)/\∀ g∈t.Gates,JT g
def CP (l:List AQ):Prop:=(l.length:Int)<=1000000/\∀ t∈l,JR t
theorem E5 {α:Type} [Inhabited α] {p:α->Prop} {l:List α} (hd:p default) (h:∀ x∈l,p x) (k:Nat):p (l.getD k default):=by
 rw [List.getD_eq_getElem?_getD]
 cases hk:l[k]? with
 | none=>exact hd
 | some x=>exact h x (List.mem_of_getElem? hk)
theorem SS {l:List AQ} (h:CP l) (k:Nat):JR (l.getD k default):=E5 (p:=JR) ⟨by decide,by decide,(fun p hp=>by cases hp),fun p hp=>by cases hp⟩ h.2 k
theorem Mq {t:AQ} (h:JR t) (k:Nat):((t.Pads.getD k default).Shape.Edges.length:Int)<=1000000:=E5 (p:=R2) (by unfold R2;decide) h.2.2.1 k
theorem OV {t:AQ} (h:JR t) (k:Nat):((t.Gates.getD k default).Legs.length:Int)<=1000000:=E5 (p:=JT) (by unfold JT;decide) h.2.2.2 k
theorem au3 {p:Prop} (h:p:=by first | (unfold maxLen;omega) | (unfold maxLen;simp only [List.length_append,List.length_cons,List.length_nil];omega) | first | omega | (simp only [List.length_append,List.length_cons,List.length_nil];omega) | (simp only [XK,XJ,XI];omega)):p:=h
theorem cD {p:Prop} (h:p:=by
 refine ID mp0 rfl kr (Mr _ _) fun W0 M0 => ?_
 refine AB<|rn ⟨[(0,.av (.one (.list true mp1 l.length (AU mp2 l))))],[]⟩ ?_
 refine AB<|AB ?_
 refine rn ⟨[(0,.av (.one (.list true mp1 l.length (AU mp2 l)))),(4,tB false)],[]⟩ ?_
 refine Di kr<|Ac ?_
 refine AH<|AB ?_
 refine DW D9 [5] [] [] [2] [7] [0=0,0+l.length<=maxLen,(0+l.length)*mp3<=140737488355328] ⟨[(2,tO (.own 7 mp1 (0+l.length)))],[(7,.row mp1 (0+l.length) (fun i_ j_=>if i_<0 then (As mp1 0 []) i_ j_ else (AU mp2 l) (i_-0) j_) mp4)]⟩ .nil kr (.cons rfl (.cons au3 (.cons au3 .nil)))<|AH ?_
 refine BN (Cv.trans (BF (⟨[(2,tO (.own 7 mp1 l.length))],[(7,.row mp1 l.length (AU mp2 l) mp4)]⟩) (.cons ⟨rfl,.av (.one (.own _ _ au0))⟩ .nil) (.cons ⟨rfl,Ai mp4 (BO (Ar (c:=mp2) (xs:=(([]:List mp5):List mp5)) rfl kr) (BA mp1 mp2 l))⟩ .nil)) (Cv.refl _))<|Ae ?_
 exact xl (tO (.own 7 mp1 l.length)) (frE (c:=mp2) (xs:=l) (by rfl) kr)):p:=h
section
 open Go.Proofs.Ytdbampcfmjbgmaa renaming nn7→mp1,AO.c→mp2,XJ→mp3,aF→mp4,AO→mp5
 open Go.Proofs.Try renaming func43→mp0
theorem Wo (l:(List AO)) (h0:(l.length:Int)<=1000000):Fr Try.prog 43 [.one (.list true 7 l.length (AU AO.c l))] (.row 7 l.length (AU AO.c l) 133) (fun d=>tO (.own d 7 l.length)):=cD
end
abbrev vN:Cl:=.val (.slice none 0 0)
theorem cC {p:Prop} (h:p:=by
 refine ID mp0 rfl kr (Mr _ _) fun W0 M0 => ?_
 cases l with
 | cons a l=>cases h0
 | nil =>
 refine AB<|rn ⟨[(0,.av (.one vN))],[]⟩ ?_
 refine AB<|AB ?_
 refine rn ⟨[(0,.av (.one vN)),(4,tB true)],[]⟩ ?_
 refine DX kr<|AB ?_
 refine rn ⟨[(2,.av (.one vN))],[]⟩ ?_
 refine Ae<|Bb ?_
 exact yl (Cv.trans (wg (⟨[(2,tO (.own 100000 mp1 0))],[(100000,.row mp1 0 (fun _ _=>default) mp2)]⟩) 100000 mp1 (fun _ _=>default) mp2 [(2,[0])] [] hk0) (Cv.trans (BF (⟨[(2,tO (.own 100000 mp1 ([]:List mp3).length))],[(100000,.row mp1 ([]:List mp3).length (AU mp4 ([]:List mp3)) mp2)]⟩) (.cons ⟨rfl,.av (.one (.own _ _ au0))⟩ .nil) (.cons ⟨rfl,Ai mp2 (B8 mp1 (fun _ _=>default) mp4)⟩ .nil)) (Cv.refl _))) (tO (.own 100000 mp1 ([]:List mp3).length)) (frE (c:=mp4) (xs:=([]:List mp3)) (by rfl) kr)):p:=h
section
 open Go.Proofs.Ytdbampcfmjbgmaa renaming nn7→mp1,aF→mp2,AO→mp3,AO.c→mp4
 open Go.Proofs.Try renaming func43→mp0
theorem Wp (l:(List AO)) (h0:l.length=0):Fr Try.prog 43 [.one vN] (.row 7 l.length (AU AO.c l) 133) (fun d=>tO (.own d 7 l.length)):=cC
end
variable (types:List AQ) (name:ByteArray) (v7_1:List A1) (l:List AO) (pad:ByteArray) (pin:Ab) (v26 v49:Int) (xs:List AQ)
def Lm:CT:=(43,[.one (lst 7 AO.c l)],.new [] (.row 7 l.length (AU AO.c l) 133) (fun d=>.av (.one (.own d 7 l.length))))
theorem Mu (l:(List AO)) (h0:(l.length:Int)<=1000000):OKc (Lm l):=Ks (fun _ _=>kr) (TF (fun hz=>Wp l hz) (Wo l h0))
section
 open Go.Proofs.Ytdbampcfmjbgmaa renaming nn2→mp1,Bm.c→mp2,XK→mp3,aE→mp4,Bm→mp5
 open Go.Proofs.Try renaming func61→mp0
theorem Wm (l:(List Bm)) (h0:(l.length:Int)<=1000000):Fr Try.prog 61 [.one (.list true 2 l.length (AU Bm.c l))] (.row 2 l.length (AU Bm.c l) 160) (fun d=>tO (.own d 2 l.length)):=cD
end
section
 open Go.Proofs.Ytdbampcfmjbgmaa renaming nn2→mp1,aE→mp2,Bm→mp3,Bm.c→mp4
 open Go.Proofs.Try renaming func61→mp0
theorem Wn (l:(List Bm)) (h0:l.length=0):Fr Try.prog 61 [.one vN] (.row 2 l.length (AU Bm.c l) 160) (fun d=>tO (.own d 2 l.length)):=cC
end
section
 open Go.Proofs.Ytdbampcfmjbgmaa renaming nn7→mp1,AF.c→mp2,XI→mp3,nn59→mp4,AF→mp5
 open Go.Proofs.Try renaming func69→mp0
theorem Wk (l:(List AF)) (h0:(l.length:Int)<=1000000):Fr Try.prog 69 [.one (.list true 7 l.length (AU AF.c l))] (.row 7 l.length (AU AF.c l) 59) (fun d=>tO (.own d 7 l.length)):=cD
end
section
 open Go.Proofs.Ytdbampcfmjbgmaa renaming nn7→mp1,nn59→mp2,AF→mp3,AF.c→mp4
 open Go.Proofs.Try renaming func69→mp0
theorem Wl (l:(List AF)) (h0:l.length=0):Fr Try.prog 69 [.one vN] (.row 7 l.length (AU AF.c l) 59) (fun d=>tO (.own d 7 l.length)):=cC
end
def Uc (l:(List AF)):CT:=(69,[.one (lst 7 AF.c l)],.new [] (MF l) (fun d=>.av (.one (.own d 7 l.length))))
theorem W9 (l:(List AF)) (h0:(l.length:Int)<=1000000):OKc (Uc l):=Ks (fun _ _=>kr) (TF (fun hz=>Wl l hz) (Wk l h0))
def F4 (l:List Bm):List Bm:=l
def NQ (l:List Bm):CT:=(61,[.one (lst 2 Bm.c l)],.val [] (.av (.one (lst 2 Bm.c (F4 l)))))
theorem VF (l:List Bm) (h0:(l.length:Int)<=1000000):OKc (NQ l):=cPu<|Mi (TF (fun hz=>Wn l hz) (Wm l h0))
def Gr (t:AQ) (name:ByteArray):Bool:=(t.Name.toList==name.toList)
theorem pisTy  (t:AQ) (name:ByteArray):FG Try.prog 60 [.agg (AQ.c t),.one (.eptr 1 1 (gD [.s name]) 0 0)] (tO (.b (Gr t name))):=by
 refine pwf Try.func60 fun W0 M0 => ?_
 refine AB<|rn ⟨[(1,.av (.one (.eptr 1 1 (gD [.s name]) 0 0))),(2,tP 2 0)],[(2,.cells (AQ.c t) 114)]⟩<|AB ?_
 refine rn ⟨[(3,tB (t.Name.toList==name.toList))],[]⟩<|Ae ?_
 exact xl (tO (.b (t.Name.toList==name.toList))) (An (by rfl))
def Z0e (xs:(List AQ)) (v8:Int) (name:ByteArray):CT:=(60,[.agg (AQ.c (xs.getD v8.toNat default)),.one (.eptr 1 1 (fun _ j_=>([.s name]:List Cl).getD j_ default) 0 0)],.val [] (tB (Gr (xs.getD v8.toNat default) name)))
def FH (xs:(List AQ)) (name:ByteArray):Nat->Int->Int
 | 0,_=>default
 | n0+1,v8=>bif decide ((v8:Int)<(xs.length:Int)) then (bif Gr (xs.getD v8.toNat default) name then v8 else ((FH xs name n0) (v8+1))) else (-1)
def CJ (xs:(List AQ)) (name:ByteArray):Int:=FH xs name (((xs.length:Int)-0).toNat+1) 0
abbrev Lu:Nat×Tv:=(1,.av (.one (.clo 60 1 (CU [.eptr 1 1 (gD [.s name]) 0 0]))))
abbrev Im:Nat×Tv:=(0,tO (lst 3 AQ.c xs))
abbrev KP:Nat×Tv:=(7,tI (xs.length:Int))
theorem au6 {p:Prop} (h:p:=by first | omega | (simp only [List.length_drop,List.length_take] at *;omega)):p:=h
theorem pixTy  (xs:(List AQ)) (name:ByteArray) (hx:(xs.length:Int)<=9223372036854775807):FG Try.prog 59 [.one (lst 3 AQ.c xs),.one (.clo 60 1 (CU [.eptr 1 1 (gD [.s name]) 0 0]))] (tO (.i (CJ xs name))):=by
 refine pwf Try.func59 fun W0 M0 => ?_
 refine AB<|rn ⟨[(Im xs),(Lu name)],[]⟩ ?_
 refine AB<|AB ?_
 refine rn ⟨[(Im xs),(Lu name),(KP xs),(8,tI 0)],[]⟩<|AX ?_
 refine BH (ι:=Nat×Int) (fun x=>⟨[(Im xs),(Lu name),(KP xs),(8,tI x.2)],[]⟩) (fun x=>((xs.length:Int)-x.2).toNat<x.1/\(0<=x.2/\(x.2<=(xs.length:Int)\/x.2=0))/\FH xs name x.1 x.2=CJ xs name) (fun x=>x.1) ?_ (((xs.length:Int)-0).toNat+1,0) ⟨Nat.lt_succ_self _,⟨ax0,ax0⟩,(by simp only [CJ,cond_true,cond_false])⟩
 rintro ⟨n0,v8⟩ ⟨hm0,hinv0,hF0⟩
 try dsimp only at hm0 hinv0 hF0
 cases n0 with | zero=>exact nz hm0 | succ n0 => ?_
 refine AB<|rn ⟨[(Im xs),(Lu name),(KP xs),(8,tI v8),(9,tB (decide ((v8:Int)<(xs.length:Int))))],[]⟩<|AB ?_
 refine Aa _ rfl (fun h1 => ?_) (fun h1 => ?_)
 ·have g1:=oT h1
  refine Ac<|AH ?_
  refine AB<|AX<|AB ?_
  refine rn ⟨[(Im xs),(Lu name),(5,tI v8),(KP xs),(8,tI v8)],[]⟩<|AB ?_
  refine rc [(16,(Z0e xs v8 name))] [0<=(v8:Int)/\(v8:Int)<((xs.length:Nat):Int),Aw (Z0e xs v8 name).2.1] ⟨[(Im xs),(Lu name),(5,tI v8),(KP xs),(8,tI v8),(16,tB (Gr (xs.getD v8.toNat default) name))],[]⟩ (.cons (cPu<|pisTy (xs.getD v8.toNat default) name) .nil) (.cons au1 (.cons rfl .nil))<|AH ?_
  refine Aa _ rfl (fun h2 => ?_) (fun h2 => ?_)
  ·refine AB<|rn ⟨[(4,tI v8)],[]⟩ ?_
   refine Ae<|Cq ?_
   refine Bb<|Bb ?_
   refine Cq<|Bb ?_
   exact xl (tO (.i v8)) (An (by rw [<- hF0];first | (simp only [FH,h1,h2,cond_true,cond_false] <;> rfl)))
  refine Ac<|Bd<|AH ?_
  refine rg ⟨[(Im xs),(Lu name),(KP xs),(8,tI (W64 (v8+1)))],[]⟩ ?_
  (try rw [(show W64 (v8+1)=v8+1 from Ao oM au6)])
  refine AH ?_
  refine ⟨(n0,v8+1),⟨?_,?_,(by rw [<- hF0];simp only [FH,h1,h2,cond_true,cond_false])⟩,Nat.lt_succ_self _,A6 kr⟩
  ·show ((xs.length:Int)-(v8+1)).toNat<n0;omega
  exact ⟨ax0,ax0⟩
 refine BJ<|A4 ?_
 refine A4<|BK ?_
 refine AH<|AB ?_
 refine rn ⟨[(4,tI (-1))],[]⟩<|Ae ?_
 exact xl (tO (.i (-1))) (An (by rw [<- hF0];first | (simp only [FH,h1,cond_true,cond_false] <;> rfl)))
def Ng (p:A1) (pad:ByteArray):Bool:=(p.Name.toList==pad.toList)
theorem pisPd  (p:A1) (pad:ByteArray):FG Try.prog 63 [.agg (A1.c p),.one (.eptr 1 1 (gD [.s pad]) 0 0)] (tO (.b (Ng p pad))):=by
 refine pwf Try.func63 fun W0 M0 => ?_
 refine AB<|rn ⟨[(1,.av (.one (.eptr 1 1 (gD [.s pad]) 0 0))),(2,tP 2 0)],[(2,.cells (A1.c p) 118)]⟩<|AB ?_
 refine rn ⟨[(3,tB (p.Name.toList==pad.toList))],[]⟩<|Ae ?_
 exact xl (tO (.b (p.Name.toList==pad.toList))) (An (by rfl))
def Z0f (xs:(List A1)) (v8:Int) (pad:ByteArray):CT:=(63,[.agg (A1.c (xs.getD v8.toNat default)),.one (.eptr 1 1 (fun _ j_=>([.s pad]:List Cl).getD j_ default) 0 0)],.val [] (tB (Ng (xs.getD v8.toNat default) pad)))
def FJ (xs:(List A1)) (pad:ByteArray):Nat->Int->Int
 | 0,_=>default
 | n0+1,v8=>bif decide ((v8:Int)<(xs.length:Int)) then (bif Ng (xs.getD v8.toNat default) pad then v8 else ((FJ xs pad n0) (v8+1))) else (-1)
def FK (xs:(List A1)) (pad:ByteArray):Int:=FJ xs pad (((xs.length:Int)-0).toNat+1) 0
abbrev Lv:Nat×Tv:=(1,.av (.one (.clo 63 1 (CU [.eptr 1 1 (gD [.s pad]) 0 0]))))
abbrev Il (xs:List A1):Nat×Tv:=(0,tO (lst 7 A1.c xs))
abbrev KO (xs:List A1):Nat×Tv:=(7,tI (xs.length:Int))
theorem pixPd  (xs:(List A1)) (pad:ByteArray) (hx:(xs.length:Int)<=9223372036854775807):FG Try.prog 62 [.one (lst 7 A1.c xs),.one (.clo 63 1 (CU [.eptr 1 1 (gD [.s pad]) 0 0]))] (tO (.i (FK xs pad))):=by
 refine pwf Try.func62 fun W0 M0 => ?_
 refine AB<|rn ⟨[(Il xs),(Lv pad)],[]⟩ ?_
 refine AB<|AB ?_
 refine rn ⟨[(Il xs),(Lv pad),(KO xs),(8,tI 0)],[]⟩<|AX ?_
 refine BH (ι:=Nat×Int) (fun x=>⟨[(Il xs),(Lv pad),(KO xs),(8,tI x.2)],[]⟩) (fun x=>((xs.length:Int)-x.2).toNat<x.1/\(0<=x.2/\(x.2<=(xs.length:Int)\/x.2=0))/\FJ xs pad x.1 x.2=FK xs pad) (fun x=>x.1) ?_ (((xs.length:Int)-0).toNat+1,0) ⟨Nat.lt_succ_self _,⟨ax0,ax0⟩,(by simp only [FK,cond_true,cond_false])⟩
 rintro ⟨n0,v8⟩ ⟨hm0,hinv0,hF0⟩
 try dsimp only at hm0 hinv0 hF0
 cases n0 with | zero=>exact nz hm0 | succ n0 => ?_
 refine AB<|rn ⟨[(Il xs),(Lv pad),(KO xs),(8,tI v8),(9,tB (decide ((v8:Int)<(xs.length:Int))))],[]⟩<|AB ?_
 refine Aa _ rfl (fun h1 => ?_) (fun h1 => ?_)
 ·have g1:=oT h1
  refine Ac<|AH ?_
  refine AB<|AX<|AB ?_
  refine rn ⟨[(Il xs),(Lv pad),(5,tI v8),(KO xs),(8,tI v8)],[]⟩<|AB ?_
  refine rc [(16,(Z0f xs v8 pad))] [0<=(v8:Int)/\(v8:Int)<((xs.length:Nat):Int),Aw (Z0f xs v8 pad).2.1] ⟨[(Il xs),(Lv pad),(5,tI v8),(KO xs),(8,tI v8),(16,tB (Ng (xs.getD v8.toNat default) pad))],[]⟩ (.cons (cPu<|pisPd (xs.getD v8.toNat default) pad) .nil) (.cons au1 (.cons rfl .nil))<|AH ?_
  refine Aa _ rfl (fun h2 => ?_) (fun h2 => ?_)
  ·refine AB<|rn ⟨[(4,tI v8)],[]⟩ ?_
   refine Ae<|Cq ?_
   refine Bb<|Bb ?_
   refine Cq<|Bb ?_
   exact xl (tO (.i v8)) (An (by rw [<- hF0];first | (simp only [FJ,h1,h2,cond_true,cond_false] <;> rfl)))
  refine Ac<|Bd<|AH ?_
  refine rg ⟨[(Il xs),(Lv pad),(KO xs),(8,tI (W64 (v8+1)))],[]⟩ ?_
  (try rw [(show W64 (v8+1)=v8+1 from Ao oM au6)])
  refine AH ?_
  refine ⟨(n0,v8+1),⟨?_,?_,(by rw [<- hF0];simp only [FJ,h1,h2,cond_true,cond_false])⟩,Nat.lt_succ_self _,A6 kr⟩
  ·show ((xs.length:Int)-(v8+1)).toNat<n0;omega
  exact ⟨ax0,ax0⟩
 refine BJ<|A4 ?_
 refine A4<|BK ?_
 refine AH<|AB ?_
 refine rn ⟨[(4,tI (-1))],[]⟩<|Ae ?_
 exact xl (tO (.i (-1))) (An (by rw [<- hF0];first | (simp only [FJ,h1,cond_true,cond_false] <;> rfl)))
def Nf (x:AF) (pin:Ab):Bool:=(x.Ref.toList==pin.Ref.toList)
theorem pisPl  (x:AF) (pin:Ab):FG Try.prog 30 [.agg (AF.c x),.one (.eptr 2 1 (gD (Ab.c pin)) 0 0)] (tO (.b (Nf x pin))):=by
 refine pwf Try.func30 fun W0 M0 => ?_
 refine AB<|rn ⟨[(1,.av (.one (.eptr 2 1 (gD (Ab.c pin)) 0 0))),(2,tP 2 0)],[(2,.cells (AF.c x) 59)]⟩<|AB ?_
 refine rn ⟨[(3,tB (x.Ref.toList==pin.Ref.toList))],[]⟩<|Ae ?_
 exact xl (tO (.b (x.Ref.toList==pin.Ref.toList))) (An (by rfl))
def Z0g (xs:(List AF)) (v8:Int) (pin:Ab):CT:=(30,[.agg (AF.c (xs.getD v8.toNat default)),.one (.eptr 2 1 (fun _ j_=>((Ab.c pin):List Cl).getD j_ default) 0 0)],.val [] (tB (Nf (xs.getD v8.toNat default) pin)))
def FI (xs:(List AF)) (pin:Ab):Nat->Int->Int
 | 0,_=>default
 | n0+1,v8=>bif decide ((v8:Int)<(xs.length:Int)) then (bif Nf (xs.getD v8.toNat default) pin then v8 else ((FI xs pin n0) (v8+1))) else (-1)
def Cu (xs:(List AF)) (pin:Ab):Int:=FI xs pin (((xs.length:Int)-0).toNat+1) 0
abbrev Lw:Nat×Tv:=(1,.av (.one (.clo 30 1 (CU [.eptr 2 1 (gD (Ab.c pin)) 0 0]))))
abbrev Ik (xs:List AF):Nat×Tv:=(0,tO (lst 7 AF.c xs))
abbrev KN (xs:List AF):Nat×Tv:=(7,tI (xs.length:Int))
theorem pixPl  (xs:(List AF)) (pin:Ab) (hx:(xs.length:Int)<=9223372036854775807):FG Try.prog 29 [.one (lst 7 AF.c xs),.one (.clo 30 1 (CU [.eptr 2 1 (gD (Ab.c pin)) 0 0]))] (tO (.i (Cu xs pin))):=by
 refine pwf Try.func29 fun W0 M0 => ?_
 refine AB<|rn ⟨[(Ik xs),(Lw pin)],[]⟩ ?_
 refine AB<|AB ?_
 refine rn ⟨[(Ik xs),(Lw pin),(KN xs),(8,tI 0)],[]⟩<|AX ?_
 refine BH (ι:=Nat×Int) (fun x=>⟨[(Ik xs),(Lw pin),(KN xs),(8,tI x.2)],[]⟩) (fun x=>((xs.length:Int)-x.2).toNat<x.1/\(0<=x.2/\(x.2<=(xs.length:Int)\/x.2=0))/\FI xs pin x.1 x.2=Cu xs pin) (fun x=>x.1) ?_ (((xs.length:Int)-0).toNat+1,0) ⟨Nat.lt_succ_self _,⟨ax0,ax0⟩,(by simp only [Cu,cond_true,cond_false])⟩
 rintro ⟨n0,v8⟩ ⟨hm0,hinv0,hF0⟩
 try dsimp only at hm0 hinv0 hF0
 cases n0 with | zero=>exact nz hm0 | succ n0 => ?_
 refine AB<|rn ⟨[(Ik xs),(Lw pin),(KN xs),(8,tI v8),(9,tB (decide ((v8:Int)<(xs.length:Int))))],[]⟩<|AB ?_
 refine Aa _ rfl (fun h1 => ?_) (fun h1 => ?_)
 ·have g1:=oT h1
  refine Ac<|AH ?_
  refine AB<|AX<|AB ?_
  refine rn ⟨[(Ik xs),(Lw pin),(5,tI v8),(KN xs),(8,tI v8)],[]⟩<|AB ?_
  refine rc [(16,(Z0g xs v8 pin))] [0<=(v8:Int)/\(v8:Int)<((xs.length:Nat):Int),Aw (Z0g xs v8 pin).2.1] ⟨[(Ik xs),(Lw pin),(5,tI v8),(KN xs),(8,tI v8),(16,tB (Nf (xs.getD v8.toNat default) pin))],[]⟩ (.cons (cPu<|pisPl (xs.getD v8.toNat default) pin) .nil) (.cons au1 (.cons rfl .nil))<|AH ?_
  refine Aa _ rfl (fun h2 => ?_) (fun h2 => ?_)
  ·refine AB<|rn ⟨[(4,tI v8)],[]⟩ ?_
   refine Ae<|Cq ?_
   refine Bb<|Bb ?_
   refine Cq<|Bb ?_
   exact xl (tO (.i v8)) (An (by rw [<- hF0];first | (simp only [FI,h1,h2,cond_true,cond_false] <;> rfl)))
  refine Ac<|Bd<|AH ?_
  refine rg ⟨[(Ik xs),(Lw pin),(KN xs),(8,tI (W64 (v8+1)))],[]⟩ ?_
  (try rw [(show W64 (v8+1)=v8+1 from Ao oM au6)])
  refine AH ?_
  refine ⟨(n0,v8+1),⟨?_,?_,(by rw [<- hF0];simp only [FI,h1,h2,cond_true,cond_false])⟩,Nat.lt_succ_self _,A6 kr⟩
  ·show ((xs.length:Int)-(v8+1)).toNat<n0;omega
  exact ⟨ax0,ax0⟩
 refine BJ<|A4 ?_
 refine A4<|BK ?_
 refine AH<|AB ?_
 refine rn ⟨[(4,tI (-1))],[]⟩<|Ae ?_
 exact xl (tO (.i (-1))) (An (by rw [<- hF0];first | (simp only [FI,h1,cond_true,cond_false] <;> rfl)))
theorem Nd (xs:List AQ) (c:ByteArray):CJ xs c=ixI (fun x=>Gr x c) xs:=by
 unfold CJ
 have h:=Xa (fun x=>Gr x c) xs (FH xs c) (fun m v=>by rw [FH,Int.toNat_natCast]) xs.length 0 (((xs.length:Int)-0).toNat+1) rfl (Nat.zero_le _) (by omega)
 rw [List.drop_zero] at h
 refine h.trans ?_
 unfold ixI
 cases xs.findIdx? (fun x=>Gr x c) with
 | none=>rfl
 | some i=>simp
theorem cG {xs:List AQ} {c:ByteArray} (h:¬ CJ xs c<0):0<=CJ xs c/\CJ xs c<(xs.length:Int):=by
 rw [Nd] at *
 exact UM h
theorem Yh (xs:List A1) (c:ByteArray):FK xs c=ixI (fun x=>Ng x c) xs:=by
 unfold FK
 have h:=Xa (fun x=>Ng x c) xs (FJ xs c) (fun m v=>by rw [FJ,Int.toNat_natCast]) xs.length 0 (((xs.length:Int)-0).toNat+1) rfl (Nat.zero_le _) (by omega)
 rw [List.drop_zero] at h
 refine h.trans ?_
 unfold ixI
 cases xs.findIdx? (fun x=>Ng x c) with
 | none=>rfl
 | some i=>simp
theorem cI {xs:List A1} {c:ByteArray} (h:¬ FK xs c<0):0<=FK xs c/\FK xs c<(xs.length:Int):=by
 rw [Yh] at *
 exact UM h
theorem KB (xs:List AF) (c:Ab):Cu xs c=ixI (fun x=>Nf x c) xs:=by
 unfold Cu
 have h:=Xa (fun x=>Nf x c) xs (FI xs c) (fun m v=>by rw [FI,Int.toNat_natCast]) xs.length 0 (((xs.length:Int)-0).toNat+1) rfl (Nat.zero_le _) (by omega)
 rw [List.drop_zero] at h
 refine h.trans ?_
 unfold ixI
 cases xs.findIdx? (fun x=>Nf x c) with
 | none=>rfl
 | some i=>simp
theorem cH {xs:List AF} {c:Ab} (h:¬ Cu xs c<0):0<=Cu xs c/\Cu xs c<(xs.length:Int):=by
 rw [KB] at *
 exact UM h
def Z0h:Az:=(types.getD (CJ types name).toNat default).Gates.getD v49.toNat default
def Z0i:A1:=(types.getD (CJ types name).toNat default).Pads.getD v26.toNat default
def HJ (types:(List AQ)) (name:ByteArray) (v7_1:List A1) (v26:Int) (K0:List A1->Int->(AQ×Bool)):Nat->List Az->Int->(AQ×Bool)
 | 0,_,_=>default
 | n1+1,v7_2,v49=>bif decide ((v49:Int)<((types.getD (CJ types name).toNat default).Gates.length:Int)) then ((HJ types name v7_1 v26 K0 n1) (v7_2++[Az.mk (Z0h types name v49).Kind (F4 (Z0h types name v49).Legs)]) (v49+1)) else (AQ.mk name v7_1 v7_2,true)
def E8 (types:(List AQ)) (name:ByteArray):Nat->List A1->Int->(AQ×Bool)
 | 0,_,_=>default
 | n0+1,v7_1,v26=>bif decide ((v26:Int)<((types.getD (CJ types name).toNat default).Pads.length:Int)) then ((E8 types name n0) (v7_1++[A1.mk (Z0i types name v26).Name (Ah.mk (Z0i types name v26).Shape.Kind (Z0i types name v26).Shape.Edges (Z0i types name v26).Shape.R) (Z0i types name v26).At (Z0i types name v26).Drill]) (v26+1)) else (HJ types name v7_1 v26 (E8 types name n0) ((((types.getD (CJ types name).toNat default).Gates.length:Int)-0).toNat+1) ([]:List Az) 0)
def Cg (types:(List AQ)) (name:ByteArray):(AQ×Bool):=bif decide (((CJ types name):Int)<0) then (AQ.mk (⟨#[]⟩) [] [],false) else (E8 types name ((((types.getD (CJ types name).toNat default).Pads.length:Int)-0).toNat+1) ([]:List A1) 0)
abbrev GD:=lst 3 AQ.c types
def YM:CT:=(31,[.one (GD types),.one (.s name)],.val [] (.tup [.agg (AQ.c (Cg types name).1),.one (.b (Cg types name).2)]))
abbrev MC:List Cl:=[.s (⟨#[]⟩),vN,vN]
abbrev Co:Nat×Blk:=(4,.cells MC 114)
abbrev K9:=types.getD (CJ types name).toNat default
abbrev Nw (v7_1:List A1) (types:List AQ) (name:ByteArray) (v26:Int):=v7_1++[A1.mk (Z0i types name v26).Name (Ah.mk (Z0i types name v26).Shape.Kind (Z0i types name v26).Shape.Edges (Z0i types name v26).Shape.R) (Z0i types name v26).At (Z0i types name v26).Drill]
abbrev Fi:Nat×Blk:=(100000,.row 7 v7_1.length (AU A1.c v7_1) 118)
abbrev R9:Nat×Tv:=(24,tO (lst 7 A1.c (K9 types name).Pads))
abbrev Pe:List (Nat×Tv):=[(0,tO (GD types)),(4,tP 4 0),(6,tI (CJ types name)),(7,tP 7 0),(R9 types name),(25,tI ((K9 types name).Pads.length:Int)),(26,tI 0)]
abbrev Pa:List (Nat×Tv):=[(4,tP 4 0),(7,tP 7 0),(47,tO (lst 2 Az.c (K9 types name).Gates)),(48,tI ((K9 types name).Gates.length:Int)),(49,tI 0)]
abbrev SN:List (Nat×Tv):=[(0,tO (GD types)),(4,tP 4 0),(6,tI (CJ types name)),(7,tP 7 0),(9,tP 9 0),(R9 types name),(25,tI ((K9 types name).Pads.length:Int)),(26,tI v26)]
abbrev aR:Nat×Tv:=(25,tI ((K9 types name).Pads.length:Int))
abbrev WN:Nat×Tv:=(48,tI ((K9 types name).Gates.length:Int))
abbrev WL:Nat×Tv:=(47,tO (lst 2 Az.c (K9 types name).Gates))
abbrev KY (v7_2:List Az) (types:List AQ) (name:ByteArray) (v49:Int):=v7_2++[Az.mk (Z0h types name v49).Kind (F4 (Z0h types name v49).Legs)]
abbrev Fk:Nat×Tv:=(0,tO (GD types))
abbrev MJ:Nat×Blk:=(7,.cells [.s name,.own 100000 7 v7_1.length,vN] 114)
abbrev V3:List Av:=[.agg [.s (⟨#[]⟩),lst 7 A1.c [],lst 2 Az.c []],.one (.b false)]
abbrev V2:Nat×Blk:=(100000,.row 7 ([]:List A1).length (AU A1.c ([]:List A1)) 118)
abbrev V1:Nat×Blk:=(100001,.row 2 ([]:List Az).length (AU Az.c ([]:List Az)) 157)
abbrev R7:List Cl:=[.s name,.own 100000 7 ([]:List A1).length,vN]
abbrev L3 (t_:List (Nat×Tv)):List (Nat×Tv):=(Fk types)::(4,tP 4 0)::(6,tI (CJ types name))::(7,tP 7 0)::(R9 types name)::(aR types name)::t_
abbrev L0 (t_:List (Nat×Tv)):List (Nat×Tv):=(4,tP 4 0)::(7,tP 7 0)::(WL types name)::(WN types name)::t_
theorem au16 {p:Prop} (h:p:=by first | (exact Mq (hta _) _) | (exact OV (hta _) _) | with_reducible assumption | omega | decide | (simp only [List.length_cons,List.length_nil,List.length_append];omega) | assumption):p:=h
theorem au23 {p:Prop} (h:p:=by first | exact cG (by assumption) | omega):p:=h
theorem pGet (types:(List AQ)) (name:ByteArray) (ht:CP types):PuP 31 (YM types name).2.1 (.tup [.agg (AQ.c (Cg types name).1),.one (.b (Cg types name).2)]):=by
 refine pwf Try.func31 fun W0 M0 => ?_
 have ht1:=ht.1
 have hta:=SS ht
 have htp:=(hta (CJ types name).toNat).1
 have htg:=(hta (CJ types name).toNat).2.1
 refine AB<|rn ⟨[(Fk types),(3,tP 3 0),(4,tP 4 0)],[(3,.cells [.s name] 9),Co]⟩<|AB ?_
 refine rc [(14,(59,[.one (GD types),.one (.clo 60 1 (CU [.ptr 3 0]))],rdI [3] [.cells [.s name] 9] (tI (CJ types name))))] [Aw [.one (lst 3 AQ.c types),.one (.clo 60 1 (CU [.ptr 3 0]))],QY [.cells [.s name] 9]] ⟨[(Fk types),(3,tP 3 0),(4,tP 4 0),(6,tI (CJ types name))],[(3,.cells [.s name] 9),Co]⟩ (.cons (Kr (fun _ _=>kr) kr kr (Pl (pixTy types name au16) (.cons (AvE.refl _) (.cons (.one (.clo 60 1 _ _ (FY kr))) .nil)))) .nil) (.cons rfl (.cons rfl .nil))<|AH ?_
 refine AB<|AB ?_
 refine rn ⟨[(Fk types),(3,tP 3 0),(4,tP 4 0),(6,tI (CJ types name)),(16,tB (decide (((CJ types name):Int)<0)))],[(3,.cells [.s name] 9),Co]⟩ ?_
 refine Aa _ rfl (fun h1 => ?_) (fun h1 => ?_)
 ·refine AB<|rn ⟨[(4,tP 4 0),(5,tB false)],[Co]⟩ ?_
  refine Ae<|Bb ?_
  exact xl (.tup [.agg MC,.one (.b false)]) (DI (y:=.tup V3) (.tup (.cons (.agg (rr (.cons (CZ 7 A1.c) (.cons (CZ 2 Az.c) .nil)))) (.cons (AvE.refl _) .nil))) (by simp only [Cg,h1,cond_true,cond_false] <;> rfl))
 have g1:=oF h1
 refine Ac<|AH<|AB ?_
 refine rn ⟨[(Fk types),(4,tP 4 0),(6,tI (CJ types name)),(7,tP 7 0)],[Co,(7,.cells [.s name,vN,vN] 114)]⟩ ?_
 refine AB<|AB ?_
 refine rc [] [0<=(CJ types name:Int)/\(CJ types name:Int)<((types.length:Nat):Int)] ⟨(Pe types name),[Co,(7,.cells [.s name,vN,vN] 114)]⟩ .nil (.cons au23 .nil)<|AH<|AX ?_
 refine BN (Cv.trans (wg (⟨(Pe types name),[(100000,.row 7 0 (fun _ _=>default) 118),Co,(7,.cells [.s name,.own 100000 7 0,vN] 114)]⟩) 100000 7 (fun _ _=>default) 118 [] [(7,[1])] hk0) (Cv.trans (BF (⟨(Pe types name),[V2,Co,(7,.cells (R7 name) 114)]⟩) lr (.cons ⟨rfl,Ai 118 (B8 7 (fun _ _=>default) A1.c)⟩ (.cons ⟨rfl,.refl _⟩ (.cons ⟨rfl,.cells _ (rr (.cons (.own _ _ au0) (rr .nil)))⟩ .nil)))) (Cv.trans (ck (⟨(Pe types name),[Co,(7,.cells (R7 name) 114),V2]⟩)) (Cv.refl _)))) ?_
 refine BH (ι:=Nat×List A1×Int) (fun x=>⟨(L3 types name [(26,tI x.2.2)]),[Co,(7,.cells [.s name,.own 100000 7 x.2.1.length,vN] 114),(100000,.row 7 x.2.1.length (AU A1.c x.2.1) 118)]⟩) (fun x=>(((types.getD (CJ types name).toNat default).Pads.length:Int)-x.2.2).toNat<x.1/\(0<=x.2.2/\(x.2.2<=((types.getD (CJ types name).toNat default).Pads.length:Int)\/x.2.2=0)/\(x.2.1.length:Int)<=0+1*(x.2.2-0))/\E8 types name x.1 x.2.1 x.2.2=Cg types name) (fun x=>x.1) ?_ ((((types.getD (CJ types name).toNat default).Pads.length:Int)-0).toNat+1,([]:List A1),0) ⟨Nat.lt_succ_self _,⟨ax0,ax0,ax0⟩,(by simp only [Cg,h1,cond_true,cond_false])⟩
 rintro ⟨n0,v7_1,v26⟩ ⟨hm0,hinv0,hF0⟩
 try dsimp only at hm0 hinv0 hF0
 cases n0 with | zero=>exact nz hm0 | succ n0 => ?_
 refine AB<|rn ⟨(L3 types name [(26,tI v26),(27,tB (decide ((v26:Int)<((types.getD (CJ types name).toNat default).Pads.length:Int))))]),[Co,(MJ name v7_1),(Fi v7_1)]⟩<|AB ?_
 refine Aa _ rfl (fun h2 => ?_) (fun h2 => ?_)
 ·have g2:=oT h2
  refine Ac<|AH ?_
  refine AB<|AX<|AB ?_
  refine rc [] [0<=(v26:Int)/\(v26:Int)<(((types.getD (CJ types name).toNat default).Pads.length:Nat):Int)] ⟨(SN types name v26),[Co,(MJ name v7_1),(9,.cells (A1.c (Z0i types name v26)) 118),(Fi v7_1)]⟩ .nil (.cons au23 .nil)<|AH<|AB ?_
  refine rs 33 (Lm (Z0i types name v26).Shape.Edges) ⟨(SN types name v26),[Co,(MJ name v7_1),(9,.cells [.s (Z0i types name v26).Name,.i (Z0i types name v26).Shape.Kind,.own 33 7 (Z0i types name v26).Shape.Edges.length,.i (Z0i types name v26).Shape.R,.i (Z0i types name v26).At.X,.i (Z0i types name v26).At.Y,.i (Z0i types name v26).Drill] 118),(33,.row 7 (Z0i types name v26).Shape.Edges.length (AU AO.c (Z0i types name v26).Shape.Edges) 133),(Fi v7_1)]⟩ (Mu (Z0i types name v26).Shape.Edges au16)<|AH ?_
  refine BN (Cv.trans (wf (⟨(SN types name v26),[Co,(MJ name v7_1),(9,.cells (A1.c (Z0i types name v26)) 118),(Fi v7_1)]⟩) 33 7 (Z0i types name v26).Shape.Edges.length (AU AO.c (Z0i types name v26).Shape.Edges) 133 hk0 (.cons ⟨rfl,rfl⟩ .nil)) (Cv.refl _)) ?_
  refine rc [] [v7_1.length=v7_1.length,v7_1.length+1<=maxLen,(v7_1.length+1)*80<=140737488355328] ⟨(L3 types name [(26,tI v26)]),[Co,(7,.cells [.s name,.own 40 7 (v7_1.length+1),vN] 114),(40,.row 7 (v7_1.length+1) (fun i_ j_=>if i_<v7_1.length then (AU A1.c v7_1) i_ j_ else (As 7 1 (A1.c (Z0i types name v26))) (i_-v7_1.length) j_) 118)]⟩ .nil (.cons rfl (.cons au3 (.cons au3 .nil)))<|Bd<|AH ?_
  refine BN (Cv.trans (BF (⟨(L3 types name [(26,tI v26)]),[Co,(7,.cells [.s name,.own 40 7 (Nw v7_1 types name v26).length,vN] 114),(40,.row 7 (Nw v7_1 types name v26).length (AU A1.c (Nw v7_1 types name v26)) 118)]⟩) lr (.cons ⟨rfl,.refl _⟩ (.cons ⟨rfl,.cells _ (rr (.cons (.own _ _ au0) (rr .nil)))⟩ (.cons ⟨rfl,Ai 118 (BO (BA 7 A1.c v7_1) (Ar (c:=A1.c) (xs:=([A1.mk (Z0i types name v26).Name (Ah.mk (Z0i types name v26).Shape.Kind (Z0i types name v26).Shape.Edges (Z0i types name v26).Shape.R) (Z0i types name v26).At (Z0i types name v26).Drill]:List A1)) rfl kr))⟩ .nil)))) (Cv.refl _)) ?_
  refine rg ⟨(L3 types name [(26,tI (W64 (v26+1)))]),[Co,(7,.cells [.s name,.own 40 7 (Nw v7_1 types name v26).length,vN] 114),(40,.row 7 (Nw v7_1 types name v26).length (AU A1.c (Nw v7_1 types name v26)) 118)]⟩ ?_
  (try rw [(show W64 (v26+1)=v26+1 from Ao oM au6)])
  refine AH ?_
  refine ⟨(n0,v7_1++[A1.mk (Z0i types name v26).Name (Ah.mk (Z0i types name v26).Shape.Kind (Z0i types name v26).Shape.Edges (Z0i types name v26).Shape.R) (Z0i types name v26).At (Z0i types name v26).Drill],v26+1),⟨?_,?_,(by rw [<- hF0];simp only [E8,h2,cond_true,cond_false])⟩,Nat.lt_succ_self _,Cv.trans (vr 40 100000 hk0) (A6 kr)⟩
  ·show (((types.getD (CJ types name).toNat default).Pads.length:Int)-(v26+1)).toNat<n0;omega
  exact ⟨ax0,ax0,ax0⟩
 have g2:=oF h2
 refine BJ<|A4 ?_
 refine A4<|BK ?_
 refine AH<|AB<|AB ?_
 refine rc [] [0<=(CJ types name:Int)/\(CJ types name:Int)<((types.length:Nat):Int)] ⟨(Pa types name),[Co,(MJ name v7_1),(Fi v7_1)]⟩ .nil (.cons au23 .nil)<|AH<|AX ?_
 refine BN (Cv.trans (wg (⟨(Pa types name),[(100001,.row 2 0 (fun _ _=>default) 157),Co,(7,.cells [.s name,.own 100000 7 v7_1.length,.own 100001 2 0] 114),(Fi v7_1)]⟩) 100001 2 (fun _ _=>default) 157 [] [(7,[2])] hk0) (Cv.trans (BF (⟨(Pa types name),[V1,Co,(7,.cells [.s name,.own 100000 7 v7_1.length,.own 100001 2 ([]:List Az).length] 114),(Fi v7_1)]⟩) lr (.cons ⟨rfl,Ai 157 (B8 2 (fun _ _=>default) Az.c)⟩ (.cons ⟨rfl,.refl _⟩ (.cons ⟨rfl,.cells _ (rr2 (.cons (.own _ _ au0) .nil))⟩ lr)))) (Cv.trans (ck (⟨(Pa types name),[Co,(7,.cells [.s name,.own 100000 7 v7_1.length,.own 100001 2 ([]:List Az).length] 114),(Fi v7_1),V1]⟩)) (Cv.refl _)))) ?_
 refine BH (ι:=Nat×List Az×Int) (fun x=>⟨(L0 types name [(49,tI x.2.2)]),[Co,(7,.cells [.s name,.own 100000 7 v7_1.length,.own 100001 2 x.2.1.length] 114),(Fi v7_1),(100001,.row 2 x.2.1.length (AU Az.c x.2.1) 157)]⟩) (fun x=>(((types.getD (CJ types name).toNat default).Gates.length:Int)-x.2.2).toNat<x.1/\(0<=x.2.2/\(x.2.2<=((types.getD (CJ types name).toNat default).Gates.length:Int)\/x.2.2=0)/\(x.2.1.length:Int)<=0+1*(x.2.2-0))/\HJ types name v7_1 v26 (E8 types name n0) x.1 x.2.1 x.2.2=Cg types name) (fun x=>x.1) ?_ ((((types.getD (CJ types name).toNat default).Gates.length:Int)-0).toNat+1,([]:List Az),0) ⟨Nat.lt_succ_self _,⟨ax0,ax0,ax0⟩,(by rw [<- hF0];simp only [E8,h2,cond_true,cond_false])⟩
 rintro ⟨n1,v7_2,v49⟩ ⟨hm1,hinv1,hF1⟩
 try dsimp only at hm1 hinv1 hF1
 cases n1 with | zero=>exact nz hm1 | succ n1 => ?_
 refine AB<|rn ⟨(L0 types name [(49,tI v49),(50,tB (decide ((v49:Int)<((types.getD (CJ types name).toNat default).Gates.length:Int))))]),[Co,(7,.cells [.s name,.own 100000 7 v7_1.length,.own 100001 2 v7_2.length] 114),(Fi v7_1),(100001,.row 2 v7_2.length (AU Az.c v7_2) 157)]⟩<|AB ?_
 refine Aa _ rfl (fun h3 => ?_) (fun h3 => ?_)
 ·have g3:=oT h3
  refine Ac<|AH ?_
  refine AB<|AX<|AB ?_
  refine rc [] [0<=(v49:Int)/\(v49:Int)<(((types.getD (CJ types name).toNat default).Gates.length:Nat):Int)] ⟨[(4,tP 4 0),(7,tP 7 0),(11,tP 11 0),(WL types name),(WN types name),(49,tI v49)],[Co,(7,.cells [.s name,.own 100000 7 v7_1.length,.own 100001 2 v7_2.length] 114),(11,.cells (Az.c (Z0h types name v49)) 157),(Fi v7_1),(100001,.row 2 v7_2.length (AU Az.c v7_2) 157)]⟩ .nil (.cons au23 .nil)<|AH ?_
  refine dw [] [(59,NQ (Z0h types name v49).Legs)] [Aw (NQ (Z0h types name v49).Legs).2.1,v7_2.length=v7_2.length,v7_2.length+1<=maxLen,(v7_2.length+1)*32<=140737488355328] ⟨(L0 types name [(49,tI v49)]),[Co,(7,.cells [.s name,.own 100000 7 v7_1.length,.own 62 2 (v7_2.length+1)] 114),(62,.row 2 (v7_2.length+1) (fun i_ j_=>if i_<v7_2.length then (AU Az.c v7_2) i_ j_ else (As 2 1 [.i (Z0h types name v49).Kind,lst 2 Bm.c (F4 (Z0h types name v49).Legs)]) (i_-v7_2.length) j_) 157),(Fi v7_1)]⟩ (.cons (VF (Z0h types name v49).Legs (by first | assumption | exact OV (hta _) _ | exact Mq (hta _) _ | omega)) .nil) (.cons rfl (.cons rfl (.cons au3 (.cons au3 .nil))))<|Bd<|AH ?_
  refine BN (Cv.trans (BF (⟨(L0 types name [(49,tI v49)]),[Co,(7,.cells [.s name,.own 100000 7 v7_1.length,.own 62 2 (KY v7_2 types name v49).length] 114),(62,.row 2 (KY v7_2 types name v49).length (AU Az.c (KY v7_2 types name v49)) 157),(Fi v7_1)]⟩) lr (.cons ⟨rfl,.refl _⟩ (.cons ⟨rfl,.cells _ (rr2 (.cons (.own _ _ au0) .nil))⟩ (.cons ⟨rfl,Ai 157 (BO (BA 2 Az.c v7_2) (Ar (c:=Az.c) (xs:=([Az.mk (Z0h types name v49).Kind (F4 (Z0h types name v49).Legs)]:List Az)) rfl kr))⟩ lr)))) (Cv.refl _)) ?_
  refine rg ⟨(L0 types name [(49,tI (W64 (v49+1)))]),[Co,(7,.cells [.s name,.own 100000 7 v7_1.length,.own 62 2 (KY v7_2 types name v49).length] 114),(62,.row 2 (KY v7_2 types name v49).length (AU Az.c (KY v7_2 types name v49)) 157),(Fi v7_1)]⟩ ?_
  (try rw [(show W64 (v49+1)=v49+1 from Ao oM au6)])
  refine AH ?_
  refine ⟨(n1,v7_2++[Az.mk (Z0h types name v49).Kind (F4 (Z0h types name v49).Legs)],v49+1),⟨?_,?_,(by rw [<- hF1];simp only [HJ,h3,cond_true,cond_false])⟩,Nat.lt_succ_self _,Cv.trans (vr 62 100001 hk0) (Cv.trans (vk [4,7,47,48,49] [4,7,100000,100001]) (A6 kr))⟩
  ·show (((types.getD (CJ types name).toNat default).Gates.length:Int)-(v49+1)).toNat<n1;omega
  exact ⟨ax0,ax0,ax0⟩
 refine BJ<|A4 ?_
 refine A4<|BK ?_
 refine AH<|AB ?_
 refine rn ⟨[(4,tP 4 0),(5,tB true)],[(4,.cells [.s name,.own 100000 7 v7_1.length,.own 100001 2 v7_2.length] 114),(Fi v7_1),(100001,.row 2 v7_2.length (AU Az.c v7_2) 157)]⟩<|Ae ?_
 exact yl (Cv.trans (vf 100000 7 v7_1.length (AU A1.c v7_1) 118 hk0 (.cons ⟨rfl,rfl⟩ .nil)) (Cv.trans (vf 100001 2 v7_2.length (AU Az.c v7_2) 157 hk0 (.cons ⟨rfl,rfl⟩ .nil)) (Cv.refl _))) (.tup [.agg [.s name,lst 7 A1.c v7_1,lst 2 Az.c v7_2],.one (.b true)]) (An (by rw [<- hF1];first | (simp only [HJ,h3,cond_true,cond_false] <;> rfl)))
theorem aA (types:(List AQ)) (name:ByteArray) (ht:CP types):OKc (YM types name):=cPu<|pGet types name ht
def TC (types:List AQ) (name:ByteArray):AQ×Bool:=match types.find? (fun t=>Gr t name) with
 | some t=>(⟨name,t.Pads,t.Gates⟩,true)
 | none=>(⟨⟨#[]⟩,[],[]⟩,false)
theorem IR (types:List AQ) (name:ByteArray):Cg types name=TC types name:=by
 unfold Cg TC
 rw [Nd]
 cases hc:decide ((ixI (fun x=>Gr x name) types:Int)<0) with
 | true =>
  rw [Xd (oT hc)]
  rfl
 | false =>
  obtain ⟨_,h2⟩:=Xc (oF hc)
  rw [h2,cond_false]
  have e:=Nd types name
  rw [<- e]
  generalize ht:types.getD (CJ types name).toNat default=t
  have h1:=fun (acc0:List A1) (v0:Int) K0=>cp_l t.Gates (HJ types name acc0 v0 K0) (fun acc _=>(AQ.mk name acc0 acc,true)) (fun m acc v=>by
   rw [HJ]
   unfold Z0h F4
   rw [ht,Int.toNat_natCast]) t.Gates.length 0 ((((t.Gates.length:Int))-0).toNat+1) [] rfl (Nat.zero_le _) (by omega)
  have h0:=cp_l t.Pads (E8 types name) (fun acc v=>(AQ.mk name acc t.Gates,true)) (fun m acc v=>by
   rw [E8]
   unfold Z0i
   rw [ht,Int.toNat_natCast]
   have:=h1 acc v (E8 types name m)
   rw [List.drop_zero,List.nil_append] at this
   cases decide ((v:Int)<(t.Pads.length:Int)) with
   | true=>rfl
   | false=>exact this) t.Pads.length 0 ((((t.Pads.length:Int))-0).toNat+1) [] rfl (Nat.zero_le _) (by omega)
  rw [List.drop_zero,List.nil_append] at h0
  exact h0
theorem G2 {types:List AQ} (h:CP types) (name:ByteArray):((TC types name).1.Pads.length:Int)<=1000000:=by
 unfold TC
 cases hf:types.find? (fun t=>Gr t name) with
 | none=>exact (by decide:((0:Nat):Int)<=1000000)
 | some t=>exact (h.2 t (List.mem_of_find?_eq_some hf)).1
end
theorem ZV:∀ x:Ab,∀ y∈Ab.c x,NM y:=by
 intro x y hy
 simp only [Ab.c,List.mem_cons,List.not_mem_nil,or_false] at hy
 rcases hy with rfl | rfl <;> first | exact .val _
theorem Gc:∀ x:AO,∀ y∈AO.c x,NM y:=by
 intro x y hy
 simp only [AO.c,List.mem_cons,List.not_mem_nil,or_false] at hy
 rcases hy with rfl | rfl | rfl | rfl | rfl | rfl | rfl <;> first | exact .val _
theorem Eu:∀ x:AF,∀ y∈AF.c x,NM y:=by
 intro x y hy
 simp only [AF.c,List.mem_cons,List.not_mem_nil,or_false] at hy
 rcases hy with rfl | rfl | rfl | rfl | rfl | rfl | rfl <;> first | exact .val _
theorem P7:∀ x:A3,∀ y∈A3.c x,NM y:=by
 intro x y hy
 simp only [A3.c,List.mem_cons,List.not_mem_nil,or_false] at hy
 rcases hy with rfl | rfl <;> first | exact .val _ | exact CW ZV
theorem VH:∀ x:Aj,∀ y∈Aj.c x,NM y:=by
 intro x y hy
 simp only [Aj.c,List.mem_cons,List.not_mem_nil,or_false] at hy
 rcases hy with rfl | rfl | rfl | rfl | rfl | rfl <;> first | exact .val _ | exact CW Gc
theorem ZU:∀ x:Br,∀ y∈Br.c x,NM y:=by
 intro x y hy
 simp only [Br.c,List.mem_cons,List.not_mem_nil,or_false] at hy
 rcases hy with rfl | rfl | rfl | rfl | rfl | rfl | rfl | rfl <;> first | exact .val _
theorem XN:∀ x:Al,∀ y∈Al.c x,NM y:=by
 intro x y hy
 simp only [Al.c,List.mem_cons,List.not_mem_nil,or_false] at hy
 rcases hy with rfl | rfl | rfl | rfl <;> first | exact .val _
theorem XO:∀ x:BB,∀ y∈BB.c x,NM y:=by
 intro x y hy
 simp only [BB.c,List.mem_cons,List.not_mem_nil,or_false] at hy
 rcases hy with rfl | rfl | rfl | rfl | rfl | rfl | rfl | rfl <;> first | exact .val _ | exact CW XN
theorem XQ:∀ x:BQ,∀ y∈BQ.c x,NM y:=by
 intro x y hy
 simp only [BQ.c,List.mem_cons,List.not_mem_nil,or_false] at hy
 rcases hy with rfl | rfl | rfl | rfl | rfl <;> first | exact .val _ | exact CW Gc
theorem XM:∀ x:BX,∀ y∈BX.c x,NM y:=by
 intro x y hy
 simp only [BX.c,List.mem_cons,List.not_mem_nil,or_false] at hy
 rcases hy with rfl | rfl | rfl | rfl <;> first | exact .val _ | exact CW Gc
theorem VJ:∀ x:BI,∀ y∈BI.c x,NM y:=by
 intro x y hy
 simp only [BI.c,List.mem_cons,List.not_mem_nil,or_false] at hy
 rcases hy with rfl | rfl <;> first | exact .val _ | exact CW (fun x y hy=>by rw [List.mem_singleton.1 hy];exact .val _)
theorem Sz:∀ x:Am,∀ y∈Am.c x,NM y:=by
 intro x y hy
 simp only [Am.c,List.mem_cons,List.not_mem_nil,or_false] at hy
 rcases hy with rfl | rfl | rfl <;> first | exact .val _
theorem VI:∀ x:BT,∀ y∈BT.c x,NM y:=by
 intro x y hy
 simp only [BT.c,List.mem_cons,List.not_mem_nil,or_false] at hy
 rcases hy with rfl | rfl | rfl <;> first | exact .val _ | exact CW (fun x y hy=>by rw [List.mem_singleton.1 hy];exact .val _)
theorem XR:∀ x:A5,∀ y∈A5.c x,NM y:=by
 intro x y hy
 simp only [A5.c,List.mem_cons,List.not_mem_nil,or_false] at hy
 rcases hy with rfl | rfl | rfl | rfl | rfl | rfl | rfl | rfl | rfl <;> first | exact .val _ | exact CW Gc
theorem H6:∀ x:A1,∀ y∈A1.c x,NM y:=by
 intro x y hy
 simp only [A1.c,List.mem_cons,List.not_mem_nil,or_false] at hy
 rcases hy with rfl | rfl | rfl | rfl | rfl | rfl | rfl <;> first | exact .val _ | exact CW Gc
theorem ZW:∀ x:Bm,∀ y∈Bm.c x,NM y:=by
 intro x y hy
 simp only [Bm.c,List.mem_cons,List.not_mem_nil,or_false] at hy
 rcases hy with rfl | rfl <;> first | exact .val _
theorem XS:∀ x:Az,∀ y∈Az.c x,NM y:=by
 intro x y hy
 simp only [Az.c,List.mem_cons,List.not_mem_nil,or_false] at hy
 rcases hy with rfl | rfl <;> first | exact .val _ | exact CW ZW
theorem Mw:∀ x:AQ,∀ y∈AQ.c x,NM y:=by
 intro x y hy
 simp only [AQ.c,List.mem_cons,List.not_mem_nil,or_false] at hy
 rcases hy with rfl | rfl | rfl <;> first | exact .val _ | exact CW XS | exact CW H6
abbrev A9 (b:AG) (t_:List Cl):List Cl:=(.i b.Layers)::(.i b.Outline.Kind)::(lst 7 AO.c b.Outline.Edges)::(.i b.Outline.R)::(lst 7 AF.c b.Parts)::(lst 2 A3.c b.Nets)::t_
abbrev CQ (b:AG) (t_:List Cl):List Cl:=(lst 6 Aj.c b.Tracks)::(lst 8 Br.c b.Vias)::(lst 8 BB.c b.Pours)::(lst 5 BQ.c b.Keeps)::(lst 4 BX.c b.Slots)::t_
abbrev DL (b:AG):List Cl:=(A9 b (CQ b [lst 2 BI.c b.Classes,.any,lst 3 Am.c b.Waivers,lst 3 BT.c b.Matches]))
theorem Kb (b:AG):∀ y∈DL b,NM y:=by
 intro y hy
 simp only [DL,List.mem_cons,List.not_mem_nil,or_false] at hy
 rcases hy with rfl | rfl | rfl | rfl | rfl | rfl | rfl | rfl | rfl | rfl | rfl | rfl | rfl | rfl | rfl <;> first | exact .val _ | exact .any | exact CW Gc | exact CW Eu | exact CW P7 | exact CW VH | exact CW ZU | exact CW XO | exact CW XQ | exact CW XM | exact CW VJ | exact CW Sz | exact CW VI
def Es (types:List AQ) (p:AF):List (AF×A1):=(Cg types p.Type').1.Pads.map fun q=>(p,q)
def Ad (b:AG) (types:List AQ):List (AF×A1):=(CD b.Parts).flatMap (Es types)
def Gb (b:AG) (types:List AQ) (k:Nat):Nat:=(((CD b.Parts).take k).flatMap (Es types)).length
theorem I8 (types:List AQ) (p:AF):(Es types p).length=(Cg types p.Type').1.Pads.length:=List.length_map _
theorem U8 (b:AG) (types:List AQ):Gb b types (CD b.Parts).length=(Ad b types).length:=by unfold Gb Ad;rw [List.take_length]
theorem So (b:AG) (types:List AQ) {k:Nat} (h:k<(CD b.Parts).length):Gb b types (k+1)=Gb b types k+(Cg types ((CD b.Parts).getD k default).Type').1.Pads.length:=by
 unfold Gb
 rw [(Dp _ k h).1,List.flatMap_append,List.length_append,List.flatMap_singleton,I8]
theorem Wy (b:AG) (types:List AQ) {k j:Nat} (h:k<(CD b.Parts).length) (hj:j<(Cg types ((CD b.Parts).getD k default).Type').1.Pads.length) :
  Gb b types k+j<(Ad b types).length/\(Ad b types).getD (Gb b types k+j) default=((CD b.Parts).getD k default,(Cg types ((CD b.Parts).getD k default).Type').1.Pads.getD j default):=by
 have e:Ad b types=((CD b.Parts).take k).flatMap (Es types)++(Es types ((CD b.Parts).getD k default)++((CD b.Parts).drop (k+1)).flatMap (Es types)):=by
  unfold Ad
  rw [<- List.flatMap_cons,<- (Dp _ k h).2,<- List.flatMap_append,List.take_append_drop]
 have hl:=I8 types ((CD b.Parts).getD k default)
 rw [e]
 unfold Gb
 constructor
 ·rw [List.length_append,List.length_append,hl];omega
 rw [List.getD_eq_getElem?_getD,List.getElem?_append_right oM,Nat.add_sub_cancel_left,List.getElem?_append_left (by rw [hl];exact hj)]
 unfold Es
 rw [List.getElem?_map,List.getElem?_eq_getElem hj,List.getD_eq_getElem?_getD (l:=(Cg types _).1.Pads),List.getElem?_eq_getElem hj]
 rfl
abbrev Do (types:List AQ):Nat×Tv:=(2,.av (.one (.eptr 1 1 (gD [lst 3 AQ.c types]) 0 0)))
abbrev El (b:AG):Nat×Tv:=(17,tI ((CD b.Parts).length:Int))
abbrev Ek (b:AG):Nat×Tv:=(16,tO (lst 7 AF.c (CD b.Parts)))
theorem ZF (b:AG) (types:List AQ) (hb:b.Parts.length<20) (ht:CP types):Hz Try.prog 68 2 (CU [.eptr 15 1 (gD (DL b)) 0 0,.eptr 1 1 (gD [lst 3 AQ.c types]) 0 0]) (Ad b types).length (fun x=>[.agg (AF.c ((Ad b types).getD x.val default).1),.agg (A1.c ((Ad b types).getD x.val default).2)]):=by
 refine Rc Try.func68 rfl rfl kr (fun i hi => ?_) ?_
 ·match i,hi with
  | 0,_=>rfl
  | 1,_=>rfl
 intro Ow n0 ly JJ hO hJg hY
 have hd:∀ (x:List (Nat×Tv)),(∀ p∈x,p.2.dv=true)->∀ i u,get x i=some u->u.dv=true:=fun x h=>C4 (p:=fun u=>Tv.dv u=true) h
 refine Xe hO (C4 (p:=fun u=>Tv.dv u=true) (by simp [EN,Dg,Tv.dv,Av.dv,Cl.dv,List.range,List.range.loop,CU])) rfl fun W0 X1 M1 hX => ?_
 have hp1:(b.Parts.length:Int)<=1000000:=by omega
 refine rs 13 (Uc b.Parts) ⟨[(0,.av (.one (.val (.func (.yield ly) #[] #[])))),(Do types),(4,tO (.own 13 7 b.Parts.length))],[(13,.row 7 b.Parts.length (AU AF.c b.Parts) 59)]⟩ (W9 b.Parts au16)<|AH ?_
 refine rb 15 (70,([.one (.own 1000 7 b.Parts.length),.one (.clo 71 0 dfc)]:List Av).map (Q3 1000 13),wrI 13 (.row 7 b.Parts.length (AU AF.c b.Parts) 59) (.tup []) (.row 7 b.Parts.length (AU AF.c (CD b.Parts)) 59)) (.row 7 b.Parts.length (AU AF.c b.Parts) 59) ⟨[(0,.av (.one (.val (.func (.yield ly) #[] #[])))),(Do types),(4,tO (.own 13 7 b.Parts.length))],[(13,.row 7 b.Parts.length (AU AF.c (CD b.Parts)) 59)]⟩ (JO (fun _ _=>kr) kr (pSrtP b.Parts au16)) ?_
 refine ⟨rfl,⟨[(0,.av (.one (.val (.func (.yield ly) #[] #[])))),(Do types),(4,tO (lst 7 AF.c (CD b.Parts)))],[]⟩,fun W2 M2=>Cv.trans (BF (⟨[(0,.av (.one (.val (.func (.yield ly) #[] #[])))),(Do types),(4,tO (.own 13 7 (CD b.Parts).length))],[(13,.row 7 (CD b.Parts).length (AU AF.c (CD b.Parts)) 59)]⟩) (.cons ⟨rfl,.refl _⟩ (.cons ⟨rfl,.refl _⟩ (.cons ⟨rfl,.av (.one (.own _ _ (IM b.Parts au16).symm))⟩ .nil))) (.cons ⟨rfl,Ai 59 (⟨(IM b.Parts au16).symm,fun _ _ _ _=>.refl _⟩)⟩ .nil)) (Cv.trans (wf (⟨[(0,.av (.one (.val (.func (.yield ly) #[] #[])))),(Do types),(4,tO (lst 7 AF.c (CD b.Parts)))],[]⟩) 13 7 (CD b.Parts).length (AU AF.c (CD b.Parts)) 59 hk0 (.cons ⟨rfl,rfl⟩ .nil)) (Cv.refl _)),?_⟩
 have hps:=IM b.Parts hb
 refine Ds ?_
 refine EK hO (hd _ (by simp only [List.forall_mem_cons];exact ⟨rfl,rfl,rfl,fun x hx=>by cases hx⟩)) rfl fun W0 X1 M1 => ?_
 refine rg ⟨[(0,.av (.one (.val (.func (.yield ly) #[] #[])))),(Do types),(Ek b),(El b),(18,tI 0)],[]⟩ ?_
 refine ED ?_
 refine Ge ?_
 refine QF (ι:=Nat) (fun k=>⟨[(0,.av (.one (.val (.func (.yield ly) #[] #[])))),(Do types),(Ek b),(El b),(18,tI (k:Int))],[]⟩) (fun k=>JJ (Gb b types k)) (fun k=>k<=(CD b.Parts).length) (fun k=>(CD b.Parts).length-k) (fun k hk => ?_) 0 (Nat.zero_le _)
 refine Ds ?_
 refine EK hO (hd _ (by simp only [List.forall_mem_cons];exact ⟨rfl,rfl,rfl,rfl,rfl,fun x hx=>by cases hx⟩)) rfl fun W0 X1 M1 => ?_
 refine rg ⟨[(0,.av (.one (.val (.func (.yield ly) #[] #[])))),(Do types),(Ek b),(El b),(18,tI (k:Int)),(19,tB (decide (((k:Int):Int)<((CD b.Parts).length:Int))))],[]⟩ ?_
 refine ED ?_
 refine Ds ?_
 refine H7 (decide (((k:Int):Int)<((CD b.Parts).length:Int))) kr (fun hc => ?_) (fun hc => ?_)
 ·have hlt:k<(CD b.Parts).length:=by have:=oT hc;omega
  refine Jv ?_
  refine ED ?_
  refine Ds ?_
  refine Ge ?_
  refine Ds ?_
  refine NB [0,2,16,17,18] ⟨[(0,.av (.one (.val (.func (.yield ly) #[] #[])))),(Do types),(Ek b),(El b),(18,tI (k:Int))],[]⟩ kr ?_
  refine EK hO (hd _ (by simp only [List.forall_mem_cons];exact ⟨rfl,rfl,rfl,rfl,rfl,fun x hx=>by cases hx⟩)) rfl fun W0 X1 M1 => ?_
  refine rc [] [0<=((k:Int):Int)/\((k:Int):Int)<(((CD b.Parts).length:Nat):Int)] ⟨[(0,.av (.one (.val (.func (.yield ly) #[] #[])))),(Do types),(6,tP 6 0),(Ek b),(El b),(18,tI (k:Int))],[(6,.cells (AF.c ((CD b.Parts).getD (k:Int).toNat default)) 59)]⟩ .nil (.cons au1 .nil) ?_
  refine ED ?_
  refine Xf (S:=⟨[(0,.av (.one (.val (.func (.yield ly) #[] #[])))),(Do types),(6,.av (.one (.eptr 7 1 (gD (AF.c ((CD b.Parts).getD (k:Int).toNat default))) 0 0))),(Ek b),(El b),(18,tI (k:Int))],[]⟩) hO (fun W0 M1=>Km _ 6 (AF.c ((CD b.Parts).getD (k:Int).toNat default)) 59 hk0 kr kr kr kr) ?_
  have hns:=So b types hlt
  have hat:=fun j hj=>Wy b types (j:=j) hlt hj
  rw [Int.toNat_natCast]
  generalize hp:(CD b.Parts).getD k default=p at *
  refine Ds ?_
  have hgl:=IR types p.Type'
  have hpl:((Cg types p.Type').1.Pads.length:Int)<=1000000:=by rw [hgl];exact G2 ht _
  refine EK hO (hd _ (by simp only [List.forall_mem_cons];exact ⟨rfl,rfl,rfl,rfl,rfl,rfl,fun x hx=>by cases hx⟩)) rfl fun W0 X1 M1 => ?_
  refine rs 26 (YM types p.Type') ⟨[(0,.av (.one (.val (.func (.yield ly) #[] #[])))),(Do types),(6,.av (.one (.eptr 7 1 (gD (AF.c p)) 0 0))),(7,tP 7 0),(Ek b),(El b),(18,tI (k:Int))],[(7,.cells (AQ.c (Cg types p.Type').1) 114)]⟩ (aA types p.Type' au16) ?_
  refine ED ?_
  refine Xf (S:=⟨[(0,.av (.one (.val (.func (.yield ly) #[] #[])))),(Do types),(6,.av (.one (.eptr 7 1 (gD (AF.c p)) 0 0))),(7,.av (.one (.eptr 3 1 (gD (AQ.c (Cg types p.Type').1)) 0 0))),(Ek b),(El b),(18,tI (k:Int))],[]⟩) hO (fun W0 M1=>Km _ 7 (AQ.c (Cg types p.Type').1) 114 hk0 kr kr kr kr) ?_
  refine Ds ?_
  refine EK hO (hd _ (by simp only [List.forall_mem_cons];exact ⟨rfl,rfl,rfl,rfl,rfl,rfl,rfl,fun x hx=>by cases hx⟩)) rfl fun W0 X1 M1 => ?_
  refine rg ⟨[(0,.av (.one (.val (.func (.yield ly) #[] #[])))),(Do types),(6,.av (.one (.eptr 7 1 (gD (AF.c p)) 0 0))),(Ek b),(El b),(18,tI (k:Int)),(30,tO (lst 7 A1.c (Cg types p.Type').1.Pads)),(31,tI ((Cg types p.Type').1.Pads.length:Int)),(32,tI 0)],[]⟩ ?_
  refine ED ?_
  refine Ge ?_
  refine QF (ι:=Nat) (fun j=>⟨[(0,.av (.one (.val (.func (.yield ly) #[] #[])))),(Do types),(6,.av (.one (.eptr 7 1 (gD (AF.c p)) 0 0))),(Ek b),(El b),(18,tI (k:Int)),(30,tO (lst 7 A1.c (Cg types p.Type').1.Pads)),(31,tI ((Cg types p.Type').1.Pads.length:Int)),(32,tI (j:Int))],[]⟩) (fun j=>JJ (Gb b types k+j)) (fun j=>j<=(Cg types p.Type').1.Pads.length) (fun j=>(Cg types p.Type').1.Pads.length-j) (fun j hj => ?_) 0 (Nat.zero_le _)
  refine Ds ?_
  refine EK hO (hd _ (by simp only [List.forall_mem_cons];exact ⟨rfl,rfl,rfl,rfl,rfl,rfl,rfl,rfl,rfl,fun x hx=>by cases hx⟩)) rfl fun W0 X1 M1 => ?_
  refine rg ⟨[(0,.av (.one (.val (.func (.yield ly) #[] #[])))),(Do types),(6,.av (.one (.eptr 7 1 (gD (AF.c p)) 0 0))),(Ek b),(El b),(18,tI (k:Int)),(30,tO (lst 7 A1.c (Cg types p.Type').1.Pads)),(31,tI ((Cg types p.Type').1.Pads.length:Int)),(32,tI (j:Int)),(33,tB (decide (((j:Int):Int)<((Cg types p.Type').1.Pads.length:Int))))],[]⟩ ?_
  refine ED ?_
  refine Ds ?_
  refine H7 (decide (((j:Int):Int)<((Cg types p.Type').1.Pads.length:Int))) kr (fun hc2 => ?_) (fun hc2 => ?_)
  ·have hlt2:j<(Cg types p.Type').1.Pads.length:=by have:=oT hc2;omega
   obtain ⟨hat1,hat2⟩:=hat j hlt2
   refine Jv ?_
   refine ED ?_
   refine Ds ?_
   refine Ge ?_
   refine Ds ?_
   refine NB [0,2,6,16,17,18,30,31,32] ⟨[(0,.av (.one (.val (.func (.yield ly) #[] #[])))),(Do types),(6,.av (.one (.eptr 7 1 (gD (AF.c p)) 0 0))),(Ek b),(El b),(18,tI (k:Int)),(30,tO (lst 7 A1.c (Cg types p.Type').1.Pads)),(31,tI ((Cg types p.Type').1.Pads.length:Int)),(32,tI (j:Int))],[]⟩ kr ?_
   refine EK hO (hd _ (by simp only [List.forall_mem_cons];exact ⟨rfl,rfl,rfl,rfl,rfl,rfl,rfl,rfl,rfl,fun x hx=>by cases hx⟩)) rfl fun W0 X1 M1 => ?_
   refine rc [] [0<=((j:Int):Int)/\((j:Int):Int)<(((Cg types p.Type').1.Pads.length:Nat):Int)] ⟨[(0,.av (.one (.val (.func (.yield ly) #[] #[])))),(Do types),(6,.av (.one (.eptr 7 1 (gD (AF.c p)) 0 0))),(10,tP 10 0),(Ek b),(El b),(18,tI (k:Int)),(30,tO (lst 7 A1.c (Cg types p.Type').1.Pads)),(31,tI ((Cg types p.Type').1.Pads.length:Int)),(32,tI (j:Int))],[(10,.cells (A1.c ((Cg types p.Type').1.Pads.getD (j:Int).toNat default)) 118)]⟩ .nil (.cons au1 .nil) ?_
   refine ED ?_
   refine Xf (S:=⟨[(0,.av (.one (.val (.func (.yield ly) #[] #[])))),(Do types),(6,.av (.one (.eptr 7 1 (gD (AF.c p)) 0 0))),(10,.av (.one (.eptr 7 1 (gD (A1.c ((Cg types p.Type').1.Pads.getD (j:Int).toNat default))) 0 0))),(Ek b),(El b),(18,tI (k:Int)),(30,tO (lst 7 A1.c (Cg types p.Type').1.Pads)),(31,tI ((Cg types p.Type').1.Pads.length:Int)),(32,tI (j:Int))],[]⟩) hO (fun W0 M1=>Km _ 10 (A1.c ((Cg types p.Type').1.Pads.getD (j:Int).toNat default)) 118 hk0 kr kr kr kr) ?_
   rw [Int.toNat_natCast]
   generalize hq:(Cg types p.Type').1.Pads.getD j default=q at *
   refine Ds ?_
   refine NA ?_
   refine Ju hO D9 3 [0,2,6,10,16,17,18,30,31,32,36,37,38] [] [(0,.av (.one (.val (.func (.yield ly) #[] #[])))),(2,.av (.one (.eptr 1 1 (gD [lst 3 AQ.c types]) 0 0))),(6,.av (.one (.eptr 7 1 (gD (AF.c p)) 0 0))),(10,.av (.one (.eptr 7 1 (gD (A1.c q)) 0 0))),(16,tO (lst 7 AF.c (CD b.Parts))),(17,tI ((CD b.Parts).length:Int)),(18,tI (k:Int)),(30,tO (lst 7 A1.c (Cg types p.Type').1.Pads)),(31,tI ((Cg types p.Type').1.Pads.length:Int)),(32,tI (j:Int)),(36,.av (.one (.val (.func (.yield ly) #[] #[])))),(37,.av (.agg (AF.c p))),(38,.av (.agg (A1.c q)))] kr .nil (hd _ (by simp only [List.forall_mem_cons];exact ⟨rfl,rfl,rfl,rfl,rfl,rfl,rfl,rfl,rfl,rfl,fun x hx=>by cases hx⟩)) rfl ?_
   refine S5 (ly:=ly) (d:=39) hO rfl [.agg (AF.c p),.agg (A1.c q)] rfl rfl kr kr kr ?hvm rfl kr ?hT1 (fun A B=>hJg _ A B) (JJ (Gb b types k+j+1)) ?hY rfl ?ht
   case hvm =>
    intro x hx
    simp only [List.mem_cons,List.not_mem_nil,or_false] at hx
    rcases hx with rfl | rfl
    ·exact Eu _
    exact H6 _
   case hT1=>exact C4 (p:=fun u=>Tv.dv u=true/\TvM u) (by
    simp only [List.forall_mem_cons]
    exact ⟨⟨rfl,CB (.val _)⟩,⟨rfl,CB (GM (by simp only [List.forall_mem_cons];exact ⟨(CW Mw),fun x hx=>by cases hx⟩))⟩,⟨rfl,CB (GM (Eu _))⟩,⟨rfl,CB (GM (H6 _))⟩,⟨rfl,CB (CW Eu)⟩,⟨rfl,CB (.val _)⟩,⟨rfl,CB (.val _)⟩,⟨rfl,CB (CW H6)⟩,⟨rfl,CB (.val _)⟩,⟨rfl,CB (.val _)⟩,⟨rfl,CB (.val _)⟩,⟨rfl,(Eu _)⟩,⟨rfl,(H6 _)⟩,fun x hx=>by cases hx⟩)
   case hY =>
    intro W v hW hv
    refine hY _ hat1 W v hW ?_
    show Z0 (fun _=>none) Ow [.agg (AF.c ((Ad b types).getD (Gb b types k+j) default).1),.agg (A1.c ((Ad b types).getD (Gb b types k+j) default).2)] v W
    rw [hat2]
    exact hv
   case ht =>
    refine M9 [0,2,6,16,17,18,30,31,32,39] ⟨[(0,.av (.one (.val (.func (.yield ly) #[] #[])))),(Do types),(6,.av (.one (.eptr 7 1 (gD (AF.c p)) 0 0))),(Ek b),(El b),(18,tI (k:Int)),(30,tO (lst 7 A1.c (Cg types p.Type').1.Pads)),(31,tI ((Cg types p.Type').1.Pads.length:Int)),(32,tI (j:Int)),(39,tB true)],[]⟩ kr ?_
    refine Ju hO D9 1 [0,2,6,16,17,18,30,31,32,40] [] [(0,.av (.one (.val (.func (.yield ly) #[] #[])))),(2,.av (.one (.eptr 1 1 (gD [lst 3 AQ.c types]) 0 0))),(6,.av (.one (.eptr 7 1 (gD (AF.c p)) 0 0))),(16,tO (lst 7 AF.c (CD b.Parts))),(17,tI ((CD b.Parts).length:Int)),(18,tI (k:Int)),(30,tO (lst 7 A1.c (Cg types p.Type').1.Pads)),(31,tI ((Cg types p.Type').1.Pads.length:Int)),(32,tI (j:Int)),(40,tB false)] kr .nil (hd _ (by simp only [List.forall_mem_cons];exact ⟨rfl,rfl,rfl,rfl,rfl,rfl,rfl,rfl,rfl,rfl,fun x hx=>by cases hx⟩)) rfl ?_
    refine QE ?_
    refine ED ?_
    refine H7 false kr (fun h=>by cases h) (fun _ => ?_)
    refine Jv ?_
    refine Xp ?_
    refine ED ?_
    refine EK hO (hd _ (by simp only [List.forall_mem_cons];exact ⟨rfl,rfl,rfl,rfl,rfl,rfl,rfl,rfl,rfl,rfl,fun x hx=>by cases hx⟩)) rfl fun W0 X1 M1 => ?_
    refine rg ⟨[(0,.av (.one (.val (.func (.yield ly) #[] #[])))),(Do types),(6,.av (.one (.eptr 7 1 (gD (AF.c p)) 0 0))),(Ek b),(El b),(18,tI (k:Int)),(30,tO (lst 7 A1.c (Cg types p.Type').1.Pads)),(31,tI ((Cg types p.Type').1.Pads.length:Int)),(32,tI (W64 ((j:Int)+1)))],[]⟩ ?_
    refine ED ?_
    refine ⟨j+1,by omega,by omega,?_,by rw [Nat.add_assoc],rfl⟩
    rw [Ao oM oM]
    rfl
  have hjl:j=(Cg types p.Type').1.Pads.length:=by have:=oF hc2;omega
  refine QG ?_
  refine OM ?_
  refine OM ?_
  refine QI ?_
  refine Xp ?_
  refine ED ?_
  refine NB [0,2,16,17,18] ⟨[(0,.av (.one (.val (.func (.yield ly) #[] #[])))),(Do types),(Ek b),(El b),(18,tI (k:Int))],[]⟩ kr ?_
  refine EK hO (hd _ (by simp only [List.forall_mem_cons];exact ⟨rfl,rfl,rfl,rfl,rfl,fun x hx=>by cases hx⟩)) rfl fun W0 X1 M1 => ?_
  refine rg ⟨[(0,.av (.one (.val (.func (.yield ly) #[] #[])))),(Do types),(Ek b),(El b),(18,tI (W64 ((k:Int)+1)))],[]⟩ ?_
  refine ED ?_
  refine ⟨k+1,by omega,by omega,?_,by rw [hjl,hns],rfl⟩
  rw [Ao oM oM]
  rfl
 have hkl:k=(CD b.Parts).length:=by have:=oF hc;omega
 refine QG ?_
 refine OM ?_
 refine OM ?_
 refine QI ?_
 exact ⟨.inr rfl,by rw [hkl,U8]⟩
section
open Go.RowKit
section
variable (len:Nat) (g:Nat→Nat→Value)
abbrev QV:Cl:=YP false 2 len (fun i j=>.val (g i j))
theorem ZT:NM (QV len g):=GM fun y hy=>by rw [List.mem_singleton.1 hy];exact .list _ _ _ _ fun i j=>.val _
abbrev ylB (ly:Nat):Tv:=.av (.one (.val (.func (.yield ly) #[] #[])))
abbrev tB1 (c:Cl):Tv:=.av (.one c)
abbrev avB (k:Nat):Av:=.agg [.val (g k 0),.val (g k 1)]
theorem YT (hl:(len:Int)<=1000000) (h1:∀ i j,i<len->j<2->(g i j).oneCell'=true):Hz Try.prog 67 1 (CU [QV len g]) len (fun x=>[.one (.i ((len:Int)-1-(x.val:Int))),avB g (len-1-x.val)]):=by
 refine VQ Try.func67 rfl rfl (fun x=>rfl) (fun x e he c hc => ?_) kr (fun i hi => ?_) ?_
 ·simp only [List.mem_cons,List.not_mem_nil,or_false] at he
  rcases he with rfl | rfl
  ·rw [List.mem_singleton.1 hc];rfl
  simp only [Av.cells,List.mem_cons,List.not_mem_nil,or_false] at hc
  have:=x.isLt
  rcases hc with rfl | rfl <;> exact h1 _ _ (by omega) (by decide)
 ·match i,hi with
  | 0,_=>rfl
 intro Ow n0 ly JJ Jx hO hJg hY
 have hd:∀ (x:List (Nat×Tv)),(∀ p∈x,p.2.dv=true)->∀ i u,get x i=some u->u.dv=true:=fun x h=>C4 (p:=fun u=>Tv.dv u=true) h
 refine Ds ?_
 refine EK hO (C4 (p:=fun u=>Tv.dv u=true) (by simp [EN,Dg,Tv.dv,Av.dv,Cl.dv,List.range,List.range.loop,CU])) rfl fun W0 X1 M1 => ?_
 refine rg ⟨[(0,ylB ly),(1,tB1 (QV len g)),(3,tI (W64 ((len:Int)-1)))],[]⟩ ?_
 refine ED ?_
 refine Ge ?_
 rw [show W64 ((len:Int)-1)=(len:Int)-1-((0:Nat):Int) by rw [Ao (by omega) (by omega)];omega]
 refine QF (ι:=Nat) (fun k=>⟨[(0,ylB ly),(1,tB1 (QV len g)),(3,tI ((len:Int)-1-(k:Int)))],[]⟩) (fun k=>JJ k) (fun k=>k<=len) (fun k=>len-k) (fun k hk => ?_) 0 (Nat.zero_le _)
 refine Ds ?_
 refine Ds ?_
 refine EK hO (hd _ (by simp only [List.forall_mem_cons];exact ⟨rfl,rfl,rfl,fun x hx=>by cases hx⟩)) rfl fun W0 X1 M1 => ?_
 refine rg ⟨[(0,ylB ly),(1,tB1 (QV len g)),(3,tI ((len:Int)-1-(k:Int))),(8,tB (decide ((0:Int)<=((len:Int)-1-(k:Int)))))],[]⟩ ?_
 refine ED ?_
 refine H7 (decide ((0:Int)<=((len:Int)-1-(k:Int)))) kr (fun hc => ?_) (fun hc => ?_)
 ·have hlt:k<len:=by have:=oT hc;omega
  obtain ⟨m,hm⟩:∃ m:Nat,(len:Int)-1-(k:Int)=(m:Int):=⟨len-1-k,by omega⟩
  have hm2:m=len-1-k:=by omega
  refine Jv ?_
  refine ED ?_
  refine Ds ?_
  refine Ge ?_
  refine Ds ?_
  refine NA ?_
  rw [hm]
  refine Ju hO D9 6 [0,1,3,11,12,16] [0<=(m:Int)/\(m:Int)<((len:Nat):Int)] [(0,ylB ly),(1,tB1 (QV len g)),(3,tI (m:Int)),(11,ylB ly),(12,tI (m:Int)),(16,.av (avB g (m:Int).toNat))] kr (.cons ⟨by omega,by omega⟩ .nil) (hd _ (by simp only [List.forall_mem_cons];exact ⟨rfl,rfl,rfl,rfl,fun x hx=>by cases hx⟩)) rfl ?_
  rw [Int.toNat_natCast]
  refine S6 (ly:=ly) (d:=17) hO rfl [.one (.i (m:Int)),avB g m] rfl rfl kr kr rfl rfl kr ?hT1 (fun A B=>hJg _ A B) (JJ (k+1)) (Jx (k+1)) ?hY [] ?htf rfl ?ht ?hf
  case hT1=>exact C4 (p:=fun u=>Tv.dv u=true/\TvM u) (by
   simp only [List.forall_mem_cons]
   exact ⟨⟨rfl,CB (.val _)⟩,⟨rfl,CB (ZT len g)⟩,⟨rfl,CB (.val _)⟩,⟨rfl,CB (.val _)⟩,⟨rfl,CB (.val _)⟩,⟨rfl,fun c hc=>by
    simp only [Av.cells,List.mem_cons,List.not_mem_nil,or_false] at hc
    rcases hc with rfl | rfl <;> exact .val _⟩,fun x hx=>by cases hx⟩)
  case hY =>
   intro W hW
   have:=hY k hlt W hW
   simp only [hm,<- hm2] at this
   exact this
  case htf=>exact fun i v hv=>by cases hv
  case ht =>
   refine M9 [0,1,3,17] ⟨[(0,ylB ly),(1,tB1 (QV len g)),(3,tI (m:Int)),(17,tB true)],[]⟩ kr ?_
   refine Ju hO D9 1 [0,1,3,18] [] [(0,ylB ly),(1,tB1 (QV len g)),(3,tI (m:Int)),(18,tB false)] kr .nil (hd _ (by simp only [List.forall_mem_cons];exact ⟨rfl,rfl,rfl,rfl,fun x hx=>by cases hx⟩)) rfl ?_
   refine QE ?_
   refine ED ?_
   refine H7 false kr (fun h=>by cases h) (fun _ => ?_)
   refine Jv ?_
   refine Xp ?_
   refine ED ?_
   refine EK hO (hd _ (by simp only [List.forall_mem_cons];exact ⟨rfl,rfl,rfl,rfl,fun x hx=>by cases hx⟩)) rfl fun W0 X1 M1 => ?_
   refine rg ⟨[(0,ylB ly),(1,tB1 (QV len g)),(3,tI (W64 ((m:Int)-1)))],[]⟩ ?_
   refine ED ?_
   refine ⟨k+1,by omega,by omega,?_,rfl,rfl⟩
   rw [Ao (by omega) (by omega),show (m:Int)-1=(len:Int)-1-((k+1:Nat):Int) by omega]
  case hf =>
   refine M9 [17] ⟨[(17,tB false)],[]⟩ kr ?_
   refine Ju hO D9 1 [18] [] [(18,tB true)] kr .nil (hd _ (by simp only [List.forall_mem_cons];exact ⟨rfl,fun x hx=>by cases hx⟩)) rfl ?_
   refine QE ?_
   refine ED ?_
   refine H7 true kr (fun _ => ?_) (fun h=>by cases h)
   refine cJ ?_
   exact ⟨.inl rfl,.inr ⟨_,hlt,rfl⟩⟩
 have hkl:k=len:=by have:=oF hc;omega
 refine QG ?_
 refine OM ?_
 refine OM ?_
 refine QI ?_
 exact ⟨.inr rfl,.inl (by rw [hkl])⟩
end
theorem Zp (l:List A3) (hl:(l.length:Int)<=1000000):Hz Try.prog 67 1 (CU [.eptr 1 1 (fun _ j=>([lst 2 A3.c l]:List Cl).getD j default) 0 0]) l.length (fun x=>[.one (.i ((l.length:Int)-1-(x.val:Int))),.agg (A3.c (l.getD (l.length-1-x.val) default))]):=by
 refine S7 (t:=false) (sz:=2) (len:=l.length) (f:=fun i j=>(A3.c (l.getD i default)).getD j default) (fun g x=>[.one (.i ((l.length:Int)-1-(x.val:Int))),avB g (l.length-1-x.val)]) rfl (by decide) (fun g h1 => ?_) (fun g x=>rfl) (fun M g x vs h2 hL => ?_)
 ·refine S8 (fun i hi => ?_) (YT l.length g hl h1)
  match i,hi with
  | 0,_=>rfl
 cases hL with
 | cons a1 a2 =>
  cases a2 with
  | cons a3 a4 =>
   refine .cons a1 (.cons (fun σ => ?_) a4)
   obtain ⟨us,hu,hus⟩:=a3 σ
   refine ⟨us,hu,?_⟩
   have hx:l.length-1-x.val<l.length:=by have:=x.isLt;omega
   cases hus with
   | cons b1 b2 =>
    cases b2 with
    | cons b3 b4 =>
     cases b4
     have e1:=b1.1
     have e2:=b3.1
     subst e1 e2
     exact .cons ((HS rfl).2 (h2 _ 0 hx (by decide))) (.cons ((HS rfl).2 (h2 _ 1 hx (by decide))) .nil)
end
section
open Go.RowKit
theorem U7  (l:(List A3)):FG Try.prog 41 [.one (lst 2 A3.c l)] (.av (.one (.clo 67 1 (CU [.eptr 1 1 (gD [lst 2 A3.c l]) 0 0])))):=by
 refine pwf Try.func41 fun W0 M0 => ?_
 refine AB<|rn ⟨[(1,tP 1 0)],[(1,.cells [lst 2 A3.c l] 31)]⟩<|AB ?_
 refine rn ⟨[(2,tO (.clo 67 1 (CU [.ptr 1 0])))],[(1,.cells [lst 2 A3.c l] 31)]⟩<|Ae ?_
 exact yl (Cv.trans (Km (⟨[(2,.av (.one (.clo 67 1 (CU [.eptr 1 1 (gD [lst 2 A3.c l]) 0 0]))))],[]⟩) 1 [lst 2 A3.c l] 31 hk0 kr kr kr kr) (Cv.refl _)) (.av (.one (.clo 67 1 (CU [.eptr 1 1 (gD [lst 2 A3.c l]) 0 0])))) (An rfl)
variable (s:Ah) (b:AG) (s_1:List AO) (v13:Int) (m:AV) (p:AF) (types:List AQ) (x0:AF)
def cpads:CT:=(42,[.agg (DL b),.one (GD types)],.val [] (.av (.one (.clo 68 2 (CU [.eptr 15 1 (fun _ j_=>((DL b):List Cl).getD j_ default) 0 0,.eptr 1 1 (fun _ j_=>([lst 3 AQ.c types]:List Cl).getD j_ default) 0 0])))))
abbrev Hf:Av:=.one (.clo 68 2 (CU [.eptr 15 1 (gD (DL b)) 0 0,.eptr 1 1 (gD [lst 3 AQ.c types]) 0 0]))
abbrev Hc:Nat×Blk:=(2,.cells (DL b) 42)
theorem ppads (b:AG) (types:(List AQ)):PuP 42 (cpads b types).2.1 (.av (.one (.clo 68 2 (CU [.eptr 15 1 (gD (DL b)) 0 0,.eptr 1 1 (gD [lst 3 AQ.c types]) 0 0])))):=by
 refine pwf Try.func42 fun W0 M0 => ?_
 refine AB<|rn ⟨O4,[(Hc b),(3,.cells [lst 3 AQ.c types] 43)]⟩<|AB ?_
 refine rn ⟨[(4,tO (.clo 68 2 (CU [.ptr 2 0,.ptr 3 0])))],[(Hc b),(3,.cells [lst 3 AQ.c types] 43)]⟩<|Ae ?_
 exact yl (Cv.trans (Km (⟨[(4,.av (.one (.clo 68 2 (CU [.eptr 15 1 (gD (DL b)) 0 0,.ptr 3 0]))))],[(3,.cells [lst 3 AQ.c types] 43)]⟩) 2 (DL b) 42 hk0 kr kr kr kr) (Cv.trans (Km (⟨[(4,.av (Hf b types))],[]⟩) 3 [lst 3 AQ.c types] 43 hk0 kr kr kr kr) (Cv.refl _))) (.av (Hf b types)) (An rfl)
def E0 (s:Ah) (m:AV):Nat->List AO->Int->Ah
 | 0,_,_=>default
 | n0+1,s_1,v13=>bif decide ((v13:Int)<((s.Edges.length:Nat):Int)) then ((E0 s m n0) (s_1.set v13.toNat (CV (s_1.getD v13.toNat default) m)) (v13+1)) else (Ah.mk s.Kind s_1 s.R)
def Cn (s:Ah) (m:AV):Ah:=E0 s m ((((s.Edges.length:Nat):Int)-0).toNat+1) s.Edges 0
def NS:CT:=(15,[.agg (Ah.c s),.agg (AV.c m)],.val [] (.av (.agg (Ah.c (Cn s m)))))
abbrev KU:Nat×Blk:=(3,.cells (AV.c m) 66)
abbrev Vi:List (Nat×Blk):=[(2,.cells [.i s.Kind,.own 8 7 s.Edges.length,.i s.R] 29),(KU m),(4,.cells [.i 0,vN,.i 0] 29),(8,.row 7 s.Edges.length (AU AO.c s.Edges) 133)]
abbrev Ls:Nat×Blk:=(4,.cells [.i 0,vN,.i 0] 29)
abbrev WM:List (Nat×Blk):=[(2,.cells [.i s.Kind,.own 8 7 (s_1.set v13.toNat (CV (s_1.getD v13.toNat default) m)).length,.i s.R] 29),(3,.cells (AV.c m) 66),Ls,(8,.row 7 (s_1.set v13.toNat (CV (s_1.getD v13.toNat default) m)).length (AU AO.c (s_1.set v13.toNat (CV (s_1.getD v13.toNat default) m))) 133)]
abbrev Iw:Nat×Tv:=(12,tI ((s.Edges.length:Nat):Int))
abbrev HZ (t_:List (Nat×Tv)):List (Nat×Tv):=(2,tP 2 0)::(3,tP 3 0)::(4,tP 4 0)::t_
abbrev KZ:List (Nat×Tv):=(HZ [])
abbrev Oz:List Cl:=[.i s.Kind,.own 8 7 s_1.length,.i s.R]
theorem bC (s:Ah) (m:AV) (h0:(s.Edges.length:Int)<=1000000):PuP 15 (NS s m).2.1 (.av (.agg (Ah.c (Cn s m)))):=by
 refine pwf Try.func15 fun W0 M0 => ?_
 refine AB<|rn ⟨KZ,[(2,.cells (Ah.c s) 29),(KU m),Ls]⟩<|AB ?_
 refine rs 8 (Lm s.Edges) ⟨KZ,(Vi s m)⟩ (Mu s.Edges au16)<|AH ?_
 refine BN (Cv.trans (BF (⟨KZ,(Vi s m)⟩) lr (.cons ⟨rfl,.cells _ (rr (.cons (.own _ _ au0) (rr .nil)))⟩ (.cons ⟨rfl,.refl _⟩ (.cons ⟨rfl,.refl _⟩ (.cons ⟨rfl,Ai 133 (BA 7 AO.c s.Edges)⟩ .nil))))) (Cv.refl _))<|AB<|AB ?_
 refine rn ⟨(HZ [(Iw s),(13,tI 0)]),(Vi s m)⟩<|AX ?_
 refine BH (ι:=Nat×List AO×Int) (fun x=>⟨(HZ [(Iw s),(13,tI x.2.2)]),[(2,.cells [.i s.Kind,.own 8 7 x.2.1.length,.i s.R] 29),(KU m),Ls,(8,.row 7 x.2.1.length (AU AO.c x.2.1) 133)]⟩) (fun x=>(((s.Edges.length:Nat):Int)-x.2.2).toNat<x.1/\(x.2.1.length=s.Edges.length/\0<=x.2.2/\(x.2.2<=((s.Edges.length:Nat):Int)\/x.2.2=0))/\E0 s m x.1 x.2.1 x.2.2=Cn s m) (fun x=>x.1) ?_ ((((s.Edges.length:Nat):Int)-0).toNat+1,s.Edges,0) ⟨Nat.lt_succ_self _,⟨ax0,ax0,ax0⟩,(by simp only [Cn,cond_true,cond_false])⟩
 rintro ⟨n0,s_1,v13⟩ ⟨hm0,hinv0,hF0⟩
 try dsimp only at hm0 hinv0 hF0
 cases n0 with | zero=>exact nz hm0 | succ n0 => ?_
 refine AB<|rn ⟨(HZ [(Iw s),(13,tI v13),(14,tB (decide ((v13:Int)<((s.Edges.length:Nat):Int))))]),[(2,.cells (Oz s s_1) 29),(KU m),Ls,(8,.row 7 s_1.length (AU AO.c s_1) 133)]⟩<|AB ?_
 refine Aa _ rfl (fun h1 => ?_) (fun h1 => ?_)
 ·have g1:=oT h1
  refine Ac<|AH ?_
  refine AB<|AX<|AB ?_
  refine rn ⟨(HZ [(5,tI v13),(Iw s),(13,tI v13)]),[(2,.cells (Oz s s_1) 29),(KU m),Ls,(8,.row 7 s_1.length (AU AO.c s_1) 133)]⟩ ?_
  refine dw [] [(25,Ue (s_1.getD v13.toNat default) m)] [0<=(v13:Int)/\(v13:Int)<((s_1.length:Nat):Int),v13.toNat<s_1.length,Aw (Ue (s_1.getD v13.toNat default) m).2.1,0<=(v13:Int)/\(v13:Int)<((s_1.length:Nat):Int),v13.toNat<s_1.length] ⟨(HZ [(Iw s),(13,tI v13)]),[(2,.cells (Oz s s_1) 29),(KU m),Ls,(8,.row 7 s_1.length (fun i_ j_=>if i_=v13.toNat/\0<=j_/\j_<0+7 then ((AO.c (CV (s_1.getD v13.toNat default) m)):List Cl).getD (j_-0) default else (AU AO.c s_1) i_ j_) 133)]⟩ (.cons (bR (s_1.getD v13.toNat default) m) .nil) (.cons au1 (.cons au1 (.cons rfl (.cons au1 (.cons au1 .nil)))))<|Bd<|AH ?_
  refine BN (Cv.trans (BF (⟨(HZ [(Iw s),(13,tI v13)]),(WM s s_1 v13 m)⟩) lr (.cons ⟨rfl,.cells _ (rr (.cons (.own _ _ au0) (rr .nil)))⟩ (.cons ⟨rfl,.refl _⟩ (.cons ⟨rfl,.refl _⟩ (.cons ⟨rfl,Ai 133 (Hj (l:=(AO.c (CV (s_1.getD v13.toNat default) m))) (off:=0) (q:=7) (k:=v13.toNat) (BA 7 AO.c s_1) au1 (CV (s_1.getD v13.toNat default) m) (FY kr))⟩ .nil))))) (Cv.refl _)) ?_
  refine rg ⟨(HZ [(Iw s),(13,tI (W64 (v13+1)))]),(WM s s_1 v13 m)⟩ ?_
  (try rw [(show W64 (v13+1)=v13+1 from Ao oM au6)])
  refine AH ?_
  refine ⟨(n0,s_1.set v13.toNat (CV (s_1.getD v13.toNat default) m),v13+1),⟨?_,?_,(by rw [<- hF0];simp only [E0,h1,cond_true,cond_false])⟩,Nat.lt_succ_self _,A6 kr⟩
  ·show (((s.Edges.length:Nat):Int)-(v13+1)).toNat<n0;omega
  exact ⟨ax0,ax0,ax0⟩
 refine BJ<|A4 ?_
 refine A4<|BK ?_
 refine AH<|AB ?_
 refine rn ⟨[(4,tP 4 0)],[(4,.cells (Oz s s_1) 29),(8,.row 7 s_1.length (AU AO.c s_1) 133)]⟩<|Ae ?_
 exact yl (Cv.trans (vf 8 7 s_1.length (AU AO.c s_1) 133 hk0 (.cons ⟨rfl,rfl⟩ .nil)) (Cv.refl _)) (.av (.agg [.i s.Kind,lst 7 AO.c s_1,.i s.R])) (An (by rw [<- hF0];first | (simp only [E0,h1,cond_true,cond_false] <;> rfl)))
theorem T0 (s:Ah) (m:AV) (h0:(s.Edges.length:Int)<=1000000):OKc (NS s m):=cPu<|bC s m h0
def Bh (p:Ab):Value:=.agg #[.string p.Ref,.string p.Pad]
def Bc (a b:Ab):Bool:=eqS a.Ref b.Ref&&eqS a.Pad b.Pad
theorem Od (a b:Ab):Bc a b=true↔Bh a=Bh b:=by
 unfold Bc Bh
 rw [Bool.and_eq_true,X8,X8]
 simp
theorem Rt (k:Ab):Ei Try.prog eqE 25 (Bh k):=.inr ⟨_,_,_,rfl,rfl,by kernel_rfl,rfl,rfl⟩
theorem U9 {b:AG} {types:List AQ} (ht:CP types) (k:Nat):(((Ad b types).getD k default).2.Shape.Edges.length:Int)<=1000000:=by
 refine E5 (p:=fun x:AF×A1=>(x.2.Shape.Edges.length:Int)<=1000000) (by decide) (fun x hx => ?_) k
 unfold Ad at hx
 obtain ⟨p,_,hp⟩:=List.mem_flatMap.1 hx
 unfold Es at hp
 obtain ⟨q,hq,rfl⟩:=List.mem_map.1 hp
 rw [IR] at hq
 unfold TC at hq
 cases hf:types.find? (fun t=>Gr t p.Type') with
 | none=>rw [hf] at hq;cases hq
 | some t=>rw [hf] at hq;exact (ht.2 t (List.mem_of_find?_eq_some hf)).2.2.1 q hq
theorem OA {b:AG} {types:List AQ} (hp:b.Parts.length<20) (ht:CP types):((Ad b types).length:Int)<=20000000:=by
 have key:∀ l:List AF,((l.flatMap (Es types)).length:Int)<=1000000*(l.length:Int):=by
  intro l
  induction l with
  | nil=>simp
  | cons p l ih =>
   rw [List.flatMap_cons,List.length_append,I8,IR,List.length_cons]
   have:=G2 ht p.Type'
   omega
 have h1:=key (CD b.Parts)
 have h2:=IM b.Parts hp
 unfold Ad
 omega
def Bo (x0:AF):AV:=AV.mk x0.At x0.Turn x0.Under
def GG:CT:=(20,[.agg (AF.c x0)],.val [] (.av (.agg (AV.c (Bo x0)))))
abbrev HL:List (Nat×Tv):=[(1,tP 1 0),(2,tP 2 0)]
abbrev PA:List Cl:=[.i x0.At.X,.i x0.At.Y,.i x0.Turn,.b x0.Under]
theorem ZH (x0:AF):PuP 20 (GG x0).2.1 (.av (.agg (AV.c (Bo x0)))):=by
 refine pwf Try.func20 fun W0 M0 => ?_
 refine AB<|rn ⟨HL,[(1,.cells (AF.c x0) 59),(2,.cells [.i 0,.i 0,.i 0,.b false] 66)]⟩<|AB ?_
 refine rn ⟨[(2,tP 2 0)],[(2,.cells (PA x0) 66)]⟩<|Ae ?_
 exact xl (.av (.agg (PA x0))) (An (by rfl))
theorem Mv (x0:AF):OKc (GG x0):=cPu<|ZH x0
def Cj (b:AG) (p:AF):Int:=bif p.Under then b.Layers else 1
def LU:CT:=(34,[.agg (DL b),.agg (AF.c p)],.val [] (.av (.one (.i (Cj b p)))))
theorem pside (b:AG) (p:AF):PuP 34 (LU b p).2.1 (tO (.i (Cj b p))):=by
 refine pwf Try.func34 fun W0 M0 => ?_
 refine AB<|rn ⟨O4,[(Hc b),(3,.cells (AF.c p) 59)]⟩ ?_
 refine AB<|AB ?_
 refine rn ⟨[(2,tP 2 0),(6,tB p.Under)],[(Hc b)]⟩ ?_
 refine Aa p.Under kr (fun h1 => ?_) (fun h1 => ?_)
 ·refine AB<|rn ⟨[(4,tI b.Layers)],[]⟩ ?_
  refine Ae<|Bb ?_
  exact xl (tO (.i b.Layers)) (An (by simp only [Cj,h1,cond_true,cond_false] <;> rfl))
 refine Ac<|AH<|AB ?_
 refine rn ⟨[(4,tI 1)],[]⟩<|Ae ?_
 exact xl (tO (.i 1)) (An (by simp only [Cj,h1,cond_true,cond_false] <;> rfl))
theorem Su (b:AG) (p:AF):OKc (LU b p):=cPu<|pside b p
end
end Go.Proofs.Ytdbampcfmjbgmaa
