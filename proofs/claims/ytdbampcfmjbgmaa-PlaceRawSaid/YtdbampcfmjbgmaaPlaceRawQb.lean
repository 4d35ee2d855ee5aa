/-
  No statement is proved in this text. It holds a part of what the proof of PlaceRaw needs.
-/
import Derived.Test.YtdbampcfmjbgmaaPlaceRawQa
namespace Go.Proofs.Ytdbampcfmjbgmaa
set_option maxRecDepth 100000
set_option linter.unusedVariables false
set_option linter.unusedSimpArgs false
section
open Go.RowKit
def Fv (t : Nat -> Option Tv) (ops : Array Oper) (j : Nat) (want : Bool) : Option Prop := match ops[j]? with
 | some o => match o.dst with
  | some d => match t d with
   | some (.av (.one (.val (.bool b)))) => some (b = want)
   | some (.grd g (.one (.val (.bool b)))) => some (g /\ b = want)
   | _ => none
  | none => none
 | none => none
def Hn : List Operand -> List Nat
 | [] => []
 | .tmp i :: r => i :: Hn r
 | _ :: r => Hn r
def strip : Tv -> Tv
 | .grd _ x => .av x
 | v => v
def evG (t : Nat -> Option Tv) (l : List Nat) : Operand -> Option Tv
 | .tmp i => bif l.any (Nat.beq i) then (t i).map strip else t i
 | x => evT t x
def Hc (t : Nat -> Option Tv) (G : Prop) : List Nat -> List Prop
 | [] => []
 | i :: r => match t i with
  | some (.grd g _) => (G -> g) :: Hc t G r
  | _ => Hc t G r
def FR : Op -> List Nat
 | .pick c _ _ => Hn [c]
 | op => Hn op.operands.toList
def Gk (P : Program) (V : Env P) (N : Nat) (ops : Array Oper) (o : Oper) (s : AS) : Option (List Prop × AS) := match o.guard with
 | none => match eff P V o.dst o.op (evT (get s.t)) with
  | some e => match res (get s.h) e with
   | some (cs, g) => bif GU N s o.dst g then some (cs, Nk s o.dst g) else none
   | none => none
  | none => none
 | some (j, want) => match Fv (get s.t) ops j want with
  | some G => match eff P V o.dst o.op (evG (get s.t) (FR o.op)) with
   | some e => match res (get s.h) e with
    | some (cs, .val (.av v)) => bif GU N s o.dst (.val (.av v)) then some (Hc (get s.t) G (FR o.op) ++ cs.map (fun p => G -> p), JU s o.dst (.grd G v)) else none
    | _ => none
   | none => bif GU N s o.dst (.val (.av (.one (.val (.bool false))))) then some ([¬ G], JU s o.dst (.grd G (.one (.val (.bool false))))) else none
  | none => none
def JS (P : Program) (V : Env P) (N : Nat) (ops : Array Oper) : List Oper -> AS -> Option (List Prop × AS)
 | [], s => some ([], s)
 | o :: l, s => match Gk P V N ops o s with
  | some (cs, s1) => match JS P V N ops l s1 with
   | some (ds, s2) => some (cs ++ ds, s2)
   | none => none
  | none => none
section
variable {P : Program} {V : Env P} {N : Nat} {ops : Array Oper} {W0 : World} {X : Nat → Option Loc} {M0 M : Nat → Option Obj} {σ : Nat → Loc} {w : World} {a : Act}
theorem Nl {h : Nat -> Option Blk} : ∀ {ns : List Nat} {bs : List Blk}, Fw h ns = some bs -> ∀ n ∈ ns, (h n).isSome
 | [], _, _, n, hn => by cases hn
 | k :: r, bs, hg, n, hn => by
  simp only [Fw] at hg
  split at hg
  ·rename_i b0 bs0 h1 h2
   rcases List.mem_cons.1 hn with rfl | hn
   ·rw [h1]; rfl
   ·exact Nl h2 n hn
  ·cases hg
theorem OL {h : Nat -> Option Blk} {e : Ef} {cs : List Prop} {n : Nat} {v : Tv} {b : Blk} (hr : res h e = some (cs, .wr n v b)) : (h n).isSome := by
 cases e <;> simp only [res] at hr
 case wr =>
  split at hr
  ·rename_i b0 bs h1 h2
   split at hr
   ·simp only [Option.some.injEq, Prod.mk.injEq, Eg.wr.injEq] at hr
    obtain ⟨_, rfl, _, _⟩ := hr
    rw [h1]; rfl
   ·cases hr
  ·cases hr
 all_goals ((repeat' split at hr) <;> simp at hr)
theorem Lr {h : Nat -> Option Blk} {e : Ef} {cs : List Prop} {l : List (Nat × Blk)} {v : Tv} (hr : res h e = some (cs, .wrs l v)) : ∀ n b, get l n = some b -> (h n).isSome := by
 cases e <;> simp only [res] at hr
 case wrs =>
  split at hr
  ·rename_i b0 bs h1 h2
   split at hr
   ·rename_i cs1 v1 b1 _
    cases hl : Nat.beq _ b1.length with
    | false => rw [hl] at hr; cases hr
    | true =>
     rw [hl] at hr
     simp only [Option.some.injEq, Prod.mk.injEq, Eg.wrs.injEq] at hr
     obtain ⟨_, rfl, _⟩ := hr
     intro n b hg
     exact Nl h1 n (List.of_mem_zip (DU hg)).1
   ·cases hr
  ·cases hr
 all_goals ((repeat' split at hr) <;> simp at hr)
theorem OM {h : Nat -> Option Blk} {e : Ef} {cs : List Prop} {n q : Nat} {v : Tv} {b bq : Blk} (hr : res h e = some (cs, .wq n q v b bq)) : (h n).isSome /\ h q = some bq /\ n ≠ q := by
 cases e <;> simp only [res] at hr
 case wq =>
  split at hr
  ·rename_i b0 b1 h1 h2
   split at hr
   ·split at hr
    ·cases hr
    ·rename_i hne
     simp only [Option.some.injEq, Prod.mk.injEq, Eg.wq.injEq] at hr
     obtain ⟨_, rfl, rfl, _, _, rfl⟩ := hr
     exact ⟨by rw [h1]; rfl, h2, fun e => by rw [e, Nat.beq_refl] at hne; cases hne⟩
   ·cases hr
  ·cases hr
 all_goals ((repeat' split at hr) <;> simp at hr)
theorem Ls {h : Nat -> Option Blk} {e : Ef} {cs : List Prop} {n : Nat} {v : Nat -> Tv} {b : Blk} (hr : res h e = some (cs, .app n b v)) : (h n).isSome := by
 cases e <;> simp only [res] at hr
 case app =>
  split at hr
  ·rename_i b0 h1
   split at hr
   ·simp only [Option.some.injEq, Prod.mk.injEq, Eg.app.injEq] at hr
    obtain ⟨_, rfl, _, _⟩ := hr
    rw [h1]; rfl
   ·cases hr
  ·cases hr
 all_goals ((repeat' split at hr) <;> simp at hr)
theorem Pt {T : Nat -> Option Tv} {H : Nat -> Option Blk} {dst : Option Nat} {g : Eg} (h : Tx N T H dst g) : Tl dst g := by
 cases g with
 | val => trivial
 | wr => trivial
 | wrs => trivial
 | wq => trivial
 | new b v => obtain ⟨_, d, hd, _, hn⟩ := h; exact ⟨d, hd, hn⟩
 | app n b v => obtain ⟨_, d, hd, _⟩ := h; exact ⟨d, hd⟩
theorem FC {t : Nat -> Option Tv} (ht : ∀ i v, t i = some v -> RT M σ v (a.tmps.getD i undef)) (hroom : a.tmps.size = N) {o : Oper} {j : Nat} {want : Bool} {G : Prop} (hg : o.guard = some (j, want)) (hG : Fv t ops j want = some G) : Region.wanted o (yielded ops a.tmps) = true ↔ G := by
 unfold Fv at hG
 split at hG
 ·rename_i oj hj
  split at hG
  ·rename_i d hd
   have hy : yielded ops a.tmps j = match a.tmps[d]? with | some (.bool b) => some b | _ => none := by
    simp only [yielded, hj, Option.bind_some, hd]
    rfl
   unfold Region.wanted
   rw [hg]
   simp only [hy]
   split at hG
   ·rename_i b hb
    injection hG with hG
    subst hG
    have hv : a.tmps.getD d undef = .bool b := (ht d _ hb).1
    have : a.tmps[d]? = some (.bool b) := by
     rw [Array.getD_eq_getD_getElem?] at hv
     cases hq : a.tmps[d]? with
     | none => rw [hq] at hv; cases hv
     | some y => rw [hq] at hv; simp only [Option.getD_some] at hv; rw [hv]
    rw [this]
    simp
   ·rename_i g b hb
    injection hG with hG
    subst hG
    have hR := ht d _ hb
    by_cases hgp : g
    ·have hv : a.tmps.getD d undef = .bool b := (hR.1 hgp).1
     have : a.tmps[d]? = some (.bool b) := by
      rw [Array.getD_eq_getD_getElem?] at hv
      cases hq : a.tmps[d]? with
      | none => rw [hq] at hv; cases hv
      | some y => rw [hq] at hv; simp only [Option.getD_some] at hv; rw [hv]
     rw [this]
     simp [hgp]
    ·have hv : a.tmps.getD d undef = undef := hR.2 hgp
     have : ∀ b, a.tmps[d]? ≠ some (.bool b) := fun b hb => by
      rw [Array.getD_eq_getD_getElem?, hb] at hv
      simp only [Option.getD_some] at hv
      cases hv
     simp only [hgp, false_and, iff_false, Bool.not_eq_true]
     cases hq : a.tmps[d]? with
     | none => rfl
     | some y =>
      cases y <;> first | rfl | exact absurd hq (this _)
   ·cases hG
  ·cases hG
 ·cases hG
theorem KE {t : Nat -> Option Tv} {G : Prop} (hG : G) : ∀ {l : List Nat}, CA (Hc t G l) -> ∀ i ∈ l, ∀ g y, t i = some (.grd g y) -> g
 | x :: r, hc, z, hz, g, y, hy => by
  unfold Hc at hc
  cases hz with
  | head =>
   rw [hy] at hc
   exact hc.head hG
  | tail _ hm =>
   split at hc
   ·exact KE hG hc.tail z hm g y hy
   ·exact KE hG hc z hm g y hy
theorem SM {t : Nat -> Option Tv} {l : List Nat} {G : Prop} (hG : G) (hc : CA (Hc t G l)) (ht : ∀ i v, t i = some v -> RT M σ v (a.tmps.getD i undef)) {x : Operand} {v : Tv} (hv : evG t l x = some v) : RT M σ v (a.eval x) := by
 cases x with
 | tmp i =>
  simp only [evG] at hv
  cases hm : l.any (Nat.beq i) with
  | false => rw [hm] at hv; exact ht i v hv
  | true =>
   rw [hm] at hv
   simp only [cond_true] at hv
   obtain ⟨u, hu, rfl⟩ := Option.map_eq_some_iff.1 hv
   have hR := ht i u hu
   obtain ⟨k, hk, hik⟩ := List.any_eq_true.1 hm
   have := Nat.eq_of_beq_eq_true hik
   subst this
   cases u with
   | av x => exact hR
   | tup x => exact hR
   | grd g y => exact hR.1 (KE hG hc i hk g y hu)
 | const c => exact Fb ht (x := .const c) hv
 | global g => exact Fb ht (x := .global g) hv
 | func f => exact Fb ht (x := .func f) hv
theorem GR {ev ev' : Operand -> Option Tv} : ∀ (l : List (Nat × Operand)), (∀ p ∈ l, ev p.2 = ev' p.2) -> GS ev l = GS ev' l
 | [], _ => rfl
 | (i, x) :: r, h => by
  simp only [GS]
  rw [h (i, x) (by simp), GR r fun p hp => h p (by simp [hp])]
theorem G0 {ev ev' : Operand -> Option Tv} : ∀ (l : List Operand), (∀ x ∈ l, ev x = ev' x) -> D3 ev l = D3 ev' l
 | [], _ => rfl
 | x :: r, h => by
  simp only [D3]
  rw [h x (by simp), G0 r fun p hp => h p (by simp [hp])]
theorem Lb {dst : Option Nat} {op : Op} {ev ev' : Operand -> Option Tv} (h : ∀ x ∈ op.operands.toList, ev x = ev' x) : eff P V dst op ev = eff P V dst op ev' := by
 cases op <;> simp only [eff, Fj] <;> simp only [Op.operands] at h
 case move x => rw [h x (by simp)]
 case assign x => rw [h x (by simp)]
 case pick c a b => rw [h c (by simp), h a (by simp), h b (by simp)]
 case box T x => rw [h x (by simp)]
 case build T ps => unfold IV; rw [GR _ fun p hp => h p.2 (by simp; exact ⟨p.1, by simpa using hp⟩)]
 case buildSlice T n ps => unfold Er; rw [GR _ fun p hp => h p.2 (by simp; exact ⟨p.1, by simpa using hp⟩)]
 case load T x => rw [h x (by simp)]
 case store T x y => rw [h x (by simp), h y (by simp)]
 case fieldAddr T x k => rw [h x (by simp)]
 case field T x k => rw [h x (by simp)]
 case indexAddr T x y => rw [h x (by simp), h y (by simp)]
 case binOp b T x y yT => rw [h x (by simp), h y (by simp)]
 case unOp b T x => rw [h x (by simp)]
 case convert a b x => rw [h x (by simp)]
 case extract x i => rw [h x (by simp)]
 case nilCheck x => rw [h x (by simp)]
 case makeFunc fn first captured =>
  cases fn <;> simp only [eff, Fj]
  rw [G0 _ fun x hx => h x (by simp at hx ⊢; exact .inr hx)]
 case index T x y => rw [h x (by simp), h y (by simp)]
 case makeSlice T x y => rw [h x (by simp), h y (by simp)]
 case lookup T x k ok => rw [h x (by simp), h k (by simp)]
 case makeMap T r => cases r <;> rfl
 case mapUpdate T m k x => rw [h m (by simp), h k (by simp), h x (by simp)]
 case slice T x lo hi mx =>
  cases mx <;> simp only [eff, Fj]
  rw [h x (by simp)]
  have e1 : lo.map ev = lo.map ev' := by
   cases lo with
   | none => rfl
   | some y => simp only [Option.map_some]; rw [h y (by simp)]
  have e2 : hi.map ev = hi.map ev' := by
   cases hi with
   | none => rfl
   | some y => simp only [Option.map_some]; rw [h y (by simp)]
  rw [e1, e2]
 case call c =>
  have ha : D3 ev c.args.toList = D3 ev' c.args.toList := G0 _ fun x hx => h x (by simp [Call.operands]; exact .inr (by simpa using hx))
  rw [ha]
  cases hc : c.callee with
  | value f =>
   have hf := h f (by simp [Call.operands, hc])
   cases D3 ev' c.args.toList with
   | none => rfl
   | some xs => simp only [hf]
  | _ => cases D3 ev' c.args.toList <;> rfl
def LU : Ef -> List Nat
 | .rd ns _ => ns
 | .wr n ns _ => n :: ns
 | .wrs ns rs _ => ns ++ rs
 | .wq n q _ => [n, q]
 | .app n _ => [n]
 | _ => []
theorem FY {h h' : Nat -> Option Blk} : ∀ (l : List Nat), (∀ n ∈ l, h n = h' n) -> Fw h l = Fw h' l
 | [], _ => rfl
 | n :: r, k => by
  simp only [Fw]
  rw [k n (by simp), FY r fun m hm => k m (by simp [hm])]
theorem LC {h h' : Nat -> Option Blk} {e : Ef} (k : ∀ n ∈ LU e, h n = h' n) : res h e = res h' e := by
 cases e <;> simp only [res] <;> simp only [LU] at k
 case rd ns q => rw [FY ns k]
 case wr n ns q => rw [k n (by simp), FY ns fun m hm => k m (by simp [hm])]
 case wq n q _ => rw [k n (by simp), k q (by simp)]
 case wrs ns rs q => rw [FY ns fun m hm => k m (by simp [hm]), FY rs fun m hm => k m (by simp [hm])]
 case app n q => rw [k n (by simp)]
theorem IM {t t' : Nat -> Option Tv} {ops : Array Oper} {j : Nat} {want : Bool} (h : ∀ d, (ops[j]?).bind (·.dst) = some d -> t d = t' d) : Fv t ops j want = Fv t' ops j want := by
 unfold Fv
 cases ho : ops[j]? with
 | none => rfl
 | some o =>
  simp only
  cases hd : o.dst with
  | none => rfl
  | some d => simp only; rw [h d (by simp [ho, hd])]
theorem Hr : ∀ {l : List Operand} {i : Nat}, i ∈ Hn l ↔ .tmp i ∈ l
 | [], i => by simp [Hn]
 | x :: r, i => by
  have := Hr (l := r) (i := i)
  cases x <;> simp [Hn, this]
theorem Ol {op : Op} {i : Nat} (h : i ∈ FR op) : .tmp i ∈ op.operands.toList := by
 unfold FR at h
 split at h
 ·rw [Hr] at h
  simp only [List.mem_singleton] at h
  simp [Op.operands, h]
 ·exact Hr.1 h
theorem JE {t t' : Nat -> Option Tv} {G : Prop} : ∀ (l : List Nat), (∀ i ∈ l, t i = t' i) -> Hc t G l = Hc t' G l
 | [], _ => rfl
 | i :: r, h => by
  unfold Hc
  rw [h i (by simp), JE r fun k hk => h k (by simp [hk])]
def Gt (P : Program) (V : Env P) (ops : Array Oper) (o : Oper) (s : AS) : List Nat := match o.guard with
 | none => match eff P V o.dst o.op (evT (get s.t)) with
  | some e => LU e
  | none => []
 | some _ => match eff P V o.dst o.op (evG (get s.t) (FR o.op)) with
  | some e => LU e
  | none => []
def DH (P : Program) (V : Env P) (o : Oper) (s : AS) : List Nat := match o.guard with
 | none => match eff P V o.dst o.op (evT (get s.t)) with
  | some (.wr n _ _) => [n]
  | some (.wrs ns _ _) => ns
  | some (.wq n _ _) => [n]
  | some (.new _ _ _) => o.dst.toList
  | some (.app n _) => n :: o.dst.toList
  | _ => []
 | some _ => []
def GA (P : Program) (V : Env P) (o : Oper) (s : AS) : Bool := match o.guard with
 | none => match eff P V o.dst o.op (evT (get s.t)) with
  | some (.new _ _ _) => true
  | some (.app _ _) => true
  | _ => false
 | some _ => false
theorem Gp {ops : Array Oper} {o : Oper} {i : Nat} (h : Operand.tmp i ∈ o.op.operands.toList) : i ∈ o.looksAt ops := by
 unfold Oper.looksAt
 exact List.mem_append_left _ (List.mem_filterMap.2 ⟨.tmp i, h, rfl⟩)
theorem Hd {ops : Array Oper} {o : Oper} {j : Nat} {want : Bool} (hg : o.guard = some (j, want)) {d : Nat} (hd : (ops[j]?).bind (·.dst) = some d) : d ∈ o.looksAt ops := by
 unfold Oper.looksAt
 rw [hg]
 exact List.mem_append_right _ (by simp [hd])
def JR (dst : Option Nat) : Eg -> List Nat
 | .val _ => []
 | .wr n _ _ => [n]
 | .wrs l _ => l.map (·.1)
 | .wq n _ _ _ _ => [n]
 | .new _ _ => dst.toList
 | .app n _ _ => n :: dst.toList
theorem LT {h : Nat -> Option Blk} {o : Oper} {s : AS} {e : Ef} {cs : List Prop} {g : Eg} (hg : o.guard = none) (he : eff P V o.dst o.op (evT (get s.t)) = some e) (hr : res h e = some (cs, g)) : DH P V o s = JR o.dst g := by
 unfold DH
 split
 ·rw [he]
  cases e <;> simp only [res] at hr
  case val => simp only [Option.some.injEq, Prod.mk.injEq] at hr; obtain ⟨_, rfl⟩ := hr; rfl
  case rd =>
   split at hr
   ·split at hr
    ·simp only [Option.some.injEq, Prod.mk.injEq] at hr; obtain ⟨_, rfl⟩ := hr; rfl
    ·cases hr
   ·cases hr
  case wr =>
   split at hr
   ·split at hr
    ·simp only [Option.some.injEq, Prod.mk.injEq] at hr; obtain ⟨_, rfl⟩ := hr; rfl
    ·cases hr
   ·cases hr
  case wq =>
   split at hr
   ·split at hr
    ·split at hr
     ·cases hr
     ·simp only [Option.some.injEq, Prod.mk.injEq] at hr; obtain ⟨_, rfl⟩ := hr; rfl
    ·cases hr
   ·cases hr
  case wrs ns rs k =>
   split at hr
   ·split at hr
    ·rename_i cs1 v1 b1 _
     cases hl : Nat.beq ns.length b1.length with
     | false => rw [hl] at hr; cases hr
     | true =>
      rw [hl] at hr
      simp only [Option.some.injEq, Prod.mk.injEq] at hr
      obtain ⟨_, rfl⟩ := hr
      have := Nat.eq_of_beq_eq_true hl
      simp only [JR]
      rw [List.map_fst_zip (by omega)]
    ·cases hr
   ·cases hr
  case new => simp only [Option.some.injEq, Prod.mk.injEq] at hr; obtain ⟨_, rfl⟩ := hr; rfl
  case app =>
   split at hr
   ·split at hr
    ·simp only [Option.some.injEq, Prod.mk.injEq] at hr; obtain ⟨_, rfl⟩ := hr; rfl
    ·cases hr
   ·cases hr
 ·rename_i hg'; rw [hg] at hg'; cases hg'
theorem LO {N : Nat} {s : AS} {dst : Option Nat} {g : Eg} (hok : GU N s dst g = true) (H : Nat -> Option Blk) : (fun n => if n ∈ JR dst g then get (Nk s dst g).h n else H n) = goH H dst g := by
 funext n
 rw [(FZ s dst g).2]
 cases g with
 | val v => simp [goH, JR]
 | wr m v b =>
  simp only [goH, Cn, List.mem_singleton, JR]
  by_cases h : m = n
  ·simp [h]
  ·simp [h, Ne.symm h]
 | wq m q v b bq =>
  simp only [goH, Cn, List.mem_singleton, JR]
  by_cases h : m = n
  ·simp [h]
  ·simp [h, Ne.symm h]
 | wrs l v =>
  have hwo : JR dst (.wrs l v) = l.map (·.1) := rfl
  simp only [goH]
  by_cases hn : n ∈ JR dst (.wrs l v)
  ·rw [if_pos hn]
   rw [hwo] at hn
   cases hg : get l n with
   | none =>
    exfalso
    obtain ⟨⟨k, b⟩, hm, rfl⟩ := List.mem_map.1 hn
    clear hn hok hwo
    induction l with
    | nil => cases hm
    | cons p r ih =>
     obtain ⟨k', b'⟩ := p
     simp only [get, CW] at hg
     by_cases e : k' = k
     ·simp [e] at hg
     ·simp only [e, decide_false, cond_false] at hg
      rcases List.mem_cons.1 hm with hm | hm
      ·injection hm with h1 _; exact e h1.symm
      ·exact ih hm hg
   | some b => simp only [orL, hg]
  ·rw [if_neg hn]
   rw [hwo] at hn
   cases hg : get l n with
   | none => simp only [orL, hg]
   | some b => exact absurd (List.mem_map.2 ⟨_, DU hg, rfl⟩) hn
 | new b v =>
  cases dst with
  | none => simp [goH, JR]
  | some d =>
   simp only [goH, Cn, Option.toList_some, List.mem_singleton, JR]
   by_cases h : d = n
   ·simp [h]
   ·simp [h, Ne.symm h]
 | app m b v =>
  cases dst with
  | none => cases hok
  | some d =>
   simp only [goH, Cn, Option.toList_some, List.mem_cons, List.not_mem_nil, or_false, JR]
   by_cases h1 : d = n
   ·simp [h1]
   ·by_cases h2 : m = n
    ·simp [h2]
    ·simp [h1, h2, Ne.symm h1, Ne.symm h2]
theorem HF {s : AS} {dst : Option Nat} {g : Eg} (T : Nat -> Option Tv) : (fun i => if dst = some i then get (Nk s dst g).t i else T i) = goT T dst g := by
 funext i
 rw [(FZ s dst g).1]
 cases g <;> cases dst <;> simp only [goT, Ks, Cn, Option.some.injEq, reduceCtorEq, if_false] <;> split <;> simp_all
theorem Jo {rd : Option Nat} (hV : Ij P V) {o : Oper} {s s1 : AS} {cs : List Prop} (hst : Gk P V N ops o s = some (cs, s1)) (hc : CA cs) {T : Nat -> Option Tv} {H : Nat -> Option Blk} (hs : Sim N W0 X M0 M σ T H a w) (hT : ∀ i ∈ o.looksAt ops, T i = get s.t i) (hH : ∀ n ∈ Gt P V ops o s, H n = get s.h n)
  (hfr : GA P V o s = true -> ∀ d, o.dst = some d -> Ki T H d) {K : Act -> World -> Prop} {Q : Exit -> Act -> World -> Prop} (hK : ∀ M' σ' a' w', Sim N W0 X M0 M' σ' (fun i => if o.dst = some i then get s1.t i else T i) (fun n => if n ∈ DH P V o s then get s1.h n else H n) a' w' -> K a' w') :
  if Region.wanted o (yielded ops a.tmps) then o.wpIn (FW rd) 0 P a w K Q else (∀ f, o.about P w a.eval = some f -> (FW rd).fn f) /\ K (a.put o.dst undef) w := by
 unfold Gk at hst
 split at hst
 ·rename_i hg
  rw [if_pos (by simp [Region.wanted, hg])]
  split at hst
  ·rename_i e he
   split at hst
   ·rename_i cs' g hr
    cases hok : GU N s o.dst g with
    | false => rw [hok] at hst; cases hst
    | true =>
     rw [hok] at hst
     simp only [cond_true, Option.some.injEq, Prod.mk.injEq] at hst
     obtain ⟨rfl, rfl⟩ := hst
     have hev : ∀ x ∈ o.op.operands.toList, evT T x = evT (get s.t) x := fun x hx => by
      cases x with
      | tmp i => exact hT i (Gp hx)
      | _ => rfl
     have he' : eff P V o.dst o.op (evT T) = some e := by rw [Lb hev]; exact he
     have hfoot : Gt P V ops o s = LU e := by unfold Gt; rw [hg, he]
     have hr' : res H e = some (cs', g) := by rw [LC (h' := get s.h) fun n hn => hH n (by rw [hfoot]; exact hn)]; exact hr
     have hgo0 := IP hok (fun n v b hg => by subst hg; exact OL hr) (fun l v hg => by subst hg; exact Lr hr) (fun n q v b bq hg => by subst hg; exact OM hr) (fun n b v hg => by subst hg; exact Ls hr)
     have hkind : (∃ b v, g = .new b v) \/ (∃ n b v, g = .app n b v) -> GA P V o s = true := fun hk => by
      unfold GA
      rw [hg, he]
      cases e <;> simp only [res] at hr <;> first
       | rfl
       | (exfalso; rcases hk with ⟨b, v, rfl⟩ | ⟨n, b, v, rfl⟩ <;> (repeat' split at hr) <;> simp at hr)
     have hgo : Tx N T H o.dst g := by
      refine ⟨hgo0.1, ?_⟩
      cases g with
      | val v => trivial
      | wr n v b => exact OL hr'
      | wrs l v => exact Lr hr'
      | wq n q v b bq => exact OM hr'
      | new b v =>
       obtain ⟨_, d, hd, hf, hn⟩ := hgo0
       exact ⟨d, hd, hfr (hkind (.inl ⟨_, _, rfl⟩)) d hd, hn⟩
      | app n b v =>
       obtain ⟨_, d, hd, hf, hn, _⟩ := hgo0
       exact ⟨d, hd, hfr (hkind (.inr ⟨_, _, _, rfl⟩)) d hd, hn, Ls hr'⟩
     refine (O6 hV (fun x v hv => Fb hs.tmps hv) he' hs.std hr' hc (Pt hgo)).wp ?_ (fun c hc => by rw [hc] at he'; cases he')
     rintro U w' ⟨M', σ', ho⟩
     have hsim := Jq hs ho hgo
     refine hK M' σ' _ _ ?_
     rw [LT hg he hr, HF, LO hok]
     exact hsim
   ·cases hst
  ·cases hst
 ·rename_i j want hg
  split at hst
  ·rename_i G hG
   split at hst
   ·rename_i e he
    split at hst
    ·rename_i cs' v hr
     cases hok : GU N s o.dst (.val (.av v)) with
     | false => rw [hok] at hst; cases hst
     | true =>
      rw [hok] at hst
      simp only [cond_true, Option.some.injEq, Prod.mk.injEq] at hst
      obtain ⟨rfl, rfl⟩ := hst
      obtain ⟨hc1, hc2⟩ := hc.append
      have htm : ∀ i ∈ FR o.op, T i = get s.t i := fun i hi => hT i (Gp (Ol hi))
      have hG' : Fv T ops j want = some G := by rw [IM fun d hd => hT d (Hd hg hd)]; exact hG
      have hw := FC hs.tmps hs.room hg hG'
      have hev : ∀ x ∈ o.op.operands.toList, evG T (FR o.op) x = evG (get s.t) (FR o.op) x := fun x hx => by
       cases x with
       | tmp i => simp only [evG]; rw [hT i (Gp hx)]
       | _ => rfl
      have he' : eff P V o.dst o.op (evG T (FR o.op)) = some e := by rw [Lb hev]; exact he
      have hfoot : Gt P V ops o s = LU e := by unfold Gt; rw [hg]; simp only [he]
      have hr' : res H e = some (cs', .val (.av v)) := by rw [LC (h' := get s.h) fun n hn => hH n (by rw [hfoot]; exact hn)]; exact hr
      rw [<- JE (t := T) _ htm] at hc1
      have hgo0 := IP hok (fun n v b hg => by cases hg) (fun l v hg => by cases hg) (fun n q v b bq hg => by cases hg) (fun n b v hg => by cases hg)
      have fin : ∀ (U : Value) (w' : World) (M' : Nat -> Option Obj) (σ' : Nat -> Loc), Tw M σ w o.dst U w' M' σ' (.val (.grd G v)) -> K (a.put o.dst U) w' := fun U w' M' σ' ho => by
       have hsim := Jq hs (g := .val (.grd G v)) ho ⟨hgo0.1, trivial⟩
       refine hK M' σ' _ _ ?_
       have e1 : (fun i => if o.dst = some i then get (JU s o.dst (.grd G v)).t i else T i) = goT T o.dst (.val (.grd G v)) := HF (s := s) (g := .val (.grd G v)) T
       have e2 : (fun n => if n ∈ DH P V o s then get (JU s o.dst (.grd G v)).h n else H n) = H := by
        funext n
        unfold DH
        rw [hg]
        simp
       rw [e1, e2]
       exact hsim
      by_cases hGp : G
      ·rw [if_pos (hw.2 hGp)]
       have hcs : CA cs' := by
        have : ∀ l : List Prop, CA (l.map fun p => G -> p) -> CA l := fun l => by
         induction l with
         | nil => intro _; exact .nil
         | cons p l ih => intro h; exact .cons (h.head hGp) (ih h.tail)
        exact this _ hc2
       have := O6 hV (o := o) (a := a) (fun x v hv => SM hGp hc1 hs.tmps hv) he' hs.std hr' hcs trivial
       refine this.wp ?_ (fun c hc => by rw [hc] at he'; cases he')
       rintro U w' ⟨M', σ', ho⟩
       obtain ⟨k, hσ, hR⟩ := ho
       exact fin U w' M' σ' ⟨k, hσ, fun _ => hR, fun h => absurd hGp h⟩
      ·rw [if_neg (fun h => hGp (hw.1 h))]
       refine ⟨fun _ _ => trivial, ?_⟩
       exact fin undef w M σ ⟨Fz.refl hs.imm _, rfl, fun h => absurd h hGp, fun _ => rfl⟩
    ·cases hst
   ·cases hok : GU N s o.dst (.val (.av (.one (.val (.bool false))))) with
    | false => rw [hok] at hst; cases hst
    | true =>
     rw [hok] at hst
     simp only [cond_true, Option.some.injEq, Prod.mk.injEq] at hst
     obtain ⟨rfl, rfl⟩ := hst
     have hGp : ¬ G := hc.head
     have hG' : Fv T ops j want = some G := by rw [IM fun d hd => hT d (Hd hg hd)]; exact hG
     have hw := FC hs.tmps hs.room hg hG'
     rw [if_neg (fun h => hGp (hw.1 h))]
     refine ⟨fun _ _ => trivial, ?_⟩
     have hgo0 := IP hok (fun n v b hg => by cases hg) (fun l v hg => by cases hg) (fun n q v b bq hg => by cases hg) (fun n b v hg => by cases hg)
     have hsim := Jq hs (g := .val (.grd G (.one (.val (.bool false))))) (V := undef) (w' := w) (M' := M) (σ' := σ) ⟨Fz.refl hs.imm _, rfl, fun h => absurd h hGp, fun _ => rfl⟩ ⟨hgo0.1, trivial⟩
     refine hK M σ _ _ ?_
     have e1 : (fun i => if o.dst = some i then get (JU s o.dst (.grd G (.one (.val (.bool false))))).t i else T i) = goT T o.dst (.val (.grd G (.one (.val (.bool false))))) := HF (s := s) (g := .val (.grd G (.one (.val (.bool false))))) T
     have e2 : (fun n => if n ∈ DH P V o s then get (JU s o.dst (.grd G (.one (.val (.bool false))))).h n else H n) = H := by
      funext n
      unfold DH
      rw [hg]
      simp
     rw [e1, e2]
     exact hsim
  ·cases hst
theorem Jn {o : Oper} {s s1 : AS} {cs : List Prop} (hst : Gk P V N ops o s = some (cs, s1)) : ∃ g, GU N s o.dst g = true /\ s1 = Nk s o.dst g /\ DH P V o s = JR o.dst g /\ (GA P V o s = true -> (∃ b v, g = .new b v) \/ ∃ n b v, g = .app n b v) := by
 unfold Gk at hst
 split at hst
 ·rename_i hg
  split at hst
  ·rename_i e he
   split at hst
   ·rename_i cs' g hr
    cases hok : GU N s o.dst g with
    | false => rw [hok] at hst; cases hst
    | true =>
     rw [hok] at hst
     simp only [cond_true, Option.some.injEq, Prod.mk.injEq] at hst
     obtain ⟨rfl, rfl⟩ := hst
     refine ⟨g, hok, rfl, LT hg he hr, fun hn => ?_⟩
     unfold GA at hn
     rw [hg] at hn
     simp only [he] at hn
     cases e <;> simp only [res] at hr <;> simp only at hn <;> try (cases hn; done)
     case new => simp only [Option.some.injEq, Prod.mk.injEq] at hr; obtain ⟨_, rfl⟩ := hr; exact .inl ⟨_, _, rfl⟩
     case app =>
      split at hr
      ·split at hr
       ·simp only [Option.some.injEq, Prod.mk.injEq] at hr; obtain ⟨_, rfl⟩ := hr; exact .inr ⟨_, _, _, rfl⟩
       ·cases hr
      ·cases hr
   ·cases hst
  ·cases hst
 ·rename_i j want hg
  split at hst
  ·rename_i G hG
   split at hst
   ·rename_i e he
    split at hst
    ·rename_i cs' v hr
     cases hok : GU N s o.dst (.val (.av v)) with
     | false => rw [hok] at hst; cases hst
     | true =>
      rw [hok] at hst
      simp only [cond_true, Option.some.injEq, Prod.mk.injEq] at hst
      obtain ⟨rfl, rfl⟩ := hst
      refine ⟨.val (.grd G v), hok, rfl, ?_, fun hn => ?_⟩
      ·unfold DH; rw [hg]; rfl
      ·unfold GA at hn; rw [hg] at hn; cases hn
    ·cases hst
   ·cases hok : GU N s o.dst (.val (.av (.one (.val (.bool false))))) with
    | false => rw [hok] at hst; cases hst
    | true =>
     rw [hok] at hst
     simp only [cond_true, Option.some.injEq, Prod.mk.injEq] at hst
     obtain ⟨rfl, rfl⟩ := hst
     refine ⟨.val (.grd G (.one (.val (.bool false)))), hok, rfl, ?_, fun hn => ?_⟩
     ·unfold DH; rw [hg]; rfl
     ·unfold GA at hn; rw [hg] at hn; cases hn
  ·cases hst
theorem De {o : Oper} {s s1 : AS} {cs : List Prop} (hst : Gk P V N ops o s = some (cs, s1)) : (get s1.t = fun i => if o.dst = some i then get s1.t i else get s.t i) /\ (get s1.h = fun n => if n ∈ DH P V o s then get s1.h n else get s.h n) := by
 obtain ⟨g, hok, rfl, hfw, _⟩ := Jn hst
 rw [hfw, HF, LO hok]
 exact FZ s o.dst g
theorem Jm {o : Oper} {s s1 : AS} {cs : List Prop} (hst : Gk P V N ops o s = some (cs, s1)) (hn : GA P V o s = true) {d : Nat} (hd : o.dst = some d) : Ki (get s.t) (get s.h) d := by
 obtain ⟨g, hok, rfl, _, hk⟩ := Jn hst
 rcases hk hn with ⟨b, v, rfl⟩ | ⟨n, b, v, rfl⟩
 ·rw [hd] at hok
  simp only [GU, Option.any_some, Bool.and_eq_true] at hok
  exact Gs hok.1.2
 ·rw [hd] at hok
  simp only [GU, Option.any_some, Bool.and_eq_true] at hok
  exact Gs hok.1.2
end
end
section
open Go.RowKit
def AWp (P : Program) (rd : Option Nat) (N : Nat) (W0 : World) (X : Nat -> Option Loc) (M0 : Nat -> Option Obj) (c : Code) (Q : Exit -> AS -> Prop) (s : AS) : Prop :=
 ∀ M σ a w, Sim N W0 X M0 M σ (get s.t) (get s.h) a w -> c.wpIn (FW rd) 0 P (fun e a' w' => ∃ s' M' σ', Q e s' /\ Sim N W0 X M0 M' σ' (get s'.t) (get s'.h) a' w') a w
def ATh (K : AS -> Prop) (Q : Exit -> AS -> Prop) : Exit -> AS -> Prop
 | .normal, s => K s
 | e, s => Q e s
def ABl (id : Nat) (Q : Exit -> AS -> Prop) : Exit -> AS -> Prop
 | .exit id', s => if id' = id then Q .normal s else Q (.exit id') s
 | e, s => Q e s
def Gq {α : Type} (l : List (Nat × α)) : List Nat -> List (Nat × α)
 | [] => []
 | n :: r => match get l n with
  | some v => (n, v) :: Gq l r
  | none => Gq l r
def KH (ts hs : List Nat) (s : AS) : AS := ⟨Gq s.t ts, Gq s.h hs⟩
theorem GC {α : Type} (l : List (Nat × α)) : ∀ (ns : List Nat) (n : Nat) (v : α), get (Gq l ns) n = some v -> get l n = some v
 | [], n, v, h => by cases h
 | k :: r, n, v, h => by
  simp only [Gq] at h
  split at h
  ·rename_i u hu
   simp only [get, CW] at h
   by_cases hk : k = n
   ·subst hk; simp at h; subst h; exact hu
   ·simp [hk] at h; exact GC l r n v h
  ·exact GC l r n v h
def Gr (l : List (Nat × FuncId × List Av × Ef)) (d : Nat) : Option (FuncId × List Av × Ef) := get l d
inductive GM (P : Program) : List (Nat × FuncId × List Av × Ef) -> Prop
 | nil : GM P []
 | cons {d : Nat} {c : FuncId × List Av × Ef} {l : List (Nat × FuncId × List Av × Ef)} : A1 P c.1 c.2.1 c.2.2 -> GM P l -> GM P ((d, c) :: l)
theorem GM.env {P : Program} {E : TypeId -> Option (List Kd)} (hE : HZ P ⟨fun _ => none, E, fun _ => false, fun _ => none⟩) {O : Nat -> Bool} {q : Nat -> Option (Bool × Nat)} {l : List (Nat × FuncId × List Av × Ef)} (hl : GM P l) : Ij P ⟨Gr l, E, O, q⟩ := by
 refine ⟨hE, fun d f xs e h => ?_⟩
 have hm : (d, f, xs, e) ∈ l := DU h
 clear h
 induction hl with
 | nil => cases hm
 | cons h1 _ ih =>
  cases hm with
  | head => exact h1
  | tail _ hm => exact ih hm
def Bc : List Nat -> Nat -> Bool
 | [], _ => false
 | k :: r, n => bif Nat.beq k n then true else Bc r n
def Al (x : List Av) : Prop := x = x
def Me (b : List Blk) : Prop := b = b
def BH (b : Blk) : Prop := b = b
def A64 (a b : Int) : Int := IntKind.i64.wrap ((BitVec.ofInt 64 a &&& BitVec.ofInt 64 b).toNat)
def W64 (x : Int) : Int := IntKind.i64.wrap x
theorem Cp {p : Prop} [Decidable p] (h : (!decide p) = true) : ¬ p := by simpa using h
theorem Ck {p : Prop} [Decidable p] (h : (!decide p) = false) : p := by simpa using h
theorem C1 (x : Int) : W64 x = (x + 9223372036854775808) % 18446744073709551616 - 9223372036854775808 := by
 unfold W64; rw [IntKind.wrap_i64]
theorem BP {x : Int} (h1 : -9223372036854775808 <= x) (h2 : x <= 9223372036854775807) : W64 x = x := by
 unfold W64; rw [IntKind.wrap_i64]; omega
def lst {α : Type} [Inhabited α] (sz : Nat) (c : α -> List Cl) (xs : List α) : Cl := .list false sz xs.length fun i j => (c (xs.getD i default)).getD j default
def wrI (n : Nat) (b0 : Blk) (r : Tv) (b1 : Blk) : Ef := .wr n [] fun b _ => some ([b = b0], r, b1)
def rdI (ns : List Nat) (bs : List Blk) (r : Tv) : Ef := .rd ns fun b => some ([b = bs], r)
def Mw (P : Program) (V : Env P) (N : Nat) (l : List Oper) (ts hs : List Nat) (s : AS) : Option (List Prop × AS) := match JS P V N l.toArray l s with
 | some (cs, s1) => some (cs, KH ts hs s1)
 | none => none
theorem AJ {K : AS -> Prop} {Q : Exit -> AS -> Prop} {s : AS} (h : K s) : ATh K Q .normal s := h
theorem BI {K : AS -> Prop} {Q : Exit -> AS -> Prop} {s : AS} {id : Nat} (h : Q (.exit id) s) : ATh K Q (.exit id) s := h
theorem BO {K : AS -> Prop} {Q : Exit -> AS -> Prop} {s : AS} (h : Q .ret s) : ATh K Q .ret s := h
theorem Bq {Q : Exit -> AS -> Prop} {s : AS} {id : Nat} (h : Q .normal s) : ABl id Q .normal s := h
theorem CD {Q : Exit -> AS -> Prop} {s : AS} {id : Nat} (h : Q .ret s) : ABl id Q .ret s := h
theorem Ba {Q : Exit -> AS -> Prop} {s : AS} {id : Nat} (h : Q .normal s) : ABl id Q (.exit id) s := by simp only [ABl, if_true]; exact h
section
variable {P : Program} {V : Env P} {rd : Option Nat} {N : Nat} {W0 : World} {X : Nat → Option Loc} {M0 M : Nat → Option Obj} {σ : Nat → Loc} {w : World} {a : Act} {Q : Exit → AS → Prop} {s : AS}
theorem Sw {S : AS} (hs : Sim N W0 X M0 M σ (get s.t) (get s.h) a w) (ht : ∀ i v, get S.t i = some v -> get s.t i = some v) (hh : ∀ i v, get S.h i = some v -> get s.h i = some v) : Sim N W0 X M0 M σ (get S.t) (get S.h) a w :=
 ⟨hs.os, hs.tape, hs.output, hs.size, hs.old, hs.sub, hs.new, hs.pin, hs.defers, hs.room, fun i v h => hs.tmps i v (ht i v h), hs.imm, fun n b h => hs.blk n b (hh n b h), fun n b h => hs.loc n b (hh n b h), fun n m b c h1 h2 => hs.inj n m b c (hh n b h1) (hh m c h2)⟩
theorem Eu (hs : Sim N W0 X M0 M σ (get s.t) (get s.h) a w) (ts ns : List Nat) : Sim N W0 X M0 M σ (get (KH ts ns s).t) (get (KH ts ns s).h) a w := Sw hs (fun i v h => GC _ _ _ _ h) (fun i v h => GC _ _ _ _ h)
theorem AC {x y : Code} (h : AWp P rd N W0 X M0 x (ATh (AWp P rd N W0 X M0 y Q) Q) s) : AWp P rd N W0 X M0 (.seq x y) Q s := by
 intro M σ a w hs
 refine wpIn_seq (wpIn_mono (h M σ a w hs) ?_)
 rintro e a' w' ⟨s', M', σ', h1, h2⟩
 cases e with
 | normal => exact h1 M' σ' a' w' h2
 | _ => exact ⟨s', M', σ', h1, h2⟩
theorem Ak (h : Q .normal s) : AWp P rd N W0 X M0 .skip Q s := fun M σ a w hs => wpIn_skip ⟨s, M, σ, h, hs⟩
theorem Aj (h : Q .ret s) : AWp P rd N W0 X M0 .ret Q s := fun M σ a w hs => wpIn_ret ⟨s, M, σ, h, hs⟩
theorem BZ {id : Nat} (h : Q (.exit id) s) : AWp P rd N W0 X M0 (.exit id) Q s := fun M σ a w hs => wpIn_exit ⟨s, M, σ, h, hs⟩
theorem Af {id : Nat} {c : Code} (h : AWp P rd N W0 X M0 c (ABl id Q) s) : AWp P rd N W0 X M0 (.block id c) Q s := by
 intro M σ a w hs
 refine wpIn_block (wpIn_mono (h M σ a w hs) ?_)
 rintro e a' w' ⟨s', M', σ', h1, h2⟩
 cases e with
 | exit id' =>
  simp only [ABl] at h1
  simp only [Exit.inBlock]
  split
  ·rename_i he; rw [if_pos he] at h1; exact ⟨s', M', σ', h1, h2⟩
  ·rename_i he; rw [if_neg he] at h1; exact ⟨s', M', σ', h1, h2⟩
 | _ => exact ⟨s', M', σ', h1, h2⟩
theorem Ae {c : Operand} {x y : Code} (b : Bool) (hc : evT (get s.t) c = some (.av (.one (.val (.bool b))))) (h1 : b = true -> AWp P rd N W0 X M0 x Q s) (h2 : b = false -> AWp P rd N W0 X M0 y Q s) : AWp P rd N W0 X M0 (.cond c x y) Q s := by
 intro M σ a w hs
 have hv : a.eval c = .bool b := (Fb hs.tmps hc).1
 exact wpIn_cond_split hv (fun hb => h1 hb M σ a w hs) (fun hb => h2 hb M σ a w hs)
theorem Db {c : Operand} {x y : Code} (hc : evT (get s.t) c = some (.av (.one (.val (.bool true))))) (h1 : AWp P rd N W0 X M0 x Q s) : AWp P rd N W0 X M0 (.cond c x y) Q s := Ae true hc (fun _ => h1) (fun h => by cases h)
theorem EH {c : Operand} {x y : Code} (hc : evT (get s.t) c = some (.av (.one (.val (.bool false))))) (h1 : AWp P rd N W0 X M0 y Q s) : AWp P rd N W0 X M0 (.cond c x y) Q s := Ae false hc (fun h => by cases h) (fun _ => h1)
theorem Lq (hV : Ij P V) {ops : Array Oper} {Q' : Exit -> Act -> World -> Prop} : ∀ (l : List Oper) (s s1 : AS) (cs : List Prop), JS P V N ops l s = some (cs, s1) -> CA cs -> ∀ M σ a w, Sim N W0 X M0 M σ (get s.t) (get s.h) a w -> (∀ M' σ' a' w', Sim N W0 X M0 M' σ' (get s1.t) (get s1.h) a' w' -> Q' .normal a' w') -> wpListIn (FW rd) 0 P ops Q' l a w
 | [], s, s1, cs, hr, hc, M, σ, a, w, hs, hK => by
  simp only [JS, Option.some.injEq, Prod.mk.injEq] at hr
  obtain ⟨_, rfl⟩ := hr
  exact hK M σ a w hs
 | o :: l, s, s1, cs, hr, hc, M, σ, a, w, hs, hK => by
  simp only [JS] at hr
  split at hr
  ·rename_i cs1 s2 h1
   split at hr
   ·rename_i ds s3 h2
    simp only [Option.some.injEq, Prod.mk.injEq] at hr
    obtain ⟨rfl, rfl⟩ := hr
    obtain ⟨hc1, hc2⟩ := hc.append
    refine wpListIn_step fun K hK' => ?_
    refine Jo hV h1 hc1 hs (fun _ _ => rfl) (fun _ _ => rfl) (fun hn d hd => Jm h1 hn hd) fun M' σ' a' w' hs' => hK' _ _ (Lq hV l s2 s3 ds h2 hc2 M' σ' a' w' ?_ hK)
    rw [(De h1).1, (De h1).2]
    exact hs'
   ·cases hr
  ·cases hr
theorem Da {E : TypeId -> Option (List Kd)} (hE : HZ P ⟨fun _ => none, E, fun _ => false, fun _ => none⟩) {id : Nat} {l : List Oper} (ow : List Nat) (qs : List (Nat × (Bool × Nat))) (tbl : List (Nat × FuncId × List Av × Ef)) (ts ns : List Nat) (cs : List Prop) (S : AS) (htbl : GM P tbl) (hr : Mw P ⟨Gr tbl, E, Bc ow, get qs⟩ N l ts ns s = some (cs, S)) (hc : CA cs) (h : Q .normal S) : AWp P rd N W0 X M0 (.region id l.toArray false) Q s := by
 have hV := htbl.env (O := Bc ow) (q := get qs) hE
 intro M σ a w hs
 unfold Mw at hr
 split at hr
 ·rename_i cs1 s1 h1
  simp only [Option.some.injEq, Prod.mk.injEq] at hr
  obtain ⟨rfl, rfl⟩ := hr
  exact wpIn_region_lit (Lq hV l s s1 cs1 h1 hc M σ a w hs fun M' σ' a' w' hs' => ⟨_, M', σ', h, Eu hs' ts ns⟩)
 ·cases hr
theorem Tt {ι : Type} {c : Code} (S : ι -> AS) (Inv : ι -> Prop) (μ : ι -> Nat) (round : ∀ x, Inv x -> AWp P rd N W0 X M0 c (ATh (fun s' => ∃ y, Inv y /\ μ y < μ x /\ s' = S y) Q) (S x)) (x : ι) (hx : Inv x) : AWp P rd N W0 X M0 (.loop c) Q (S x) := by
 have key : ∀ n x, μ x < n -> Inv x -> ∀ M σ a w, Sim N W0 X M0 M σ (get (S x).t) (get (S x).h) a w -> Code.roundsIn (FW rd) 0 P c (fun e a' w' => ∃ s' M' σ', Q e s' /\ Sim N W0 X M0 M' σ' (get s'.t) (get s'.h) a' w') n a w := by
  intro n
  induction n with
  | zero => intro x h; omega
  | succ n ih =>
   intro x hlt hx M σ a w hs
   rw [roundsIn_succ]
   refine wpIn_mono (round x hx M σ a w hs) ?_
   rintro e a' w' ⟨s', M', σ', h1, h2⟩
   cases e with
   | normal =>
    obtain ⟨y, hy, hm, rfl⟩ := h1
    exact ih y (by omega) hy M' σ' a' w' h2
   | _ => exact ⟨s', M', σ', h1, h2⟩
 intro M σ a w hs
 exact wpIn_loop_rounds (μ x + 1) (key _ x (Nat.lt_succ_self _) hx M σ a w hs)
def Tv.dv : Tv -> Bool
 | .av x => x.dv
 | .tup l => l.all Av.dv
 | .grd _ _ => false
def S3 (P : Program) (s : AS) : ResultVar -> Option Av
 | .tmp t => match get s.t t with
  | some (.av x) => some x
  | _ => none
 | .cell p T => match get s.t p, ti P T with
  | some (.av (.one (.ptr n off))), some t => match get s.h n with
   | some (.cells l _) => FU t l off
   | _ => none
  | _, _ => none
def QA (P : Program) (s : AS) : List ResultVar -> Option (List Av)
 | [] => some []
 | r :: rs => match S3 P s r, QA P s rs with
  | some x, some l => some (x :: l)
  | _, _ => none
def UP (P : Program) (s : AS) (rs : List ResultVar) : Option Tv := match QA P s rs with
 | some [x] => some (.av x)
 | some l => some (.tup l)
 | none => none
theorem S2 (hs : Sim N W0 X M0 M σ (get s.t) (get s.h) a w) {F : ResultVar -> Sem Value} (hF1 : ∀ t, F (.tmp t) = pure (a.tmps.getD t undef)) (hF2 : ∀ p T, F (.cell p T) = (do loadVar T (<- asAddr (a.tmps.getD p undef)))) {r : ResultVar} {x : Av} (h : S3 P s r = some x) : ∃ U, (F r).run P w = .ok U w /\ RA M σ x U := by
 cases r with
 | tmp t =>
  simp only [S3] at h
  split at h
  ·rename_i y hy
   injection h with h; subst h
   exact ⟨_, by rw [hF1]; rfl, hs.tmps t _ hy⟩
  ·cases h
 | cell p T =>
  simp only [S3] at h
  split at h
  ·rename_i n off t h1 h2
   split at h
   ·rename_i l ty hb
    obtain ⟨hnil, c, hblk, hl⟩ := hs.blk n _ hb
    have hp : a.tmps.getD p undef = .pointer (some ⟨(σ n).b, off, none⟩) := hs.tmps p _ h1
    obtain ⟨U, hU, hR⟩ := Ev (w := w) h2 (b := (σ n).b) (off := 0) hl off (fun j u _ _ hj => by simp only [World.cell?, hblk]; simpa using hj) h
    rw [Nat.zero_add] at hU
    refine ⟨U, ?_, hR⟩
    rw [hF2]
    simp only [hp, asAddr, Sem.run_bind, Sem.run_pure, Result.andThen_ok, hU]
   ·cases h
  ·cases h
theorem PR (hs : Sim N W0 X M0 M σ (get s.t) (get s.h) a w) {F : ResultVar -> Sem Value} (hF1 : ∀ t, F (.tmp t) = pure (a.tmps.getD t undef)) (hF2 : ∀ p T, F (.cell p T) = (do loadVar T (<- asAddr (a.tmps.getD p undef)))) : ∀ {rs : List ResultVar} {l : List Av}, QA P s rs = some l -> ∃ vs : List Value, (rs.mapM F).run P w = .ok vs w /\ L2 (RA M σ) l vs
 | [], l, h => by simp only [QA, Option.some.injEq] at h; subst h; exact ⟨[], by simp, .nil⟩
 | r :: rs, l, h => by
  simp only [QA] at h
  split at h
  ·rename_i x l' h1 h2
   injection h with h; subst h
   obtain ⟨U, hU, hR⟩ := S2 hs hF1 hF2 h1
   obtain ⟨vs, hvs, hL⟩ := PR hs hF1 hF2 h2
   refine ⟨U :: vs, ?_, .cons hR hL⟩
   rw [List.mapM_cons]
   simp only [Sem.run_bind, Sem.run_pure]
   rw [hU]
   simp only [Result.andThen_ok]
   rw [hvs]
   rfl
  ·cases h
theorem PQ (hs : Sim N W0 X M0 M σ (get s.t) (get s.h) a w) {fn : Func} {r : Tv} (h : UP P s fn.results.toList = some r) : ∃ U, (results fn a.tmps).run P w = .ok U w /\ RT M σ r U := by
 unfold UP at h
 have hm : ∀ l, QA P s fn.results.toList = some l -> ∃ vs : List Value, (results fn a.tmps).run P w = .ok (if h : vs.toArray.size = 1 then vs.toArray[0] else .tuple vs.toArray) w /\ L2 (RA M σ) l vs := by
  intro l hl
  unfold results
  rw [Array.mapM_eq_mapM_toList]
  simp only [Sem.run_bind, Sem.run_map]
  have key : ∀ F : ResultVar -> Sem Value, (∀ t, F (.tmp t) = pure (a.tmps.getD t undef)) -> (∀ p T, F (.cell p T) = (do loadVar T (<- asAddr (a.tmps.getD p undef)))) -> ∃ vs : List Value, (((fn.results.toList.mapM F).run P w).andThen fun a w' => .ok a.toArray w').andThen (fun a w' => (pure (if h : a.size = 1 then a[0] else Value.tuple a) : Sem Value).run P w') = .ok (if h : vs.toArray.size = 1 then vs.toArray[0] else .tuple vs.toArray) w /\ L2 (RA M σ) l vs := fun F hF1 hF2 => by
   obtain ⟨vs, h1, h2⟩ := PR hs hF1 hF2 hl
   refine ⟨vs, ?_, h2⟩
   rw [h1]
   rfl
  exact key _ (fun _ => rfl) (fun _ _ => rfl)
 split at h
 ·rename_i x hx
  injection h with h; subst h
  obtain ⟨vs, h1, h2⟩ := hm _ hx
  cases h2 with | cons h3 h4 =>
  cases h4
  exact ⟨_, h1, h3⟩
 ·rename_i l hne hl
  injection h with h; subst h
  obtain ⟨vs, h1, h2⟩ := hm _ hl
  have : ¬ vs.toArray.size = 1 := by
   have := h2.length
   intro e
   simp at e
   match l, this with
   | [x], _ => exact hne x rfl
   | [], h => simp at h; omega
   | _ :: _ :: _, h => simp at h; omega
  rw [dif_neg this] at h1
  exact ⟨_, h1, vs, rfl, h2⟩
 ·cases h
def RetQ (P : Program) (fn : Func) (φ : Tv -> AS -> Prop) : Exit -> AS -> Prop := fun e s => (e = .ret \/ e = .normal) /\ ∃ r, UP P s fn.results.toList = some r /\ φ r s
def EP : Nat -> List Av -> List (Nat × Tv)
 | _, [] => []
 | k, x :: r => (k, .av x) :: EP (k + 1) r
theorem Ht : ∀ (l : List Av) (k i : Nat) (v : Tv), get (EP k l) i = some v -> k <= i /\ ∃ x, l[i - k]? = some x /\ v = .av x
 | [], k, i, v, h => by cases h
 | y :: r, k, i, v, h => by
  simp only [EP, get, CW] at h
  by_cases hk : k = i
  ·subst hk; simp at h; subst h; exact ⟨Nat.le_refl _, y, by simp, rfl⟩
  ·simp [hk] at h
   obtain ⟨h1, x, h2, h3⟩ := Ht r (k + 1) i v h
   refine ⟨by omega, x, ?_, h3⟩
   rw [show i - k = (i - (k + 1)) + 1 by omega, List.getElem?_cons_succ]
   exact h2
theorem Q8 {T : Nat -> Option Tv} {H : Nat -> Option Blk} {tm : Array Value} {d : Deferred} {ds : List Deferred} (hs : Sim N W0 X M0 M σ T H { tmps := tm, defers := d :: ds } w) :
  ∃ D w' M', d.target = .collected D /\ (Instr.takeDeferred D).run P w = .ok [] w' /\ Sim N W0 X M0 M' σ T H { tmps := tm, defers := ds } w' := by
 obtain ⟨⟨⟨D, rfl, hD, h0, hne⟩, hds⟩, hfl⟩ := hs.defers
 have hw := hs.imm D _ hD
 have hlt : D < w.heap.size := (Array.getElem?_eq_some_iff.1 hw).1
 have hother : ∀ b, b ≠ D -> (w.putObj D (.deferred none)).heap[b]? = w.heap[b]? := fun b hb => World.putObj_heap_other (fun e => hb e)
 obtain ⟨M', hM⟩ : ∃ M' : Nat -> Option Obj, M' = fun b => if b = D then none else M b := ⟨_, rfl⟩
 have hM1 : ∀ b, b ≠ D -> M' b = M b := fun b hb => by subst hM; simp [hb]
 have hMD : M' D = none := by subst hM; simp
 have hcell : ∀ b o v, D1 M b o = some v -> D1 M' b o = some v := fun b o v hc => by
  by_cases hb : b = D
  ·subst hb; simp [D1, hD] at hc
  ·unfold D1 at *; rw [hM1 b hb]; exact hc
 have hRC : ∀ {c : Cl} {V : Value}, RC M c V -> RC M' c V := fun h => by
  induction h with
  | val v h => exact .val v h
  | nil t sz f h0 => exact .nil t sz f h0
  | mt t sz f a cap => exact .mt t sz f a cap
  | clo f k caps cs h1 _ ih => exact .clo f k caps cs h1 ih
  | list t sz len f b off cap g h1 _ h4 ih => exact .list t sz len f b off cap g (fun i j hi hj => hcell _ _ _ (h1 i j hi hj)) ih h4
  | eptr sz len f i off b base g h1 _ ih => exact .eptr sz len f i off b base g (fun j hj => hcell _ _ _ (h1 j hj)) ih
  | mp agg nv len kf vf b es clock g k0 h1 h2 _ ih => exact .mp agg nv len kf vf b es clock g (by rw [hM1 b (fun e => by subst e; rw [hD] at k0; cases k0)]; exact k0) h1 h2 ih
  | any V h => exact .any V h
 have hR : ∀ {c : Cl} {V : Value}, R M σ c V -> R M' σ c V := by
  intro c
  induction c with
  | list => intro V h; exact hRC h
  | eptr => intro V h; exact hRC h
  | mp => intro V h; exact hRC h
  | clo f k caps ih =>
   intro V h
   obtain ⟨cs, h1, h2, h3⟩ := h
   exact ⟨cs, h1, h2, fun i hi => ih i (h3 i hi)⟩
  | val v => intro V h; exact h
  | ptr => intro V h; exact h
  | own => intro V h; exact h
  | rptr => intro V h; exact h
  | om => intro V h; exact h
  | any => intro V h; exact h
 have hRA : ∀ {x : Av} {V : Value}, RA M σ x V -> RA M' σ x V := fun {x V} h => by
  cases x with
  | one c => exact hR h
  | agg l => obtain ⟨vs, h1, h2⟩ := h; exact ⟨vs, h1, h2.mono fun _ _ _ h => hR h⟩
 have hRT : ∀ {x : Tv} {V : Value}, RT M σ x V -> RT M' σ x V := fun {x V} h => by
  cases x with
  | av x => exact hRA h
  | tup l => obtain ⟨vs, h1, h2⟩ := h; exact ⟨vs, h1, h2.mono fun _ _ _ h => hRA h⟩
  | grd g x => exact ⟨fun hg => hRA (h.1 hg), h.2⟩
 have hblkne : ∀ n b, H n = some b -> (σ n).nil = false -> (σ n).b ≠ D := fun n b hb hn e => by
  rcases hs.loc n b hb with h | ⟨h1, _⟩
  ·rw [hn] at h; cases h
  ·rw [e, hD] at h1; cases h1
 refine ⟨D, _, M', rfl, run_takeDeferred hw, ⟨hs.os, hs.tape, hs.output, by simpa using hs.size, fun b hb hx => ?_, fun b o h => ?_, fun b o h h' => ?_, hs.pin, ?_, hs.room, fun i v h => hRT (hs.tmps i v h), fun b o h => ?_, fun n b h => ?_, fun n b h => ?_, hs.inj⟩⟩
 ·have : b ≠ D := fun e => by subst e; have := hs.new _ _ hD h0; omega
  rw [hother b this]; exact hs.old b hb hx
 ·have : b ≠ D := fun e => by subst e; rw [h0] at h; cases h
  rw [hM1 b this]; exact hs.sub b o h
 ·by_cases e : b = D
  ·subst e; rw [hMD] at h; cases h
  ·rw [hM1 b e] at h; exact hs.new b o h h'
 ·have : ∀ l : List Deferred, (∀ d' ∈ l, d' ≠ { target := .collected D, args := #[] }) -> Fh M0 M l -> Fh M0 M' l := by
   intro l
   induction l with
   | nil => intro _ _; trivial
   | cons d l ih =>
    rintro hl ⟨⟨D', h1, h2, h3, h4⟩, h5⟩
    refine ⟨⟨D', h1, ?_, h3, h4⟩, ih (fun d' hd => hl d' (by simp [hd])) h5⟩
    have : D' ≠ D := fun e => by subst e; exact hl d (by simp) h1
    rw [hM1 _ this]; exact h2
  exact ⟨this ds hne hds, fun hf => by cases hfl hf⟩
 ·by_cases e : b = D
  ·subst e; rw [hMD] at h; cases h
  ·rw [hM1 b e] at h; rw [hother b e]; exact hs.imm b o h
 ·have h1 := hs.blk n b h
  cases b with
  | cells l ty =>
   obtain ⟨g0, c, g1, g2⟩ := h1
   exact ⟨g0, c, (hother _ (hblkne n _ h g0)).trans g1, g2.mono fun _ _ _ h => hR h⟩
  | row sz len f ty =>
   rcases h1 with h1 | ⟨g0, c, g1, g2, g3, g4, g, g5⟩
   ·exact .inl h1
   ·exact .inr ⟨g0, c, (hother _ (hblkne n _ h g0)).trans g1, g2, g3, g4, g, fun i j hi hj => ⟨(g5 i j hi hj).1, hRC (g5 i j hi hj).2⟩⟩
  | omap agg nv len kf vf =>
   obtain ⟨g0, es, ck, g, g1, g2, g3, g4⟩ := h1
   exact ⟨g0, es, ck, g, (hother _ (hblkne n _ h g0)).trans g1, g2, g3, fun i j hi hj => hRC (g4 i j hi hj)⟩
  | rowx sz len f ty hh =>
   obtain ⟨g0, c, g1, g2, g3, g4, g, g5, g6⟩ := h1
   exact ⟨g0, c, (hother _ (hblkne n _ h g0)).trans g1, g2, g3, g4, g, fun i j hi hj => ⟨(g5 i j hi hj).1, fun hn => hRC ((g5 i j hi hj).2 hn)⟩, fun i l hl => ⟨(g6 i l hl).1, (g6 i l hl).2.mono fun _ _ _ h => hR h⟩⟩
 ·rcases hs.loc n b h with h1 | ⟨h1, h2⟩
  ·exact .inl h1
  ·by_cases hn : (σ n).nil = true
   ·exact .inl hn
   ·refine .inr ⟨?_, h2⟩
    rw [hM1 _ (hblkne n b h (by simpa using hn))]; exact h1
theorem IH {fn : Func} {R : Ending -> World -> Prop} {T : Nat -> Option Tv} {H : Nat -> Option Blk} {tm : Array Value} : ∀ (ds : List Deferred) {M : Nat -> Option Obj} {w : World}, Sim N W0 X M0 M σ T H { tmps := tm, defers := ds } w ->
  (∀ M'' w'', Sim N W0 X M0 M'' σ T H { tmps := tm, defers := [] } w'' -> ∃ U, (results fn tm).run P w'' = .ok U w'' /\ R (.returned U) w'') -> LeavesInM (FW none) 0 P fn tm R ds .returning w
 | [], M, w, hs, hR => hR M w hs
 | d :: ds, M, w, hs, hR => by
  obtain ⟨D, w', M', h1, h2, h3⟩ := Q8 (P := P) hs
  exact ⟨by simp, .inl ⟨D, w', h1, h2, IH ds h3 hR⟩⟩
theorem EF {f : FuncId} {fn : Func} {c : Code} (hf : P.funcs[f]? = some fn) (hb : fn.body = some c) {xs : List Av} {h0 : List (Nat × Blk)} {args : List Value} {φ : Tv -> AS -> Prop} (hN : xs.length <= fn.ntmps)
  (himm : ∀ b o, M b = some o -> w.heap[b]? = some o) (hargs : L2 (RA M σ) xs args) (hblk : ∀ n b, get h0 n = some b -> Bz M σ w (σ n) b) (hloc : ∀ n b, get h0 n = some b -> (σ n).nil = true \/ (M (σ n).b = none /\ inX X (σ n).b)) (hpin : ∀ n x, X n = some x -> fn.ntmps <= n /\ σ n = x) (hinj : ∀ n m b c, get h0 n = some b -> get h0 m = some c -> n ≠ m -> (σ n).nil = true \/ (σ m).nil = true \/ (σ n).b ≠ (σ m).b)
  (h : AWp P none fn.ntmps w X M c (RetQ P fn φ) ⟨EP 0 xs, h0⟩) {R' : Ending -> World -> Prop} (hR : ∀ r s' M' σ' a' w' U, φ r s' -> Sim fn.ntmps w X M M' σ' (get s'.t) (get s'.h) a' w' -> RT M' σ' r U -> R' (.returned U) w') : Calls P f args.toArray w R' := by
 have hlen := hargs.length
 refine callsIn_wide.1 (callsIn_of_wp_marks (F := FW none) (n := 0) hf hb trivial (wpIn_mono (h M σ _ w ⟨rfl, rfl, rfl, Nat.le_refl _, fun _ _ _ => rfl, fun _ _ h => h, fun _ _ h h' => by (rw [h] at h'; cases h'), hpin, G8.nil, by simp; omega, fun i v hv => ?_, himm, hblk, fun n b hb => (hloc n b hb).imp id fun ⟨h1, h2⟩ => ⟨h1, .inr h2⟩, hinj⟩) ?_))
 ·obtain ⟨_, x, hx, rfl⟩ := Ht _ _ _ _ hv
  rw [Nat.sub_zero] at hx
  obtain ⟨u, hu, hRu⟩ := hargs.get i x hx
  have : (args.toArray ++ Array.replicate (fn.ntmps - args.toArray.size) undef).getD i undef = u := by
   have hi : i < args.length := (List.getElem?_eq_some_iff.1 hu).1
   rw [Array.getD_eq_getD_getElem?, Array.getElem?_append_left (by simpa using hi)]
   simp [hu]
  show RA M σ x _
  rw [this]
  exact hRu
 ·rintro e a' w' ⟨s', M', σ', ⟨he, r, hr, hφ⟩, hs'⟩
  have key := IH (fn := fn) (R := R') a'.defers hs' fun M'' w'' hs'' => by
   obtain ⟨U, hU, hRU⟩ := PQ hs'' hr
   exact ⟨U, hU, hR r s' M'' σ' _ w'' U hφ hs'' hRU⟩
  rcases he with rfl | rfl
  ·exact key
  ·exact key
def Bo (P : Program) (f : FuncId) (xs : List Av) (r : Tv) : Prop := ∀ (M : Nat -> Option Obj) (σ : Nat -> Loc) (w : World) (args : List Value), (∀ b o, M b = some o -> w.heap[b]? = some o) -> L2 (RA M σ) xs args ->
 Calls P f args.toArray w fun en w' => ∃ U, en = .returned U /\ ∃ M', Fz w w' M M' NN /\ ∀ σ', RT M' σ' r U
theorem Fy {M : Nat -> Option Obj} {σ σ' : Nat -> Loc} {r : Tv} {U : Value} (hd : r.dv = true) (h : RT M σ r U) : RT M σ' r U := by
 have cl : ∀ {c : Cl} {U : Value}, c.dv = true -> R M σ c U -> R M σ' c U := fun hd h => (HY hd).2 ((HY hd).1 h)
 have av : ∀ {x : Av} {U : Value}, x.dv = true -> RA M σ x U -> RA M σ' x U := fun {x U} hd h => by
  cases x with
  | one c => exact cl hd h
  | agg l => obtain ⟨vs, h1, h2⟩ := h; exact ⟨vs, h1, h2.mono fun c hc b hb => cl ((List.all_eq_true.1 hd) c hc) hb⟩
 cases r with
 | av x => exact av hd h
 | tup l => obtain ⟨vs, h1, h2⟩ := h; exact ⟨vs, h1, h2.mono fun c hc b hb => av ((List.all_eq_true.1 hd) c hc) hb⟩
 | grd g x => cases hd
theorem Aa {f : FuncId} {xs : List Av} {cs : List Prop} {r : Tv} (h1 : ∀ args w, (callFunc f args).run P w = .ok (.enter f args) w) (h : CA cs -> Bo P f xs r) : A1 P f xs (.val cs r) := by
 refine .inl ⟨h1, fun M σ w h' args cs' g hs hargs hr hc => ?_⟩
 obtain ⟨rfl, rfl⟩ := Bi hr
 refine (h hc M σ w args hs.imm hargs).mono ?_
 rintro en w' ⟨U, hU, M', hk, hR⟩
 exact ⟨U, hU, fun dst _ => ⟨M', σ, hk, rfl, hR σ⟩⟩
end
end
section
open Go.RowKit
structure Rec where
 rd : List Nat
 dst : Option Nat
 hr : List Nat
 hw : List Nat
 new : Bool
 out : Nat -> Bool
def F4 (P : Program) (V : Env P) (ops : Array Oper) (o : Oper) (s s1 : AS) : Rec :=
 ⟨o.looksAt ops, o.dst, Gt P V ops o s, DH P V o s, GA P V o s, fun d => (match o.dst with | some x => (match get s1.t x with | some v => v.no d | none => true) | none => true) && (DH P V o s).all fun n => match get s1.h n with | some b => b.no d && !Nat.beq n d | none => true⟩
def RH (P : Program) (V : Env P) (N : Nat) (ops : Array Oper) : List Oper -> AS -> Option (List Rec)
 | [], _ => some []
 | o :: l, s => match Gk P V N ops o s with
  | some (_, s1) => (RH P V N ops l s1).map (F4 P V ops o s s1 :: ·)
  | none => none
def P4 (acc : List Nat) (o : Oper) : Nat := o.after.toList.foldl (fun m e => bif Region.binds .any e then m ||| (1 <<< e.on) ||| acc.getD e.on 0 else m) 0
def DC : List Oper -> List Nat -> List Nat
 | [], acc => acc
 | o :: l, acc => DC l (acc ++ [P4 acc o])
def Kw (l : List Nat) (n : Nat) : Bool := l.any (Nat.beq n)
def PA (a b : Rec) : Bool :=
 (match a.dst with | some d => Kw b.rd d || (match b.dst with | some e => Nat.beq e d | none => false) | none => false) ||
 (match b.dst with | some d => Kw a.rd d | none => false) || (a.hw.any fun n => Kw b.hr n || Kw b.hw n) || (b.hw.any fun n => Kw a.hr n)
def UU (A : List Nat) (R : List Rec) : Bool :=
 R.zipIdx.all fun (b, j) => R.zipIdx.all fun (a, i) =>
  (Nat.ble j i || !PA a b || (A.getD j 0).testBit i) &&
  (Nat.beq i j || !a.new || (A.getD j 0).testBit i || (match a.dst with | some d => b.out d | none => true))
def Nz (l : List Oper) : Bool := l.zipIdx.all fun (o, j) => o.after.toList.all fun e => !Region.binds .any e || Nat.ble (e.on + 1) j
def P0 (P : Program) (V : Env P) (N : Nat) (l : List Oper) (s : AS) : Bool := match RH P V N l.toArray l s with
 | some R => Nz l && UU (DC l []) R && R.all fun r => !r.new || (match r.dst with | some d => KN s d | none => true)
 | none => false
theorem IG : ∀ (l : List Oper) (acc : List Nat), (DC l acc).length = acc.length + l.length
 | [], acc => rfl
 | o :: l, acc => by simp [DC, IG l]; omega
theorem In : ∀ (l : List Oper) (acc : List Nat) (i : Nat), i < acc.length -> (DC l acc)[i]? = acc[i]?
 | [], acc, i, _ => rfl
 | o :: l, acc, i, h => by
  simp only [DC]
  rw [In l _ i (by simp; omega), List.getElem?_append_left h]
theorem LG : ∀ (l : List Oper) (acc : List Nat) (j : Nat) (o : Oper), l[j]? = some o -> (DC l acc)[acc.length + j]? = some (P4 ((DC l acc).take (acc.length + j)) o)
 | [], acc, j, o, h => by simp at h
 | o' :: l, acc, 0, o, h => by
  simp at h; subst h
  simp only [DC, Nat.add_zero]
  rw [In l _ _ (by simp)]
  have : (DC l (acc ++ [P4 acc o'])).take acc.length = acc := by
   apply List.ext_getElem?
   intro i
   rw [List.getElem?_take]
   split
   ·rename_i hi; rw [In l _ i (by simp; omega), List.getElem?_append_left hi]
   ·rename_i hi; rw [List.getElem?_eq_none (by omega)]
  rw [this]
  simp
 | o' :: l, acc, j + 1, o, h => by
  simp only [DC]
  have := LG l (acc ++ [P4 acc o']) j o (by simpa using h)
  simp only [List.length_append, List.length_singleton] at this
  rw [show acc.length + (j + 1) = acc.length + 1 + j by omega]
  exact this
theorem Ns (acc : List Nat) (i : Nat) : ∀ (es : List Edge) (m : Nat), (es.foldl (fun m e => bif Region.binds .any e then m ||| (1 <<< e.on) ||| acc.getD e.on 0 else m) m).testBit i = true -> m.testBit i = true \/ ∃ e ∈ es, Region.binds .any e = true /\ (i = e.on \/ (acc.getD e.on 0).testBit i = true)
 | [], m, h => .inl h
 | e :: es, m, h => by
  simp only [List.foldl_cons] at h
  rcases Ns acc i es _ h with h | ⟨e', he, hb⟩
  ·cases hb : Region.binds .any e with
   | false => rw [hb] at h; exact .inl h
   | true =>
    rw [hb] at h
    simp only [cond_true, Nat.testBit_or, Bool.or_eq_true] at h
    rcases h with (h | h) | h
    ·exact .inl h
    ·refine .inr ⟨e, by simp, hb, .inl ?_⟩
     rw [Nat.testBit_shiftLeft] at h
     simp only [Bool.and_eq_true, decide_eq_true_eq] at h
     have : (1 : Nat).testBit (i - e.on) = true := h.2
     have h1 : i - e.on = 0 := by
      rcases Nat.eq_zero_or_pos (i - e.on) with h0 | h0
      ·exact h0
      ·rw [Nat.testBit_one_eq_true_iff_self_eq_zero] at this; exact this
     omega
    ·exact .inr ⟨e, by simp, hb, .inr h⟩
  ·exact .inr ⟨e', by simp [he], hb⟩
theorem Gm {l : List Nat} {n : Nat} : Kw l n = true ↔ n ∈ l := by
 simp only [Kw, List.any_eq_true, CW, decide_eq_true_eq]
 exact ⟨fun ⟨x, hx, he⟩ => he ▸ hx, fun h => ⟨n, h, rfl⟩⟩
section
variable {P : Program} {V : Env P} {rd : Option Nat} {N : Nat} {W0 : World} {X : Nat → Option Loc} {M0 : Nat → Option Obj} {l : List Oper} {s0 : AS}
def Mp (l : List Oper) (L : Array Bool) : Prop := ∀ j o, l[j]? = some o -> L.getD j false = true -> ∀ e ∈ o.after, Region.binds .any e = true -> L.getD e.on false = true
theorem Hx (hb : Nz l = true) {L : Array Bool} (hL : Mp l L) : ∀ (n j : Nat), j < n -> ∀ o, l[j]? = some o -> (∀ e ∈ o.after, Region.binds .any e = true -> L.getD e.on false = true) -> ∀ i, ((DC l []).getD j 0).testBit i = true -> L.getD i false = true /\ i < j
 | n + 1, j, hj, o, ho, hd, i, hi => by
  have hm := LG l [] j o ho
  simp only [List.length_nil, Nat.zero_add] at hm
  rw [List.getD_eq_getElem?_getD, hm, Option.getD_some] at hi
  have hlt : ∀ e ∈ o.after, Region.binds .any e = true -> e.on < j := fun e he hbe => by
   have h1 := (List.all_eq_true.1 hb) (o, j) (List.mem_zipIdx_iff_getElem?.2 (by simpa using ho))
   have h2 := (List.all_eq_true.1 h1) e (by simpa using he)
   simp only [hbe, Bool.not_true, Bool.false_or] at h2
   exact Nat.le_of_ble_eq_true h2
  rcases Ns _ i _ 0 hi with h | ⟨e, he, hbe, h⟩
  ·simp at h
  ·have he' : e ∈ o.after := by simpa using he
   have hon := hd e he' hbe
   have helt := hlt e he' hbe
   rcases h with rfl | h
   ·exact ⟨hon, helt⟩
   ·have hget : ((DC l []).take j).getD e.on 0 = (DC l []).getD e.on 0 := by
     rw [List.getD_eq_getElem?_getD, List.getD_eq_getElem?_getD, List.getElem?_take_of_lt helt]
    rw [hget] at h
    cases hoo : l[e.on]? with
    | none =>
     have : (DC l []).getD e.on 0 = 0 := by
      rw [List.getD_eq_getElem?_getD, List.getElem?_eq_none (by rw [IG]; simp; exact List.getElem?_eq_none_iff.1 hoo)]; rfl
     rw [this] at h; simp at h
    | some o2 =>
     have := Hx hb hL n e.on (by omega) o2 hoo (hL e.on o2 hoo hon) i h
     exact ⟨this.1, by omega⟩
def stN (P : Program) (V : Env P) (N : Nat) (l : List Oper) (s0 : AS) : Nat -> AS
 | 0 => s0
 | k + 1 => match l[k]? with
  | some o => (match Gk P V N l.toArray o (stN P V N l s0 k) with
   | some (_, s1) => s1
   | none => stN P V N l s0 k)
  | none => stN P V N l s0 k
theorem Jp : ∀ (r : List Oper) (k : Nat) (s s1 : AS) (cs : List Prop), (∀ j, r[j]? = l[k + j]?) -> s = stN P V N l s0 k -> JS P V N l.toArray r s = some (cs, s1) -> CA cs ->
  s1 = stN P V N l s0 (k + r.length) /\ ∀ j o, r[j]? = some o -> ∃ ds, Gk P V N l.toArray o (stN P V N l s0 (k + j)) = some (ds, stN P V N l s0 (k + j + 1)) /\ CA ds
 | [], k, s, s1, cs, _, hs, hr, _ => by
  simp only [JS, Option.some.injEq, Prod.mk.injEq] at hr
  exact ⟨by rw [<- hr.2]; exact hs, fun j o h => by simp at h⟩
 | o :: r, k, s, s1, cs, hl, hs, hr, hc => by
  simp only [JS] at hr
  split at hr
  ·rename_i cs1 s2 h1
   split at hr
   ·rename_i ds s3 h2
    simp only [Option.some.injEq, Prod.mk.injEq] at hr
    obtain ⟨rfl, rfl⟩ := hr
    obtain ⟨hc1, hc2⟩ := hc.append
    have h0 : l[k]? = some o := by simpa using (hl 0).symm
    have hst : stN P V N l s0 (k + 1) = s2 := by
     simp only [stN, h0]
     rw [<- hs, h1]
    obtain ⟨h3, h4⟩ := Jp r (k + 1) s2 s3 ds (fun j => by have := hl (j + 1); simpa [Nat.add_assoc, Nat.add_comm 1 j] using this) hst.symm h2 hc2
    refine ⟨by rw [h3]; congr 1; simp; omega, fun j o' hj => ?_⟩
    cases j with
    | zero =>
     simp at hj; subst hj
     exact ⟨cs1, by rw [Nat.add_zero, <- hs, hst]; exact h1, hc1⟩
    | succ j =>
     have := h4 j o' (by simpa using hj)
     rwa [show k + 1 + j = k + (j + 1) by omega] at this
   ·cases hr
  ·cases hr
theorem Mz : ∀ (r : List Oper) (k : Nat) (R : List Rec), (∀ j, r[j]? = l[k + j]?) -> RH P V N l.toArray r (stN P V N l s0 k) = some R -> R.length = r.length /\ ∀ j o, r[j]? = some o -> R[j]? = some (F4 P V l.toArray o (stN P V N l s0 (k + j)) (stN P V N l s0 (k + j + 1)))
 | [], k, R, _, h => by simp only [RH, Option.some.injEq] at h; subst h; exact ⟨rfl, fun j o h => by simp at h⟩
 | o :: r, k, R, hl, h => by
  simp only [RH] at h
  split at h
  ·rename_i cs s1 h1
   obtain ⟨R', hR', rfl⟩ := Option.map_eq_some_iff.1 h
   have h0 : l[k]? = some o := by simpa using (hl 0).symm
   have hst : stN P V N l s0 (k + 1) = s1 := by simp only [stN, h0, h1]
   rw [<- hst] at hR'
   obtain ⟨h2, h3⟩ := Mz r (k + 1) R' (fun j => by have := hl (j + 1); simpa [Nat.add_assoc, Nat.add_comm 1 j] using this) hR'
   refine ⟨by simp [h2], fun j o' hj => ?_⟩
   cases j with
   | zero => simp at hj; subst hj; simp [hst]
   | succ j =>
    have := h3 j o' (by simpa using hj)
    rw [show k + 1 + j = k + (j + 1) by omega] at this
    simpa using this
  ·cases h
end
end
section
open Go.RowKit
section
variable {P : Program} {V : Env P} {rd : Option Nat} {N : Nat} {W0 : World} {X : Nat → Option Loc} {M0 : Nat → Option Obj} {l : List Oper} {s0 : AS}
def AgT (l : List Oper) (L : Array Bool) (x k : Nat) : Prop := ∀ j o, l[j]? = some o -> o.dst = some x -> (L.getD j false = true ↔ j < k)
def AgH (P : Program) (V : Env P) (N : Nat) (l : List Oper) (s0 : AS) (L : Array Bool) (m k : Nat) : Prop := ∀ j o, l[j]? = some o -> m ∈ DH P V o (stN P V N l s0 j) -> (L.getD j false = true ↔ j < k)
def G2 (P : Program) (V : Env P) (N : Nat) (l : List Oper) (s0 : AS) : Prop := ∀ (j : Nat) o, l[j]? = some o -> ∃ ds, Gk P V N l.toArray o (stN P V N l s0 j) = some (ds, stN P V N l s0 (j + 1)) /\ CA ds
theorem OC (h : G2 P V N l s0) {x : Nat} : ∀ (d i k : Nat), k = i + d -> k <= l.length -> (∀ (j : Nat) o, i <= j -> j < k -> l[j]? = some o -> o.dst ≠ some x) -> get (stN P V N l s0 k).t x = get (stN P V N l s0 i).t x
 | 0, i, k, hk, _, _ => by subst hk; rfl
 | d + 1, i, k, hk, hkl, hno => by
  subst hk
  have hlt : i + d < l.length := by omega
  obtain ⟨ds, hst, _⟩ := h (i + d) _ (List.getElem?_eq_getElem hlt)
  have hf := congrFun (De hst).1 x
  rw [show i + (d + 1) = i + d + 1 by omega, hf, if_neg (hno (i + d) _ (by omega) (by omega) (List.getElem?_eq_getElem hlt))]
  exact OC h d i (i + d) rfl (by omega) fun j o h1 h2 h3 => hno j o h1 (by omega) h3
theorem OD (h : G2 P V N l s0) {m : Nat} : ∀ (d i k : Nat), k = i + d -> k <= l.length -> (∀ (j : Nat) o, i <= j -> j < k -> l[j]? = some o -> m ∉ DH P V o (stN P V N l s0 j)) -> get (stN P V N l s0 k).h m = get (stN P V N l s0 i).h m
 | 0, i, k, hk, _, _ => by subst hk; rfl
 | d + 1, i, k, hk, hkl, hno => by
  subst hk
  have hlt : i + d < l.length := by omega
  obtain ⟨ds, hst, _⟩ := h (i + d) _ (List.getElem?_eq_getElem hlt)
  have hf := congrFun (De hst).2 m
  rw [show i + (d + 1) = i + d + 1 by omega, hf, if_neg (hno (i + d) _ (by omega) (by omega) (List.getElem?_eq_getElem hlt))]
  exact OD h d i (i + d) rfl (by omega) fun j o h1 h2 h3 => hno j o h1 (by omega) h3
theorem RD (h : G2 P V N l s0) {L : Array Bool} {x k i : Nat} (hk : k <= l.length) (hi : i <= l.length) (h1 : AgT l L x k) (h2 : AgT l L x i) : get (stN P V N l s0 k).t x = get (stN P V N l s0 i).t x := by
 rcases Nat.le_total k i with hle | hle
 ·exact (OC h (i - k) k i (by omega) hi fun j o a b c d => by have := (h1 j o c d).symm.trans (h2 j o c d); omega).symm
 ·exact OC h (k - i) i k (by omega) hk fun j o a b c d => by have := (h1 j o c d).symm.trans (h2 j o c d); omega
theorem RE (h : G2 P V N l s0) {L : Array Bool} {m k i : Nat} (hk : k <= l.length) (hi : i <= l.length) (h1 : AgH P V N l s0 L m k) (h2 : AgH P V N l s0 L m i) : get (stN P V N l s0 k).h m = get (stN P V N l s0 i).h m := by
 rcases Nat.le_total k i with hle | hle
 ·exact (OD h (i - k) k i (by omega) hi fun j o a b c d => by have := (h1 j o c d).symm.trans (h2 j o c d); omega).symm
 ·exact OD h (k - i) i k (by omega) hk fun j o a b c d => by have := (h1 j o c d).symm.trans (h2 j o c d); omega
theorem SE (h : G2 P V N l s0) {x : Nat} {v : Tv} : ∀ k, k <= l.length -> get (stN P V N l s0 k).t x = some v -> get s0.t x = some v \/ ∃ (j : Nat) (o : Oper), j < k /\ l[j]? = some o /\ o.dst = some x /\ get (stN P V N l s0 (j + 1)).t x = some v
 | 0, _, hv => .inl hv
 | k + 1, hk, hv => by
  have hlt : k < l.length := by omega
  obtain ⟨ds, hst, _⟩ := h k _ (List.getElem?_eq_getElem hlt)
  have hf := congrFun (De hst).1 x
  by_cases hd : l[k].dst = some x
  ·exact .inr ⟨k, _, by omega, List.getElem?_eq_getElem hlt, hd, hv⟩
  ·rw [hf, if_neg hd] at hv
   rcases SE h k (by omega) hv with h' | ⟨j, o, h1, h2⟩
   ·exact .inl h'
   ·exact .inr ⟨j, o, by omega, h2⟩
theorem SF (h : G2 P V N l s0) {m : Nat} {b : Blk} : ∀ k, k <= l.length -> get (stN P V N l s0 k).h m = some b -> get s0.h m = some b \/ ∃ (j : Nat) (o : Oper), j < k /\ l[j]? = some o /\ m ∈ DH P V o (stN P V N l s0 j) /\ get (stN P V N l s0 (j + 1)).h m = some b
 | 0, _, hv => .inl hv
 | k + 1, hk, hv => by
  have hlt : k < l.length := by omega
  obtain ⟨ds, hst, _⟩ := h k _ (List.getElem?_eq_getElem hlt)
  have hf := congrFun (De hst).2 m
  by_cases hd : m ∈ DH P V l[k] (stN P V N l s0 k)
  ·exact .inr ⟨k, _, by omega, List.getElem?_eq_getElem hlt, hd, hv⟩
  ·rw [hf, if_neg hd] at hv
   rcases SF h k (by omega) hv with h' | ⟨j, o, h1, h2⟩
   ·exact .inl h'
   ·exact .inr ⟨j, o, by omega, h2⟩
structure Mi (P : Program) (V : Env P) (N : Nat) (l : List Oper) (s0 : AS) (A : Nat -> Nat -> Prop) : Prop where
 tt : ∀ (i j : Nat) oi oj, l[i]? = some oi -> l[j]? = some oj -> i < j -> ∀ d, oi.dst = some d -> d ∈ oj.looksAt l.toArray \/ oj.dst = some d -> A j i
 tr : ∀ (i j : Nat) oi oj, l[i]? = some oi -> l[j]? = some oj -> i < j -> ∀ d, oj.dst = some d -> d ∈ oi.looksAt l.toArray -> A j i
 hh : ∀ (i j : Nat) oi oj, l[i]? = some oi -> l[j]? = some oj -> i < j -> ∀ n, n ∈ DH P V oi (stN P V N l s0 i) -> n ∈ Gt P V l.toArray oj (stN P V N l s0 j) \/ n ∈ DH P V oj (stN P V N l s0 j) -> A j i
 hr : ∀ (i j : Nat) oi oj, l[i]? = some oi -> l[j]? = some oj -> i < j -> ∀ n, n ∈ DH P V oj (stN P V N l s0 j) -> n ∈ Gt P V l.toArray oi (stN P V N l s0 i) -> A j i
 new0 : ∀ (i : Nat) oi, l[i]? = some oi -> GA P V oi (stN P V N l s0 i) = true -> ∀ d, oi.dst = some d -> Ki (get s0.t) (get s0.h) d
 newT : ∀ (i j : Nat) oi oj, l[i]? = some oi -> l[j]? = some oj -> i ≠ j -> GA P V oi (stN P V N l s0 i) = true -> ∀ d, oi.dst = some d -> A j i \/ ((∀ x v, oj.dst = some x -> get (stN P V N l s0 (j + 1)).t x = some v -> v.no d = true) /\ ∀ n b, n ∈ DH P V oj (stN P V N l s0 j) -> get (stN P V N l s0 (j + 1)).h n = some b -> n ≠ d /\ b.no d = true)
theorem Oc (hb : P0 P V N l s0 = true) : Nz l = true /\ Mi P V N l s0 (fun j i => ((DC l []).getD j 0).testBit i = true) := by
 unfold P0 at hb
 split at hb
 ·rename_i R hR
  simp only [Bool.and_eq_true] at hb
  obtain ⟨⟨hback, hp⟩, hn⟩ := hb
  obtain ⟨hlen, hget⟩ := Mz (V := V) (s0 := s0) l 0 R (fun j => by rw [Nat.zero_add]) hR
  simp only [Nat.zero_add] at hget
  have pair : ∀ (i j : Nat) oi oj, l[i]? = some oi -> l[j]? = some oj -> ((Nat.ble j i || !PA (F4 P V l.toArray oi (stN P V N l s0 i) (stN P V N l s0 (i + 1))) (F4 P V l.toArray oj (stN P V N l s0 j) (stN P V N l s0 (j + 1))) || ((DC l []).getD j 0).testBit i) = true /\
    (Nat.beq i j || !GA P V oi (stN P V N l s0 i) || ((DC l []).getD j 0).testBit i || (match oi.dst with | some d => (F4 P V l.toArray oj (stN P V N l s0 j) (stN P V N l s0 (j + 1))).out d | none => true)) = true) := fun i j oi oj hi hj => by
   have h1 := (List.all_eq_true.1 hp) (_, j) (List.mem_zipIdx_iff_getElem?.2 (by simpa using hget j oj hj))
   have h2 := (List.all_eq_true.1 h1) (_, i) (List.mem_zipIdx_iff_getElem?.2 (by simpa using hget i oi hi))
   simp only [Bool.and_eq_true] at h2
   exact h2
  have nle : ∀ {i j : Nat}, i < j -> Nat.ble j i = false := fun {i j} h => by
   cases hq : Nat.ble j i with
   | false => rfl
   | true => have := Nat.le_of_ble_eq_true hq; omega
  have cf : ∀ (i j : Nat) oi oj, l[i]? = some oi -> l[j]? = some oj -> i < j -> PA (F4 P V l.toArray oi (stN P V N l s0 i) (stN P V N l s0 (i + 1))) (F4 P V l.toArray oj (stN P V N l s0 j) (stN P V N l s0 (j + 1))) = true -> ((DC l []).getD j 0).testBit i = true := fun i j oi oj hi hj hlt hc => by
   have := (pair i j oi oj hi hj).1
   rw [nle hlt, hc] at this
   simpa using this
  refine ⟨hback, ⟨fun i j oi oj hi hj hlt d hd hor => cf i j oi oj hi hj hlt ?_, fun i j oi oj hi hj hlt d hd hor => cf i j oi oj hi hj hlt ?_, fun i j oi oj hi hj hlt n hn hor => cf i j oi oj hi hj hlt ?_, fun i j oi oj hi hj hlt n hn hor => cf i j oi oj hi hj hlt ?_, fun i oi hi hnew d hd => ?_, fun i j oi oj hi hj hne hnew d hd => ?_⟩⟩
  ·simp only [PA, F4, hd]
   rcases hor with h | h
   ·simp [Gm.2 h]
   ·simp [h, Nat.beq_refl]
  ·simp only [PA, F4, hd]
   simp [Gm.2 hor]
  ·have : ((DH P V oi (stN P V N l s0 i)).any fun n => Kw (Gt P V l.toArray oj (stN P V N l s0 j)) n || Kw (DH P V oj (stN P V N l s0 j)) n) = true := by
    rw [List.any_eq_true]
    refine ⟨n, hn, ?_⟩
    rcases hor with h | h
    ·simp [Gm.2 h]
    ·simp [Gm.2 h]
   simp only [PA, F4, this]
   simp
  ·have : ((DH P V oj (stN P V N l s0 j)).any fun n => Kw (Gt P V l.toArray oi (stN P V N l s0 i)) n) = true := by
    rw [List.any_eq_true]
    exact ⟨n, hn, Gm.2 hor⟩
   simp only [PA, F4, this]
   simp
  ·have h1 := (List.all_eq_true.1 hn) _ (List.mem_of_getElem? (hget i oi hi))
   simp only [F4, hnew, Bool.not_true, Bool.false_or, hd] at h1
   exact Gs h1
  ·have h1 := (pair i j oi oj hi hj).2
   have hbn : Nat.beq i j = false := by rw [CW]; simp [hne]
   simp only [hbn, hnew, hd, Bool.not_true, Bool.false_or, Bool.or_eq_true] at h1
   rcases h1 with h1 | h1
   ·exact .inl h1
   ·refine .inr ?_
    simp only [F4, Bool.and_eq_true] at h1
    refine ⟨fun x v hx hv => ?_, fun n b hn hv => ?_⟩
    ·have := h1.1
     simp only [hx, hv] at this
     exact this
    ·have := (List.all_eq_true.1 h1.2) n hn
     simp only [hv, Bool.and_eq_true] at this
     exact ⟨I6 this.2, this.1⟩
 ·cases hb
theorem Ld {α : Type} {p q : α -> Bool} : ∀ {l : List α}, (∀ x ∈ l, p x = true -> q x = true) -> ∀ {y : α}, y ∈ l -> q y = true -> p y = false -> l.countP p < l.countP q
 | [], _, _, hy, _, _ => by cases hy
 | x :: l, h, y, hy, hq, hp => by
  have hle : l.countP p <= l.countP q := List.countP_mono_left fun z hz => h z (by simp [hz])
  rw [List.countP_cons, List.countP_cons]
  rcases List.mem_cons.1 hy with rfl | hy
  ·simp [hq, hp]; omega
  ·have := Ld (fun z hz => h z (by simp [hz])) hy hq hp
   have hx : (if p x = true then 1 else 0) <= (if q x = true then 1 else 0) := by
    by_cases hpx : p x = true
    ·simp [hpx, h x (by simp) hpx]
    ·simp [hpx]
   omega
def Sq (P : Program) (V : Env P) (N : Nat) (W0 : World) (X : Nat -> Option Loc) (M0 : Nat -> Option Obj) (l : List Oper) (s0 : AS) (L : Array Bool) (a : Act) (w : World) : Prop :=
 ∃ M σ T H, Sim N W0 X M0 M σ T H a w /\ (∀ x, ∃ k, k <= l.length /\ AgT l L x k /\ T x = get (stN P V N l s0 k).t x) /\ ∀ m, ∃ k, k <= l.length /\ AgH P V N l s0 L m k /\ H m = get (stN P V N l s0 k).h m
theorem Qo (hV : Ij P V) (hrun : G2 P V N l s0) (hback : Nz l = true) (hord : Mi P V N l s0 (fun j i => ((DC l []).getD j 0).testBit i = true)) {L : Array Bool} (hsz : l.length <= L.size) (hcl : Mp l L) {a : Act} {w : World} (hinv : Sq P V N W0 X M0 l s0 L a w) {i : Nat} {o : Oper} (ho : l[i]? = some o) (hun : L.getD i false = false) (hpre : ∀ e ∈ o.after, Region.binds .any e = true -> L.getD e.on false = true)
  {K : Act -> World -> Prop} {Q : Exit -> Act -> World -> Prop} (hK : ∀ a' w', Sq P V N W0 X M0 l s0 (L.setIfInBounds i true) a' w' -> K a' w') : if Region.wanted o (yielded l.toArray a.tmps) then o.wpIn (FW rd) 0 P a w K Q else (∀ f, o.about P w a.eval = some f -> (FW rd).fn f) /\ K (a.put o.dst undef) w := by
 obtain ⟨M, σ, T, H, hs, hT, hH⟩ := hinv
 have hil : i < l.length := (List.getElem?_eq_some_iff.1 ho).1
 obtain ⟨ds, hst, hds⟩ := hrun i o ho
 have anc : ∀ j, ((DC l []).getD i 0).testBit j = true -> L.getD j false = true /\ j < i := fun j hj => Hx hback hcl (i + 1) i (by omega) o ho hpre j hj
 -- an operation that is done, or that comes behind
 have notdone : ∀ j oj, l[j]? = some oj -> ((DC l []).getD j 0).testBit i = true -> L.getD j false = false := fun j oj hj hbit => by
  cases hd : L.getD j false with
  | false => rfl
  | true =>
   have := Hx hback hcl (j + 1) j (by omega) oj hj (hcl j oj hj hd) i hbit
   rw [hun] at this; cases this.1
 have set_get : ∀ j, (L.setIfInBounds i true).getD j false = true ↔ (j = i \/ L.getD j false = true) := fun j => by
  by_cases hji : i = j
  ·subst hji; simp [show i < L.size by omega]
  ·rw [getD_set_ne false hji]; simp [Ne.symm hji]
 -- the reads
 have agT : ∀ x, (∀ j oj, l[j]? = some oj -> oj.dst = some x -> j < i -> ((DC l []).getD i 0).testBit j = true) -> (∀ j oj, l[j]? = some oj -> oj.dst = some x -> i < j -> ((DC l []).getD j 0).testBit i = true) -> AgT l L x i := fun x h1 h2 j oj hj hd => by
  constructor
  ·intro hdone
   rcases Nat.lt_trichotomy j i with h | h | h
   ·exact h
   ·subst h; rw [hun] at hdone; cases hdone
   ·have := notdone j oj hj (h2 j oj hj hd h); rw [hdone] at this; cases this
  ·intro hlt; exact (anc j (h1 j oj hj hd hlt)).1
 have agH : ∀ m, (∀ j oj, l[j]? = some oj -> m ∈ DH P V oj (stN P V N l s0 j) -> j < i -> ((DC l []).getD i 0).testBit j = true) -> (∀ j oj, l[j]? = some oj -> m ∈ DH P V oj (stN P V N l s0 j) -> i < j -> ((DC l []).getD j 0).testBit i = true) -> AgH P V N l s0 L m i := fun x h1 h2 j oj hj hd => by
  constructor
  ·intro hdone
   rcases Nat.lt_trichotomy j i with h | h | h
   ·exact h
   ·subst h; rw [hun] at hdone; cases hdone
   ·have := notdone j oj hj (h2 j oj hj hd h); rw [hdone] at this; cases this
  ·intro hlt; exact (anc j (h1 j oj hj hd hlt)).1
 have readT : ∀ x ∈ o.looksAt l.toArray, T x = get (stN P V N l s0 i).t x := fun x hx => by
  obtain ⟨k, hk, hag, he⟩ := hT x
  rw [he]
  exact RD hrun hk (by omega) hag (agT x (fun j oj hj hd hlt => hord.tt j i oj o hj ho hlt x hd (.inl hx)) (fun j oj hj hd hlt => hord.tr i j o oj ho hj hlt x hd hx))
 have readH : ∀ m ∈ Gt P V l.toArray o (stN P V N l s0 i), H m = get (stN P V N l s0 i).h m := fun m hm => by
  obtain ⟨k, hk, hag, he⟩ := hH m
  rw [he]
  exact RE hrun hk (by omega) hag (agH m (fun j oj hj hd hlt => hord.hh j i oj o hj ho hlt m hd (.inl hm)) (fun j oj hj hd hlt => hord.hr i j o oj ho hj hlt m hd hm))
 have hfresh : GA P V o (stN P V N l s0 i) = true -> ∀ d, o.dst = some d -> Ki T H d := fun hn d hd => by
  have h0 := hord.new0 i o ho hn d hd
  have notA : ∀ j, L.getD j false = true -> ∀ oj, l[j]? = some oj -> ¬ ((DC l []).getD j 0).testBit i = true := fun j hj oj hoj hb => by
   have := notdone j oj hoj hb; rw [hj] at this; cases this
  refine ⟨fun x v hv => ?_, fun m b hb => ?_⟩
  ·obtain ⟨k, hk, hag, he⟩ := hT x
   rw [he] at hv
   rcases SE hrun k hk hv with h | ⟨j, oj, hjk, hj, hjd, hjv⟩
   ·exact h0.1 x v h
   ·have hdone := (hag j oj hj hjd).2 hjk
    have hne : i ≠ j := fun e => by subst e; rw [hun] at hdone; cases hdone
    rcases hord.newT i j o oj ho hj hne hn d hd with h | h
    ·exact absurd h (notA j hdone oj hj)
    ·exact h.1 x v hjd hjv
  ·obtain ⟨k, hk, hag, he⟩ := hH m
   rw [he] at hb
   rcases SF hrun k hk hb with h | ⟨j, oj, hjk, hj, hjd, hjv⟩
   ·exact h0.2 m b h
   ·have hdone := (hag j oj hj hjd).2 hjk
    have hne : i ≠ j := fun e => by subst e; rw [hun] at hdone; cases hdone
    rcases hord.newT i j o oj ho hj hne hn d hd with h | h
    ·exact absurd h (notA j hdone oj hj)
    ·exact h.2 m b hjd hjv
 refine Jo hV hst hds hs readT readH hfresh fun M' σ' a' w' hs' => hK a' w' ⟨M', σ', _, _, hs', fun x => ?_, fun m => ?_⟩
 ·by_cases hx : o.dst = some x
  ·simp only [hx, if_true]
   refine ⟨i + 1, by omega, fun j oj hj hd => ?_, rfl⟩
   rw [set_get]
   rcases Nat.lt_trichotomy j i with h | h | h
   ·have := (anc j (hord.tt j i oj o hj ho h x hd (.inr hx))).1
    exact ⟨fun _ => by omega, fun _ => .inr this⟩
   ·exact ⟨fun _ => by omega, fun _ => .inl h⟩
   ·have := notdone j oj hj (hord.tt i j o oj ho hj h x hx (.inr hd))
    refine ⟨fun hh => ?_, fun hh => by omega⟩
    rcases hh with hh | hh
    ·omega
    ·rw [this] at hh; cases hh
  ·simp only [hx, if_false]
   obtain ⟨k, hk, hag, he⟩ := hT x
   refine ⟨k, hk, fun j oj hj hd => ?_, he⟩
   rw [set_get]
   have hji : j ≠ i := fun e => by subst e; rw [ho] at hj; injection hj with hj; subst hj; exact hx hd
   simpa [hji] using hag j oj hj hd
 ·by_cases hm : m ∈ DH P V o (stN P V N l s0 i)
  ·simp only [hm, if_true]
   refine ⟨i + 1, by omega, fun j oj hj hd => ?_, rfl⟩
   rw [set_get]
   rcases Nat.lt_trichotomy j i with h | h | h
   ·have := (anc j (hord.hh j i oj o hj ho h m hd (.inr hm))).1
    exact ⟨fun _ => by omega, fun _ => .inr this⟩
   ·exact ⟨fun _ => by omega, fun _ => .inl h⟩
   ·have := notdone j oj hj (hord.hh i j o oj ho hj h m hm (.inr hd))
    refine ⟨fun hh => ?_, fun hh => by omega⟩
    rcases hh with hh | hh
    ·omega
    ·rw [this] at hh; cases hh
  ·simp only [hm, if_false]
   obtain ⟨k, hk, hag, he⟩ := hH m
   refine ⟨k, hk, fun j oj hj hd => ?_, he⟩
   rw [set_get]
   have hji : j ≠ i := fun e => by subst e; rw [ho] at hj; injection hj with hj; subst hj; exact hm hd
   simpa [hji] using hag j oj hj hd
theorem SS (hV : Ij P V) (hrun : G2 P V N l s0) (hback : Nz l = true) (hord : Mi P V N l s0 (fun j i => ((DC l []).getD j 0).testBit i = true)) {Q : Exit -> Act -> World -> Prop} (hQ : ∀ M' σ' a' w', Sim N W0 X M0 M' σ' (get (stN P V N l s0 l.length).t) (get (stN P V N l s0 l.length).h) a' w' -> Q .normal a' w') :
  ∀ (f : Nat) (L : Array Bool) (a : Act) (w : World), L.size = l.length -> Mp l L -> (List.range l.length).countP (fun j => !L.getD j false) <= f -> Sq P V N W0 X M0 l s0 L a w -> wpAnyIn (FW rd) 0 P .any l.toArray Q f L a w := by
 have hdone : ∀ (L : Array Bool) (a : Act) (w : World), L.size = l.length -> Mp l L -> Region.ready .any l.toArray L = [] -> Sq P V N W0 X M0 l s0 L a w -> Q .normal a w := by
  intro L a w hsz hcl hr hinv
  have all : ∀ n j, j < n -> j < l.length -> L.getD j false = true := by
   intro n
   induction n with
   | zero => intro j h; omega
   | succ n ih =>
    intro j hj hjl
    cases hd : L.getD j false with
    | true => rfl
    | false =>
     have ho := List.getElem?_eq_getElem hjl
     have : j ∈ Region.ready .any l.toArray L := by
      rw [mem_ready]
      refine ⟨?_, l[j], by simp, fun e he hb => ?_⟩
      ·have hj' : j < L.size := by omega
       simp [hj'] at hd ⊢; exact hd
      ·have h1 := (List.all_eq_true.1 hback) (l[j], j) (List.mem_zipIdx_iff_getElem?.2 (by simp))
       have h2 := (List.all_eq_true.1 h1) e (by simpa using he)
       simp only [hb, Bool.not_true, Bool.false_or] at h2
       have hlt := Nat.le_of_ble_eq_true h2
       exact ih e.on (by omega) (by omega)
     rw [hr] at this; cases this
  obtain ⟨M, σ, T, H, hs, hT, hH⟩ := hinv
  have eT : T = get (stN P V N l s0 l.length).t := by
   funext x
   obtain ⟨k, hk, hag, he⟩ := hT x
   rw [he]
   refine RD hrun hk (Nat.le_refl _) hag fun j oj hj hd => ?_
   have hjl : j < l.length := (List.getElem?_eq_some_iff.1 hj).1
   exact ⟨fun _ => hjl, fun _ => all (j + 1) j (by omega) hjl⟩
  have eH : H = get (stN P V N l s0 l.length).h := by
   funext x
   obtain ⟨k, hk, hag, he⟩ := hH x
   rw [he]
   refine RE hrun hk (Nat.le_refl _) hag fun j oj hj hd => ?_
   have hjl : j < l.length := (List.getElem?_eq_some_iff.1 hj).1
   exact ⟨fun _ => hjl, fun _ => all (j + 1) j (by omega) hjl⟩
  rw [eT, eH] at hs
  exact hQ M σ a w hs
 intro f
 induction f with
 | zero =>
  intro L a w hsz hcl hcnt hinv
  have hr : Region.ready .any l.toArray L = [] := by
   rw [List.eq_nil_iff_forall_not_mem]
   intro j hj
   rw [mem_ready] at hj
   obtain ⟨h1, o, ho, _⟩ := hj
   have hjl : j < l.length := by have := (List.getElem?_eq_some_iff.1 (by simpa using ho : l[j]? = some o)).1; exact this
   have h0 : (List.range l.length).countP (fun j => !L.getD j false) = 0 := by omega
   rw [List.countP_eq_zero] at h0
   have := h0 j (List.mem_range.2 hjl)
   have hj' : j < L.size := by omega
   simp [hj'] at h1 this
   rw [h1] at this; cases this
  exact ⟨hr, hdone L a w hsz hcl hr hinv⟩
 | succ f ih =>
  intro L a w hsz hcl hcnt hinv
  refine ⟨fun hr => hdone L a w hsz hcl hr hinv, fun i hi => ?_⟩
  rw [mem_ready] at hi
  obtain ⟨h1, o, ho, hpre⟩ := hi
  have ho' : l[i]? = some o := by simpa using ho
  have hil : i < l.length := (List.getElem?_eq_some_iff.1 ho').1
  have hun : L.getD i false = false := by
   have hi' : i < L.size := by omega
   simp [hi'] at h1 ⊢; exact h1
  unfold wpOpIn
  rw [ho]
  have hfin := Qo (rd := rd) (a := a) (w := w) (Q := Q) (K := wpAnyIn (FW rd) 0 P .any l.toArray Q f (L.setIfInBounds i true)) hV hrun hback hord (Nat.le_of_eq hsz.symm) hcl hinv ho' hun hpre fun a' w' hinv' => by
   refine ih _ a' w' (by simp [hsz]) ?_ ?_ hinv'
   ·intro j oj hj hd e he hb
    by_cases hji : j = i
    ·subst hji
     rw [ho'] at hj; injection hj with hj; subst hj
     exact getD_set_true (hpre e he hb)
    ·rw [getD_set_ne false (Ne.symm hji)] at hd
     exact getD_set_true (hcl j oj hj hd e he hb)
   ·have hlt : (List.range l.length).countP (fun j => !(L.setIfInBounds i true).getD j false) < (List.range l.length).countP (fun j => !L.getD j false) := by
     refine Ld ?_ (List.mem_range.2 hil) ?_ ?_
     ·intro j _ hj
      by_cases hji : i = j
      ·subst hji; simp [show i < L.size by omega] at hj
      ·rwa [getD_set_ne false hji] at hj
     ·rw [hun]; rfl
     ·simp [show i < L.size by omega]
    omega
  by_cases hw : Region.wanted o (yielded l.toArray a.tmps) = true
  ·simp only [hw, if_true] at hfin ⊢
   exact hfin
  ·simp only [hw] at hfin ⊢
   exact hfin
end
section
variable {P : Program} {V : Env P} {rd : Option Nat} {N : Nat} {W0 : World} {X : Nat → Option Loc} {M0 M : Nat → Option Obj} {σ : Nat → Loc} {w : World} {a : Act} {Q : Exit → AS → Prop} {s : AS}
theorem P3 (hm : P.follows .mixedOrders = true) {E : TypeId -> Option (List Kd)} (hE : HZ P ⟨fun _ => none, E, fun _ => false, fun _ => none⟩) {id : Nat} {l : List Oper} (ow : List Nat) (qs : List (Nat × (Bool × Nat))) (tbl : List (Nat × FuncId × List Av × Ef)) (ts ns : List Nat) (cs : List Prop) (S : AS) (htbl : GM P tbl) (hr : Mw P ⟨Gr tbl, E, Bc ow, get qs⟩ N l ts ns s = some (cs, S)) (hd : P0 P ⟨Gr tbl, E, Bc ow, get qs⟩ N l s = true) (hc : CA cs) (h : Q .normal S) : AWp P rd N W0 X M0 (.region id l.toArray true) Q s := by
 have hV := htbl.env (O := Bc ow) (q := get qs) hE
 intro M σ a w hs
 unfold Mw at hr
 split at hr
 ·rename_i cs1 s1 h1
  simp only [Option.some.injEq, Prod.mk.injEq] at hr
  obtain ⟨rfl, rfl⟩ := hr
  obtain ⟨e1, hruns⟩ := Jp (s0 := s) l 0 s s1 cs1 (fun j => by rw [Nat.zero_add]) rfl h1 hc
  simp only [Nat.zero_add] at e1 hruns
  obtain ⟨hback, hord⟩ := Oc hd
  have hrep : ∀ j, ¬ ((Array.replicate l.toArray.size false).getD j false = true) := fun j hh => by
   by_cases hj' : j < l.length
   ·simp [hj'] at hh
   ·simp [hj'] at hh
  have hs0 : Sim N W0 X M0 M σ (get s.t) (get s.h) a { w with drawn := w.drawn + 1 } := ⟨hs.os, hs.tape, hs.output, hs.size, hs.old, hs.sub, hs.new, hs.pin, hs.defers, hs.room, hs.tmps, hs.imm, fun n b hb => (hs.blk n b hb).mono (fun _ _ h => h) (fun _ _ => rfl) (fun _ => rfl), hs.loc, hs.inj⟩
  have hinv : Sq P ⟨Gr tbl, E, Bc ow, get qs⟩ N W0 X M0 l s (Array.replicate l.toArray.size false) a { w with drawn := w.drawn + 1 } :=
   ⟨M, σ, get s.t, get s.h, hs0, fun x => ⟨0, Nat.zero_le _, fun j o hj hd => ⟨fun hh => absurd hh (hrep j), fun hh => absurd hh (by omega)⟩, rfl⟩, fun m => ⟨0, Nat.zero_le _, fun j o hj hd => ⟨fun hh => absurd hh (hrep j), fun hh => absurd hh (by omega)⟩, rfl⟩⟩
  have hfin : ∀ M' σ' a' w', Sim N W0 X M0 M' σ' (get (stN P ⟨Gr tbl, E, Bc ow, get qs⟩ N l s l.length).t) (get (stN P ⟨Gr tbl, E, Bc ow, get qs⟩ N l s l.length).h) a' w' -> ∃ s' M'' σ'', Q .normal s' /\ Sim N W0 X M0 M'' σ'' (get s'.t) (get s'.h) a' w' := fun M' σ' a' w' hs' => by
   rw [<- e1] at hs'
   exact ⟨_, M', σ', h, Eu hs' ts ns⟩
  refine wpIn_region_any hm ?_
  exact SS hV hruns hback hord (Q := fun e a' w' => ∃ s' M' σ', Q e s' /\ Sim N W0 X M0 M' σ' (get s'.t) (get s'.h) a' w') hfin _ _ _ _ (by simp) (fun j o hj hd => absurd hd (hrep j)) (Nat.le_trans List.countP_le_length (by simp)) hinv
 ·cases hr
end
end
section
open Go.RowKit
def Cl.sc : Cl -> Bool
 | .val _ => true
 | .clo _ k _ => Nat.beq k 0
 | _ => false
def Av.sc : Av -> Bool
 | .one c => c.sc
 | .agg l => l.all Cl.sc
def Tv.sc : Tv -> Bool
 | .av x => x.sc
 | .tup l => l.all Av.sc
 | .grd _ _ => false
theorem RT_sc {M M' : Nat -> Option Obj} {σ σ' : Nat -> Loc} {r : Tv} {U : Value} (hd : r.sc = true) (h : RT M σ r U) : RT M' σ' r U := by
 have cl : ∀ {c : Cl} {U : Value}, c.sc = true -> R M σ c U -> R M' σ' c U := fun {c U} hd h => by
  cases c with
  | val v => exact h
  | clo f k caps =>
   have := Nat.eq_of_beq_eq_true hd
   subst this
   obtain ⟨cs, h1, h2, _⟩ := h
   exact ⟨cs, h1, h2, fun i hi => absurd hi (by omega)⟩
  | list => cases hd
  | eptr => cases hd
  | mp => cases hd
  | ptr => cases hd
  | own => cases hd
  | rptr => cases hd
  | om => cases hd
  | any => exact h
 have av : ∀ {x : Av} {U : Value}, x.sc = true -> RA M σ x U -> RA M' σ' x U := fun {x U} hd h => by
  cases x with
  | one c => exact cl hd h
  | agg l => obtain ⟨vs, h1, h2⟩ := h; exact ⟨vs, h1, h2.mono fun c hc b hb => cl ((List.all_eq_true.1 hd) c hc) hb⟩
 cases r with
 | av x => exact av hd h
 | tup l => obtain ⟨vs, h1, h2⟩ := h; exact ⟨vs, h1, h2.mono fun c hc b hb => av ((List.all_eq_true.1 hd) c hc) hb⟩
 | grd g x => cases hd
section
variable {P : Program}
theorem Ip (g : Nat -> Cl) {k i : Nat} (hi : i < k) : BE ((List.range k).map g) i = g i := by
 simp [BE, List.getD_eq_getElem?_getD, hi]
def toC (cs : List (Nat × Blk)) : Cl -> Cl
 | .ptr n off => match get cs n with
  | some (.cells l _) => .eptr l.length 1 (fun _ j => l.getD j default) 0 off
  | _ => .ptr n off
 | .clo f k caps => .clo f k (BE ((List.range k).map fun i => toC cs (caps i)))
 | x => x
def toE (cs : List (Nat × Blk)) : Av -> Av
 | .one c => .one (toC cs c)
 | .agg l => .agg (l.map (toC cs))
def Hj : Blk -> Bool
 | .cells l _ => l.all Cl.dv
 | _ => false
theorem Nm {h : Nat -> Option Blk} : ∀ {ns : List Nat} {bs : List Blk}, Fw h ns = some bs -> ∀ n b, get (ns.zip bs) n = some b -> h n = some b
 | [], bs, hg, n, b, hz => by simp [get] at hz
 | m :: ns, bs, hg, n, b, hz => by
  simp only [Fw] at hg
  split at hg
  ·rename_i b0 bs0 h1 h2
   injection hg with hg
   subst hg
   simp only [List.zip_cons_cons, get, CW] at hz
   by_cases hmn : m = n
   ·subst hmn; simp at hz; subst hz; exact h1
   ·simp [hmn] at hz; exact Nm h2 n b hz
  ·cases hg
theorem I1 {f : FuncId} {xs : List Av} {ns : List Nat} {bs : List Blk} {r : Tv} (h1 : ∀ args w, (callFunc f args).run P w = .ok (.enter f args) w) (hb : bs.all Hj = true) (hr : r.sc = true) (h : Bo P f (xs.map (toE (ns.zip bs))) r) : A1 P f xs (rdI ns bs r) := by
 classical
 refine .inl ⟨h1, fun M σ w hh args cs' g hs hargs hres hc => ?_⟩
 simp only [rdI, res] at hres
 split at hres
 ·rename_i bs' hg
  simp only [Option.some.injEq, Prod.mk.injEq] at hres
  obtain ⟨rfl, rfl⟩ := hres
  have := hc.head
  subst this
  let M' : Nat -> Option Obj := fun b => if ∃ n bl, get (ns.zip bs') n = some bl /\ (σ n).b = b then w.heap[b]? else M b
  have himm : ∀ b o, M' b = some o -> w.heap[b]? = some o := fun b o hm => by
   simp only [M'] at hm
   split at hm
   ·exact hm
   ·exact hs.imm b o hm
  have hsub : ∀ b o, M b = some o -> M' b = some o := fun b o hm => by
   simp only [M']
   split
   ·exact hs.imm b o hm
   ·exact hm
  have hC : ∀ {c : Cl} {V : Value}, R M σ c V -> R M' σ (toC (ns.zip bs') c) V := by
   intro c
   induction c with
   | ptr n off =>
    intro V hR
    simp only [toC]
    split
    ·rename_i l T hgl
     have hh := Nm hg n _ hgl
     obtain ⟨hnil, c, hblk, hl⟩ := hs.blk n _ hh
     have hcap : l.all Cl.dv = true := by
      have : (Blk.cells l T) ∈ bs' := by
       have := DU hgl
       exact (List.of_mem_zip this).2
      exact (List.all_eq_true.1 hb) _ this
     have hV0 : V = .pointer (some ⟨(σ n).b, off, none⟩) := hR
     subst hV0
     have hM' : M' (σ n).b = some (.cells c.toArray T) := by
      simp only [M']
      rw [if_pos ⟨n, _, hgl, rfl⟩]; exact hblk
     show RC M' _ _
     have := RC.eptr (M := M') l.length 1 (fun _ j => l.getD j default) 0 off (σ n).b 0 (fun j => c.getD j undef) (fun j hj => by
      have hjc : j < c.length := by rw [<- hl.length]; exact hj
      simp only [D1, hM', Nat.zero_add, List.getElem?_toArray]
      simp [List.getD, hjc]) (fun j hj => by
      obtain ⟨u, hu, hRu⟩ := hl.get j _ (List.getElem?_eq_getElem hj)
      simp only [List.getD, List.getElem?_eq_getElem hj, hu, Option.getD_some]
      exact Dp hsub ((HY ((List.all_eq_true.1 hcap) _ (List.getElem_mem _))).1 hRu))
     rw [Nat.zero_add] at this
     exact this
    ·exact hR
   | clo f k caps ih =>
    intro V hR
    obtain ⟨cs, e1, e2, e3⟩ := hR
    exact ⟨cs, e1, e2, fun i hi => by rw [Ip _ hi]; exact ih i (e3 i hi)⟩
   | val v => intro V hR; exact hR
   | own => intro V hR; exact C8 hsub (fun _ _ => rfl) hR
   | rptr => intro V hR; exact C8 hsub (fun _ _ => rfl) hR
   | om => intro V hR; exact C8 hsub (fun _ _ => rfl) hR
   | any => intro V hR; exact hR
   | list => intro V hR; exact C8 hsub (fun _ _ => rfl) hR
   | eptr => intro V hR; exact C8 hsub (fun _ _ => rfl) hR
   | mp => intro V hR; exact C8 hsub (fun _ _ => rfl) hR
  have hx : L2 (RA M' σ) (xs.map (toE (ns.zip bs'))) args := by
   refine L2.of (by rw [List.length_map]; exact hargs.length) fun i x V hx hV => ?_
   rw [List.getElem?_map] at hx
   obtain ⟨x0, hx0, rfl⟩ := Option.map_eq_some_iff.1 hx
   obtain ⟨V', hV', hR⟩ := hargs.get i x0 hx0
   rw [hV] at hV'; injection hV' with hV'; subst hV'
   cases x0 with
   | one c => exact hC hR
   | agg l =>
    obtain ⟨vs, e1, e2⟩ := hR
    refine ⟨vs, e1, ?_⟩
    clear hx0 e1 hx
    induction e2 with
    | nil => exact .nil
    | cons e3 _ ih => exact .cons (hC e3) ih
  refine (h M' σ w args himm hx).mono ?_
  rintro en w' ⟨U, hU, M'', hk, hRU⟩
  exact ⟨U, hU, fun dst _ => ⟨M, σ, ⟨hk.os, hk.tape, hk.output, hk.size, hk.old, fun _ _ h => h, fun _ _ h h' => by (rw [h] at h'; cases h'), fun b o hm => hk.imm b o (hk.sub b o (hsub b o hm))⟩, rfl, RT_sc hr (hRU σ)⟩⟩
 ·cases hres
theorem IF (k : Nat) : Bc [k] k = true := by unfold Bc; rw [Nat.beq_refl]; rfl
def Wr (P : Program) (f : FuncId) (K : Nat) (xs : List Av) (b0 : Blk) (r : Tv) (b1 : Blk) : Prop := ∀ (M : Nat -> Option Obj) (σ : Nat -> Loc) (w : World) (args : List Value), (∀ b o, M b = some o -> w.heap[b]? = some o) -> Bz M σ w (σ K) b0 -> (σ K).nil = false -> M (σ K).b = none -> L2 (RA M σ) xs args ->
 Calls P f args.toArray w fun en w' => ∃ U, en = .returned U /\ ∃ M', Fz w w' M M' (only (σ K)) /\ (∀ σ', RT M' σ' r U) /\ ∀ σ', Bz M' σ' w' (σ K) b1
theorem Eo {M : Nat -> Option Obj} {σ σ' : Nat -> Loc} {w : World} {x : Loc} {b : Blk} (hd : Hj b = true) (h : Bz M σ w x b) : Bz M σ' w x b := by
 cases b with
 | row => cases hd
 | omap => cases hd
 | rowx => cases hd
 | cells l ty =>
  obtain ⟨h0, c, hc, hl⟩ := h
  exact ⟨h0, c, hc, hl.mono fun a ha b hb => (HY ((List.all_eq_true.1 hd) a ha)).2 ((HY ((List.all_eq_true.1 hd) a ha)).1 hb)⟩
def Bv (K n : Nat) : Av -> Av
 | .one (.ptr m off) => bif Nat.beq m K then .one (.ptr n off) else .one (.ptr m off)
 | x => x
def T8 (K : Nat) : Av -> Bool
 | .one (.ptr m _) => Nat.beq m K
 | x => x.dv
theorem Ai {f : FuncId} {K n : Nat} {xs : List Av} {b0 b1 : Blk} {r : Tv} (h1 : ∀ args w, (callFunc f args).run P w = .ok (.enter f args) w) (hx : xs.all (T8 K) = true) (hd0 : Hj b0 = true) (h : Wr P f K xs b0 r b1) : A1 P f (xs.map (Bv K n)) (wrI n b0 r b1) := by
 refine .inl ⟨h1, fun M σ w hh args cs' g hs hargs hres hc => ?_⟩
 simp only [wrI, res, Fw] at hres
 cases hn : hh n with
 | none => rw [hn] at hres; cases hres
 | some b =>
  rw [hn] at hres
  simp only [Option.some.injEq, Prod.mk.injEq] at hres
  obtain ⟨rfl, rfl⟩ := hres
  have := hc.head
  subst this
  have hblk := hs.blk n _ hn
  have hnil : (σ n).nil = false := by
   cases b with
   | row => cases hd0
   | omap => cases hd0
   | rowx => cases hd0
   | cells l ty => exact hblk.1
  have hM : M (σ n).b = none := by
   rcases hs.loc n _ hn with h | h
   ·rw [hnil] at h; cases h
   ·exact h
  let σ2 : Nat -> Loc := upd σ K (σ n)
  have hK : σ2 K = σ n := BU _ _ _
  have hargs2 : L2 (RA M σ2) xs args := by
   refine L2.of (by have := hargs.length; simpa using this) fun i x V hxi hV => ?_
   obtain ⟨V', hV', hR⟩ := hargs.get i (Bv K n x) (by rw [List.getElem?_map, hxi]; rfl)
   rw [hV] at hV'; injection hV' with hV'; subst hV'
   have hok := (List.all_eq_true.1 hx) x (List.mem_of_getElem? hxi)
   unfold T8 at hok
   split at hok
   ·rename_i m off
    simp only [Bv, hok, cond_true] at hR
    have := Nat.eq_of_beq_eq_true hok
    subst this
    have hR' : V = .pointer (some ⟨(σ n).b, off, none⟩) := hR
    show V = .pointer (some ⟨(σ2 m).b, off, none⟩)
    rw [hK]; exact hR'
   ·rename_i hne
    have : Bv K n x = x := by
     unfold Bv
     split
     ·rename_i m off; exact (hne m off rfl).elim
     ·rfl
    rw [this] at hR
    have := Fy (σ' := σ2) (r := .av x) hok hR
    exact this
  refine (h M σ2 w args hs.imm (by rw [hK]; exact Eo hd0 hblk) (by rw [hK]; exact hnil) (by rw [hK]; exact hM) hargs2).mono ?_
  rintro en w' ⟨U, hU, M', hk, hR, hb⟩
  rw [hK] at hk
  refine ⟨U, hU, fun dst _ => ⟨M', σ, hk, rfl, hR σ, ?_⟩⟩
  have := hb σ
  rw [hK] at this
  exact this
end
def Ik (P : Program) (rd : Option Nat) (N : Nat) (W0 : World) (X : Nat -> Option Loc) (M0 : Nat -> Option Obj) (c : Code) (Q : Exit -> AS -> Prop) : Nat -> AS -> Prop
 | 0, _ => False
 | n + 1, s => AWp P rd N W0 X M0 c (ATh (Ik P rd N W0 X M0 c Q n) Q) s
theorem Fc {P : Program} {rd : Option Nat} {N : Nat} {W0 : World} {X : Nat -> Option Loc} {M0 : Nat -> Option Obj} {c : Code} {Q : Exit -> AS -> Prop} {n : Nat} {s : AS} (h : AWp P rd N W0 X M0 c (ATh (Ik P rd N W0 X M0 c Q n) Q) s) : Ik P rd N W0 X M0 c Q (n + 1) s := h
theorem I7 {P : Program} {rd : Option Nat} {N : Nat} {W0 : World} {X : Nat -> Option Loc} {M0 : Nat -> Option Obj} {c : Code} {Q : Exit -> AS -> Prop} {s : AS} (n : Nat) (h : Ik P rd N W0 X M0 c Q n s) : AWp P rd N W0 X M0 (.loop c) Q s := by
 have key : ∀ n s, Ik P rd N W0 X M0 c Q n s -> ∀ M σ a w, Sim N W0 X M0 M σ (get s.t) (get s.h) a w -> Code.roundsIn (FW rd) 0 P c (fun e a' w' => ∃ s' M' σ', Q e s' /\ Sim N W0 X M0 M' σ' (get s'.t) (get s'.h) a' w') n a w := by
  intro n
  induction n with
  | zero => intro s h; exact h.elim
  | succ n ih =>
   intro s h M σ a w hs
   rw [roundsIn_succ]
   refine wpIn_mono (h M σ a w hs) ?_
   rintro e a' w' ⟨s', M', σ', h1, h2⟩
   cases e with
   | normal => exact ih s' h1 M' σ' a' w' h2
   | _ => exact ⟨s', M', σ', h1, h2⟩
 intro M σ a w hs
 exact wpIn_loop_rounds n (key n s h M σ a w hs)
inductive ClE : Cl -> Cl -> Prop
 | refl (c : Cl) : ClE c c
 | list (t t' : Bool) (sz len : Nat) (f f' : Nat -> Nat -> Cl) (h : ∀ i j, i < len -> j < sz -> ClE (f i j) (f' i j)) (ht : t' = true -> t = true) : ClE (.list t sz len f) (.list t' sz len f')
 | nil (sz : Nat) (f : Nat -> Nat -> Cl) : ClE (.val (.slice none 0 0)) (.list false sz 0 f)
 | own (n sz : Nat) {l l' : Nat} (h : l = l') : ClE (.own n sz l) (.own n sz l')
 | clo (f : FuncId) (k : Nat) (c c' : Nat -> Cl) (h : ∀ i, i < k -> c i = c' i) : ClE (.clo f k c) (.clo f k c')
 | any (c : Cl) : ClE c .any
theorem PG {M : Nat -> Option Obj} {c c' : Cl} (he : ClE c c') : ∀ V, RC M c V -> RC M c' V := by
 induction he with
 | refl => exact fun _ h => h
 | nil sz f => intro V h; cases h with | val _ _ => exact RC.nil _ _ _ rfl
 | own n sz hl => intro V h; cases h
 | any c => intro V h; exact .any V (Ke (σ := fun _ => ⟨0, 0, false⟩) (Kf h))
 | clo f k c c' hc =>
  intro V h
  cases h with
  | clo _ _ _ cs h1 h2 => exact .clo _ _ _ cs h1 fun i hi => by rw [<- hc i hi]; exact h2 i hi
 | list t t' sz len f f' hf ht ih =>
  intro V h
  cases h with
  | nil _ _ _ h0 =>
   refine .nil _ _ _ ?_
   cases t' with
   | false => rfl
   | true => rw [ht rfl] at h0; cases h0
  | mt _ _ _ p0 cap => exact .mt _ _ _ p0 cap
  | list _ _ _ _ b off cap g h1 h2 h4 => exact .list _ _ _ _ b off cap g h1 (fun i j hi hj => ih i j hi hj _ (h2 i j hi hj)) h4
theorem P6 {M : Nat -> Option Obj} {σ : Nat -> Loc} {c c' : Cl} {V : Value} (he : ClE c c') (h : R M σ c V) : R M σ c' V := by
 cases he with
 | refl => exact h
 | nil sz f => obtain ⟨rfl, _⟩ := h; exact RC.nil _ _ _ rfl
 | own n sz hl => subst hl; exact h
 | any c => exact Ke h
 | clo f k c c' hc =>
  obtain ⟨cs, h1, h2, h3⟩ := h
  exact ⟨cs, h1, h2, fun i hi => by rw [<- hc i hi]; exact h3 i hi⟩
 | list t t' sz len f f' hf ht => exact PG (.list t t' sz len f f' hf ht) V h
section
variable {P : Program} {rd : Option Nat} {N : Nat} {W0 : World} {X : Nat → Option Loc} {M0 M : Nat → Option Obj} {Q : Exit → AS → Prop} {s : AS}
end
end
section
open Go.ChangeShapes Go.WideShapes Go.ChangeAt Go.RowKit
def MW (w : World) : Nat -> Option Obj := fun b => w.heap[b]?
def EQ (P : Program) (t : TypeId) {T : Type} (c : T -> List Cl) (ok : T -> Prop) : Prop :=
 ∀ {H : Type} (enc : TypeId × Value -> H) (w : World) (base : Nat) (spare : Nat -> Bool) (held : Bool) (fuel : Nat) (cs : List Value) (x : DataW H × List MemPlace),
  DataW.trod enc P w base spare held fuel t cs = some x -> ∃ a : T, ok a /\ L2 (RC (MW w)) (c a) cs
def WF (k : IntKind) (n : Int) : Prop := (Lit.int k n).wf = true
section
variable {P : Program} {t : TypeId}
theorem FJ {k : IntKind} (ht : P.underlying t = some (.int k)) : EQ P t (fun n : Int => [.val (.int k n)]) (WF k) := by
 intro H enc w base spare held fuel cs x h
 obtain ⟨n, rfl, _, hw⟩ := DataW.trod_int ht h
 exact ⟨n, hw, .cons (.val _ rfl) .nil⟩
theorem Od (ht : P.underlying t = some .bool) : EQ P t (fun b : Bool => [.val (.bool b)]) (fun _ => True) := by
 intro H enc w base spare held fuel cs x h
 obtain ⟨b, rfl, _⟩ := DataW.trod_bool ht h
 exact ⟨b, trivial, .cons (.val _ rfl) .nil⟩
theorem EL (ht : P.underlying t = some .string) : EQ P t (fun b : ByteArray => [.val (.string b)]) (fun s => s.size <= maxLen) := by
 intro H enc w base spare held fuel cs x h
 obtain ⟨b, rfl, _, hl⟩ := DataW.trod_string ht h
 exact ⟨b, hl, .cons (.val _ rfl) .nil⟩
theorem HA {T S : Type} {c : T -> List Cl} {ok : T -> Prop} {c' : S -> List Cl} {ok' : S -> Prop} (h : EQ P t c ok) (g : ∀ a, ok a -> ∃ s, ok' s /\ c' s = c a) : EQ P t c' ok' := by
 intro H enc w base spare held fuel cs x hx
 obtain ⟨a, h1, h2⟩ := h enc w base spare held fuel cs x hx
 obtain ⟨s, h3, h4⟩ := g a h1
 exact ⟨s, h3, by rw [h4]; exact h2⟩
def Mq (P : Program) : List Field -> Nat
 | [] => 0
 | f :: r => P.cellsOf f.type + Mq P r
def Mk (P : Program) (off : Nat) (fs : List Field) {T : Type} (c : T -> List Cl) (ok : T -> Prop) : Prop :=
 ∀ {H : Type} (enc : TypeId × Value -> H) (w : World) (base : Nat) (spare : Nat -> Bool) (held : Bool) (fuel : Nat) (cs : List Value),
  (∀ f ∈ fs, ∃ y, DataW.trod enc P w base spare held fuel f.type ((cs.drop f.offset).take (P.cellsOf f.type)) = some y) -> off + Mq P fs = cs.length -> ∃ a : T, ok a /\ L2 (RC (MW w)) (c a) (cs.drop off)
theorem GT {off : Nat} : Mk P off [] (fun _ : Unit => []) (fun _ => True) := by
 intro H enc w base spare held fuel cs _ hl
 simp only [Mq, Nat.add_zero] at hl
 refine ⟨(), trivial, ?_⟩
 rw [List.drop_eq_nil_of_le (by omega)]
 exact .nil
theorem CR {off : Nat} {f : Field} {fs : List Field} {T S : Type} {c : T -> List Cl} {ok : T -> Prop} {c' : S -> List Cl} {ok' : S -> Prop} (n : Nat) (hn : P.cellsOf f.type = n) (ho : f.offset = off) (h : EQ P f.type c ok) (h' : Mk P (off + n) fs c' ok') :
  Mk P off (f :: fs) (fun p : T × S => c p.1 ++ c' p.2) (fun p => ok p.1 /\ ok' p.2) := by
 subst hn
 intro H enc w base spare held fuel cs hf hl
 obtain ⟨y, hy⟩ := hf f (List.mem_cons_self ..)
 obtain ⟨a, h1, h2⟩ := h enc w base spare held fuel _ _ hy
 simp only [Mq] at hl
 obtain ⟨b, h3, h4⟩ := h' enc w base spare held fuel cs (fun f' hm => hf f' (List.mem_cons_of_mem _ hm)) (by omega)
 refine ⟨(a, b), ⟨h1, h3⟩, ?_⟩
 rw [ho] at h2
 have := h2.append h4
 rwa [<- List.drop_drop, List.take_append_drop] at this
theorem FD {fs : Array Field} {T : Type} {c : T -> List Cl} {ok : T -> Prop} (ht : P.underlying t = some (.struct fs)) (htot : Mq P fs.toList = P.cellsOf t) (h : Mk P 0 fs.toList c ok) : EQ P t c ok := by
 intro H enc w base spare held fuel cs x hx
 obtain ⟨xs, n, _, _, hcs, hxs, hi⟩ := DataW.trod_struct ht hx
 obtain ⟨a, h1, h2⟩ := h enc w base spare held n cs (fun f hm => by
  obtain ⟨i, hi', hfi⟩ := List.getElem_of_mem hm
  have h1 := hi i f (by rw [<- hfi]; simp)
  have h2 : xs[i]? = some (xs[i]'(by rw [hxs]; simpa using hi')) := List.getElem?_eq_getElem _
  exact ⟨_, h1.trans h2⟩) (by omega)
 exact ⟨a, h1, by simpa using h2⟩
theorem I0 {w : World} {base : Nat} {a : Addr} {n : Nat} {ci : List Value} (h : w.cells? base a n = some ci) : ci.length = n /\ ∀ j, j < n -> w.cell? (a.add j) = ci[j]? := by
 unfold World.cells? at h
 split at h
 ·exact ⟨by simpa using mapM_some_length h, fun j hj => mapM_some_get h j j (by simp [hj])⟩
 ·cases h
theorem Lg {w : World} {a : Addr} {v : Value} (h : w.cell? a = some v) : a.spot = none /\ D1 (MW w) a.block a.off = some v := by
 unfold World.cell? at h
 unfold D1 MW
 split at h
 ·rename_i c t f hh
  rw [hh]
  split at h
  ·cases h
  ·rename_i hs; exact ⟨by simpa using hs, h⟩
 ·cases h
def SQ (S : Bool) (P : Program) (t : TypeId) {H : Type} (d : DataW H) : Prop := S = true -> ∀ n ∈ d.weights P t, n <= reachBytes
theorem sq_no {P : Program} {t : TypeId} {H : Type} {d : DataW H} : SQ false P t d := fun h => by cases h
theorem JC {P : Program} {e : TypeId} {H : Type} {d : DataW H} : ∀ {l : List (DataW H)}, d ∈ l -> ∀ n ∈ d.weights P e, n ∈ DataW.weightsAll P e l
 | [], h, _, _ => by cases h
 | x :: l, h, n, hn => by
  simp only [DataW.weightsAll, List.mem_append]
  rcases List.mem_cons.1 h with rfl | h
  ·exact .inl hn
  ·exact .inr (JC h n hn)
theorem Sv {S : Bool} {P : Program} {t e : TypeId} {H : Type} {elems spare : List (DataW H)} {d : DataW H} (ht : P.underlying t = some (.slice e)) (h : SQ S P t (.slice elems spare)) (hd : d ∈ elems) : SQ S P e d := fun hs n hn =>
 h hs n (by simp only [DataW.weights, ht, List.mem_cons, List.mem_append]; exact .inr (.inl (JC hd n hn)))
def So (S : Bool) (fuel : Nat) (P : Program) (t : TypeId) {T : Type} (c : T -> List Cl) (ok : T -> Prop) : Prop :=
 ∀ {H : Type} (enc : TypeId × Value -> H) (w : World) (base : Nat) (spare : Nat -> Bool) (held : Bool) (cs : List Value) (x : DataW H × List MemPlace),
  DataW.trod enc P w base spare held fuel t cs = some x -> SQ S P t x.1 -> ∃ a : T, ok a /\ L2 (RC (MW w)) (c a) cs
theorem J6 {S : Bool} {e : TypeId} {T : Type} [Inhabited T] {c : T -> List Cl} {ok : T -> Prop} (sz : Nat) (ht : P.underlying t = some (.slice e)) (hsz : P.cellsOf e = sz) (hpos : 0 < sz) (fuel : Nat) (h : ∀ n, fuel = n + 1 -> So S n P e c ok) : So S fuel P t (fun xs : List T => [lst sz c xs]) (fun xs => xs.length <= maxLen /\ ∀ x ∈ xs, ok x) := by
 subst hsz
 intro H enc w base spare held cs x hx hq
 rcases DataW.trod_slice ht hx with ⟨rfl, _⟩ | ⟨a, len, cap, elems, rest, n, hfu, rfl, hx2, _, hlc, hcm, hel, hi, _, _⟩
 ·exact ⟨[], ⟨Nat.zero_le _, fun x hx => by cases hx⟩, .cons (show RC _ (.list false _ 0 _) _ from .nil _ _ _ rfl) .nil⟩
 ·have hex : ∀ i, ∃ a' : T, i < len -> ok a' /\ ∃ ci, w.cells? base (a.add (i * P.cellsOf e)) (P.cellsOf e) = some ci /\ L2 (RC (MW w)) (c a') ci := fun i => by
   by_cases hil : i < len
   ·have h1 := hi i hil
    have h2 : elems[i]? = some (elems[i]'(by omega)) := List.getElem?_eq_getElem _
    rw [h2] at h1
    cases hci : w.cells? base (a.add (i * P.cellsOf e)) (P.cellsOf e) with
    | none => rw [hci] at h1; cases h1
    | some ci =>
     rw [hci] at h1
     obtain ⟨a', h3, h4⟩ := h n hfu enc w base spare held ci _ h1 (Sv ht (by rw [hx2] at hq; exact hq) (List.mem_map.2 ⟨_, List.getElem_mem _, rfl⟩))
     exact ⟨a', fun _ => ⟨h3, ci, rfl, h4⟩⟩
   ·exact ⟨default, fun k => absurd k hil⟩
  let A : Nat -> T := fun i => Classical.choose (hex i)
  have hA : ∀ i, i < len -> ok (A i) /\ ∃ ci, w.cells? base (a.add (i * P.cellsOf e)) (P.cellsOf e) = some ci /\ L2 (RC (MW w)) (c (A i)) ci := fun i => Classical.choose_spec (hex i)
  refine ⟨(List.range len).map A, ⟨by simp; omega, fun x hx => ?_⟩, .cons ?_ .nil⟩
  ·obtain ⟨i, hi, rfl⟩ := List.mem_map.1 hx
   exact (hA i (List.mem_range.1 hi)).1
  ·unfold lst
   rw [List.length_map, List.length_range]
   by_cases hl0 : len = 0
   ·subst hl0
    exact .mt _ _ _ _ _
   ·have hsp : a.spot = none := by
     obtain ⟨_, ci, h1, _⟩ := hA 0 (by omega)
     obtain ⟨h2, h3⟩ := I0 h1
     have h4 := h3 0 hpos
     have h5 : ci[0]? = some (ci[0]'(by omega)) := List.getElem?_eq_getElem _
     rw [h5] at h4
     have := (Lg h4).1
     simpa [Addr.add] using this
    obtain ⟨b, off, sp⟩ := a
    simp only at hsp
    subst hsp
    refine .list false _ _ _ b off cap (fun i j => ((w.cells? base (Addr.add ⟨b, off, none⟩ (i * P.cellsOf e)) (P.cellsOf e)).getD []).getD j undef) (fun i j hil hj => ?_) (fun i j hil hj => ?_) hlc
    ·obtain ⟨_, ci, h1, _⟩ := hA i hil
     obtain ⟨h2, h3⟩ := I0 h1
     have h4 := h3 j hj
     have h5 : ci[j]? = some (ci[j]'(by omega)) := List.getElem?_eq_getElem _
     rw [h5] at h4
     have h6 := (Lg h4).2
     rw [Addr.add_lit, Addr.add_lit] at h6
     rw [h1]
     simp only [Option.getD_some, List.getD_eq_getElem?_getD, h5]
     simpa [Nat.add_assoc] using h6
    ·obtain ⟨_, ci, h1, h7⟩ := hA i hil
     obtain ⟨h2, _⟩ := I0 h1
     have h5 : ci[j]? = some (ci[j]'(by omega)) := List.getElem?_eq_getElem _
     obtain ⟨k, h8, h9⟩ := h7.get' j _ h5
     have e1 : ((List.range len).map A).getD i default = A i := by
      rw [List.getD_eq_getElem?_getD]
      simp [hil]
     rw [e1, h1]
     simp only [Option.getD_some, List.getD_eq_getElem?_getD, h5, h8]
     exact h9
theorem Ew {e : TypeId} {T : Type} [Inhabited T] {c : T -> List Cl} {ok : T -> Prop} (sz : Nat) (ht : P.underlying t = some (.slice e)) (hsz : P.cellsOf e = sz) (hpos : 0 < sz) (h : EQ P e c ok) : EQ P t (fun xs : List T => [lst sz c xs]) (fun xs => xs.length <= maxLen /\ ∀ x ∈ xs, ok x) :=
 fun enc w base spare held fuel cs x hx => J6 (S := false) sz ht hsz hpos fuel (fun n _ => fun enc w base spare held cs x hx _ => h enc w base spare held n cs x hx) enc w base spare held cs x hx sq_no
end
section
variable {H : Type} {enc : TypeId × Value → H} {P : Program} {W : World} {base b0 : Nat} {spare : Nat → Bool} {held : Bool} {r : Reach} {t : TypeId} {v : Value} {d : DataW H} {ps : List MemPlace}
theorem ID {T : Type} {k : T -> Cl} {ok : T -> Prop} (ho : EQ P t (fun a => [k a]) ok) (hs : (∃ e, P.underlying t = some (.slice e)) \/ (∃ e, P.underlying t = some (.int e)) \/ P.underlying t = some .bool \/ P.underlying t = some .string) (hv : Value.okWide P W r b0 t v) (h : DataW.Trod enc P W base spare held t v d ps) : ∃ a : T, ok a /\ ∀ σ, RA (MW W) σ (.one (k a)) v := by
 have : v.cells.toList = [v] := by
  rcases hs with ⟨e, hs⟩ | ⟨e, hs⟩ | hs | hs
  ·obtain ⟨p, l, c, rfl⟩ := okWide_slice hs hv; rfl
  ·obtain ⟨n, rfl⟩ := okWide_int hs hv; rfl
  ·obtain ⟨n, rfl⟩ := okWide_bool hs hv; rfl
  ·obtain ⟨n, rfl⟩ := okWide_string hs hv; rfl
 obtain ⟨fuel, hx⟩ := h
 rw [this] at hx
 obtain ⟨a, h1, h2⟩ := ho enc W base spare held fuel _ _ hx
 refine ⟨a, h1, fun σ => ?_⟩
 cases h2 with | cons h3 _ => exact Kf h3
theorem H6 (hl : laidOutB P = true) {W W' : World} (hb : Below W.heap.size W W') : ∀ (ts : List TypeId) (vs : List Value) (ds : List (DataW H)) (ps : List MemPlace), (∀ t ∈ ts, P.readableRec t = true /\ t < P.types.size) ->
  DataW.TrodAll enc P W 0 (fun _ => true) true ts vs ds ps -> (∀ x ∈ ps, x.block < W.heap.size) -> ∀ sp : Nat -> Bool, (∀ x ∈ ps, sp x.block = true) -> DataW.TrodAll enc P W' 0 sp true ts vs ds ps
 | [], [], [], ps, _, h, _, _, _ => h
 | [], [], _ :: _, _, _, h, _, _, _ => h.elim
 | [], _ :: _, _, _, _, h, _, _, _ => by cases h
 | _ :: _, [], _, _, _, h, _, _, _ => by cases h
 | _ :: _, _ :: _, [], _, _, h, _, _, _ => h.elim
 | t :: ts, v :: vs, d :: ds, ps, hr, h, hlt, sp, hsp => by
  obtain ⟨p, q, h1, h2, rfl⟩ := h
  have hr1 := hr t (List.mem_cons_self ..)
  exact ⟨p, q, WideElems.Trod_stays hl hr1.1 hr1.2 h1 (fun x hx => hb.same (hlt x (List.mem_append_left _ hx))) (fun x hx => hsp x (List.mem_append_left _ hx)),
   H6 hl hb ts vs ds q (fun t' ht => hr t' (List.mem_cons_of_mem _ ht)) h2 (fun x hx => hlt x (List.mem_append_right _ hx)) sp (fun x hx => hsp x (List.mem_append_right _ hx)), rfl⟩
theorem Ry {f : Func} {s : ChangeSpec} {W W' : World} {args : Array Value} {ds gs : List (DataW H)} {before : List MemPlace} {tb : TypeId}
  (hW : DataW.Whole enc P f.params.toList s.vars false W args.toList ds gs before) (hvars : s.vars = []) (hspec : s.fn H (ds ++ []) = { results := [.lit (.bool true)], args := ds })
  (hl : laidOutB P = true) (hr : ∀ t ∈ f.params.toList, P.readableRec t = true /\ t < P.types.size) (hres : f.resultTypes = #[tb]) (htb : P.underlying tb = some .bool) (hb : Below W.heap.size W W') :
  s.post enc P f false true false false W args (.bool true) W' := by
 have hlt : ∀ p ∈ before, p.block < W.heap.size := fun p hp => hW.lt p hp
 have hW' := hW
 obtain ⟨p, q, hA, hV, rfl, hz, hn⟩ := hW
 rw [hvars] at hV
 obtain ⟨rfl, rfl⟩ := trodVars_none hV
 refine ⟨ds, [], p ++ [], [], p, [], hW', ?_, ?_, ?_, World.keptBut_mono (fun x hx => ⟨hx, ?_⟩) (hb.frame (· ∈ p ++ [])), fun h => by cases h⟩
 ·rw [hspec, hres]
  exact trodAll_cons_mk (shut_bool htb true) trodAll_mk0
 ·rw [hspec]
  exact H6 hl hb _ _ _ _ hr hA (fun x hx => hlt x (List.mem_append_left _ hx)) _ (fun x hx => by simpa using hlt x (List.mem_append_left _ hx))
 ·rw [hspec, hvars]
  exact rfl
 ·rw [List.mem_append] at hx
  exact Or.inr (by simpa using hx)
theorem Na {f : FuncId} {xs : List Av} {args : List Value} {ans : Bool} (h : Bo P f xs (.av (.one (.b ans)))) (ha : ans = true) (hx : L2 (fun x v => ∀ σ, RA (MW W) σ x v) xs args) : Calls P f args.toArray W fun e W' => e = .returned (.bool true) /\ Below W.heap.size W W' := by
 subst ha
 refine (h (MW W) (fun _ => ⟨0, 0, false⟩) W args (fun _ _ h => h) (hx.mono fun _ _ _ h => h _)).mono ?_
 rintro en w' ⟨U, rfl, M', hk, hR⟩
 have : U = .bool true := (hR (fun _ => ⟨0, 0, false⟩)).1
 subst this
 exact ⟨rfl, hk.os, hk.tape, hk.output, hk.size, fun b hb => hk.old b hb (fun h => h)⟩
theorem Gn {n : Nat} (h : n <= maxLen) : (n : Int) <= 9223372036854775807 := by
 have : maxLen <= 9223372036854775807 := by decide
 omega
end
end
section
open Go.RowKit
def Av.map (g : Cl -> Cl) : Av -> Av
 | .one c => .one (g c)
 | .agg l => .agg (l.map g)
def Tv.map (g : Cl -> Cl) : Tv -> Tv
 | .av x => .av (x.map g)
 | .tup l => .tup (l.map (Av.map g))
 | .grd p x => .grd p (x.map g)
def Blk.map (g : Cl -> Cl) : Blk -> Blk
 | .cells l ty => .cells (l.map g) ty
 | .rowx sz len f ty hs => .rowx sz len f ty (hs.map fun p => (p.1, p.2.map g))
 | b => b
def NU {α : Type} (F : α -> α) : List (Nat × α) -> List (Nat × α)
 | [] => []
 | (k, v) :: r => (k, F v) :: NU F r
theorem Np {α β : Type} (F : α -> β) (l : List (Nat × α)) (n : Nat) : get (l.map fun p => (p.1, F p.2)) n = (get l n).map F := by
 induction l with
 | nil => rfl
 | cons p r ih =>
  obtain ⟨k, v⟩ := p
  simp only [List.map_cons, get, CW]
  by_cases h : k = n
  ·simp [h]
  ·simp only [h, decide_false, cond_false, ih]
theorem EO {α : Type} (F : α -> α) (l : List (Nat × α)) (n : Nat) : get (NU F l) n = (get l n).map F := by
 induction l with
 | nil => rfl
 | cons p r ih =>
  obtain ⟨k, v⟩ := p
  simp only [NU, get, CW]
  by_cases h : k = n
  ·simp [h]
  ·simp only [h, decide_false, cond_false, ih]
def Ky (p : Cl -> Prop) : Av -> Prop
 | .one c => p c
 | .agg l => ∀ c ∈ l, p c
def Sl (p : Cl -> Prop) : Tv -> Prop
 | .av x => Ky p x
 | .tup l => ∀ x ∈ l, Ky p x
 | .grd _ x => Ky p x
def VD (p : Cl -> Prop) : Blk -> Prop
 | .cells l _ => ∀ c ∈ l, p c
 | .rowx _ _ _ _ hs => ∀ i l, get hs i = some l -> ∀ c ∈ l, p c
 | _ => True
section
variable {M M' : Nat → Option Obj} {σ σ' : Nat → Loc} {g : Cl → Cl} {p : Cl → Prop}
theorem PH (h : ∀ c V, p c -> R M σ c V -> R M' σ' (g c) V) : ∀ {x : Av} {V : Value}, Ky p x -> RA M σ x V -> RA M' σ' (x.map g) V
 | .one c, V, hp, hx => h c V hp hx
 | .agg l, V, hp, ⟨vs, h1, h2⟩ => by
  refine ⟨vs, h1, ?_⟩
  replace hp : ∀ c ∈ l, p c := hp
  clear h1
  induction h2 with
  | nil => exact .nil
  | cons h3 _ ih => exact .cons (h _ _ (hp _ (by simp)) h3) (ih fun c hc => hp c (by simp [hc]))
theorem PE (h : ∀ c V, p c -> R M σ c V -> R M' σ' (g c) V) : ∀ {x : Tv} {V : Value}, Sl p x -> RT M σ x V -> RT M' σ' (x.map g) V
 | .av x, V, hp, hx => PH h hp hx
 | .tup l, V, hp, ⟨vs, h1, h2⟩ => by
  refine ⟨vs, h1, ?_⟩
  replace hp : ∀ c ∈ l, Ky p c := hp
  clear h1
  induction h2 with
  | nil => exact .nil
  | cons h3 _ ih => exact .cons (PH h (hp _ (by simp)) h3) (ih fun c hc => hp c (by simp [hc]))
 | .grd q x, V, hp, hx => ⟨fun hq => PH h hp (hx.1 hq), hx.2⟩
theorem Ml (h : ∀ c V, p c -> R M σ c V -> R M' σ' (g c) V) {l : List Cl} {vs : List Value} (hp : ∀ c ∈ l, p c) (h2 : L2 (R M σ) l vs) : L2 (R M' σ') (l.map g) vs := by
 induction h2 with
 | nil => exact .nil
 | cons h3 _ ih => exact .cons (h _ _ (hp _ (by simp)) h3) (ih fun c hc => hp c (by simp [hc]))
end
theorem Jv {M M' : Nat -> Option Obj} {σ σ' : Nat -> Loc} {g : Cl -> Cl} {p : Cl -> Prop} {w : World} {x : Loc} {sz len : Nat} {f : Nat -> Nat -> Cl} {ty : TypeId} {hs : List (Nat × List Cl)} (hM : ∀ b o, M b = some o -> M' b = some o) (h : ∀ c V, p c -> R M σ c V -> R M' σ' (g c) V) (hp : VD p (.rowx sz len f ty hs)) (h0 : Bz M σ w x (.rowx sz len f ty hs)) :
  Bz M' σ' w x (Blk.map g (.rowx sz len f ty hs)) := by
 obtain ⟨e0, c, e1, e2, e3, e4, gv, e5, e6⟩ := h0
 refine ⟨e0, c, e1, e2, e3, e4, gv, fun i j hi hj => ⟨(e5 i j hi hj).1, fun hn => Dp hM ((e5 i j hi hj).2 ?_)⟩, fun i l hl => ?_⟩
 ·rw [Np] at hn
  cases hg : get hs i with
  | none => rfl
  | some l => rw [hg] at hn; cases hn
 ·rw [Np] at hl
  cases hg : get hs i with
  | none => rw [hg] at hl; cases hl
  | some l0 =>
   rw [hg] at hl
   simp only [Option.map_some, Option.some.injEq] at hl
   subst hl
   exact ⟨(e6 i l0 hg).1, Ml h (hp i l0 hg) (e6 i l0 hg).2⟩
def fzC (n sz len : Nat) (f : Nat -> Nat -> Cl) : Cl -> Cl
 | .own m s l => bif Nat.beq m n then .list false sz len f else .own m s l
 | c => c
def fzP (n sz len : Nat) : Cl -> Prop
 | .own m s l => bif Nat.beq m n then l = len /\ s = sz else True
 | _ => True
def fzS (n sz len : Nat) (f : Nat -> Nat -> Cl) (s : AS) : AS := ⟨NU (Tv.map (fzC n sz len f)) s.t, del (NU (Blk.map (fzC n sz len f)) s.h) n⟩
def PK (p : Cl -> Prop) : List (Nat × Tv) -> Prop
 | [] => True
 | (_, v) :: r => Sl p v /\ PK p r
def PL (p : Cl -> Prop) : List (Nat × Blk) -> Prop
 | [] => True
 | (_, v) :: r => VD p v /\ PL p r
theorem PK.get {p : Cl -> Prop} : ∀ {l : List (Nat × Tv)}, PK p l -> ∀ i v, get l i = some v -> Sl p v
 | [], _, i, v, h => by cases h
 | (k, u) :: r, h, i, v, hg => by
  simp only [Go.Proofs.Ytdbampcfmjbgmaa.get, CW] at hg
  by_cases hk : k = i
  ·simp [hk] at hg; subst hg; exact h.1
  ·simp [hk] at hg; exact PK.get h.2 i v hg
theorem PL.get {p : Cl -> Prop} : ∀ {l : List (Nat × Blk)}, PL p l -> ∀ i v, get l i = some v -> VD p v
 | [], _, i, v, h => by cases h
 | (k, u) :: r, h, i, v, hg => by
  simp only [Go.Proofs.Ytdbampcfmjbgmaa.get, CW] at hg
  by_cases hk : k = i
  ·simp [hk] at hg; subst hg; exact h.1
  ·simp [hk] at hg; exact PL.get h.2 i v hg
section
variable {P : Program} {rd : Option Nat} {N : Nat} {W0 : World} {X : Nat → Option Loc} {M0 M : Nat → Option Obj} {σ : Nat → Loc} {w : World} {a : Act} {Q : Exit → AS → Prop} {s : AS}
theorem Te : ∀ {l : List Nat} {n : Nat}, Bc l n = true -> n ∈ l
 | [], n, h => by cases h
 | k :: r, n, h => by
  unfold Bc at h
  cases hb : Nat.beq k n with
  | true => rw [Nat.eq_of_beq_eq_true hb]; exact List.mem_cons_self ..
  | false => rw [hb] at h; exact List.mem_cons_of_mem _ (Te h)
def xok (K : List Nat) (n : Nat) (s : AS) : Bool := K.all fun k => !Nat.beq k n && (match get s.h k with
  | some (.cells ..) => true
  | _ => false)
theorem Q4 {K : List Nat} {n : Nat} (hX : ∀ k x, X k = some x -> Bc K k = true) (hK : xok K n s = true) (hs : Sim N W0 X M0 M σ (get s.t) (get s.h) a w) {b0 : Blk} (hn : get s.h n = some b0) (hnil : (σ n).nil = false) : ¬ inX X (σ n).b := by
 rintro ⟨k, x, hk, hx⟩
 have h0 := List.all_eq_true.1 hK k (Te (hX k x hk))
 simp only [Bool.and_eq_true] at h0
 obtain ⟨h1, h2⟩ := h0
 have hne : n ≠ k := (I6 h1).symm
 split at h2
 ·rename_i l ty hg
  have hnk : (σ k).nil = false := (hs.blk k _ hg).1
  have hp := (hs.pin k x hk).2
  rcases hs.inj n k _ _ hn hg hne with h3 | h3 | h3
  ·rw [hnil] at h3; cases h3
  ·rw [hnk] at h3; cases h3
  ·rw [hp] at h3; exact h3 hx.symm
 ·cases h2
theorem OG {K : List Nat} (n sz len : Nat) (f : Nat -> Nat -> Cl) (ty : TypeId) (hX : ∀ k x, X k = some x -> Bc K k = true) (hK : xok K n s = true) (hn : get s.h n = some (.row sz len f ty)) (ht : PK (fzP n sz len) s.t) (hb : PL (fzP n sz len) s.h) (hs : Sim N W0 X M0 M σ (get s.t) (get s.h) a w) : ∃ M', Sim N W0 X M0 M' σ (get (fzS n sz len f s).t) (get (fzS n sz len f s).h) a w := by
 have hrow := hs.blk n _ hn
 -- the new M
 obtain ⟨M', hsub, hnew, himm, hother, hR⟩ : ∃ M' : Nat -> Option Obj, (∀ b o, M b = some o -> M' b = some o) /\ (∀ b o, M' b = some o -> M b = none -> W0.heap.size <= b) /\ (∀ b o, M' b = some o -> w.heap[b]? = some o) /\ (∀ b, ((σ n).nil = true \/ b ≠ (σ n).b) -> M' b = M b) /\
   (∀ c V, fzP n sz len c -> R M σ c V -> R M' σ (fzC n sz len f c) V) := by
  cases hnil : (σ n).nil with
  | true =>
   have hl0 : len = 0 := by
    rcases hrow with ⟨_, h⟩ | ⟨h, _⟩
    ·exact h
    ·rw [hnil] at h; cases h
   subst hl0
   refine ⟨M, fun _ _ h => h, fun b o h1 h2 => (by rw [h1] at h2; cases h2), hs.imm, fun _ _ => rfl, fun c V hp hc => ?_⟩
   cases c with
   | own m s' l =>
    simp only [fzC, fzP] at *
    cases hm : Nat.beq m n with
    | false => exact hc
    | true =>
     rw [hm] at hp
     obtain ⟨rfl, rfl⟩ := hp
     have := Nat.eq_of_beq_eq_true hm
     subst this
     simp only [R, hnil, if_true] at hc
     rw [hc.2]
     exact .nil _ _ _ rfl
   | _ => exact hc
  | false =>
   rcases hrow with ⟨h, _⟩ | ⟨_, cc, hcc, hsz, hlc, hcm, gg, hgg⟩
   ·rw [hnil] at h; cases h
   have hloc : M (σ n).b = none /\ W0.heap.size <= (σ n).b := by
    rcases hs.loc n _ hn with h | ⟨h1, h2 | h2⟩
    ·rw [hnil] at h; cases h
    ·exact ⟨h1, h2⟩
    ·exact absurd h2 (Q4 hX hK hs hn hnil)
   refine ⟨fun b => if b = (σ n).b then w.heap[b]? else M b, fun b o h1 => ?_, fun b o h1 h2 => ?_, fun b o h1 => ?_, fun b hb => ?_, fun c V hp hc => ?_⟩
   ·by_cases hb : b = (σ n).b
    ·subst hb; rw [hloc.1] at h1; cases h1
    ·simp only [hb, if_false]; exact h1
   ·by_cases hb : b = (σ n).b
    ·subst hb; exact hloc.2
    ·simp only [hb, if_false] at h1; rw [h1] at h2; cases h2
   ·by_cases hb : b = (σ n).b
    ·simp only [hb, if_true] at h1; rw [hb]; exact h1
    ·simp only [hb, if_false] at h1; exact hs.imm b o h1
   ·rcases hb with hb | hb
    ·cases hb
    ·simp only [hb, if_false]
   ·have hsub : ∀ b o, M b = some o -> (fun b => if b = (σ n).b then w.heap[b]? else M b) b = some o := fun b o h1 => by
     by_cases hb : b = (σ n).b
     ·subst hb; rw [hloc.1] at h1; cases h1
     ·simp only [hb, if_false]; exact h1
    have hmono : ∀ c V, R M σ c V -> R (fun b => if b = (σ n).b then w.heap[b]? else M b) σ c V := fun c V h => C8 hsub (fun _ _ => rfl) h
    cases c with
    | own m s' l =>
     simp only [fzC, fzP] at *
     cases hm : Nat.beq m n with
     | false => exact hmono _ _ hc
     | true =>
      rw [hm] at hp
      obtain ⟨rfl, rfl⟩ := hp
      have := Nat.eq_of_beq_eq_true hm
      subst this
      simp only [R, hnil, Bool.false_eq_true, if_false] at hc
      rw [hc]
      refine .list _ _ _ _ _ 0 _ gg (fun i j hi hj => ?_) (fun i j hi hj => Dp hsub (hgg i j hi hj).2) hlc
      unfold D1
      simp only [if_true, hcc, Nat.zero_add]
      exact (hgg i j hi hj).1
    | _ => exact hmono _ _ hc
 refine ⟨M', hs.os, hs.tape, hs.output, hs.size, hs.old, fun b o h1 => hsub b o (hs.sub b o h1), fun b o h1 h2 => ?_, hs.pin, hs.defers.mono hsub, hs.room, fun i v hv => ?_, himm, fun m b hb' => ?_, fun m b hb' => ?_, fun m k b c h1 h2 => ?_⟩
 ·cases hM : M b with
  | none => exact hnew b o h1 hM
  | some o' => exact hs.new b o' hM h2
 ·simp only [fzS, EO] at hv
  cases hg : get s.t i with
  | none => rw [hg] at hv; cases hv
  | some v0 =>
   rw [hg] at hv
   simp only [Option.map_some, Option.some.injEq] at hv
   subst hv
   exact PE hR (ht.get i v0 hg) (hs.tmps i v0 hg)
 ·simp only [fzS, GW, EO] at hb'
  split at hb'
  ·cases hb'
  ·rename_i hne
   cases hg : get s.h m with
   | none => rw [hg] at hb'; cases hb'
   | some b0 =>
    rw [hg] at hb'
    simp only [Option.map_some, Option.some.injEq] at hb'
    subst hb'
    have h0 := hs.blk m b0 hg
    cases b0 with
    | cells l ty' =>
     obtain ⟨h1, cc, h2, h3⟩ := h0
     exact ⟨h1, cc, h2, Ml hR (hb.get m _ hg) h3⟩
    | row => exact Bz.mono hsub (fun _ _ => rfl) (fun _ => rfl) h0
    | omap => exact Bz.mono hsub (fun _ _ => rfl) (fun _ => rfl) h0
    | rowx => exact Jv hsub hR (hb.get m _ hg) h0
 ·simp only [fzS, GW, EO] at hb'
  split at hb'
  ·cases hb'
  ·rename_i hne
   cases hg : get s.h m with
   | none => rw [hg] at hb'; cases hb'
   | some b0 =>
    rcases hs.loc m b0 hg with h1 | ⟨h1, h2⟩
    ·exact .inl h1
    ·by_cases hmn : (σ m).nil = true
     ·exact .inl hmn
     ·refine .inr ⟨?_, h2⟩
      rw [hother]
      ·exact h1
      ·rcases hs.inj n m _ _ hn hg hne with h3 | h3 | h3
       ·exact .inl h3
       ·exact absurd h3 hmn
       ·exact .inr (Ne.symm h3)
 ·simp only [fzS, GW, EO] at h1 h2
  split at h1
  ·cases h1
  split at h2
  ·cases h2
  intro hne
  cases hg : get s.h m with
  | none => rw [hg] at h1; cases h1
  | some b0 =>
   cases hg2 : get s.h k with
   | none => rw [hg2] at h2; cases h2
   | some c0 => exact hs.inj m k b0 c0 hg hg2 hne
def Cv (N : Nat) (W0 : World) (X : Nat -> Option Loc) (M0 : Nat -> Option Obj) (s t : AS) : Prop := ∀ M σ a w, Sim N W0 X M0 M σ (get s.t) (get s.h) a w -> ∃ M' σ', Sim N W0 X M0 M' σ' (get t.t) (get t.h) a w
theorem Cv.refl (s : AS) : Cv N W0 X M0 s s := fun M σ _ _ hs => ⟨M, σ, hs⟩
theorem Cv.trans {s t u : AS} (h : Cv N W0 X M0 s t) (k : Cv N W0 X M0 t u) : Cv N W0 X M0 s u := fun M σ a w hs => (h M σ a w hs).elim fun M' h1 => h1.elim fun σ' h2 => k M' σ' a w h2
theorem BA {s : AS} (ts ns : List Nat) (S : AS) (hS : KH ts ns s = S) : Cv N W0 X M0 s S := fun M σ _ _ hs => ⟨M, σ, hS ▸ Eu hs ts ns⟩
theorem U6 {s : AS} {K : List Nat} (S : AS) (n sz len : Nat) (f : Nat -> Nat -> Cl) (ty : TypeId) (hX : ∀ k x, X k = some x -> Bc K k = true) (hK : xok K n s = true) (hn : get s.h n = some (.row sz len f ty)) (ht : PK (fzP n sz len) s.t) (hb : PL (fzP n sz len) s.h) (hS : fzS n sz len f s = S) : Cv N W0 X M0 s S := by
 subst hS
 intro M σ a w hs
 obtain ⟨M', h1⟩ := OG n sz len f ty hX hK hn ht hb hs
 exact ⟨M', σ, h1⟩
theorem Bl {c : Code} {s S : AS} (h : Cv N W0 X M0 s S) (k : AWp P rd N W0 X M0 c Q S) : AWp P rd N W0 X M0 c Q s := fun M σ a w hs => (h M σ a w hs).elim fun M' h1 => h1.elim fun σ' h2 => k M' σ' a w h2
theorem D2 {c : Code} {s : AS} (h : AWp P rd N W0 X M0 c (fun e s => ∃ t, Cv N W0 X M0 s t /\ Q e t) s) : AWp P rd N W0 X M0 c Q s := by
 intro M σ a w hs
 refine wpIn_mono (h M σ a w hs) ?_
 rintro e a' w' ⟨s', M', σ', ⟨t, h1, h2⟩, h3⟩
 obtain ⟨M'', σ'', h4⟩ := h1 M' σ' a' w' h3
 exact ⟨t, M'', σ'', h2, h4⟩
theorem Bm {c : Code} {K : AS -> Prop} {s : AS} (S : AS) (h1 : AWp P rd N W0 X M0 c (ATh (fun s' => Cv N W0 X M0 s' S) Q) s) (h2 : K S) : AWp P rd N W0 X M0 c (ATh K Q) s := by
 intro M σ a w hs
 refine wpIn_mono (h1 M σ a w hs) ?_
 rintro e a' w' ⟨s', M', σ', h3, h4⟩
 cases e with
 | normal =>
  obtain ⟨M'', σ'', h5⟩ := (show Cv N W0 X M0 s' S from h3) M' σ' a' w' h4
  exact ⟨_, M'', σ'', h2, h5⟩
 | _ => exact ⟨s', M', σ', h3, h4⟩
theorem BL {ι : Type} {c : Code} (S : ι -> AS) (Inv : ι -> Prop) (μ : ι -> Nat) (round : ∀ x, Inv x -> AWp P rd N W0 X M0 c (ATh (fun s' => ∃ y, Inv y /\ μ y < μ x /\ Cv N W0 X M0 s' (S y)) Q) (S x)) (x : ι) (hx : Inv x) : AWp P rd N W0 X M0 (.loop c) Q (S x) := by
 refine Tt S Inv μ (fun x hx => ?_) x hx
 intro M σ a w hs
 refine wpIn_mono (round x hx M σ a w hs) ?_
 rintro e a' w' ⟨s', M', σ', h1, h2⟩
 cases e with
 | normal =>
  obtain ⟨y, hy, hm, hc⟩ := h1
  obtain ⟨M'', σ'', h5⟩ := hc M' σ' a' w' h2
  exact ⟨S y, M'', σ'', ⟨y, hy, hm, rfl⟩, h5⟩
 | _ => exact ⟨s', M', σ', h1, h2⟩
end
end
section
open Go.RowKit
def Lv (q d : Nat) : Cl -> Cl
 | .ptr n off => .ptr (bif Nat.beq n q then d else n) off
 | .own n sz len => .own (bif Nat.beq n q then d else n) sz len
 | .rptr n sz i off => .rptr (bif Nat.beq n q then d else n) sz i off
 | .om n => .om (bif Nat.beq n q then d else n)
 | .clo f k caps => .clo f k (BE ((List.range k).map fun i => Lv q d (caps i)))
 | c => c
theorem Pf {n d : Nat} (h : (!Nat.beq n d) = true) : n ≠ d := I6 h
theorem JZ {M : Nat -> Option Obj} {σ : Nat -> Loc} (q d : Nat) : ∀ {c : Cl} {V : Value}, c.no d = true -> R M σ c V -> R M (upd σ d (σ q)) (Lv q d c) V
 | .val _, _, _, h => h
 | .ptr n off, V, hd, h => by
  have hne := Pf hd
  simp only [Lv, R, CW] at *
  by_cases hq : n = q
  ·subst hq; simp only [decide_true, cond_true, BU]; exact h
  ·simp only [hq, decide_false, cond_false, CK _ _ hne]; exact h
 | .own n sz len, V, hd, h => by
  have hne := Pf hd
  simp only [Lv, R, CW] at *
  by_cases hq : n = q
  ·subst hq; simp only [decide_true, cond_true, BU]; exact h
  ·simp only [hq, decide_false, cond_false, CK _ _ hne]; exact h
 | .rptr n sz i off, V, hd, h => by
  have hne := Pf hd
  simp only [Lv, R, CW] at *
  by_cases hq : n = q
  ·subst hq; simp only [decide_true, cond_true, BU]; exact h
  ·simp only [hq, decide_false, cond_false, CK _ _ hne]; exact h
 | .om n, V, hd, h => by
  have hne := Pf hd
  simp only [Lv, R, CW] at *
  by_cases hq : n = q
  ·subst hq; simp only [decide_true, cond_true, BU]; exact h
  ·simp only [hq, decide_false, cond_false, CK _ _ hne]; exact h
 | .list .., _, _, h => h
 | .eptr .., _, _, h => h
 | .mp .., _, _, h => h
 | .any, _, _, h => h
 | .clo f k caps, V, hd, h => by
  obtain ⟨cs, h1, h2, h3⟩ := h
  refine ⟨cs, h1, h2, fun i hi => ?_⟩
  rw [Ip _ hi]
  refine JZ q d ?_ (h3 i hi)
  simp only [Cl.no, List.all_eq_true] at hd
  exact hd i (by simpa using hi)
def S4 (q d : Nat) : List (Nat × Blk) -> List (Nat × Blk)
 | [] => []
 | (k, v) :: r => (bif Nat.beq k q then d else k, v.map (Lv q d)) :: S4 q d r
theorem GB {q d : Nat} : ∀ {l : List (Nat × Blk)}, get l d = none -> ∀ m b, get (S4 q d l) m = some b -> ∃ m0 b0, get l m0 = some b0 /\ b = b0.map (Lv q d) /\ ((m0 = q /\ m = d) \/ (m0 ≠ q /\ m0 = m /\ m ≠ d))
 | [], _, m, b, h => by cases h
 | (k, v) :: r, hd, m, b, h => by
  simp only [get, CW] at hd
  by_cases hkd : k = d
  ·simp [hkd] at hd
  simp only [hkd, decide_false, cond_false] at hd
  simp only [S4, get, CW] at h
  by_cases hkq : k = q
  ·simp only [hkq, decide_true, cond_true] at h
   by_cases hdm : d = m
   ·simp only [hdm, decide_true, cond_true, Option.some.injEq] at h
    exact ⟨q, v, by simp [get, CW, hkq], by rw [hdm]; exact h.symm, .inl ⟨rfl, hdm.symm⟩⟩
   ·simp only [hdm, decide_false, cond_false] at h
    obtain ⟨m0, b0, h1, h2, h3⟩ := GB hd m b h
    refine ⟨m0, b0, ?_, h2, h3⟩
    rcases h3 with ⟨_, h4⟩ | ⟨h4, _⟩
    ·exact absurd h4.symm hdm
    ·simp only [get, CW]
     have : ¬ k = m0 := fun e => h4 (e ▸ hkq)
     simp [this, h1]
  ·simp only [hkq, decide_false, cond_false] at h
   by_cases hkm : k = m
   ·simp only [hkm, decide_true, cond_true, Option.some.injEq] at h
    exact ⟨k, v, by simp [get, CW], h.symm, .inr ⟨hkq, hkm, hkm ▸ hkd⟩⟩
   ·simp only [hkm, decide_false, cond_false] at h
    obtain ⟨m0, b0, h1, h2, h3⟩ := GB hd m b h
    refine ⟨m0, b0, ?_, h2, h3⟩
    simp only [get, CW]
    have : ¬ k = m0 := by
     rcases h3 with ⟨h4, _⟩ | ⟨_, h4, _⟩
     ·rw [h4]; exact hkq
     ·rw [h4]; exact hkm
    simp [this, h1]
def noD (d : Nat) (s : AS) : Bool := s.t.all (fun p => p.2.no d) && s.h.all (fun p => p.2.no d) && (match get s.h d with
 | none => true
 | _ => false)
def Ur (K : List Nat) (n : Nat) : Bool := K.all fun k => !Nat.beq k n
def renS (q d : Nat) (s : AS) : AS := ⟨NU (Tv.map (Lv q d)) s.t, S4 q d s.h⟩
theorem Tu {d : Nat} {v : Tv} (h : v.no d = true) : Sl (fun c => c.no d = true) v := by
 have av : ∀ x : Av, x.no d = true -> Ky (fun c => c.no d = true) x := fun x hx => by
  cases x with
  | one c => exact hx
  | agg l => exact fun c hc => (List.all_eq_true.1 hx) c hc
 cases v with
 | av x => exact av x h
 | tup l => exact fun x hx => av x ((List.all_eq_true.1 h) x hx)
 | grd g x => exact av x h
section
variable {P : Program} {rd : Option Nat} {N : Nat} {W0 : World} {X : Nat → Option Loc} {M0 M : Nat → Option Obj} {σ : Nat → Loc} {w : World} {a : Act} {Q : Exit → AS → Prop} {s : AS}
theorem UA {d : Nat} (h : noD d s = true) {i : Nat} {v : Tv} (hg : get s.t i = some v) : v.no d = true := by
 simp only [noD, Bool.and_eq_true, List.all_eq_true] at h
 exact h.1.1 _ (DU hg)
theorem UB {d : Nat} (h : noD d s = true) {i : Nat} {v : Blk} (hg : get s.h i = some v) : v.no d = true := by
 simp only [noD, Bool.and_eq_true, List.all_eq_true] at h
 exact h.1.2 _ (DU hg)
theorem UC {d : Nat} (h : noD d s = true) : get s.h d = none := by
 simp only [noD, Bool.and_eq_true] at h
 have := h.2
 split at this
 ·assumption
 ·cases this
theorem Be {K : List Nat} (S : AS) (q d : Nat) (hX : ∀ k x, X k = some x -> Bc K k = true) (h1 : Ur K q = true) (h2 : Ur K d = true) (hd : noD d s = true) (hS : renS q d s = S) : Cv N W0 X M0 s S := by
 subst hS
 intro M σ a w hs
 have hg := UC hd
 have hu : ∀ n, n ≠ d -> upd σ d (σ q) n = σ n := fun n hn => CK _ _ hn
 have hud : upd σ d (σ q) d = σ q := BU _ _ _
 refine ⟨M, upd σ d (σ q), ⟨hs.os, hs.tape, hs.output, hs.size, hs.old, hs.sub, hs.new, fun n x hx => ?_, hs.defers, hs.room, fun i v hv => ?_, hs.imm, fun m b hb => ?_, fun m b hb => ?_, fun m k b b' hb hb' hne => ?_⟩⟩
 ·have hne : n ≠ d := I6 (List.all_eq_true.1 h2 n (Te (hX n x hx)))
  rw [hu n hne]
  exact hs.pin n x hx
 ·simp only [renS, EO] at hv
  cases hgi : get s.t i with
  | none => rw [hgi] at hv; cases hv
  | some v0 =>
   rw [hgi] at hv
   simp only [Option.map_some, Option.some.injEq] at hv
   subst hv
   exact PE (p := fun c => c.no d = true) (fun c V hp hc => JZ q d hp hc) (Tu (UA hd hgi)) (hs.tmps i v0 hgi)
 ·obtain ⟨m0, b0, g1, rfl, g3⟩ := GB hg m b hb
  have hloc : upd σ d (σ q) m = σ m0 := by
   rcases g3 with ⟨rfl, rfl⟩ | ⟨_, rfl, h4⟩
   ·exact hud
   ·exact hu _ h4
  rw [hloc]
  have h0 := hs.blk m0 b0 g1
  have hno := UB hd g1
  cases b0 with
  | cells l ty =>
   obtain ⟨e1, cc, e2, e3⟩ := h0
   exact ⟨e1, cc, e2, Ml (p := fun c => c.no d = true) (fun c V hp hc => JZ q d hp hc) (fun c hc => (List.all_eq_true.1 hno) c hc) e3⟩
  | row => exact h0
  | omap => exact h0
  | rowx => exact Jv (p := fun c => c.no d = true) (fun _ _ h => h) (fun c V hp hc => JZ q d hp hc) (fun i l hl c hc => List.all_eq_true.1 (List.all_eq_true.1 hno _ (DU hl)) c hc) h0
 ·obtain ⟨m0, b0, g1, rfl, g3⟩ := GB hg m b hb
  have hloc : upd σ d (σ q) m = σ m0 := by
   rcases g3 with ⟨rfl, rfl⟩ | ⟨_, rfl, h4⟩
   ·exact hud
   ·exact hu _ h4
  rw [hloc]
  exact hs.loc m0 b0 g1
 ·obtain ⟨m0, b0, g1, rfl, g3⟩ := GB hg m b hb
  obtain ⟨k0, b0', g1', rfl, g3'⟩ := GB hg k b' hb'
  have hl1 : upd σ d (σ q) m = σ m0 := by
   rcases g3 with ⟨rfl, rfl⟩ | ⟨_, rfl, h4⟩
   ·exact hud
   ·exact hu _ h4
  have hl2 : upd σ d (σ q) k = σ k0 := by
   rcases g3' with ⟨rfl, rfl⟩ | ⟨_, rfl, h4⟩
   ·exact hud
   ·exact hu _ h4
  rw [hl1, hl2]
  refine hs.inj m0 k0 b0 b0' g1 g1' ?_
  rintro rfl
  rcases g3 with ⟨e1, e2⟩ | ⟨e1, e2, _⟩ <;> rcases g3' with ⟨e3, e4⟩ | ⟨e3, e4, _⟩
  ·exact hne (e2.trans e4.symm)
  ·exact e3 e1
  ·exact e1 e3
  ·exact hne (e2.symm.trans e4)
def Uv (n : Nat) : List Nat -> Bool
 | [] => false
 | k :: r => Nat.beq k n || Uv n r
def NL (d sz : Nat) : Cl -> Cl
 | .val (.slice none 0 0) => .own d sz 0
 | c => c
def mapIx (g : Cl -> Cl) (is : List Nat) : Nat -> List Cl -> List Cl
 | _, [] => []
 | k, c :: r => (bif Uv k is then g c else c) :: mapIx g is (k + 1) r
def Av.mapIx (g : Cl -> Cl) (is : List Nat) : Av -> Av
 | .one c => .one (bif Uv 0 is then g c else c)
 | .agg l => .agg (Go.Proofs.Ytdbampcfmjbgmaa.mapIx g is 0 l)
def Tv.mapIx (g : Cl -> Cl) (is : List Nat) : Tv -> Tv
 | .av x => .av (x.mapIx g is)
 | v => v
def Qj (g : Cl -> Cl) (is : List Nat) : Nat -> List (Nat × List Cl) -> List (Nat × List Cl)
 | _, [] => []
 | k, (m, l) :: r => (m, Go.Proofs.Ytdbampcfmjbgmaa.mapIx g is k l) :: Qj g is (k + l.length) r
def Blk.mapIx (g : Cl -> Cl) (is : List Nat) : Blk -> Blk
 | .cells l ty => .cells (Go.Proofs.Ytdbampcfmjbgmaa.mapIx g is 0 l) ty
 | .rowx sz len f ty hs => .rowx sz len f ty (Qj g is 0 hs)
 | b => b
theorem Nq (g : Cl -> Cl) (is : List Nat) : ∀ (hs : List (Nat × List Cl)) (k i : Nat) (l : List Cl), get (Qj g is k hs) i = some l -> ∃ k' l0, get hs i = some l0 /\ l = Go.Proofs.Ytdbampcfmjbgmaa.mapIx g is k' l0
 | [], k, i, l, h => by cases h
 | (m, l0) :: r, k, i, l, h => by
  simp only [Qj, get, CW] at h ⊢
  by_cases e : m = i
  ·simp [e] at h; exact ⟨k, l0, by simp [e], h.symm⟩
  ·simp only [e, decide_false, cond_false] at h ⊢
   exact Nq g is r _ i l h
theorem Hh (g : Cl -> Cl) (is : List Nat) : ∀ (hs : List (Nat × List Cl)) (k i : Nat), get (Qj g is k hs) i = none -> get hs i = none
 | [], k, i, h => rfl
 | (m, l0) :: r, k, i, h => by
  simp only [Qj, get, CW] at h ⊢
  by_cases e : m = i
  ·simp [e] at h
  ·simp only [e, decide_false, cond_false] at h ⊢
   exact Hh g is r _ i h
def LH {α : Type} (F : List Nat -> α -> α) (is : List (Nat × List Nat)) : List (Nat × α) -> List (Nat × α)
 | [] => []
 | (k, v) :: r => (k, F ((get is k).getD []) v) :: LH F is r
theorem LP {α : Type} (F : List Nat -> α -> α) (is : List (Nat × List Nat)) (l : List (Nat × α)) (n : Nat) : get (LH F is l) n = (get l n).map (F ((get is n).getD [])) := by
 induction l with
 | nil => rfl
 | cons p r ih =>
  obtain ⟨k, v⟩ := p
  simp only [LH, get, CW]
  by_cases h : k = n
  ·simp [h]
  ·simp only [h, decide_false, cond_false, ih]
theorem Pg {d sz : Nat} {x : Loc} (hx : x.nil = true) : ∀ {c : Cl} {V : Value}, c.no d = true -> R M σ c V -> ∀ t : Bool, R M (upd σ d x) (bif t then NL d sz c else c) V := by
 intro c V hd hc t
 have keep : R M (upd σ d x) c V := C8 (fun _ _ h => h) (fun n hn => by
  by_cases e : n = d
  ·subst e; rw [hd] at hn; cases hn
  ·exact CK _ _ e) hc
 cases t with
 | false => exact keep
 | true =>
  show R M (upd σ d x) (NL d sz c) V
  unfold NL
  split
  ·obtain ⟨rfl, _⟩ := hc
   simp only [R, BU, hx, if_true]
   exact ⟨trivial, trivial⟩
  ·exact keep
theorem Ie {d sz : Nat} {x : Loc} (hx : x.nil = true) (is : List Nat) : ∀ (k : Nat) {l : List Cl} {vs : List Value}, (∀ c ∈ l, c.no d = true) -> L2 (R M σ) l vs -> L2 (R M (upd σ d x)) (mapIx (NL d sz) is k l) vs
 | k, [], vs, hp, h => by cases h; exact .nil
 | k, c :: r, vs, hp, h => by
  cases h with | cons h1 h2 =>
  exact .cons (Pg hx (hp c (by simp)) h1 _) (Ie hx is (k + 1) (fun c hc => hp c (by simp [hc])) h2)
def ghS (d sz : Nat) (f : Nat -> Nat -> Cl) (ty : TypeId) (it ih : List (Nat × List Nat)) (s : AS) : AS := ⟨LH (Tv.mapIx (NL d sz)) it s.t, (d, .row sz 0 f ty) :: LH (Blk.mapIx (NL d sz)) ih s.h⟩
theorem CH {K : List Nat} (S : AS) (d sz : Nat) (f : Nat -> Nat -> Cl) (ty : TypeId) (it ih : List (Nat × List Nat)) (hX : ∀ k x, X k = some x -> Bc K k = true) (h2 : Ur K d = true) (hd : noD d s = true) (hS : ghS d sz f ty it ih s = S) : Cv N W0 X M0 s S := by
 subst hS
 intro M σ a w hs
 have hg := UC hd
 have hu : ∀ n, n ≠ d -> upd σ d ⟨0, 0, true⟩ n = σ n := fun n hn => CK _ _ hn
 have hud : (upd σ d ⟨0, 0, true⟩ d) = ⟨0, 0, true⟩ := BU _ _ _
 have hkey : ∀ m b, get ((d, Blk.row sz 0 f ty) :: LH (Blk.mapIx (NL d sz)) ih s.h) m = some b -> (m = d /\ b = .row sz 0 f ty) \/ (m ≠ d /\ ∃ b0, get s.h m = some b0 /\ b = b0.mapIx (NL d sz) ((get ih m).getD [])) := fun m b hb => by
  simp only [get, CW] at hb
  by_cases e : d = m
  ·simp [e] at hb; exact .inl ⟨e.symm, by rw [<- hb]⟩
  ·simp only [e, decide_false, cond_false, LP] at hb
   cases hg0 : get s.h m with
   | none => rw [hg0] at hb; cases hb
   | some b0 =>
    rw [hg0] at hb
    simp only [Option.map_some, Option.some.injEq] at hb
    exact .inr ⟨Ne.symm e, b0, rfl, hb.symm⟩
 refine ⟨M, upd σ d ⟨0, 0, true⟩, ⟨hs.os, hs.tape, hs.output, hs.size, hs.old, hs.sub, hs.new, fun n x hx => ?_, hs.defers, hs.room, fun i v hv => ?_, hs.imm, fun m b hb => ?_, fun m b hb => ?_, fun m k b b' hb hb' hne => ?_⟩⟩
 ·have hne : n ≠ d := I6 (List.all_eq_true.1 h2 n (Te (hX n x hx)))
  rw [hu n hne]
  exact hs.pin n x hx
 ·simp only [ghS, LP] at hv
  cases hgi : get s.t i with
  | none => rw [hgi] at hv; cases hv
  | some v0 =>
   rw [hgi] at hv
   simp only [Option.map_some, Option.some.injEq] at hv
   subst hv
   have h0 := hs.tmps i v0 hgi
   have hno := UA hd hgi
   have hmono : RT M (upd σ d ⟨0, 0, true⟩) v0 (a.tmps.getD i undef) := Dc (fun _ _ h => h) (fun n hn => by
    by_cases e : n = d
    ·subst e; rw [hno] at hn; cases hn
    ·exact hu n e) h0
   cases v0 with
   | av x =>
    cases x with
    | one c => exact Pg rfl hno h0 _
    | agg l =>
     obtain ⟨vs, e1, e2⟩ := h0
     exact ⟨vs, e1, Ie rfl _ 0 (fun c hc => (List.all_eq_true.1 hno) c hc) e2⟩
   | tup l => exact hmono
   | grd g x => exact hmono
 ·rcases hkey m b hb with ⟨rfl, rfl⟩ | ⟨hne, b0, g1, rfl⟩
  ·rw [hud]; exact .inl ⟨rfl, rfl⟩
  ·rw [hu m hne]
   have h0 := hs.blk m b0 g1
   have hno := UB hd g1
   cases b0 with
   | cells l ty' =>
    obtain ⟨e1, cc, e2, e3⟩ := h0
    exact ⟨e1, cc, e2, Ie rfl _ 0 (fun c hc => (List.all_eq_true.1 hno) c hc) e3⟩
   | row => exact h0
   | omap => exact h0
   | rowx sz' len' f' ty' hh =>
    obtain ⟨e0, c, e1, e2, e3, e4, gv, e5, e6⟩ := h0
    refine ⟨e0, c, e1, e2, e3, e4, gv, fun i j hi hj => ⟨(e5 i j hi hj).1, fun hn => (e5 i j hi hj).2 (Hh _ _ _ _ _ hn)⟩, fun i l hl => ?_⟩
    obtain ⟨k', l0, hl0, rfl⟩ := Nq _ _ _ _ _ _ hl
    exact ⟨(e6 i l0 hl0).1, Ie rfl _ k' (fun c hc => List.all_eq_true.1 (List.all_eq_true.1 hno _ (DU hl0)) c hc) (e6 i l0 hl0).2⟩
 ·rcases hkey m b hb with ⟨rfl, rfl⟩ | ⟨hne, b0, g1, rfl⟩
  ·rw [hud]; exact .inl rfl
  ·rw [hu m hne]; exact hs.loc m b0 g1
 ·rcases hkey m b hb with ⟨rfl, rfl⟩ | ⟨h3, b0, g1, rfl⟩
  ·rw [hud]; exact .inl rfl
  ·rcases hkey k b' hb' with ⟨rfl, rfl⟩ | ⟨h4, b0', g1', rfl⟩
   ·rw [hud]; exact .inr (.inl rfl)
   ·rw [hu m h3, hu k h4]; exact hs.inj m k b0 b0' g1 g1' hne
end
def AY {α : Type} [Inhabited α] (c : α -> List Cl) (xs : List α) : Nat -> Nat -> Cl := fun i j => (c (xs.getD i default)).getD j default
theorem S1 {α : Type} [Inhabited α] (c : α -> List Cl) (xs ys : List α) (sz : Nat) (g : Nat -> Nat -> Cl) (hg : ∀ i j, i < ys.length -> j < sz -> g i j = AY c ys i j) : ∀ i j, i < (xs ++ ys).length -> j < sz -> (if i < xs.length then AY c xs i j else g (i - xs.length) j) = AY c (xs ++ ys) i j := by
 intro i j hi hj
 rw [List.length_append] at hi
 unfold AY at *
 by_cases h : i < xs.length
 ·rw [if_pos h]
  simp only [List.getD_eq_getElem?_getD, List.getElem?_append_left h]
 ·rw [if_neg h, hg _ _ (by omega) hj]
  simp only [List.getD_eq_getElem?_getD, List.getElem?_append_right (Nat.le_of_not_lt h)]
theorem S0 {α : Type} [Inhabited α] (c : α -> List Cl) (xs : List α) (k : Nat) (v : α) (l : List Cl) (sz off m : Nat) (hk : k < xs.length) (hv : ∀ j, j < sz -> (if off <= j /\ j < off + m then l.getD (j - off) default else (c (xs.getD k default)).getD j default) = (c v).getD j default) :
  ∀ i j, i < (xs.set k v).length -> j < sz -> (if i = k /\ off <= j /\ j < off + m then l.getD (j - off) default else AY c xs i j) = AY c (xs.set k v) i j := by
 intro i j hi hj
 unfold AY
 by_cases h : i = k
 ·subst h
  have := hv j hj
  simp only [List.getD_eq_getElem?_getD, List.getElem?_set_self hk, Option.getD_some, true_and] at *
  exact this
 ·rw [if_neg (fun k => h k.1)]
  simp only [List.getD_eq_getElem?_getD, List.getElem?_set_ne (Ne.symm h)]
end
section
open Go.RowKit
def fxC (n : Nat) (l : List Cl) : Cl -> Cl
 | .ptr m off => bif Nat.beq m n then .eptr l.length 1 (fun _ j => l.getD j default) 0 off else .ptr m off
 | .clo f k caps => .clo f k (BE ((List.range k).map fun i => fxC n l (caps i)))
 | c => c
def fxS (n : Nat) (l : List Cl) (s : AS) : AS := ⟨NU (Tv.map (fxC n l)) s.t, del (NU (Blk.map (fxC n l)) s.h) n⟩
theorem Q1 : ∀ v : Tv, Sl (fun _ => True) v := by
 have av : ∀ x : Av, Ky (fun _ => True) x := fun x => by cases x <;> simp [Ky]
 intro v
 cases v with
 | av x => exact av x
 | tup l => exact fun x _ => av x
 | grd g x => exact av x
section
variable {P : Program} {rd : Option Nat} {N : Nat} {W0 : World} {X : Nat → Option Loc} {M0 M : Nat → Option Obj} {σ : Nat → Loc} {w : World} {a : Act} {Q : Exit → AS → Prop} {s : AS}
theorem PO (n : Nat) (l : List Cl) (ty : TypeId) (hnx : (σ n).nil = false -> ¬ inX X (σ n).b) (hn : get s.h n = some (.cells l ty)) (hdv : l.all Cl.dv = true) (hs : Sim N W0 X M0 M σ (get s.t) (get s.h) a w) : ∃ M', Sim N W0 X M0 M' σ (get (fxS n l s).t) (get (fxS n l s).h) a w := by
 obtain ⟨hnil, cc, hcc, hl⟩ := hs.blk n _ hn
 have hloc : M (σ n).b = none /\ W0.heap.size <= (σ n).b := by
  rcases hs.loc n _ hn with h | ⟨h1, h2 | h2⟩
  ·rw [hnil] at h; cases h
  ·exact ⟨h1, h2⟩
  ·exact absurd h2 (hnx hnil)
 obtain ⟨M', hM'⟩ : ∃ M' : Nat -> Option Obj, M' = fun b => if b = (σ n).b then w.heap[b]? else M b := ⟨_, rfl⟩
 have hsub : ∀ b o, M b = some o -> M' b = some o := fun b o h1 => by
  subst hM'
  by_cases hb : b = (σ n).b
  ·subst hb; rw [hloc.1] at h1; cases h1
  ·simp only [hb, if_false]; exact h1
 have himm : ∀ b o, M' b = some o -> w.heap[b]? = some o := fun b o h1 => by
  subst hM'
  by_cases hb : b = (σ n).b
  ·simp only [hb, if_true] at h1; rw [hb]; exact h1
  ·simp only [hb, if_false] at h1; exact hs.imm b o h1
 have hother : ∀ b, b ≠ (σ n).b -> M' b = M b := fun b hb => by subst hM'; simp only [hb, if_false]
 have hself : M' (σ n).b = w.heap[(σ n).b]? := by subst hM'; simp only [if_true]
 have hR : ∀ {c : Cl} {V : Value}, R M σ c V -> R M' σ (fxC n l c) V := by
  intro c
  induction c with
  | ptr m off =>
   intro V hc
   simp only [fxC]
   cases hm : Nat.beq m n with
   | false => exact hc
   | true =>
    have := Nat.eq_of_beq_eq_true hm
    subst this
    simp only [R] at hc
    rw [hc]
    have key := RC.eptr (M := M') l.length 1 (fun _ j => l.getD j default) 0 off (σ m).b 0 (fun j => cc.getD j undef) (fun j hj => by
     have hjc : j < cc.length := by have := hl.length; omega
     unfold D1
     rw [hself, hcc, Nat.zero_add]
     simp [List.getD_eq_getElem?_getD, hjc]) (fun j hj => by
     have hjl : l[j]? = some (l[j]'hj) := List.getElem?_eq_getElem hj
     obtain ⟨v, hv, hRv⟩ := hl.get j _ hjl
     simp only [List.getD_eq_getElem?_getD, hjl, hv, Option.getD_some]
     exact Dp hsub ((HY ((List.all_eq_true.1 hdv) _ (List.getElem_mem hj))).1 hRv))
    rw [Nat.zero_add] at key
    exact key
  | clo f k caps ih =>
   intro V hc
   obtain ⟨cs, h1, h2, h3⟩ := hc
   exact ⟨cs, h1, h2, fun i hi => by rw [Ip _ hi]; exact ih i (h3 i hi)⟩
  | val v => intro V hc; exact hc
  | own => intro V hc; exact C8 hsub (fun _ _ => rfl) hc
  | rptr => intro V hc; exact C8 hsub (fun _ _ => rfl) hc
  | list => intro V hc; exact C8 hsub (fun _ _ => rfl) hc
  | eptr => intro V hc; exact C8 hsub (fun _ _ => rfl) hc
  | mp => intro V hc; exact C8 hsub (fun _ _ => rfl) hc
  | om => intro V hc; exact C8 hsub (fun _ _ => rfl) hc
  | any => intro V hc; exact hc
 refine ⟨M', hs.os, hs.tape, hs.output, hs.size, hs.old, fun b o h1 => hsub b o (hs.sub b o h1), fun b o h1 h2 => ?_, hs.pin, hs.defers.mono hsub, hs.room, fun i v hv => ?_, himm, fun m b hb' => ?_, fun m b hb' => ?_, fun m k b c h1 h2 => ?_⟩
 ·by_cases hb : b = (σ n).b
  ·subst hb; exact hloc.2
  ·rw [hother b hb] at h1; exact hs.new b o h1 h2
 ·simp only [fxS, EO] at hv
  cases hg : get s.t i with
  | none => rw [hg] at hv; cases hv
  | some v0 =>
   rw [hg] at hv
   simp only [Option.map_some, Option.some.injEq] at hv
   subst hv
   exact PE (p := fun _ => True) (fun c V _ hc => hR hc) (Q1 v0) (hs.tmps i v0 hg)
 ·simp only [fxS, GW, EO] at hb'
  split at hb'
  ·cases hb'
  ·cases hg : get s.h m with
   | none => rw [hg] at hb'; cases hb'
   | some b0 =>
    rw [hg] at hb'
    simp only [Option.map_some, Option.some.injEq] at hb'
    subst hb'
    have h0 := hs.blk m b0 hg
    cases b0 with
    | cells l' ty' =>
     obtain ⟨h1, cc', h2, h3⟩ := h0
     exact ⟨h1, cc', h2, Ml (p := fun _ => True) (fun c V _ hc => hR hc) (fun _ _ => trivial) h3⟩
    | row => exact Bz.mono hsub (fun _ _ => rfl) (fun _ => rfl) h0
    | omap => exact Bz.mono hsub (fun _ _ => rfl) (fun _ => rfl) h0
    | rowx => exact Jv (p := fun _ => True) hsub (fun c V _ hc => hR hc) (fun _ _ _ _ _ => trivial) h0
 ·simp only [fxS, GW, EO] at hb'
  split at hb'
  ·cases hb'
  ·rename_i hne
   cases hg : get s.h m with
   | none => rw [hg] at hb'; cases hb'
   | some b0 =>
    rcases hs.loc m b0 hg with h1 | ⟨h1, h2⟩
    ·exact .inl h1
    ·by_cases hmn : (σ m).nil = true
     ·exact .inl hmn
     ·refine .inr ⟨?_, h2⟩
      rw [hother]
      ·exact h1
      ·rcases hs.inj n m _ _ hn hg hne with h3 | h3 | h3
       ·rw [hnil] at h3; cases h3
       ·exact absurd h3 hmn
       ·exact Ne.symm h3
 ·simp only [fxS, GW, EO] at h1 h2
  split at h1
  ·cases h1
  split at h2
  ·cases h2
  intro hne
  cases hg : get s.h m with
  | none => rw [hg] at h1; cases h1
  | some b0 =>
   cases hg2 : get s.h k with
   | none => rw [hg2] at h2; cases h2
   | some c0 => exact hs.inj m k b0 c0 hg hg2 hne
theorem Iy {K : List Nat} (S : AS) (n : Nat) (l : List Cl) (ty : TypeId) (hX : ∀ k x, X k = some x -> Bc K k = true) (hK : xok K n s = true) (hn : get s.h n = some (.cells l ty)) (hdv : l.all Cl.dv = true) (hS : fxS n l s = S) : Cv N W0 X M0 s S := by
 subst hS
 intro M σ a w hs
 obtain ⟨M', h1⟩ := PO n l ty (fun hnil => Q4 hX hK hs hn hnil) hn hdv hs
 exact ⟨M', σ, h1⟩
theorem Pi : ∀ {l : List Nat} {n : Nat}, Bc l n = true -> n ∈ l
 | [], _, h => by cases h
 | k :: r, n, h => by
  simp only [Bc] at h
  cases hk : Nat.beq k n with
  | true => have := Nat.eq_of_beq_eq_true hk; subst this; exact List.mem_cons_self ..
  | false => rw [hk] at h; exact List.mem_cons_of_mem _ (Pi h)
end
end
section
open Go.RowKit
inductive AvE : Av -> Av -> Prop
 | one {c c' : Cl} (h : ClE c c') : AvE (.one c) (.one c')
 | agg {l l' : List Cl} (h : L2 ClE l l') : AvE (.agg l) (.agg l')
inductive TvE : Tv -> Tv -> Prop
 | refl (v : Tv) : TvE v v
 | av {x x' : Av} (h : AvE x x') : TvE (.av x) (.av x')
 | tup {l l' : List Av} (h : L2 AvE l l') : TvE (.tup l) (.tup l')
inductive GP : Blk -> Blk -> Prop
 | refl (b : Blk) : GP b b
 | cells {l l' : List Cl} (ty : TypeId) (h : L2 ClE l l') : GP (.cells l ty) (.cells l' ty)
 | row (sz : Nat) {len len' : Nat} {f f' : Nat -> Nat -> Cl} (ty : TypeId) (hl : len = len') (h : ∀ i j, i < len' -> j < sz -> ClE (f i j) (f' i j)) : GP (.row sz len f ty) (.row sz len' f' ty)
 | omap (agg : Bool) (nv : Nat) {len len' : Nat} {kf kf' : Nat -> Value} {f f' : Nat -> Nat -> Cl} (hl : len = len') (hk : ∀ i, i < len' -> kf i = kf' i) (h : ∀ i j, i < len' -> j < nv -> ClE (f i j) (f' i j)) : GP (.omap agg nv len kf f) (.omap agg nv len' kf' f')
 | rowx (sz len : Nat) (f : Nat -> Nat -> Cl) (ty : TypeId) {hs hs' : List (Nat × List Cl)} (h : L2 (fun p q => p.1 = q.1 /\ L2 ClE p.2 q.2) hs hs') : GP (.rowx sz len f ty hs) (.rowx sz len f ty hs')
theorem AvE.refl : ∀ x : Av, AvE x x
 | .one c => .one (.refl c)
 | .agg l => .agg (by
   induction l with
   | nil => exact .nil
   | cons c l ih => exact .cons (.refl c) ih)
theorem L2.trans3 {α β : Type} {r : α -> β -> Prop} {q : α -> α -> Prop} {r' : α -> β -> Prop} (hq : ∀ a a' b, q a a' -> r a b -> r' a' b) {l l' : List α} {m : List β} (h : L2 q l l') (k : L2 r l m) : L2 r' l' m := by
 induction h generalizing m with
 | nil => cases k; exact .nil
 | cons h1 _ ih => cases k with | cons k1 k2 => exact .cons (hq _ _ _ h1 k1) (ih k2)
section
variable {P : Program} {rd : Option Nat} {N : Nat} {W0 : World} {X : Nat → Option Loc} {M0 M : Nat → Option Obj} {σ : Nat → Loc} {w : World} {a : Act} {Q : Exit → AS → Prop} {s S : AS}
theorem Kg {x x' : Av} {V : Value} (he : AvE x x') (h : RA M σ x V) : RA M σ x' V := by
 cases he with
 | one h1 => exact P6 h1 h
 | agg h1 =>
  obtain ⟨vs, e1, e2⟩ := h
  exact ⟨vs, e1, L2.trans3 (r := R M σ) (r' := R M σ) (fun _ _ _ => P6) h1 e2⟩
theorem H4 {x x' : Tv} {V : Value} (he : TvE x x') (h : RT M σ x V) : RT M σ x' V := by
 cases he with
 | refl => exact h
 | av h1 => exact Kg h1 h
 | tup h1 =>
  obtain ⟨vs, e1, e2⟩ := h
  exact ⟨vs, e1, L2.trans3 (r := RA M σ) (r' := RA M σ) (fun _ _ _ => Kg) h1 e2⟩
theorem Ir {α : Type} {r : α -> α -> Prop} {l l' : List (Nat × α)} (h : L2 (fun p q => p.1 = q.1 /\ r p.2 q.2) l l') (i : Nat) {v' : α} (hv : get l' i = some v') : ∃ v, get l i = some v /\ r v v' := by
 induction h with
 | nil => cases hv
 | @cons p q l l' h1 _ ih =>
  obtain ⟨k, v⟩ := p
  obtain ⟨k', u⟩ := q
  obtain ⟨rfl, h2⟩ := h1
  simp only [get, CW] at hv ⊢
  by_cases hk : k = i
  ·simp [hk] at hv ⊢; subst hv; exact h2
  ·simp only [hk, decide_false, cond_false] at hv ⊢; exact ih hv
theorem Nr {α : Type} {r : α -> α -> Prop} {l l' : List (Nat × α)} (h : L2 (fun p q => p.1 = q.1 /\ r p.2 q.2) l l') (i : Nat) (hv : get l' i = none) : get l i = none := by
 induction h with
 | nil => rfl
 | @cons p q l l' h1 _ ih =>
  obtain ⟨k, v⟩ := p
  obtain ⟨k', u⟩ := q
  obtain ⟨h3, h2⟩ := h1
  simp only at h3
  subst h3
  simp only [get, CW] at hv ⊢
  by_cases hk : k = i
  ·simp [hk] at hv
  ·simp only [hk, decide_false, cond_false] at hv ⊢; exact ih hv
theorem HW {x : Loc} {b b' : Blk} (he : GP b b') (h : Bz M σ w x b) : Bz M σ w x b' := by
 cases he with
 | refl => exact h
 | cells ty h1 =>
  obtain ⟨h0, c, hc, hl⟩ := h
  exact ⟨h0, c, hc, L2.trans3 (r := R M σ) (r' := R M σ) (fun _ _ _ => P6) h1 hl⟩
 | row sz ty hl hf =>
  subst hl
  rcases h with h0 | ⟨e0, cc, e1, e2, e3, e4, g, e5⟩
  ·exact .inl h0
  ·exact .inr ⟨e0, cc, e1, e2, e3, e4, g, fun i j hi hj => ⟨(e5 i j hi hj).1, PG (hf i j hi hj) _ (e5 i j hi hj).2⟩⟩
 | omap agg nv hl hk hf =>
  subst hl
  obtain ⟨e0, es, ck, g, e1, e2, e3, e4⟩ := h
  exact ⟨e0, es, ck, g, e1, e2, fun i e he => by
   have hi : i < es.size := (Array.getElem?_eq_some_iff.1 he).1
   rw [<- hk i (by omega)]; exact e3 i e he, fun i j hi hj => PG (hf i j hi hj) _ (e4 i j hi hj)⟩
 | rowx sz len f ty h1 =>
  obtain ⟨e0, c, e1, e2, e3, e4, gv, e5, e6⟩ := h
  refine ⟨e0, c, e1, e2, e3, e4, gv, fun i j hi hj => ⟨(e5 i j hi hj).1, fun hn => (e5 i j hi hj).2 (Nr h1 i hn)⟩, fun i l hl => ?_⟩
  obtain ⟨l0, hl0, he⟩ := Ir h1 i hl
  exact ⟨(e6 i l0 hl0).1, L2.trans3 (r := R M σ) (r' := R M σ) (fun _ _ _ => P6) he (e6 i l0 hl0).2⟩
def TE : List (Nat × Tv) -> List (Nat × Tv) -> Prop := L2 fun p q => p.1 = q.1 /\ TvE p.2 q.2
def HE : List (Nat × Blk) -> List (Nat × Blk) -> Prop := L2 fun p q => p.1 = q.1 /\ GP p.2 q.2
theorem UN (ht : TE s.t S.t) (hh : HE s.h S.h) (hs : Sim N W0 X M0 M σ (get s.t) (get s.h) a w) : Sim N W0 X M0 M σ (get S.t) (get S.h) a w :=
 ⟨hs.os, hs.tape, hs.output, hs.size, hs.old, hs.sub, hs.new, hs.pin, hs.defers, hs.room, fun i v h => (Ir ht i h).elim fun u hu => H4 hu.2 (hs.tmps i u hu.1), hs.imm,
  fun n b h => (Ir hh n h).elim fun u hu => HW hu.2 (hs.blk n u hu.1), fun n b h => (Ir hh n h).elim fun u hu => hs.loc n u hu.1,
  fun n m b c h1 h2 => (Ir hh n h1).elim fun u hu => (Ir hh m h2).elim fun v hv => hs.inj n m u v hu.1 hv.1⟩
theorem BR (S : AS) (ht : TE s.t S.t) (hh : HE s.h S.h) : Cv N W0 X M0 s S := fun M σ _ _ hs => ⟨M, σ, UN ht hh hs⟩
theorem Cg {f : FuncId} {xs xs' : List Av} {e : Ef} (h : A1 P f xs' e) (hx : L2 AvE xs xs') : A1 P f xs e :=
 match h with
 | .inl h => .inl ⟨h.1, fun M σ w hh args cs g hs hargs hr hc => h.2 M σ w hh args cs g hs (L2.trans3 (r := RA M σ) (r' := RA M σ) (fun _ _ _ => Kg) hx hargs) hr hc⟩
 | .inr ⟨cs, v, he, h⟩ => .inr ⟨cs, v, he, fun M σ w args himm hc hargs => h M σ w args himm hc (L2.trans3 (r := RA M σ) (r' := RA M σ) (fun _ _ _ => Kg) hx hargs)⟩
theorem Lw {f : FuncId} {xs xs' : List Av} {r : Tv} (h : Bo P f xs' r) (hx : L2 AvE xs xs') : Bo P f xs r :=
 fun M σ w args himm hargs => h M σ w args himm (L2.trans3 (r := RA M σ) (r' := RA M σ) (fun _ _ _ => Kg) hx hargs)
def ceI (xs : List Av) (c : FuncId × List Av × Ef) : FuncId × List Av × Ef := (c.1, xs, c.2.2)
def Ss (P : Program) (N : Nat) (W0 : World) (X : Nat -> Option Loc) (M0 : Nat -> Option Obj) (fn : Func) (φ : Tv -> AS -> Prop) : Exit -> AS -> Prop := fun e s => ∃ t, Cv N W0 X M0 s t /\ RetQ P fn φ e t
theorem AX {f : FuncId} {fn : Func} {c : Code} (hf : P.funcs[f]? = some fn) (hb : fn.body = some c) {xs : List Av} {r : Tv} (hN : Nat.ble xs.length fn.ntmps = true) (hd : r.dv = true)
  (h : ∀ (W0 : World) (M0 : Nat -> Option Obj), AWp P none fn.ntmps W0 noX M0 c (Ss P fn.ntmps W0 noX M0 fn fun r' _ => TvE r' r) ⟨EP 0 xs, []⟩) : Bo P f xs r := by
 intro M σ w args himm hargs
 refine EF (X := noX) (σ := σ) (h0 := []) hf hb (Nat.le_of_ble_eq_true hN) himm hargs (fun n b h => by cases h) (fun n b h => by cases h) (fun n x h => by cases h) (fun n m b c h => by cases h) (D2 (h w M)) ?_
 rintro r' s' M' σ' a' w' U he hs hR
 exact ⟨U, rfl, M', ⟨hs.os, hs.tape, hs.output, hs.size, fun b hb _ => hs.old b hb (Ep b), hs.sub, hs.new, hs.imm⟩, fun σ'' => Fy hd (H4 he hR)⟩
theorem F2 {f : FuncId} {fn : Func} {c : Code} (hf : P.funcs[f]? = some fn) (hb : fn.body = some c) {K : Nat} {xs : List Av} {b0 b1 : Blk} {r : Tv} (hN : Nat.ble xs.length fn.ntmps = true) (hK : Nat.ble fn.ntmps K = true) (hd : r.dv = true) (hd1 : Hj b1 = true)
  (h : ∀ (W0 : World) (M0 : Nat -> Option Obj) (X : Nat -> Option Loc), (∀ k x, X k = some x -> Bc [K] k = true) -> AWp P none fn.ntmps W0 X M0 c (Ss P fn.ntmps W0 X M0 fn fun r' s' => TvE r' r /\ ∃ b, get s'.h K = some b /\ GP b b1) ⟨EP 0 xs, [(K, b0)]⟩) : Wr P f K xs b0 r b1 := by
 intro M σ w args himm hblk hnil hM hargs
 let X : Nat -> Option Loc := upd noX K (some (σ K))
 have hX : X K = some (σ K) := BU _ _ _
 have one : ∀ n b, get [(K, b0)] n = some b -> n = K /\ b = b0 := fun n b hn => by
  simp only [get, CW] at hn
  by_cases hk : K = n
  ·simp [hk] at hn; exact ⟨hk.symm, hn.symm⟩
  ·simp [hk] at hn
 have pins : ∀ n x, X n = some x -> n = K /\ x = σ K := fun n x hx => by
  by_cases hk : n = K
  ·subst hk; rw [hX] at hx; injection hx with hx; exact ⟨rfl, hx.symm⟩
  ·simp only [X] at hx; rw [CK _ _ hk] at hx; cases hx
 have hXK : ∀ k x, X k = some x -> Bc [K] k = true := fun k x hk => by rw [(pins k x hk).1]; exact IF _
 refine EF (X := X) (σ := σ) (h0 := [(K, b0)]) hf hb (Nat.le_of_ble_eq_true hN) himm hargs (fun n b hn => ?_) (fun n b hn => ?_) (fun n x hx => ?_) (fun n m b c hn hm hne => ?_) (D2 (h w M X hXK)) ?_
 ·obtain ⟨rfl, rfl⟩ := one n b hn; exact hblk
 ·obtain ⟨rfl, rfl⟩ := one n b hn; exact .inr ⟨hM, n, σ n, hX, rfl⟩
 ·obtain ⟨rfl, rfl⟩ := pins n x hx; exact ⟨Nat.le_of_ble_eq_true hK, rfl⟩
 ·exact absurd ((one n b hn).1.trans (one m c hm).1.symm) hne
 ·rintro r' s' M' σ' a' w' U ⟨he, b, hb1, hbe⟩ hs hR
  have hpin := (hs.pin K _ hX).2
  have hbk := hs.blk K _ hb1
  rw [hpin] at hbk
  refine ⟨U, rfl, M', ⟨hs.os, hs.tape, hs.output, hs.size, fun b hb hne => hs.old b hb ?_, hs.sub, hs.new, hs.imm⟩, fun σ'' => Fy hd (H4 he hR), fun σ'' => Eo hd1 (HW hbe hbk)⟩
  rintro ⟨n, x, hx, rfl⟩
  obtain ⟨rfl, rfl⟩ := pins n x hx
  exact hne ⟨hnil, rfl⟩
end
def TR (n sz len : Nat) : Cl -> List Prop -> List Prop
 | .own m s l, r => bif Nat.beq m n then (l = len /\ s = sz) :: r else r
 | _, r => r
def M9 (n sz len : Nat) : List Cl -> List Prop -> List Prop
 | [], r => r
 | c :: l, r => TR n sz len c (M9 n sz len l r)
def TS (n sz len : Nat) : Av -> List Prop -> List Prop
 | .one c, r => TR n sz len c r
 | .agg l, r => M9 n sz len l r
def Rb (n sz len : Nat) : List Av -> List Prop -> List Prop
 | [], r => r
 | c :: l, r => TS n sz len c (Rb n sz len l r)
def RZ (n sz len : Nat) : List (Nat × Tv) -> List Prop -> List Prop
 | [], r => r
 | (_, .av x) :: l, r => TS n sz len x (RZ n sz len l r)
 | (_, .tup x) :: l, r => Rb n sz len x (RZ n sz len l r)
 | (_, .grd _ x) :: l, r => TS n sz len x (RZ n sz len l r)
def Ra (n sz len : Nat) : List (Nat × List Cl) -> List Prop -> List Prop
 | [], r => r
 | (_, l) :: hs, r => M9 n sz len l (Ra n sz len hs r)
def QS (n sz len : Nat) : List (Nat × Blk) -> List Prop
 | [] => []
 | (_, .cells l _) :: r => M9 n sz len l (QS n sz len r)
 | (_, .row ..) :: r => QS n sz len r
 | (_, .omap ..) :: r => QS n sz len r
 | (_, .rowx _ _ _ _ hs) :: r => Ra n sz len hs (QS n sz len r)
section
variable {n sz len : Nat}
theorem PY {c : Cl} {r : List Prop} (h : CA (TR n sz len c r)) : fzP n sz len c /\ CA r := by
 cases c with
 | own m s l =>
  simp only [TR, fzP] at *
  cases hb : Nat.beq m n with
  | true => rw [hb] at h; exact ⟨h.head, h.tail⟩
  | false => rw [hb] at h; exact ⟨trivial, h⟩
 | _ => exact ⟨trivial, h⟩
theorem IB : ∀ {l : List Cl} {r : List Prop}, CA (M9 n sz len l r) -> (∀ c ∈ l, fzP n sz len c) /\ CA r
 | [], r, h => ⟨fun c hc => (by cases hc), h⟩
 | c :: l, r, h => by
  obtain ⟨h1, h2⟩ := PY h
  obtain ⟨h3, h4⟩ := IB h2
  exact ⟨fun d hd => by
   cases hd with
   | head => exact h1
   | tail _ hd => exact h3 d hd, h4⟩
theorem L5 {x : Av} {r : List Prop} (h : CA (TS n sz len x r)) : Ky (fzP n sz len) x /\ CA r := by
 cases x with
 | one c => exact PY h
 | agg l => exact IB h
theorem NB : ∀ {l : List Av} {r : List Prop}, CA (Rb n sz len l r) -> (∀ c ∈ l, Ky (fzP n sz len) c) /\ CA r
 | [], r, h => ⟨fun c hc => (by cases hc), h⟩
 | c :: l, r, h => by
  obtain ⟨h1, h2⟩ := L5 h
  obtain ⟨h3, h4⟩ := NB h2
  exact ⟨fun d hd => by
   cases hd with
   | head => exact h1
   | tail _ hd => exact h3 d hd, h4⟩
theorem IA : ∀ {l : List (Nat × Tv)} {r : List Prop}, CA (RZ n sz len l r) -> PK (fzP n sz len) l /\ CA r
 | [], r, h => ⟨trivial, h⟩
 | (_, .av x) :: l, r, h => by
  obtain ⟨h1, h2⟩ := L5 (x := x) h
  obtain ⟨h3, h4⟩ := IA h2
  exact ⟨⟨h1, h3⟩, h4⟩
 | (_, .tup x) :: l, r, h => by
  obtain ⟨h1, h2⟩ := NB (l := x) h
  obtain ⟨h3, h4⟩ := IA h2
  exact ⟨⟨h1, h3⟩, h4⟩
 | (_, .grd _ x) :: l, r, h => by
  obtain ⟨h1, h2⟩ := L5 (x := x) h
  obtain ⟨h3, h4⟩ := IA h2
  exact ⟨⟨h1, h3⟩, h4⟩
theorem NA : ∀ {hs : List (Nat × List Cl)} {r : List Prop}, CA (Ra n sz len hs r) -> (∀ i l, get hs i = some l -> ∀ c ∈ l, fzP n sz len c) /\ CA r
 | [], r, h => ⟨fun i l hl => (by cases hl), h⟩
 | (k, l0) :: hs, r, h => by
  obtain ⟨h1, h2⟩ := IB (l := l0) h
  obtain ⟨h3, h4⟩ := NA (hs := hs) h2
  refine ⟨fun i l hl => ?_, h4⟩
  simp only [get, CW] at hl
  by_cases e : k = i
  ·simp [e] at hl; subst hl; exact h1
  ·simp only [e, decide_false, cond_false] at hl; exact h3 i l hl
theorem IC : ∀ {l : List (Nat × Blk)}, CA (QS n sz len l) -> PL (fzP n sz len) l
 | [], h => trivial
 | (_, .cells l _) :: r, h => by
  obtain ⟨h1, h2⟩ := IB (l := l) h
  exact ⟨h1, IC h2⟩
 | (_, .row ..) :: r, h => ⟨trivial, IC (l := r) h⟩
 | (_, .omap ..) :: r, h => ⟨trivial, IC (l := r) h⟩
 | (_, .rowx _ _ _ _ hs) :: r, h => by
  obtain ⟨h1, h2⟩ := NA (hs := hs) h
  exact ⟨h1, IC h2⟩
end
section
variable {N : Nat} {W0 : World} {X : Nat → Option Loc} {M0 : Nat → Option Obj} {s : AS}
theorem Cu {K : List Nat} (S : AS) (n sz len : Nat) (f : Nat -> Nat -> Cl) (ty : TypeId) (hX : ∀ k x, X k = some x -> Bc K k = true) (hK : xok K n s = true) (hn : get s.h n = some (.row sz len f ty)) (ho : CA (RZ n sz len s.t (QS n sz len s.h))) (hS : fzS n sz len f s = S) : Cv N W0 X M0 s S :=
 U6 S n sz len f ty hX hK hn (IA ho).1 (IC (IA ho).2) hS
theorem A6 {S : AS} (h : s = S) : Cv N W0 X M0 s S := h ▸ Cv.refl s
end
theorem Ao {x y : Tv} (h : x = y) : TvE x y := h ▸ .refl x
theorem DG {x y z : Tv} (h : TvE x y) (e : y = z) : TvE x z := e ▸ h
theorem DL {x y : Blk} (h : x = y) : GP x y := h ▸ .refl x
theorem Md {x y z : Blk} (h : GP x y) (e : y = z) : GP x z := e ▸ h
def G1 {α : Type} [Inhabited α] (sz len : Nat) (f : Nat -> Nat -> Cl) (c : α -> List Cl) (xs : List α) : Prop := len = xs.length /\ ∀ i j, i < xs.length -> j < sz -> ClE (f i j) (AY c xs i j)
section
variable {α : Type} [Inhabited α] {sz n m : Nat} {f g : Nat → Nat → Cl} {c : α → List Cl} {xs ys : List α}
theorem BK (sz : Nat) (c : α -> List Cl) (xs : List α) : G1 sz xs.length (AY c xs) c xs := ⟨rfl, fun _ _ _ _ => .refl _⟩
theorem CF (sz : Nat) (f : Nat -> Nat -> Cl) (c : α -> List Cl) : G1 sz 0 f c [] := ⟨rfl, fun _ _ h => absurd h (Nat.not_lt_zero _)⟩
theorem BV (h : G1 sz n f c xs) (k : G1 sz m g c ys) : G1 sz (n + m) (fun i j => if i < n then f i j else g (i - n) j) c (xs ++ ys) := by
 obtain ⟨rfl, h⟩ := h
 obtain ⟨rfl, k⟩ := k
 refine ⟨List.length_append.symm, fun i j hi hj => ?_⟩
 rw [<- S1 c xs ys sz (AY c ys) (fun _ _ _ _ => rfl) i j hi hj]
 show ClE (if i < xs.length then f i j else g (i - xs.length) j) _
 by_cases hl : i < xs.length
 ·rw [if_pos hl, if_pos hl]; exact h i j hl hj
 ·rw [if_neg hl, if_neg hl]; exact k (i - xs.length) j (by rw [List.length_append] at hi; omega) hj
theorem Jl {l : List Cl} {off q k : Nat} (h : G1 sz n f c xs) (hk : k < n) (v : α) (hv : ∀ j, j < sz -> (if off <= j /\ j < off + q then l.getD (j - off) default else (c (xs.getD k default)).getD j default) = (c v).getD j default) :
  G1 sz n (fun i j => if i = k /\ off <= j /\ j < off + q then l.getD (j - off) default else f i j) c (xs.set k v) := by
 obtain ⟨rfl, h⟩ := h
 refine ⟨by simp, fun i j hi hj => ?_⟩
 rw [<- S0 c xs k v l sz off q hk hv i j hi hj]
 show ClE (if i = k /\ off <= j /\ j < off + q then l.getD (j - off) default else f i j) _
 have hi' : i < xs.length := by simpa using hi
 by_cases hc : i = k /\ off <= j /\ j < off + q
 ·rw [if_pos hc, if_pos hc]; exact .refl _
 ·rw [if_neg hc, if_neg hc]; exact h i j hi' hj
theorem Jk (h : G1 sz n f c xs) {a b : Int} (ha : 0 <= a) (hab : a <= b) (hb : b <= (n : Int)) : G1 sz (b.toNat - a.toNat) (fun i j => f (i + a.toNat) j) c ((xs.take b.toNat).drop a.toNat) := by
 obtain ⟨rfl, h⟩ := h
 refine ⟨by simp; omega, fun i j hi hj => ?_⟩
 have hi' : i < min b.toNat xs.length - a.toNat := by simpa using hi
 suffices e : AY c xs (i + a.toNat) j = AY c ((xs.take b.toNat).drop a.toNat) i j by rw [<- e]; exact h (i + a.toNat) j (by omega) hj
 unfold AY
 rw [List.getD_eq_getElem?_getD, List.getD_eq_getElem?_getD, List.getD_eq_getElem?_getD, List.getD_eq_getElem?_getD, List.getElem?_drop, List.getElem?_take_of_lt (show a.toNat + i < b.toNat by omega), Nat.add_comm]
theorem K6 (h : G1 sz n f c xs) {a : Int} (ha : 0 <= a) (hab : a <= ((n : Nat) : Int)) : G1 sz (((n : Nat) : Int).toNat - a.toNat) (fun i j => f (i + a.toNat) j) c (xs.drop a.toNat) := by
 have := Jk h ha hab (Int.le_refl _)
 rwa [show xs.take ((n : Nat) : Int).toNat = xs from by rw [h.1]; simp] at this
theorem G9 (h : G1 sz n f c xs) {b : Int} (hab : 0 <= b) (hb : b <= (n : Int)) : G1 sz (b.toNat - (0 : Int).toNat) (fun i j => f (i + (0 : Int).toNat) j) c (xs.take b.toNat) := by
 have := Jk h (Int.le_refl 0) hab hb
 rwa [show (xs.take b.toNat).drop (0 : Int).toNat = xs.take b.toNat from by simp] at this
def tab (n : Nat) (p : Nat -> Cl) : List Cl := (List.range n).map p
def OB (n sz : Nat) (p : Nat -> Nat -> Cl) : List (List Cl) := (List.range n).map fun i => tab sz (p i)
theorem GQ {n : Nat} {p q : Nat -> Cl} (h : tab n p = tab n q) : ∀ j, j < n -> p j = q j := by
 intro j hj
 have := congrArg (fun l => l[j]?) h
 simpa [tab, hj] using this
theorem A2 (hl : n = xs.length) (h : OB n sz f = OB n sz (AY c xs)) : G1 sz n f c xs := by
 refine ⟨hl, fun i j hi hj => ?_⟩
 subst hl
 have := congrArg (fun l => l[i]?) h
 simp only [OB, List.getElem?_map, List.getElem?_range hi, Option.map_some, Option.some.injEq] at this
 rw [GQ this j hj]
 exact .refl _
theorem Dl {y z : List (List Cl)} (hl : n = xs.length) (e1 : OB n sz f = y) (e2 : OB n sz (AY c xs) = z) (h : L2 (L2 ClE) y z) : G1 sz n f c xs := by
 refine ⟨hl, fun i j hi hj => ?_⟩
 subst hl
 subst e1
 subst e2
 obtain ⟨b, hb, hL⟩ := h.get i (tab sz (f i)) (by simp [OB, hi])
 obtain ⟨b', hb', hR⟩ := hL.get j (f i j) (by simp [tab, hj])
 have e3 : b = tab sz (AY c xs i) := by
  simp only [OB, List.getElem?_map, List.getElem?_range hi, Option.map_some, Option.some.injEq] at hb
  exact hb.symm
 subst e3
 simp only [tab, List.getElem?_map, List.getElem?_range hj, Option.map_some, Option.some.injEq] at hb'
 rw [hb']
 exact hR
theorem Bt (t : Bool) (h : G1 sz n f c xs) : ClE (.list t sz n f) (lst sz c xs) := by
 obtain ⟨rfl, h⟩ := h
 exact .list _ _ _ _ _ _ h (fun h => by cases h)
theorem Aw (ty : TypeId) (h : G1 sz n f c xs) : GP (.row sz n f ty) (.row sz xs.length (AY c xs) ty) := .row _ _ h.1 h.2
theorem A8 (sz : Nat) (c : α -> List Cl) : ClE (.val (.slice none 0 0)) (lst sz c []) := .nil _ _
end
def tI (x : Int) : Tv := .av (.one (.i x))
def tB (x : Bool) : Tv := .av (.one (.b x))
def tP (a b : Nat) : Tv := .av (.one (.ptr a b))
theorem IL {a n : Int} (ha : 0 <= a) (hn : 0 < n) : 0 <= Int.tmod a n /\ Int.tmod a n < n := ⟨Int.tmod_nonneg _ ha, Int.tmod_lt_of_pos _ hn⟩
end
section
open Go.RowKit
inductive NM : Cl -> Prop
 | val (v : Value) : NM (.val v)
 | ptr (n off : Nat) : NM (.ptr n off)
 | own (n sz len : Nat) : NM (.own n sz len)
 | rptr (n sz i off : Nat) : NM (.rptr n sz i off)
 | om (n : Nat) : NM (.om n)
 | any : NM .any
 | list (t : Bool) (sz len : Nat) (f : Nat -> Nat -> Cl) (h : ∀ i j, NM (f i j)) : NM (.list t sz len f)
 | eptr (sz len : Nat) (f : Nat -> Nat -> Cl) (i off : Nat) (h : ∀ i j, NM (f i j)) : NM (.eptr sz len f i off)
 | clo (g : FuncId) (k : Nat) (caps : Nat -> Cl) (h : ∀ i, NM (caps i)) : NM (.clo g k caps)
section
variable {M M' : Nat → Option Obj}
theorem JP (h : ∀ b c t f, M b = some (.cells c t f) -> M' b = some (.cells c t f)) {b o : Nat} {v : Value} (hv : D1 M b o = some v) : D1 M' b o = some v := by
 unfold D1 at *
 cases hb : M b with
 | none => rw [hb] at hv; cases hv
 | some x =>
  rw [hb] at hv
  cases x with
  | cells c t f => rw [h b c t f hb]; exact hv
  | _ => cases hv
theorem Mf (h : ∀ b c t f, M b = some (.cells c t f) -> M' b = some (.cells c t f)) {c : Cl} {V : Value} (hr : RC M c V) : NM c -> RC M' c V := by
 induction hr with
 | val v h0 => intro _; exact .val v h0
 | nil t sz f h0 => intro _; exact .nil t sz f h0
 | mt t sz f a cap => intro _; exact .mt t sz f a cap
 | list t sz len f b off cap g h1 h2 h4 ih =>
  intro hn
  cases hn with
  | list _ _ _ _ hf => exact .list t sz len f b off cap g (fun i j hi hj => JP h (h1 i j hi hj)) (fun i j hi hj => ih i j hi hj (hf i j)) h4
 | clo f k caps cs h1 h2 ih =>
  intro hn
  cases hn with
  | clo _ _ _ hf => exact .clo f k caps cs h1 fun i hi => ih i hi (hf i)
 | eptr sz len f i off b base g h1 h2 ih =>
  intro hn
  cases hn with
  | eptr _ _ _ _ _ hf => exact .eptr sz len f i off b base g (fun j hj => JP h (h1 j hj)) (fun j hj => ih j hj (hf i j))
 | mp => intro hn; cases hn
 | any V h0 => intro _; exact .any V h0
theorem P5 (h : ∀ b c t f, M b = some (.cells c t f) -> M' b = some (.cells c t f)) {σ : Nat -> Loc} : ∀ {c : Cl} {V : Value}, R M σ c V -> NM c -> R M' σ c V
 | .val _, _, hr, _ => hr
 | .ptr .., _, hr, _ => hr
 | .own .., _, hr, _ => hr
 | .rptr .., _, hr, _ => hr
 | .list .., _, hr, hn => Mf h hr hn
 | .eptr .., _, hr, hn => Mf h hr hn
 | .mp .., _, _, hn => by cases hn
 | .om .., _, hr, _ => hr
 | .any, _, hr, _ => hr
 | .clo g k caps, _, hr, hn => by
  obtain ⟨cs, h1, h2, h3⟩ := hr
  cases hn with
  | clo _ _ _ hf => exact ⟨cs, h1, h2, fun i hi => P5 h (h3 i hi) (hf i)⟩
def AvM (x : Av) : Prop := ∀ c ∈ x.cells, NM c
def TvM : Tv -> Prop
 | .av x => AvM x
 | .tup l => ∀ x ∈ l, AvM x
 | .grd _ x => AvM x
def TsM (t : List (Nat × Tv)) : Prop := ∀ n b, get t n = some b -> TvM b
theorem Mh (h : ∀ b c t f, M b = some (.cells c t f) -> M' b = some (.cells c t f)) {σ : Nat -> Loc} {x : Av} {V : Value} (hr : RA M σ x V) (hn : AvM x) : RA M' σ x V := by
 cases x with
 | one c => exact P5 h hr (hn c (by simp [Av.cells]))
 | agg l =>
  obtain ⟨vs, h1, h2⟩ := hr
  exact ⟨vs, h1, h2.mono fun c hc b hb => P5 h hb (hn c (by simpa [Av.cells] using hc))⟩
theorem PF (h : ∀ b c t f, M b = some (.cells c t f) -> M' b = some (.cells c t f)) {σ : Nat -> Loc} {x : Tv} {V : Value} (hr : RT M σ x V) (hn : TvM x) : RT M' σ x V := by
 cases x with
 | av x => exact Mh h hr hn
 | tup l =>
  obtain ⟨vs, h1, h2⟩ := hr
  exact ⟨vs, h1, h2.mono fun c hc b hb => Mh h hb (hn c hc)⟩
 | grd g x => exact ⟨fun hg => Mh h (hr.1 hg) hn, hr.2⟩
end
theorem SR {d : Nat} : ∀ {c : Cl}, c.dv = true -> c.no d = true
 | .val _, _ => rfl
 | .any, _ => rfl
 | .list .., _ => rfl
 | .eptr .., _ => rfl
 | .mp .., _ => rfl
 | .clo _ k caps, h => by
  simp only [Cl.dv, Cl.no, List.all_eq_true] at *
  exact fun i hi => SR (h i hi)
def pvT (ids : List Nat) : Tv -> Bool
 | .av (.one (.ptr n _)) => Bc ids n
 | .av x => x.dv
 | .tup l => l.all Av.dv
 | .grd _ x => x.dv
theorem Gz {d : Nat} {x : Av} (h : x.dv = true) : x.no d = true := by
 cases x with
 | one c => exact SR h
 | agg l => simp only [Av.dv, Av.no, List.all_eq_true] at *; exact fun c hc => SR (h c hc)
theorem Dx : ∀ {l : List Nat} {n : Nat}, Bc l n = true -> n ∈ l
 | [], _, h => by cases h
 | k :: r, n, h => by
  simp only [Bc] at h
  cases hk : Nat.beq k n with
  | true => have := Nat.eq_of_beq_eq_true hk; subst this; exact List.mem_cons_self ..
  | false => rw [hk] at h; exact List.mem_cons_of_mem _ (Dx h)
theorem Jy {ids : List Nat} {d : Nat} {v : Tv} (h : pvT ids v = true) (hd : v.no d = false) : d ∈ ids := by
 have key : ∀ x : Av, x.dv = true -> x.no d = false -> False := fun x h1 h2 => by rw [Gz h1] at h2; cases h2
 cases v with
 | av x =>
  cases x with
  | one c =>
   cases c with
   | ptr n off =>
    have hn : n = d := by simp [Tv.no, Av.no, Cl.no] at hd; exact hd
    subst hn
    exact Dx h
   | _ => exact (key (.one _) h hd).elim
  | agg l => exact (key (.agg l) h hd).elim
 | tup l =>
  simp only [pvT, List.all_eq_true] at h
  simp only [Tv.no] at hd
  have : l.all (Av.no d) = true := by rw [List.all_eq_true]; exact fun x hx => Gz (h x hx)
  rw [this] at hd; cases hd
 | grd g x => exact (key x h hd).elim
def LA (t : List (Nat × Tv)) : List Tmp -> List Av -> List (Nat × Tv)
 | p :: ps, e :: es => LA ((p, .av e) :: t) ps es
 | _, _ => t
theorem Pw {M : Nat -> Option Obj} {σ : Nat -> Loc} {N : Nat} : ∀ (ps : List Tmp) (es : List Av) (vs : List Value) (t : List (Nat × Tv)) (tm : Array Value), (∀ i v, get t i = some v -> RT M σ v (tm.getD i undef)) -> tm.size = N -> L2 (RA M σ) es vs -> ps.length = es.length -> (∀ p ∈ ps, p < N) ->
  ((ps.zip vs).foldl (fun t (x : Tmp × Value) => t.setIfInBounds x.1 x.2) tm).size = N /\ ∀ i v, get (LA t ps es) i = some v -> RT M σ v (((ps.zip vs).foldl (fun t (x : Tmp × Value) => t.setIfInBounds x.1 x.2) tm).getD i undef)
 | [], [], _, t, tm, h, hs, hl, _, _ => ⟨hs, h⟩
 | [], _ :: _, _, _, _, _, _, _, hn, _ => by simp at hn
 | _ :: _, [], _, _, _, _, _, _, hn, _ => by simp at hn
 | p :: ps, e :: es, vs, t, tm, h, hs, hl, hn, hp => by
  cases hl with
  | cons h1 h2 =>
   rename_i v vs
   refine Pw ps es vs ((p, .av e) :: t) (tm.setIfInBounds p v) (fun i u hu => ?_) (by simpa using hs) h2 (by simpa using hn) (fun q hq => hp q (List.mem_cons_of_mem _ hq))
   have hpN := hp p (List.mem_cons_self ..)
   simp only [get, CW] at hu
   by_cases hi : p = i
   ·subst hi
    simp at hu; subst hu
    have hpt : p < tm.size := by rw [hs]; exact hpN
    have : (tm.setIfInBounds p v).getD p undef = v := by simp [Array.getD_eq_getD_getElem?, hpt]
    rw [this]; exact h1
   ·simp [hi] at hu
    have : (tm.setIfInBounds p v).getD i undef = tm.getD i undef := by simp [Array.getD_eq_getD_getElem?, Array.getElem?_setIfInBounds, hi]
    rw [this]; exact h i u hu
structure OwS (Ow : World -> Nat -> Prop) (n0 : Nat) : Prop where
 st : ∀ W W' : World, n0 <= W.heap.size -> (∀ b, b < W.heap.size -> W'.heap[b]? = W.heap[b]?) -> ∀ b, Ow W' b -> Ow W b
def KpS (Ow : World -> Nat -> Prop) (W W' : World) : Prop := W.heap.size <= W'.heap.size /\ (∀ b (o : Obj), W.heap[b]? = some o -> o.isCells = true -> ¬ Ow W b -> W'.heap[b]? = some o) /\ ∀ b, Ow W' b -> Ow W b \/ (W.heap.size <= b /\ b < W'.heap.size)
theorem KpS.trans {Ow : World -> Nat -> Prop} {A B C : World} (h1 : KpS Ow A B) (h2 : KpS Ow B C) : KpS Ow A C := by
 refine ⟨Nat.le_trans h1.1 h2.1, fun b o hb hc ho => ?_, fun b hb => ?_⟩
 ·refine h2.2.1 b o (h1.2.1 b o hb hc ho) hc fun h => ?_
  have hl := (Array.getElem?_eq_some_iff.1 hb).1
  rcases h1.2.2 b h with h3 | h3
  ·exact ho h3
  ·omega
 ·rcases h2.2.2 b hb with h3 | ⟨h3, h4⟩
  ·exact (h1.2.2 b h3).imp id fun h5 => ⟨h5.1, Nat.lt_of_lt_of_le h5.2 h2.1⟩
  ·exact .inr ⟨Nat.le_trans h1.1 h3, h4⟩
section
variable {P : Program} {N : Nat} {W0 W W' : World} {X : Nat → Option Loc} {M0 M : Nat → Option Obj} {σ : Nat → Loc} {T : Nat → Option Tv} {H : Nat → Option Blk} {a : Act}
def Blk.isM : Blk -> Bool
 | .omap .. => true
 | _ => false
end
end
section
open Go.RowKit
def Ku (pids : List Nat) (σ : Nat -> Loc) (X : Nat -> Option Loc) (n : Nat) : Option Loc := bif Bc pids n then some (σ n) else X n
def JL (fid : Nat) (fl : Loc) (X : Nat -> Option Loc) (n : Nat) : Option Loc := bif Nat.beq n fid then some fl else X n
def HX (M1 M3 : Nat -> Option Obj) (b : Nat) : Option Obj := match M1 b with
 | some o => some o
 | none => match M3 b with
  | some (.cells c t f) => some (.cells c t f)
  | _ => none
def Cln (M M' : Nat -> Option Obj) : Prop := (∀ b o, M b = some o -> M' b = some o) /\ ∀ b o, M' b = some o -> o.isCells = false -> M b = some o
theorem GF {M1 M3 : Nat -> Option Obj} (h : ∀ b o, M1 b = some o -> M3 b = some o) {b : Nat} {o : Obj} (hb : HX M1 M3 b = some o) : M3 b = some o := by
 unfold HX at hb
 cases h1 : M1 b with
 | some o' => rw [h1] at hb; injection hb with hb; subst hb; exact h b _ h1
 | none =>
  rw [h1] at hb
  cases h3 : M3 b with
  | none => rw [h3] at hb; cases hb
  | some o' =>
   rw [h3] at hb
   cases o' with
   | cells c t f => exact hb
   | _ => cases hb
theorem Lc {M1 M3 : Nat -> Option Obj} {b : Nat} {o : Obj} (h : M1 b = some o) : HX M1 M3 b = some o := by unfold HX; rw [h]
theorem KX {M1 M3 : Nat -> Option Obj} (h : ∀ b o, M1 b = some o -> M3 b = some o) (b : Nat) (c : Array Value) (t : TypeId) (f : Nat × Nat) (h3 : M3 b = some (.cells c t f)) : HX M1 M3 b = some (.cells c t f) := by
 unfold HX
 cases h1 : M1 b with
 | some o' => have := h b _ h1; rw [h3] at this; injection this with this; rw [this]
 | none => simp only [h3]
theorem SW {M M1 M3 : Nat -> Option Obj} (hc : Cln M M1) (h : ∀ b o, M1 b = some o -> M3 b = some o) : Cln M (HX M1 M3) := by
 refine ⟨fun b o hb => Lc (hc.1 b o hb), fun b o hb ho => ?_⟩
 unfold HX at hb
 cases h1 : M1 b with
 | some o' => rw [h1] at hb; injection hb with hb; subst hb; exact hc.2 b _ h1 ho
 | none =>
  rw [h1] at hb
  cases h3 : M3 b with
  | none => rw [h3] at hb; cases hb
  | some o' =>
   rw [h3] at hb
   cases o' with
   | cells c t f => injection hb with hb; subst hb; cases ho
   | _ => cases hb
section
variable {P : Program} {N : Nat} {W0 W W' w : World} {X : Nat → Option Loc} {M0 M M' M3 : Nat → Option Obj} {σ σ' σ3 : Nat → Loc} {T T' : Nat → Option Tv} {H H' : Nat → Option Blk} {a a' : Act} {pids : List Nat} {fid : Nat} {fl : Loc}
end
end
section
open Go.RowKit
def OP (D : Nat) (M : Nat -> Option Obj) (b : Nat) : Option Obj := bif Nat.beq b D then some (.deferred (some [])) else M b
theorem P1 {M0 M : Nat -> Option Obj} : ∀ {l : List Deferred} {d : Deferred}, Fh M0 M l -> d ∈ l -> ∃ D, d = { target := .collected D, args := #[] } /\ M D = some (.deferred (some []))
 | d0 :: l, d, h, hd => by
  rcases List.mem_cons.1 hd with rfl | hd
  ·obtain ⟨⟨D, h1, h2, _⟩, _⟩ := h
   exact ⟨D, h1, h2⟩
  ·exact P1 h.2 hd
theorem RB {N : Nat} {W0 W : World} {XA X : Nat -> Option Loc} {M0 M : Nat -> Option Obj} {σ : Nat -> Loc} {T : Nat -> Option Tv} {H : Nat -> Option Blk} {a : Act} {D : Nat} (hs : Sim N W0 XA M0 M σ T H a W)
  (hD : W.heap[D]? = some (.deferred (some []))) (hD0 : M0 D = none) (hDl : W0.heap.size <= D) (hne : ∀ d' ∈ a.defers, d' ≠ { target := .collected D, args := #[] }) (hpin : ∀ m x, X m = some x -> N <= m /\ σ m = x) (hXA : ∀ b, inX XA b -> W0.heap.size <= b \/ inX X b) (hnf : ¬ Tz X) :
  Sim N W0 X M0 (OP D M) σ T H { a with defers := { target := .collected D, args := #[] } :: a.defers } W := by
 have hM : ∀ b o, M b = some o -> OP D M b = some o := fun b o h => by
  unfold OP
  cases hb : Nat.beq b D with
  | true =>
   have := Nat.eq_of_beq_eq_true hb
   subst this
   have h2 := hs.imm b o h
   rw [hD] at h2
   exact h2
  | false => exact h
 have hput : OP D M D = some (.deferred (some [])) := by unfold OP; rw [Nat.beq_refl]; rfl
 have hoth : ∀ b, b ≠ D -> OP D M b = M b := fun b h => by unfold OP; rw [show Nat.beq b D = false by rw [CW]; simp [h]]; rfl
 refine ⟨hs.os, hs.tape, hs.output, hs.size, fun b hb hx => hs.old b hb fun h => ?_, fun b o h => hM b o (hs.sub b o h), fun b o h h' => ?_, hpin, ⟨⟨⟨D, rfl, hput, hD0, hne⟩, Fh.mono hM hs.defers.1⟩, fun h => absurd h hnf⟩, hs.room, fun i v h => Dc hM (fun _ _ => rfl) (hs.tmps i v h), fun b o h => ?_, fun n b h => (hs.blk n b h).mono hM (fun _ _ => rfl) (fun _ => rfl), fun n b h => ?_, hs.inj⟩
 ·rcases hXA b h with h | h
  ·omega
  ·exact hx h
 ·by_cases e : b = D
  ·subst e; exact hDl
  ·rw [hoth b e] at h; exact hs.new b o h h'
 ·by_cases e : b = D
  ·subst e; rw [hput] at h; injection h with h; subst h; exact hD
  ·rw [hoth b e] at h; exact hs.imm b o h
 ·by_cases hn : (σ n).nil = true
  ·exact .inl hn
  ·rcases hs.loc n b h with h1 | ⟨h1, h2⟩
   ·exact .inl h1
   ·refine .inr ⟨?_, ?_⟩
    ·rw [hoth _ fun e => ?_]
     ·exact h1
     ·have h3 := hs.blk n b h
      cases b with
      | cells l ty => obtain ⟨_, c, hc, _⟩ := h3; rw [e, hD] at hc; cases hc
      | row sz len f ty =>
       rcases h3 with ⟨h4, _⟩ | ⟨_, c, hc, _⟩
       ·exact hn h4
       ·rw [e, hD] at hc; cases hc
      | omap => obtain ⟨_, es, ck, g, hc, _⟩ := h3; rw [e, hD] at hc; cases hc
      | rowx => obtain ⟨_, c, hc, _⟩ := h3; rw [e, hD] at hc; cases hc
    ·rcases h2 with h2 | h2
     ·exact .inl h2
     ·exact hXA _ h2
section
variable {P : Program} {N : Nat} {W0 : World} {X : Nat → Option Loc} {M0 : Nat → Option Obj}
end
end
section
open Go.RowKit
abbrev IQ := Exit -> AS -> (World -> Prop) -> Bool -> Prop
def IOk (Ow : World -> Nat -> Prop) (n0 : Nat) (al : Bool) (M : Nat -> Option Obj) (W0 : World) : Prop := al = true -> n0 <= W0.heap.size /\ (∀ b, Ow W0 b -> b < W0.heap.size) /\ ∀ b o, M b = some o -> ¬ Ow W0 b
def IWp (P : Program) (N : Nat) (Ow : World -> Nat -> Prop) (n0 : Nat) (c : Code) (Q : IQ) (s : AS) (J : World -> Prop) (al : Bool) : Prop :=
 ∀ W0 M σ a w, (J W0 /\ a.defers = [] /\ IOk Ow n0 al M W0) -> Sim N W0 noX M M σ (get s.t) (get s.h) a w -> c.wpIn (FW none) 0 P (fun e a' w' => ∃ s' J' al' W0' M' σ', Q e s' J' al' /\ (J' W0' /\ a'.defers = [] /\ IOk Ow n0 al' M' W0') /\ Sim N W0' noX M' M' σ' (get s'.t) (get s'.h) a' w') a w
def ITh (K : AS -> (World -> Prop) -> Bool -> Prop) (Q : IQ) : IQ
 | .normal, s, J, M => K s J M
 | e, s, J, M => Q e s J M
def IBl (id : Nat) (Q : IQ) : IQ
 | .exit id', s, J, M => if id' = id then Q .normal s J M else Q (.exit id') s J M
 | e, s, J, M => Q e s J M
theorem Q5 {d : Nat} {v : Tv} (h : v.dv = true) : v.no d = true := by
 cases v with
 | av x => exact Gz h
 | tup l =>
  simp only [Tv.dv, Tv.no, List.all_eq_true] at *
  exact fun x hx => Gz (h x hx)
 | grd g x => cases h
section
variable {P : Program} {N : Nat} {Ow : World → Nat → Prop} {n0 : Nat} {Q : IQ} {s : AS} {J : World → Prop} {al : Bool} {Mc : Nat → Option Obj}
def JN (N b : Nat) (m : Nat) : Option Loc := bif Nat.beq m N then some ⟨b, 424242, true⟩ else none
theorem KQ {b m : Nat} {x : Loc} (hx : JN N b m = some x) : m = N /\ x = ⟨b, 424242, true⟩ := by
 unfold JN at hx
 cases hb : Nat.beq m N with
 | true => rw [hb] at hx; injection hx with hx; exact ⟨Nat.eq_of_beq_eq_true hb, hx.symm⟩
 | false => rw [hb] at hx; cases hx
theorem Nt {b b' : Nat} (h : inX (JN N b) b') : b' = b := by
 obtain ⟨m, x, h1, h2⟩ := h
 rw [(KQ h1).2] at h2
 exact h2.symm
theorem O1 {b : Nat} : Tz (JN N b) := ⟨N, ⟨b, 424242, true⟩, by unfold JN; rw [Nat.beq_refl]; rfl, rfl, rfl⟩
theorem Jr {W0 w : World} {M : Nat -> Option Obj} {σ : Nat -> Loc} {a : Act} (hdv : ∀ i v, get s.t i = some v -> v.dv = true) (hh : s.h = []) (hd : a.defers = []) (hs : Sim N W0 noX Mc M σ (get s.t) (get s.h) a w) :
  Sim N W0 (JN N W0.heap.size) Mc M (upd σ N ⟨W0.heap.size, 424242, true⟩) (get s.t) (get s.h) a w := by
 refine ⟨hs.os, hs.tape, hs.output, hs.size, fun b hb _ => hs.old b hb (Ep b), hs.sub, hs.new, fun m x hx => ?_, ⟨by rw [hd]; trivial, fun _ => hd⟩, hs.room, fun i v hv => Dc (fun _ _ h => h) (fun d hd => ?_) (hs.tmps i v hv), hs.imm, fun n b hb => ?_, fun n b hb => ?_, fun n m b c hb => ?_⟩
 ·obtain ⟨rfl, rfl⟩ := KQ hx
  exact ⟨Nat.le_refl _, by unfold upd; rw [Nat.beq_refl]; rfl⟩
 ·rw [Q5 (hdv i v hv)] at hd; cases hd
 all_goals rw [hh] at hb; cases hb
theorem Ho {W0 w : World} {M : Nat -> Option Obj} {σ : Nat -> Loc} {a : Act} {T : Nat -> Option Tv} {H : Nat -> Option Blk} (h2 : Sim N W0 (JN N W0.heap.size) Mc M σ T H a w) : a.defers = [] /\ Sim N W0 noX M M σ T H a w := by
 have hd := h2.defers.2 O1
 refine ⟨hd, h2.os, h2.tape, h2.output, h2.size, fun b hb _ => h2.old b hb fun h => ?_, fun _ _ h => h, fun b o h h' => (by rw [h] at h'; cases h'), fun m x hx => (by cases hx), ⟨by rw [hd]; trivial, fun _ => hd⟩, h2.room, h2.tmps, h2.imm, h2.blk, fun n b hb => (h2.loc n b hb).imp id fun h => ⟨h.1, ?_⟩, h2.inj⟩
 ·have := Nt h; omega
 ·rcases h.2 with h | h
  ·exact .inl h
  ·exact .inl (Nat.le_of_eq (Nt h).symm)
theorem IK {W0 w : World} {M M' : Nat -> Option Obj} {X : Nat -> Option Loc} {σ : Nat -> Loc} {T : Nat -> Option Tv} {H : Nat -> Option Blk} {a : Act} (h : IOk Ow n0 al M W0) (hO : OwS Ow n0) (hs : Sim N W0 X M M' σ T H a w) : IOk Ow n0 al M' W0 := fun ha => by
 obtain ⟨h1, h3, h2⟩ := h ha
 refine ⟨h1, h3, fun b o hb ho => ?_⟩
 cases hM : M b with
 | some o' => exact h2 b o' hM ho
 | none => have := hs.new b o hb hM; have := h3 b ho; omega
theorem D8 (hO : OwS Ow n0) {c : Code} (hdv : ∀ i v, get s.t i = some v -> v.dv = true) (hh : s.h = []) (h : ∀ W0 X1 M1, AWp P none N W0 X1 M1 c (fun e s' => Q e s' J al) s) : IWp P N Ow n0 c Q s J al := by
 intro W0 M σ a w hJ hs
 refine wpIn_mono (h W0 _ M M _ a w (Jr hdv hh hJ.2.1 hs)) ?_
 rintro e a' w' ⟨s', M', σ', h1, h2⟩
 obtain ⟨hd, h3⟩ := Ho h2
 exact ⟨s', J, al, W0, M', σ', h1, ⟨hJ.1, hd, IK hJ.2.2 hO h2⟩, h3⟩
theorem Dg {x y : Code} (h : IWp P N Ow n0 x (ITh (fun s' J' M' => IWp P N Ow n0 y Q s' J' M') Q) s J al) : IWp P N Ow n0 (.seq x y) Q s J al := by
 intro W0 M σ a w hJ hs
 refine wpIn_seq (wpIn_mono (h W0 M σ a w hJ hs) ?_)
 rintro e a' w' ⟨s', J', al', W0', M', σ', h1, h2, h3⟩
 cases e with
 | normal => exact h1 W0' M' σ' a' w' h2 h3
 | _ => exact ⟨s', J', al', W0', M', σ', h1, h2, h3⟩
theorem F9 {id : Nat} {c : Code} (h : IWp P N Ow n0 c (IBl id Q) s J al) : IWp P N Ow n0 (.block id c) Q s J al := by
 intro W0 M σ a w hJ hs
 refine wpIn_block (wpIn_mono (h W0 M σ a w hJ hs) ?_)
 rintro e a' w' ⟨s', J', al', W0', M', σ', h1, h2, h3⟩
 cases e with
 | exit id' =>
  simp only [IBl] at h1
  simp only [Exit.inBlock]
  split
  ·rename_i he; rw [if_pos he] at h1; exact ⟨s', J', al', W0', M', σ', h1, h2, h3⟩
  ·rename_i he; rw [if_neg he] at h1; exact ⟨s', J', al', W0', M', σ', h1, h2, h3⟩
 | _ => exact ⟨s', J', al', W0', M', σ', h1, h2, h3⟩
theorem HC {c : Operand} {x y : Code} (b : Bool) (hc : evT (get s.t) c = some (.av (.one (.val (.bool b))))) (h1 : b = true -> IWp P N Ow n0 x Q s J al) (h2 : b = false -> IWp P N Ow n0 y Q s J al) : IWp P N Ow n0 (.cond c x y) Q s J al := by
 intro W0 M σ a w hJ hs
 have hv : a.eval c = .bool b := (Fb hs.tmps hc).1
 exact wpIn_cond_split hv (fun hb => h1 hb W0 M σ a w hJ hs) (fun hb => h2 hb W0 M σ a w hJ hs)
theorem IJ (h : Q .normal s J al) : IWp P N Ow n0 .skip Q s J al := fun W0 M σ a w hJ hs => wpIn_skip ⟨s, J, al, W0, M, σ, h, hJ, hs⟩
theorem U1 (h : Q .ret s J al) : IWp P N Ow n0 .ret Q s J al := fun W0 M σ a w hJ hs => wpIn_ret ⟨s, J, al, W0, M, σ, h, hJ, hs⟩
theorem MJ {id : Nat} (h : Q (.exit id) s J al) : IWp P N Ow n0 (.exit id) Q s J al := fun W0 M σ a w hJ hs => wpIn_exit ⟨s, J, al, W0, M, σ, h, hJ, hs⟩
theorem MI {ι : Type} {c : Code} (S : ι -> AS) (Jf : ι -> World -> Prop) (Inv : ι -> Prop) (μ : ι -> Nat) (round : ∀ x, Inv x -> IWp P N Ow n0 c (ITh (fun s' J' al' => ∃ y, Inv y /\ μ y < μ x /\ s' = S y /\ J' = Jf y /\ al' = al) Q) (S x) (Jf x) al) (x : ι) (hx : Inv x) : IWp P N Ow n0 (.loop c) Q (S x) (Jf x) al := by
 have key : ∀ n x, μ x < n -> Inv x -> ∀ W0 M σ a w, (Jf x W0 /\ a.defers = [] /\ IOk Ow n0 al M W0) -> Sim N W0 noX M M σ (get (S x).t) (get (S x).h) a w -> Code.roundsIn (FW none) 0 P c (fun e a' w' => ∃ s' J' al' W0' M' σ', Q e s' J' al' /\ (J' W0' /\ a'.defers = [] /\ IOk Ow n0 al' M' W0') /\ Sim N W0' noX M' M' σ' (get s'.t) (get s'.h) a' w') n a w := by
  intro n
  induction n with
  | zero => intro x h; omega
  | succ n ih =>
   intro x hlt hx W0 M σ a w hJ hs
   rw [roundsIn_succ]
   refine wpIn_mono (round x hx W0 M σ a w hJ hs) ?_
   rintro e a' w' ⟨s', J', al', W0', M', σ', h1, h2, h3⟩
   cases e with
   | normal =>
    obtain ⟨y, hy, hm, rfl, rfl, rfl⟩ := h1
    exact ih y (by omega) hy W0' M' σ' a' w' h2 h3
   | _ => exact ⟨s', J', al', W0', M', σ', h1, h2, h3⟩
 intro W0 M σ a w hJ hs
 exact wpIn_loop_rounds (μ x + 1) (key (μ x + 1) x (Nat.lt_succ_self _) hx W0 M σ a w hJ hs)
end
def Cl.isV : Cl -> Bool
 | .val _ => true
 | _ => false
def Cl.toV : Cl -> Value
 | .val v => v
 | _ => undef
def Av.isV : Av -> Bool
 | .one c => c.isV
 | .agg l => l.all Cl.isV
def Av.toV : Av -> Value
 | .one c => c.toV
 | .agg l => .agg (l.map Cl.toV).toArray
theorem Sp {M : Nat -> Option Obj} {σ : Nat -> Loc} : ∀ {l : List Cl} {vs : List Value}, L2 (R M σ) l vs -> l.all Cl.isV = true -> vs = l.map Cl.toV
 | [], _, h, _ => by cases h; rfl
 | c :: l, _, h, hv => by
  cases h with
  | cons h1 h2 =>
   simp only [List.all_cons, Bool.and_eq_true] at hv
   rw [Sp h2 hv.2]
   cases c with
   | val v => rw [h1.1]; rfl
   | _ => cases hv.1
theorem VE {M : Nat -> Option Obj} {σ : Nat -> Loc} {x : Av} {V : Value} (h : RA M σ x V) (hv : x.isV = true) : V = x.toV := by
 cases x with
 | one c =>
  cases c with
  | val v => exact h.1
  | _ => cases hv
 | agg l =>
  obtain ⟨vs, rfl, h2⟩ := h
  rw [Sp h2 hv]; rfl
theorem UM {M : Nat -> Option Obj} {σ : Nat -> Loc} {x : Av} (hv : x.isV = true) (ho : ∀ c ∈ x.cells, c.toV.oneCell' = true) : RA M σ x x.toV := by
 cases x with
 | one c =>
  cases c with
  | val v => exact ⟨rfl, ho (.val v) (by simp [Av.cells])⟩
  | _ => cases hv
 | agg l =>
  refine ⟨_, rfl, ?_⟩
  simp only [Av.isV] at hv
  simp only [Av.cells] at ho
  induction l with
  | nil => exact .nil
  | cons c l ih =>
   simp only [List.all_cons, Bool.and_eq_true] at hv
   refine .cons ?_ (ih hv.2 fun c hc => ho c (List.mem_cons_of_mem _ hc))
   cases c with
   | val v => exact ⟨rfl, ho (.val v) (List.mem_cons_self ..)⟩
   | _ => cases hv.1
section
variable {P : Program} {V : Env P} {N : Nat} {W0 : World} {X : Nat → Option Loc} {M0 M : Nat → Option Obj} {σ : Nat → Loc} {w : World} {a : Act}
theorem Q3 {o : Oper} {c : Call} {f : Operand} {ly : Nat} {xs : List Av} {T : Nat -> Option Tv} (hT : ∀ i v, T i = some v -> RT M σ v (a.tmps.getD i undef)) (ho : o.op = .call c) (hcf : c.callee = .value f) (hf : evT T f = some (.av (.one (.val (.func (.yield ly) #[] #[]))))) (hxs : D3 (evT T) c.args.toList = some xs) (hv : xs.all Av.isV = true)
  {R : Ending -> World -> Prop} (hY : YieldAt (FW none) 0 P ly (xs.map Av.toV).toArray w R) {K : Act -> World -> Prop} {Q : Exit -> Act -> World -> Prop} (hK : ∀ e w', R e w' -> ∃ V, e = .returned V /\ K (a.put o.dst V) w') : o.wpIn (FW none) 0 P a w K Q := by
 obtain ⟨fn, tmps, assign, body, hy, hR⟩ := hY
 refine ⟨fun _ _ => trivial, ?_⟩
 rw [Oper.semAt_eq _ _ _ (fun d h => by rw [ho] at h; cases h)]
 have hfv := (Fb hT hf).1
 have hargs := HS (fun x v => Fb hT) _ _ hxs
 have hmap : c.args.map a.eval = (xs.map Av.toV).toArray := by
  have e : c.args.toList.map a.eval = xs.map Av.toV := by
   clear hxs hy hR
   revert hargs hv
   generalize c.args.toList.map a.eval = vs
   intro hv hargs
   induction hargs with
   | nil => rfl
   | cons h1 _ ih =>
    simp only [List.all_cons, Bool.and_eq_true] at hv
    rw [ih hv.2, List.map_cons, VE h1 hv.1]
  rw [<- e]
  apply Array.ext'; simp
 have hres : (execOp a.eval o).run P w = .ok (.round ly fn tmps assign body) w := by
  simp only [execOp, ho, Sem.run_bind, resolve, hcf, hfv, Deferred.ofValue, hmap]
  simpa [invoke] using hy
 rw [hres, Oper.uponIn_round]
 refine ⟨fun h => (by cases h), ?_⟩
 have h1 : RoundIn (FW none) (0 - 1) P ly fn tmps assign body w R := hR
 refine h1.mono ?_
 rintro e w' he
 obtain ⟨V, rfl, hk⟩ := hK e w' he
 exact hk
end
end
section
open Go.RowKit
section
variable {P : Program} {V : Env P} {rd : Option Nat} {N : Nat} {W0 : World} {X : Nat → Option Loc} {M0 : Nat → Option Obj} {l1 l2 : List Oper} {o : Oper} {s0 : AS}
end
def noM : Nat -> Option Obj := fun _ => none
def MY (M : Nat -> Option Obj) (b : Nat) : Option Obj := match M b with
 | some (.cells c t f) => some (.cells c t f)
 | _ => none
theorem Do {M : Nat -> Option Obj} {b : Nat} {o : Obj} (h : MY M b = some o) : M b = some o /\ o.isCells = true := by
 unfold MY at h
 cases hM : M b with
 | none => rw [hM] at h; cases h
 | some o' =>
  rw [hM] at h
  cases o' with
  | cells c t f => injection h with h; subst h; exact ⟨rfl, rfl⟩
  | _ => cases h
theorem Hy {M : Nat -> Option Obj} (b : Nat) (c : Array Value) (t : TypeId) (f : Nat × Nat) (h : M b = some (.cells c t f)) : MY M b = some (.cells c t f) := by unfold MY; rw [h]
section
variable {P : Program} {N : Nat} {Ow : World → Nat → Prop} {n0 : Nat} {Q : IQ} {s : AS} {J : World → Prop}
theorem Dy {K : AS -> (World -> Prop) -> Bool -> Prop} {Q : IQ} {s : AS} {J : World -> Prop} {al : Bool} (h : K s J al) : ITh K Q .normal s J al := h
theorem LM {K : AS -> (World -> Prop) -> Bool -> Prop} {Q : IQ} {s : AS} {J : World -> Prop} {al : Bool} {id : Nat} (h : Q (.exit id) s J al) : ITh K Q (.exit id) s J al := h
theorem R9 {Q : IQ} {s : AS} {J : World -> Prop} {al : Bool} {id : Nat} (h : Q .normal s J al) : IBl id Q .normal s J al := h
theorem MN {Q : IQ} {s : AS} {J : World -> Prop} {al : Bool} {id : Nat} (h : Q .normal s J al) : IBl id Q (.exit id) s J al := by simp only [IBl, if_true]; exact h
theorem Cr {α : Type} {p : α -> Prop} : ∀ {l : List (Nat × α)}, (∀ x ∈ l, p x.2) -> ∀ i v, get l i = some v -> p v
 | [], _, _, _, h => by cases h
 | (k, x) :: l, h, i, v, hv => by
  simp only [get, CW] at hv
  by_cases hi : k = i
  ·subst hi; simp at hv; subst hv; exact h (k, x) (List.mem_cons_self ..)
  ·simp [hi] at hv; exact Cr (fun y hy => h y (List.mem_cons_of_mem _ hy)) i v hv
theorem CN {α : Type} [Inhabited α] {sz : Nat} {c : α -> List Cl} {xs : List α} (h : ∀ x, ∀ y ∈ c x, NM y) : NM (lst sz c xs) := by
 refine .list _ _ _ _ fun i j => ?_
 rw [List.getD_eq_getElem?_getD]
 cases hj : (c (xs.getD i default))[j]? with
 | none => exact .val _
 | some y => exact h _ y (List.mem_of_getElem? hj)
theorem Fs {L : List Cl} {sz len i off : Nat} (h : ∀ y ∈ L, NM y) : NM (.eptr sz len (fun _ j => (L : List Cl).getD j default) i off) := by
 refine .eptr _ _ _ _ _ fun _ j => ?_
 show NM (L.getD j default)
 rw [List.getD_eq_getElem?_getD]
 cases hj : L[j]? with
 | none => exact .val _
 | some y => exact h y (List.mem_of_getElem? hj)
theorem Rl {g : FuncId} {k : Nat} {L : List Cl} (h : ∀ y ∈ L, NM y) : NM (.clo g k (BE L)) := by
 refine .clo _ _ _ fun i => ?_
 show NM (L.getD i default)
 rw [List.getD_eq_getElem?_getD]
 cases hj : L[i]? with
 | none => exact .val _
 | some y => exact h y (List.mem_of_getElem? hj)
theorem B5 {c : Cl} (h : NM c) : TvM (.av (.one c)) := fun y hy => by simp only [Av.cells, List.mem_singleton] at hy; subst hy; exact h
end
end
section
open Go.RowKit
def IEnd (n : Nat) (JJ Jx : Nat -> World -> Prop) : IQ := fun e s' J' al' => (e = .ret \/ e = .normal) /\ (J' = JJ n \/ ∃ j, j < n /\ J' = Jx (j + 1))
end
section
open Go.RowKit
theorem F8 : ∀ {l : List Nat} {n : Nat}, n ∈ l -> Bc l n = true
 | k :: r, n, h => by
  simp only [Bc]
  cases hk : Nat.beq k n with
  | true => rfl
  | false =>
   rcases List.mem_cons.1 h with e | h
   ·rw [e, Nat.beq_refl] at hk; cases hk
   ·exact F8 h
theorem Mt {fid : Nat} : ∀ (ps : List Tmp) (es : List Av) (t : List (Nat × Tv)), (∀ i v, get t i = some v -> v.no fid = true) -> es.all Av.dv = true -> ∀ i v, get (LA t ps es) i = some v -> v.no fid = true
 | [], _, t, h, _, i, v, hv => h i v (by cases ‹List Av› <;> exact hv)
 | p :: ps, [], t, h, _, i, v, hv => h i v hv
 | p :: ps, e :: es, t, h, he, i, v, hv => by
  simp only [List.all_cons, Bool.and_eq_true] at he
  refine Mt ps es ((p, .av e) :: t) (fun j u hu => ?_) he.2 i v hv
  simp only [get, CW] at hu
  by_cases hj : p = j
  ·subst hj; simp at hu; subst hu; exact Gz he.1
  ·simp [hj] at hu; exact h j u hu
section
variable {P : Program} {N : Nat} {W0 : World} {X : Nat → Option Loc} {M0 : Nat → Option Obj}
end
end
section
open Go.RowKit
section
variable {P : Program}
def Fr (P : Program) (f : FuncId) (xs : List Av) (b : Blk) (v : Nat -> Tv) : Prop := ∀ (M : Nat -> Option Obj) (σ : Nat -> Loc) (w : World) (args : List Value), (∀ b o, M b = some o -> w.heap[b]? = some o) -> L2 (RA M σ) xs args ->
 Calls P f args.toArray w fun en w' => ∃ U, en = .returned U /\ ∃ M' x, Fz w w' M M' NN /\ (x.nil = true \/ (w.heap.size <= x.b /\ M' x.b = none)) /\ (∀ σ', Bz M' σ' w' x b) /\ ∀ (σ' : Nat -> Loc) d, σ' d = x -> RT M' σ' (v d) U
theorem Li {f : FuncId} {xs : List Av} {b : Blk} {v : Nat -> Tv} (h1 : ∀ args w, (callFunc f args).run P w = .ok (.enter f args) w) (h : Fr P f xs b v) : A1 P f xs (.new [] b v) := by
 refine .inl ⟨h1, fun M σ w h' args cs' g hs hargs hr hc => ?_⟩
 simp only [res, Option.some.injEq, Prod.mk.injEq] at hr
 obtain ⟨rfl, rfl⟩ := hr
 refine (h M σ w args hs.imm hargs).mono ?_
 rintro en w' ⟨U, hU, M', x, hk, hx, hb, hR⟩
 refine ⟨U, hU, fun dst ⟨d, hd, hno⟩ => ⟨M', upd σ d x, x, d, hd, hk, hx, rfl, hb _, hR _ _ (BU _ _ _)⟩⟩
def OwnV (v : Nat -> Tv) : Prop := ∀ (M : Nat -> Option Obj) (σ σ' : Nat -> Loc) (n d : Nat) (U : Value), σ' d = σ n -> RT M σ (v n) U -> RT M σ' (v d) U
theorem FV (sz len : Nat) : OwnV fun d => .av (.one (.own d sz len)) := fun M σ σ' n d U h hR => by
 have hR : R M σ (.own n sz len) U := hR
 show R M σ' (.own d sz len) U
 simp only [R] at *
 rw [h]; exact hR
theorem EZ {f : FuncId} {fn : Func} {c : Code} (hf : P.funcs[f]? = some fn) (hb : fn.body = some c) {xs : List Av} {sz len : Nat} {g : Nat -> Nat -> Cl} {ty : TypeId} {v : Nat -> Tv} (hN : Nat.ble xs.length fn.ntmps = true) (hv : OwnV v)
  (h : ∀ (W0 : World) (M0 : Nat -> Option Obj), AWp P none fn.ntmps W0 noX M0 c (Ss P fn.ntmps W0 noX M0 fn fun r' s' => ∃ n, TvE r' (v n) /\ ∃ b, get s'.h n = some b /\ GP b (.row sz len g ty)) ⟨EP 0 xs, []⟩) : Fr P f xs (.row sz len g ty) v := by
 intro M σ w args himm hargs
 refine EF (X := noX) (σ := σ) (h0 := []) hf hb (Nat.le_of_ble_eq_true hN) himm hargs (fun n b h => by cases h) (fun n b h => by cases h) (fun n x h => by cases h) (fun n m b c h => by cases h) (D2 (h w M)) ?_
 rintro r' s' M' σ' a' w' U ⟨n, he, b, hb1, hbe⟩ hs hR
 have hbk := HW hbe (hs.blk n _ hb1)
 refine ⟨U, rfl, M', σ' n, ⟨hs.os, hs.tape, hs.output, hs.size, fun b hb _ => hs.old b hb (Ep b), hs.sub, hs.new, hs.imm⟩, ?_, fun σ'' => ?_, fun σ'' d hd => hv M' σ' σ'' n d U hd (H4 he hR)⟩
 ·rcases hs.loc n _ hb1 with h1 | ⟨h1, h2 | h2⟩
  ·exact .inl h1
  ·exact .inr ⟨h2, h1⟩
  ·exact absurd h2 (Ep _)
 ·exact hbk
theorem frE {α : Type} [Inhabited α] {c : α -> List Cl} {sz n : Nat} {ty : TypeId} {xs ys : List α} {s' : AS} (h : xs = ys) (hg : get s'.h n = some (.row sz xs.length (AY c xs) ty)) :
  ∃ m, TvE (.av (.one (.own n sz xs.length))) (.av (.one (.own m sz ys.length))) /\ ∃ b, get s'.h m = some b /\ GP b (.row sz ys.length (AY c ys) ty) := by subst h; exact ⟨n, .refl _, _, hg, .refl _⟩
theorem O0 {f : FuncId} {sz len : Nat} {F : Nat -> Nat -> Cl} {b : Blk} {v : Nat -> Tv} (h0 : len = 0 -> Fr P f [.one (.val (.slice none 0 0))] b v) (h1 : Fr P f [.one (.list true sz len F)] b v) : Fr P f [.one (.list false sz len F)] b v := by
 intro M σ w args himm hargs
 cases hargs with
 | cons ha ht =>
  cases ht with
  | nil =>
   have ha : RC M (.list false sz len F) _ := ha
   cases ha with
   | nil => exact h0 rfl M σ w _ himm (.cons ⟨rfl, rfl⟩ .nil)
   | mt _ _ _ a cap => exact h1 M σ w _ himm (.cons (RC.mt true sz F a cap) .nil)
   | list _ _ _ _ b off cap g e1 e2 e3 => exact h1 M σ w _ himm (.cons (RC.list true sz len F b off cap g e1 e2 e3) .nil)
end
end
section
open Go.RowKit Go.MapKept
section
variable {K V : Type} [Inhabited K] [Inhabited V]
def kfG (ck : K -> Value) (l : List (K × V)) : Nat -> Value := fun i => ck (l.getD i default).1
def vfG (c : V -> List Cl) (l : List (K × V)) : Nat -> Nat -> Cl := fun i j => (c (l.getD i default).2).getD j default
def Cw (eq : K -> K -> Bool) (l : List (K × V)) (k : K) : Bool := l.any fun e => eq e.1 k
def CG (eq : K -> K -> Bool) (l : List (K × V)) (k : K) : Nat := l.findIdx fun e => eq e.1 k
def E6 (eq : K -> K -> Bool) (l : List (K × V)) (k : K) (v : V) : List (K × V) := bif Cw eq l k then l.set (CG eq l k) (k, v) else l ++ [(k, v)]
theorem NT {eq : K -> K -> Bool} {l : List (K × V)} {k : K} (h : Cw eq l k = true) : CG eq l k < l.length /\ eq (l.getD (CG eq l k) default).1 k = true /\ ∀ j, j < CG eq l k -> eq (l.getD j default).1 k = false := by
 unfold Cw at h
 obtain ⟨x, hx, hxk⟩ := List.any_eq_true.1 h
 have hlt : l.findIdx (fun e => eq e.1 k) < l.length := List.findIdx_lt_length.2 ⟨x, hx, hxk⟩
 refine ⟨hlt, ?_, fun j hj => ?_⟩
 ·have := List.findIdx_getElem (w := hlt)
  unfold CG
  rw [List.getD_eq_getElem?_getD, List.getElem?_eq_getElem hlt]
  exact this
 ·have := List.not_of_lt_findIdx hj
  have hj' : j < l.length := Nat.lt_trans hj hlt
  rw [List.getD_eq_getElem?_getD, List.getElem?_eq_getElem hj']
  exact this
theorem Td {eq : K -> K -> Bool} {l : List (K × V)} {k : K} (h : Cw eq l k = false) : ∀ j, j < l.length -> eq (l.getD j default).1 k = false := by
 intro j hj
 unfold Cw at h
 have := (List.any_eq_false.1 h) l[j] (List.getElem_mem hj)
 rw [List.getD_eq_getElem?_getD, List.getElem?_eq_getElem hj]
 simpa using this
theorem NZ {P : Program} {E : TypeId -> Option (List Kd)} {kt : TypeId} {ck : K -> Value} {eq : K -> K -> Bool} (heq : ∀ a b, eq a b = true ↔ ck a = ck b) (hfit : ∀ k, ER P E kt (ck k)) (l : List (K × V)) (k : K) :
  N3 P E kt l.length (kfG ck l) (ck k) (Cw eq l k) (CG eq l k) := by
 refine ⟨hfit k, fun j _ => hfit _, fun h => ?_, fun h j hj => ?_⟩
 ·obtain ⟨h1, h2, h3⟩ := NT h
  refine ⟨h1, (heq _ _).1 h2, fun j hj e => ?_⟩
  have := (heq _ _).2 e
  rw [h3 j hj] at this
  cases this
 ·intro e
  have := (heq _ _).2 e
  rw [Td h j hj] at this
  cases this
omit [Inhabited K] [Inhabited V] in
theorem NO (eq : K -> K -> Bool) (l : List (K × V)) (k : K) (v : V) : (bif Cw eq l k then l.length else l.length + 1) = (E6 eq l k v).length := by
 unfold E6
 cases Cw eq l k <;> simp
theorem NP {eq : K -> K -> Bool} {l : List (K × V)} {k : K} {v : V} (j : Nat) (hj : j < (E6 eq l k v).length) : (E6 eq l k v).getD j default = bif Nat.beq j (bif Cw eq l k then CG eq l k else l.length) then (k, v) else l.getD j default := by
 rw [<- NO] at hj
 unfold E6
 cases h : Cw eq l k with
 | true =>
  rw [h] at hj
  simp only [cond_true] at *
  have hlt := (NT h).1
  rw [List.getD_eq_getElem?_getD, List.getElem?_set, CW]
  by_cases e : CG eq l k = j
  ·subst e; simp [hlt]
  ·rw [if_neg e, decide_eq_false (Ne.symm e), cond_false, List.getD_eq_getElem?_getD]
 | false =>
  rw [h] at hj
  simp only [cond_false] at *
  rw [List.getD_eq_getElem?_getD, CW]
  by_cases e : j = l.length
  ·subst e
   rw [decide_eq_true rfl, cond_true, List.getElem?_append_right (Nat.le_refl _), Nat.sub_self]
   rfl
  ·rw [decide_eq_false e, cond_false, List.getElem?_append_left (by omega), List.getD_eq_getElem?_getD]
theorem Sb {ck : K -> Value} {cv : V -> List Cl} {eq : K -> K -> Bool} {agg : Bool} {nv : Nat} (l : List (K × V)) (k : K) (v : V) (cells : List Cl) (hc : cells = cv v) :
  GP (.omap agg nv (bif Cw eq l k then l.length else l.length + 1) (fun j => bif Nat.beq j (bif Cw eq l k then CG eq l k else l.length) then ck k else kfG ck l j) (fun j c => bif Nat.beq j (bif Cw eq l k then CG eq l k else l.length) then cells.getD c default else vfG cv l j c))
   (.omap agg nv (E6 eq l k v).length (kfG ck (E6 eq l k v)) (vfG cv (E6 eq l k v))) := by
 subst hc
 refine .omap agg nv (NO eq l k v) (fun j hj => ?_) (fun j c hj _ => ?_)
 ·unfold kfG
  rw [NP j hj]
  cases Nat.beq j (bif Cw eq l k then CG eq l k else l.length) <;> rfl
 ·have : (bif Nat.beq j (bif Cw eq l k then CG eq l k else l.length) then (cv v).getD c default else vfG cv l j c) = vfG cv (E6 eq l k v) j c := by
   unfold vfG
   rw [NP j hj]
   cases Nat.beq j (bif Cw eq l k then CG eq l k else l.length) <;> rfl
  rw [this]
  exact .refl _
theorem Sc {ck : K -> Value} {cv : V -> List Cl} {agg : Bool} {nv : Nat} : GP (.omap agg nv 0 (fun _ => undef) (fun _ _ => default)) (.omap agg nv ([] : List (K × V)).length (kfG ck ([] : List (K × V))) (vfG cv ([] : List (K × V)))) :=
 .omap agg nv rfl (fun j hj => absurd hj (Nat.not_lt_zero _)) (fun j c hj _ => absurd hj (Nat.not_lt_zero _))
end
def eqS (a b : ByteArray) : Bool := a.toList == b.toList
theorem O5 (a b : ByteArray) : eqS a b = true ↔ Value.string a = Value.string b := by
 unfold eqS
 rw [beq_iff_eq, Value.string.injEq]
 exact ⟨Sf, fun h => by rw [h]⟩
end
section
open Go.RowKit Go.MapKept
section
variable {P : Program}
def Wr2 (P : Program) (f : FuncId) (K L : Nat) (xs : List Av) (b0 d0 : Blk) (r : Tv) (b1 d1 : Blk) : Prop := ∀ (M : Nat -> Option Obj) (σ : Nat -> Loc) (w : World) (args : List Value), (∀ b o, M b = some o -> w.heap[b]? = some o) ->
 (Bz M σ w (σ K) b0 /\ (σ K).nil = false /\ M (σ K).b = none) -> (Bz M σ w (σ L) d0 /\ (σ L).nil = false /\ M (σ L).b = none) -> (σ K).b ≠ (σ L).b -> L2 (RA M σ) xs args ->
 Calls P f args.toArray w fun en w' => ∃ U, en = .returned U /\ ∃ M', Fz w w' M M' (fun b => only (σ K) b \/ only (σ L) b) /\ (∀ σ', RT M' σ' r U) /\ (∀ σ', Bz M' σ' w' (σ K) b1) /\ ∀ σ', Bz M' σ' w' (σ L) d1
theorem Jj {f : FuncId} {fn : Func} {c : Code} (hf : P.funcs[f]? = some fn) (hb : fn.body = some c) {K L : Nat} {xs : List Av} {b0 d0 b1 d1 : Blk} {r : Tv} (hN : Nat.ble xs.length fn.ntmps = true) (hK : Nat.ble fn.ntmps K = true) (hL : Nat.ble fn.ntmps L = true) (hKL : Nat.beq K L = false) (hd : r.dv = true) (hd1 : Hj b1 = true) (hd2 : Hj d1 = true)
  (h : ∀ (W0 : World) (M0 : Nat -> Option Obj) (X : Nat -> Option Loc), (∀ k x, X k = some x -> Bc [K, L] k = true) -> AWp P none fn.ntmps W0 X M0 c (Ss P fn.ntmps W0 X M0 fn fun r' s' => TvE r' r /\ (∃ b, get s'.h K = some b /\ GP b b1) /\ ∃ b, get s'.h L = some b /\ GP b d1) ⟨EP 0 xs, [(K, b0), (L, d0)]⟩) : Wr2 P f K L xs b0 d0 r b1 d1 := by
 intro M σ w args himm ⟨hblk, hnil, hM⟩ ⟨hblk2, hnil2, hM2⟩ hbne hargs
 have hne : K ≠ L := fun e => by rw [e, Nat.beq_refl] at hKL; cases hKL
 let X : Nat -> Option Loc := upd (upd noX K (some (σ K))) L (some (σ L))
 have hXL : X L = some (σ L) := BU _ _ _
 have hXK : X K = some (σ K) := by
  show upd _ L _ K = _
  rw [CK _ _ hne]; exact BU _ _ _
 have one : ∀ n b, get [(K, b0), (L, d0)] n = some b -> (n = K /\ b = b0) \/ (n = L /\ b = d0) := fun n b hn => by
  simp only [get, CW] at hn
  by_cases hk : K = n
  ·simp [hk] at hn; exact .inl ⟨hk.symm, hn.symm⟩
  ·by_cases hl : L = n
   ·simp [hk, hl] at hn; exact .inr ⟨hl.symm, hn.symm⟩
   ·simp [hk, hl] at hn
 have pins : ∀ n x, X n = some x -> (n = K /\ x = σ K) \/ (n = L /\ x = σ L) := fun n x hx => by
  by_cases hl : n = L
  ·subst hl; rw [hXL] at hx; injection hx with hx; exact .inr ⟨rfl, hx.symm⟩
  ·by_cases hk : n = K
   ·subst hk; rw [hXK] at hx; injection hx with hx; exact .inl ⟨rfl, hx.symm⟩
   ·simp only [X] at hx; rw [CK _ _ hl, CK _ _ hk] at hx; cases hx
 have hXm : ∀ k x, X k = some x -> Bc [K, L] k = true := fun k x hk => by
  rcases pins k x hk with ⟨rfl, _⟩ | ⟨rfl, _⟩
  ·unfold Bc; rw [Nat.beq_refl]; rfl
  ·unfold Bc; rw [hKL]; exact IF _
 refine EF (X := X) (σ := σ) (h0 := [(K, b0), (L, d0)]) hf hb (Nat.le_of_ble_eq_true hN) himm hargs (fun n b hn => ?_) (fun n b hn => ?_) (fun n x hx => ?_) (fun n m b c hn hm hnm => ?_) (D2 (h w M X hXm)) ?_
 ·rcases one n b hn with ⟨rfl, rfl⟩ | ⟨rfl, rfl⟩
  ·exact hblk
  ·exact hblk2
 ·rcases one n b hn with ⟨rfl, rfl⟩ | ⟨rfl, rfl⟩
  ·exact .inr ⟨hM, n, σ n, hXK, rfl⟩
  ·exact .inr ⟨hM2, n, σ n, hXL, rfl⟩
 ·rcases pins n x hx with ⟨rfl, rfl⟩ | ⟨rfl, rfl⟩
  ·exact ⟨Nat.le_of_ble_eq_true hK, rfl⟩
  ·exact ⟨Nat.le_of_ble_eq_true hL, rfl⟩
 ·rcases one n b hn with ⟨rfl, rfl⟩ | ⟨rfl, rfl⟩ <;> rcases one m c hm with ⟨rfl, rfl⟩ | ⟨rfl, rfl⟩
  ·exact absurd rfl hnm
  ·exact .inr (.inr hbne)
  ·exact .inr (.inr fun e => hbne e.symm)
  ·exact absurd rfl hnm
 ·rintro r' s' M' σ' a' w' U ⟨he, ⟨b, hb1, hbe⟩, e, he1, hee⟩ hs hR
  have hpin := (hs.pin K _ hXK).2
  have hbk := hs.blk K _ hb1
  rw [hpin] at hbk
  have hpin2 := (hs.pin L _ hXL).2
  have hbk2 := hs.blk L _ he1
  rw [hpin2] at hbk2
  refine ⟨U, rfl, M', ⟨hs.os, hs.tape, hs.output, hs.size, fun b hb hne => hs.old b hb ?_, hs.sub, hs.new, hs.imm⟩, fun σ'' => Fy hd (H4 he hR), fun σ'' => Eo hd1 (HW hbe hbk), fun σ'' => Eo hd2 (HW hee hbk2)⟩
  rintro ⟨n, x, hx, rfl⟩
  rcases pins n x hx with ⟨rfl, rfl⟩ | ⟨rfl, rfl⟩
  ·exact hne (.inl ⟨hnil, rfl⟩)
  ·exact hne (.inr ⟨hnil2, rfl⟩)
def EV (K n L m : Nat) : Av -> Av
 | .one (.ptr q off) => .one (.ptr (bif Nat.beq q K then n else bif Nat.beq q L then m else q) off)
 | x => x
def Jw (K L : Nat) : Av -> Bool
 | .one (.ptr q _) => bif Nat.beq q K then true else Nat.beq q L
 | x => x.dv
def UJ (n m : Nat) (b0 d0 : Blk) (r : Tv) (b1 d1 : Blk) : Ef := .wrs [n, m] [] fun bs _ => some ([bs = [b0, d0]], r, [b1, d1])
theorem LL {w w' : World} {M M' : Nat -> Option Obj} {p q : Nat -> Prop} (h : Fz w w' M M' p) (hp : ∀ b, p b -> q b) : Fz w w' M M' q :=
 ⟨h.os, h.tape, h.output, h.size, fun b hb hn => h.old b hb fun h1 => hn (hp b h1), h.sub, h.new, h.imm⟩
theorem PB {f : FuncId} {K L n m : Nat} {xs : List Av} {b0 d0 b1 d1 : Blk} {r : Tv} (h1 : ∀ args w, (callFunc f args).run P w = .ok (.enter f args) w) (hx : xs.all (Jw K L) = true) (hKL : Nat.beq K L = false) (hnm : Nat.beq n m = false) (hd0 : Hj b0 = true) (hd2 : Hj d0 = true) (h : Wr2 P f K L xs b0 d0 r b1 d1) : A1 P f (xs.map (EV K n L m)) (UJ n m b0 d0 r b1 d1) := by
 have hne : K ≠ L := fun e => by rw [e, Nat.beq_refl] at hKL; cases hKL
 have hnm' : n ≠ m := fun e => by rw [e, Nat.beq_refl] at hnm; cases hnm
 refine .inl ⟨h1, fun M σ w hh args cs' g hs hargs hres hc => ?_⟩
 simp only [UJ, res, Fw] at hres
 cases hn : hh n with
 | none => rw [hn] at hres; cases hres
 | some b =>
  cases hm : hh m with
  | none => rw [hn, hm] at hres; cases hres
  | some d =>
   rw [hn, hm] at hres
   simp only [List.length_cons, List.length_nil, Nat.beq_refl, Option.some.injEq, Prod.mk.injEq] at hres
   obtain ⟨rfl, rfl⟩ := hres
   have hbd := hc.head
   injection hbd with e1 e2
   injection e2 with e2 _
   subst e1; subst e2
   have hblk := hs.blk n _ hn
   have hblk2 := hs.blk m _ hm
   have nilOf : ∀ {q : Nat} {bq : Blk}, Hj bq = true -> Bz M σ w (σ q) bq -> (σ q).nil = false := fun {q bq} hd hb => by
    cases bq with
    | row => cases hd
    | omap => cases hd
    | rowx => cases hd
    | cells l ty => exact hb.1
   have hnil := nilOf hd0 hblk
   have hnil2 := nilOf hd2 hblk2
   have hM : M (σ n).b = none := by
    rcases hs.loc n _ hn with h | h
    ·rw [hnil] at h; cases h
    ·exact h
   have hM2 : M (σ m).b = none := by
    rcases hs.loc m _ hm with h | h
    ·rw [hnil2] at h; cases h
    ·exact h
   have hbne : (σ n).b ≠ (σ m).b := by
    rcases hs.inj n m _ _ hn hm hnm' with h | h | h
    ·rw [hnil] at h; cases h
    ·rw [hnil2] at h; cases h
    ·exact h
   let σ2 : Nat -> Loc := upd (upd σ K (σ n)) L (σ m)
   have hL : σ2 L = σ m := BU _ _ _
   have hK : σ2 K = σ n := by
    show upd _ L _ K = _
    rw [CK _ _ hne]; exact BU _ _ _
   have hargs2 : L2 (RA M σ2) xs args := by
    refine L2.of (by have := hargs.length; simpa using this) fun i x V hxi hV => ?_
    obtain ⟨V', hV', hR⟩ := hargs.get i (EV K n L m x) (by rw [List.getElem?_map, hxi]; rfl)
    rw [hV] at hV'; injection hV' with hV'; subst hV'
    have hok := (List.all_eq_true.1 hx) x (List.mem_of_getElem? hxi)
    unfold Jw at hok
    split at hok
    ·rename_i q off
     by_cases hq : q = K
     ·subst hq
      simp only [EV, Nat.beq_refl, cond_true] at hR
      have hR' : V = .pointer (some ⟨(σ n).b, off, none⟩) := hR
      show V = .pointer (some ⟨(σ2 q).b, off, none⟩)
      rw [hK]; exact hR'
     ·have hqb : Nat.beq q K = false := by
       cases hb : Nat.beq q K with
       | false => rfl
       | true => exact absurd (Nat.eq_of_beq_eq_true hb) hq
      rw [hqb] at hok
      have := Nat.eq_of_beq_eq_true hok
      subst this
      simp only [EV, hqb, Nat.beq_refl, cond_true, cond_false] at hR
      have hR' : V = .pointer (some ⟨(σ m).b, off, none⟩) := hR
      show V = .pointer (some ⟨(σ2 q).b, off, none⟩)
      rw [hL]; exact hR'
    ·rename_i hnp
     have : EV K n L m x = x := by
      unfold EV
      split
      ·rename_i q off; exact (hnp q off rfl).elim
      ·rfl
     rw [this] at hR
     exact Fy (σ' := σ2) (r := .av x) hok hR
   refine (h M σ2 w args hs.imm (by rw [hK]; exact ⟨Eo hd0 hblk, hnil, hM⟩) (by rw [hL]; exact ⟨Eo hd2 hblk2, hnil2, hM2⟩) (by rw [hK, hL]; exact hbne) hargs2).mono ?_
   rintro en w' ⟨U, hU, M', hk, hR, hb, hb2⟩
   rw [hK, hL] at hk
   have g1 : get ([n, m].zip [b1, d1]) n = some b1 := by simp [get, CW]
   have g2 : get ([n, m].zip [b1, d1]) m = some d1 := by simp [get, CW, hnm']
   refine ⟨U, hU, fun dst _ => ⟨M', σ, LL hk fun b hb => ?_, rfl, hR σ, fun q bq hq => ?_⟩⟩
   ·rcases hb with h | h
    ·exact ⟨n, by rw [g1]; rfl, h⟩
    ·exact ⟨m, by rw [g2]; rfl, h⟩
   ·have h1 := hb σ
    have h2 := hb2 σ
    rw [hK] at h1
    rw [hL] at h2
    by_cases e : q = n
    ·subst e; rw [g1] at hq; injection hq with hq; subst hq; exact h1
    ·by_cases e2 : q = m
     ·subst e2; rw [g2] at hq; injection hq with hq; subst hq; exact h2
     ·simp [get, CW, Ne.symm e, Ne.symm e2] at hq
end
end
section
open Go.RowKit Go.MapKept
section
variable {P : Program} {rd : Option Nat} {N : Nat} {W0 : World} {X : Nat → Option Loc} {M0 : Nat → Option Obj} {Q : Exit → AS → Prop} {s : AS}
theorem N0 {c : Code} (b : Bool) (h1 : b = true -> AWp P rd N W0 X M0 c Q s) (h2 : b = false -> AWp P rd N W0 X M0 c Q s) : AWp P rd N W0 X M0 c Q s := by
 cases hb : b with
 | true => exact h1 hb
 | false => exact h2 hb
def AWL (P : Program) (rd : Option Nat) (N : Nat) (W0 : World) (X : Nat -> Option Loc) (M0 : Nat -> Option Obj) (ops : Array Oper) (l : List Oper) (K : AS -> Prop) (s : AS) : Prop :=
 ∀ M σ a w, Sim N W0 X M0 M σ (get s.t) (get s.h) a w -> ∀ Q' : Exit -> Act -> World -> Prop, (∀ s' M' σ' a' w', K s' -> Sim N W0 X M0 M' σ' (get s'.t) (get s'.h) a' w' -> Q' .normal a' w') -> wpListIn (FW rd) 0 P ops Q' l a w
theorem Ei {id : Nat} {l : List Oper} (h : AWL P rd N W0 X M0 l.toArray l (Q .normal) s) : AWp P rd N W0 X M0 (.region id l.toArray false) Q s := by
 intro M σ a w hs
 exact wpIn_region_lit (h M σ a w hs _ fun s' M' σ' a' w' hk hs' => ⟨s', M', σ', hk, hs'⟩)
theorem Ju {V : Env P} (hV : Ij P V) {ops : Array Oper} {Q' : Exit -> Act -> World -> Prop} (l2 : List Oper) : ∀ (l : List Oper) (s s1 : AS) (cs : List Prop), JS P V N ops l s = some (cs, s1) -> CA cs -> ∀ M σ a w, Sim N W0 X M0 M σ (get s.t) (get s.h) a w -> (∀ M' σ' a' w', Sim N W0 X M0 M' σ' (get s1.t) (get s1.h) a' w' -> wpListIn (FW rd) 0 P ops Q' l2 a' w') -> wpListIn (FW rd) 0 P ops Q' (l ++ l2) a w
 | [], s, s1, cs, hr, hc, M, σ, a, w, hs, hK => by
  simp only [JS, Option.some.injEq, Prod.mk.injEq] at hr
  obtain ⟨_, rfl⟩ := hr
  exact hK M σ a w hs
 | o :: l, s, s1, cs, hr, hc, M, σ, a, w, hs, hK => by
  simp only [JS] at hr
  split at hr
  ·rename_i cs1 s2 h1
   split at hr
   ·rename_i ds s3 h2
    simp only [Option.some.injEq, Prod.mk.injEq] at hr
    obtain ⟨rfl, rfl⟩ := hr
    obtain ⟨hc1, hc2⟩ := hc.append
    refine wpListIn_step fun K hK' => ?_
    refine Jo hV h1 hc1 hs (fun _ _ => rfl) (fun _ _ => rfl) (fun hn d hd => Jm h1 hn hd) fun M' σ' a' w' hs' => hK' _ _ (Ju hV l2 l s2 s3 ds h2 hc2 M' σ' a' w' ?_ hK)
    rw [(De h1).1, (De h1).2]
    exact hs'
   ·cases hr
  ·cases hr
def LB (P : Program) (V : Env P) (N : Nat) (ops : Array Oper) (l : List Oper) (ts hs : List Nat) (s : AS) : Option (List Prop × AS) := match JS P V N ops l s with
 | some (cs, s1) => some (cs, KH ts hs s1)
 | none => none
theorem HR {E : TypeId -> Option (List Kd)} (hE : HZ P ⟨fun _ => none, E, fun _ => false, fun _ => none⟩) {ops : Array Oper} {l : List Oper} {K : AS -> Prop} (k : Nat) (ow : List Nat) (qs : List (Nat × (Bool × Nat))) (tbl : List (Nat × FuncId × List Av × Ef)) (ts ns : List Nat) (cs : List Prop) (S : AS) (htbl : GM P tbl)
  (hr : LB P ⟨Gr tbl, E, Bc ow, get qs⟩ N ops (l.take k) ts ns s = some (cs, S)) (hc : CA cs) (h : AWL P rd N W0 X M0 ops (l.drop k) K S) : AWL P rd N W0 X M0 ops l K s := by
 have hV := htbl.env (O := Bc ow) (q := get qs) hE
 intro M σ a w hs Q' hQ'
 unfold LB at hr
 split at hr
 ·rename_i cs1 s1 h1
  simp only [Option.some.injEq, Prod.mk.injEq] at hr
  obtain ⟨rfl, rfl⟩ := hr
  have key := Ju (Q' := Q') (rd := rd) hV (l.drop k) (l.take k) s s1 cs1 h1 hc M σ a w hs fun M' σ' a' w' hs' => h M' σ' a' w' (Eu hs' ts ns) Q' hQ'
  rw [List.take_append_drop] at key
  exact key
 ·cases hr
theorem GJ {E : TypeId -> Option (List Kd)} (hE : HZ P ⟨fun _ => none, E, fun _ => false, fun _ => none⟩) {ops : Array Oper} {l : List Oper} {K : AS -> Prop} (ow : List Nat) (qs : List (Nat × (Bool × Nat))) (tbl : List (Nat × FuncId × List Av × Ef)) (ts ns : List Nat) (cs : List Prop) (S : AS) (htbl : GM P tbl)
  (hr : LB P ⟨Gr tbl, E, Bc ow, get qs⟩ N ops l ts ns s = some (cs, S)) (hc : CA cs) (h : K S) : AWL P rd N W0 X M0 ops l K s := by
 have hV := htbl.env (O := Bc ow) (q := get qs) hE
 intro M σ a w hs Q' hQ'
 unfold LB at hr
 split at hr
 ·rename_i cs1 s1 h1
  simp only [Option.some.injEq, Prod.mk.injEq] at hr
  obtain ⟨rfl, rfl⟩ := hr
  exact Lq (Q' := Q') (rd := rd) hV l s s1 cs1 h1 hc M σ a w hs fun M' σ' a' w' hs' => hQ' _ M' σ' a' w' h (Eu hs' ts ns)
 ·cases hr
theorem SV (n : Nat) (b b' : Blk) (hn : get s.h n = some b) (hb : ∀ M σ w x, Bz M σ w x b -> Bz M σ w x b') : Cv N W0 X M0 s ⟨s.t, put s.h n b'⟩ := by
 intro M σ a w hs
 have hk : ∀ m c, get (put s.h n b') m = some c -> ∃ b0, get s.h m = some b0 /\ (Bz M σ w (σ m) b0 -> Bz M σ w (σ m) c) := fun m c hm => by
  rw [IU] at hm
  split at hm
  ·rename_i e
   subst e
   injection hm with hm
   subst hm
   exact ⟨b, hn, hb M σ w _⟩
  ·exact ⟨c, hm, id⟩
 refine ⟨M, σ, hs.os, hs.tape, hs.output, hs.size, hs.old, hs.sub, hs.new, hs.pin, hs.defers, hs.room, hs.tmps, hs.imm, fun m c hm => ?_, fun m c hm => ?_, fun m k c c' hm hk' hne => ?_⟩
 ·obtain ⟨b0, e1, e2⟩ := hk m c hm; exact e2 (hs.blk m b0 e1)
 ·obtain ⟨b0, e1, _⟩ := hk m c hm; exact hs.loc m b0 e1
 ·obtain ⟨b0, e1, _⟩ := hk m c hm; obtain ⟨b0', e1', _⟩ := hk k c' hk'; exact hs.inj m k b0 b0' e1 e1' hne
def La : Nat -> List (List Cl) -> List (Nat × List Cl)
 | _, [] => []
 | k, l :: r => (k, l) :: La (k + 1) r
theorem HG : ∀ (ls : List (List Cl)) (k i : Nat), get (La k ls) i = if k <= i then ls[i - k]? else none
 | [], k, i => by simp [La, get]
 | l :: r, k, i => by
  simp only [La, get, CW]
  by_cases h : k = i
  ·subst h; simp
  ·simp only [h, decide_false, cond_false]
   rw [HG r (k + 1) i]
   by_cases h2 : k <= i
   ·rw [if_pos (by omega), if_pos h2, show i - k = (i - (k + 1)) + 1 by omega, List.getElem?_cons_succ]
   ·rw [if_neg (by omega), if_neg h2]
theorem ST {s : AS} (S : AS) (n sz len : Nat) (f : Nat -> Nat -> Cl) (ty : TypeId) (hn : get s.h n = some (.row sz len f ty)) (hl : Nat.blt 0 len = true) (hS : (⟨s.t, put s.h n (.rowx sz len (fun _ _ => default) ty (La 0 ((List.range len).map fun i => E7 f i 0 sz)))⟩ : AS) = S) : Cv N W0 X M0 s S := by
 subst hS
 have h0 : 0 < len := by
  have h1 : Nat.ble (0 + 1) len = true := hl
  exact Nat.le_of_ble_eq_true h1
 refine SV n _ _ hn fun M σ w x hb => ?_
 rcases hb with ⟨_, h⟩ | ⟨e0, c, e1, e2, e3, e4, g, e5⟩
 ·omega
 refine ⟨e0, c, e1, e2, e3, e4, g, fun i j hi hj => ⟨(e5 i j hi hj).1, fun hno => ?_⟩, fun i l hl => ?_⟩
 ·rw [HG] at hno
  simp [hi] at hno
 ·rw [HG, if_pos (Nat.zero_le _), Nat.sub_zero, List.getElem?_map] at hl
  by_cases hi : i < len
  ·rw [List.getElem?_range hi] at hl
   simp only [Option.map_some, Option.some.injEq] at hl
   subst hl
   refine ⟨hi, L2.of (by simp [C7]) fun j a b ha hb => ?_⟩
   have hj : j < sz := by have := (List.getElem?_eq_some_iff.1 ha).1; rwa [C7] at this
   rw [GX _ _ _ _ _ hj, Nat.zero_add] at ha
   injection ha with ha
   subst ha
   rw [List.getElem?_map, List.getElem?_range hj] at hb
   simp only [Option.map_some, Option.some.injEq] at hb
   subst hb
   exact Kf (e5 i j hi hj).2
  ·rw [List.getElem?_eq_none (by simp; omega)] at hl
   cases hl
theorem SU {s : AS} (S : AS) (n sz len : Nat) (f : Nat -> Nat -> Cl) (ty : TypeId) (ls : List (List Cl)) (hn : get s.h n = some (.rowx sz len f ty (La 0 ls))) (hlen : Nat.beq ls.length len = true) (hsz : ls.all (fun l => Nat.beq l.length sz && l.all Cl.dv) = true) (hS : (⟨s.t, put s.h n (.row sz len (A0 sz len ls.flatten) ty)⟩ : AS) = S) : Cv N W0 X M0 s S := by
 subst hS
 have hlen := Nat.eq_of_beq_eq_true hlen
 refine SV n _ _ hn fun M σ w x hb => ?_
 obtain ⟨e0, c, e1, e2, e3, e4, g, e5, e6⟩ := hb
 refine .inr ⟨e0, c, e1, e2, e3, e4, g, fun i j hi hj => ⟨(e5 i j hi hj).1, ?_⟩⟩
 have hil : i < ls.length := by omega
 have hmem := List.getElem_mem hil
 have hall := (List.all_eq_true.1 hsz) _ hmem
 simp only [Bool.and_eq_true] at hall
 have hli := Nat.eq_of_beq_eq_true hall.1
 obtain ⟨_, hL⟩ := e6 i ls[i] (by rw [HG, if_pos (Nat.zero_le _), Nat.sub_zero, List.getElem?_eq_getElem hil])
 have hflat : ∀ (q : List (List Cl)) (i j : Nat) (hi : i < q.length), (∀ l ∈ q, l.length = sz) -> j < sz -> q.flatten[i * sz + j]? = q[i][j]? := by
  intro q
  induction q with
  | nil => intro i j hi; simp at hi
  | cons l r ih =>
   intro i j hi hall hj
   have h1 := hall l (by simp)
   cases i with
   | zero => simp [List.getElem?_append, h1, hj]
   | succ i =>
    rw [List.flatten_cons, List.getElem?_append_right (by rw [h1, Nat.add_mul]; omega), h1, show (i + 1) * sz + j - sz = i * sz + j by rw [Nat.add_mul]; omega]
    simpa using ih i j (by simpa using hi) (fun l hl => hall l (by simp [hl])) hj
 have hjl : j < ls[i].length := by omega
 rw [Nw _ _ _ _ _ hi, List.getD_eq_getElem?_getD, hflat ls i j hil (fun l hl => by
  have h := (List.all_eq_true.1 hsz) l hl
  simp only [Bool.and_eq_true] at h
  exact Nat.eq_of_beq_eq_true h.1) hj, List.getElem?_eq_getElem hjl, Option.getD_some]
 obtain ⟨v, hv, hR⟩ := hL.get j _ (List.getElem?_eq_getElem hjl)
 rw [List.getElem?_map, List.getElem?_range hj] at hv
 simp only [Option.map_some, Option.some.injEq] at hv
 subst hv
 exact IZ ((List.all_eq_true.1 hall.2) _ (List.getElem_mem hjl)) hR
end
end
section
open Go.RowKit Go.MapKept
def Kr (is : List Nat) : Nat -> List Cl -> List Cl -> List Cl
 | k, x :: a, y :: b => (bif Bc is k then x else y) :: Kr is (k + 1) a b
 | _, _, _ => []
def OI (is : List Nat) (vs : Nat -> Value) : Nat -> List Cl -> List Cl
 | k, y :: b => (bif Bc is k then .val (vs k) else y) :: OI is vs (k + 1) b
 | _, [] => []
section
variable {P : Program} {M M' : Nat → Option Obj} {σ σ' : Nat → Loc} {w w' : World}
theorem PP (is : List Nat) (vs : Nat -> Value) : ∀ (k : Nat) (l l0 : List Cl) (c : List Value), l = Kr is k l l0 -> l.length = l0.length -> (∀ j, j < c.length -> vs (k + j) = c.getD j undef) -> (∀ x ∈ l0, x.dv = true \/ True) -> L2 (R M σ) l c -> L2 (R M σ) (OI is vs k l0) c
 | k, [], [], c, _, _, _, _, h => by cases h; exact .nil
 | k, [], _ :: _, c, _, hl, _, _, h => by simp at hl
 | k, _ :: _, [], c, _, hl, _, _, h => by simp at hl
 | k, x :: l, y :: l0, c, he, hl, hv, hd, h => by
  cases h with
  | cons h1 h2 =>
   rename_i v c
   simp only [Kr, List.cons.injEq] at he
   refine .cons ?_ (PP is vs (k + 1) l l0 c he.2 (by simpa using hl) (fun j hj => by
    have := hv (j + 1) (by simp; omega)
    rw [show k + 1 + j = k + (j + 1) by omega, this]; rfl) (fun x hx => .inr trivial) h2)
   cases hm : Bc is k with
   | true =>
    have := hv 0 (by simp)
    simp only [cond_true]
    exact ⟨by rw [show k = k + 0 from rfl, this]; rfl, by rw [show k = k + 0 from rfl, this]; exact Ke h1⟩
   | false =>
    rw [hm] at he
    simp only [cond_false] at he ⊢
    rw [<- he.1]; exact h1
theorem Mu (is : List Nat) (vs : Nat -> Value) (hM : ∀ b o, M b = some o -> M' b = some o) : ∀ (k : Nat) (l l1 : List Cl) (c c' : List Value), l.length = l1.length -> (∀ j, j < c.length -> vs (k + j) = c.getD j undef) -> L2 (R M σ) l c -> L2 (R M' σ) (OI is vs k l1) c' -> L2 (R M' σ) (Kr is k l l1) c'
 | k, [], [], c, c', _, _, _, h => by cases h; exact .nil
 | k, [], _ :: _, c, c', hl, _, _, h => by simp at hl
 | k, _ :: _, [], c, c', hl, _, _, h => by simp at hl
 | k, x :: l, y :: l1, c, c', hl, hv, h0, h => by
  cases h0 with
  | cons h1 h2 =>
   rename_i v c
   simp only [OI] at h
   cases h with
   | cons h3 h4 =>
    simp only [Kr]
    refine .cons ?_ (Mu is vs hM (k + 1) l l1 c _ (by simpa using hl) (fun j hj => by
     have := hv (j + 1) (by simp; omega)
     rw [show k + 1 + j = k + (j + 1) by omega, this]; rfl) h2 h4)
    cases hm : Bc is k with
    | true =>
     rw [hm] at h3
     have h5 := h3.1
     have h6 := hv 0 (by simp)
     rw [h5, show k = k + 0 from rfl, h6]
     exact C8 hM (fun _ _ => rfl) h1
    | false => rw [hm] at h3; exact h3
theorem Su {hh : Nat -> Option Blk} {f : FuncId} {K L n m : Nat} {xs : List Av} {args : List Value} {b d b0 d0 b1 d1 : Blk} {r : Tv} (hx : xs.all (Jw K L) = true) (hKL : Nat.beq K L = false) (hnm' : n ≠ m) (hs : Std M σ w hh) (hn : hh n = some b) (hm : hh m = some d) (hnil : (σ n).nil = false) (hnil2 : (σ m).nil = false) (hblk : ∀ σ', (∀ q, q ≠ K -> q ≠ L -> σ' q = σ q) -> Bz M σ' w (σ n) b0) (hblk2 : ∀ σ', Bz M σ' w (σ m) d0)
  (hargs : L2 (RA M σ) (xs.map (EV K n L m)) args) (h : Wr2 P f K L xs b0 d0 r b1 d1) : Calls P f args.toArray w (fun en w' => ∃ U, en = .returned U /\ ∃ M', Fz w w' M M' (fun b => only (σ n) b \/ only (σ m) b) /\ (∀ σ', RT M' σ' r U) /\ (∀ σ', Bz M' σ' w' (σ n) b1) /\ ∀ σ', Bz M' σ' w' (σ m) d1) := by
 have hne : K ≠ L := fun e => by rw [e, Nat.beq_refl] at hKL; cases hKL
 have hM : M (σ n).b = none := by
  rcases hs.loc n _ hn with h | h
  ·rw [hnil] at h; cases h
  ·exact h
 have hM2 : M (σ m).b = none := by
  rcases hs.loc m _ hm with h | h
  ·rw [hnil2] at h; cases h
  ·exact h
 have hbne : (σ n).b ≠ (σ m).b := by
  rcases hs.inj n m _ _ hn hm hnm' with h | h | h
  ·rw [hnil] at h; cases h
  ·rw [hnil2] at h; cases h
  ·exact h
 let σ2 : Nat -> Loc := upd (upd σ K (σ n)) L (σ m)
 have hL : σ2 L = σ m := BU _ _ _
 have hK : σ2 K = σ n := by
  show upd _ L _ K = _
  rw [CK _ _ hne]; exact BU _ _ _
 have hrest : ∀ q, q ≠ K -> q ≠ L -> σ2 q = σ q := fun q h1 h2 => by
  show upd _ L _ q = _
  rw [CK _ _ h2, CK _ _ h1]
 have hargs2 : L2 (RA M σ2) xs args := by
  refine L2.of (by have := hargs.length; simpa using this) fun i x V hxi hV => ?_
  obtain ⟨V', hV', hR⟩ := hargs.get i (EV K n L m x) (by rw [List.getElem?_map, hxi]; rfl)
  rw [hV] at hV'; injection hV' with hV'; subst hV'
  have hok := (List.all_eq_true.1 hx) x (List.mem_of_getElem? hxi)
  unfold Jw at hok
  split at hok
  ·rename_i q off
   by_cases hq : q = K
   ·subst hq
    simp only [EV, Nat.beq_refl, cond_true] at hR
    have hR' : V = .pointer (some ⟨(σ n).b, off, none⟩) := hR
    show V = .pointer (some ⟨(σ2 q).b, off, none⟩)
    rw [hK]; exact hR'
   ·have hqb : Nat.beq q K = false := by
     cases hb : Nat.beq q K with
     | false => rfl
     | true => exact absurd (Nat.eq_of_beq_eq_true hb) hq
    rw [hqb] at hok
    have := Nat.eq_of_beq_eq_true hok
    subst this
    simp only [EV, hqb, Nat.beq_refl, cond_true, cond_false] at hR
    have hR' : V = .pointer (some ⟨(σ m).b, off, none⟩) := hR
    show V = .pointer (some ⟨(σ2 q).b, off, none⟩)
    rw [hL]; exact hR'
  ·rename_i hnp
   have : EV K n L m x = x := by
    unfold EV
    split
    ·rename_i q off; exact (hnp q off rfl).elim
    ·rfl
   rw [this] at hR
   exact Fy (σ' := σ2) (r := .av x) hok hR
 refine (h M σ2 w args hs.imm (by rw [hK]; exact ⟨hblk σ2 hrest, hnil, hM⟩) (by rw [hL]; exact ⟨hblk2 σ2, hnil2, hM2⟩) (by rw [hK, hL]; exact hbne) hargs2).mono ?_
 rintro en w' ⟨U, hU, M', hk, hR, hb, hb2⟩
 rw [hK, hL] at hk
 refine ⟨U, hU, M', hk, hR, fun σ' => ?_, fun σ' => ?_⟩
 ·have := hb σ'; rw [hK] at this; exact this
 ·have := hb2 σ'; rw [hL] at this; exact this
def wqV (n m : Nat) (is : List Nat) (l0 : List Cl) (ty : TypeId) (d0 : Blk) (r : Tv) (d1 : Blk) : Ef := .wq m n fun y x => match x with
 | .cells l ty' => bif Nat.beq l.length l0.length then some ([Blk.cells l ty' = .cells (Kr is 0 l l0) ty, y = d0], r, d1) else none
 | _ => none
theorem Ge {f : FuncId} {K L n m : Nat} {xs : List Av} {is : List Nat} {l0 : List Cl} {ty : TypeId} {d0 d1 : Blk} {r : Tv} {B0 : (Nat -> Value) -> List Cl} (h1 : ∀ args w, (callFunc f args).run P w = .ok (.enter f args) w) (hx : xs.all (Jw K L) = true) (hKL : Nat.beq K L = false) (hnm : Nat.beq n m = false) (hd2 : Hj d0 = true) (hdl : ∀ vs, (OI is vs 0 l0).all Cl.dv = true)
  (e0 : ∀ vs, OI is vs 0 l0 = B0 vs) (h : ∀ vs, Wr2 P f K L xs (.cells (B0 vs) ty) d0 r (.cells (B0 vs) ty) d1) : A1 P f (xs.map (EV K n L m)) (wqV n m is l0 ty d0 r d1) := by
 have hnm' : n ≠ m := fun e => by rw [e, Nat.beq_refl] at hnm; cases hnm
 refine .inl ⟨h1, fun M σ w hh args cs' g hs hargs hres hc => ?_⟩
 simp only [wqV, res] at hres
 cases hm : hh m with
 | none => rw [hm] at hres; cases hres
 | some d =>
  cases hn : hh n with
  | none => rw [hn, hm] at hres; cases hres
  | some b =>
   rw [hn, hm] at hres
   cases b with
   | row => simp at hres
   | omap => simp at hres
   | rowx => simp at hres
   | cells l ty' =>
    simp only at hres
    cases hlen : Nat.beq l.length l0.length with
    | false => rw [hlen] at hres; simp at hres
    | true =>
     have hmn : Nat.beq m n = false := by
      cases hb : Nat.beq m n with
      | false => rfl
      | true => exact absurd (Nat.eq_of_beq_eq_true hb).symm hnm'
     rw [hlen, hmn] at hres
     simp only [cond_true, Option.some.injEq, Prod.mk.injEq] at hres
     obtain ⟨rfl, rfl⟩ := hres
     have hlen0 := Nat.eq_of_beq_eq_true hlen
     have hbd := hc.head
     have hdd := hc.tail.head
     subst hdd
     injection hbd with hl hty
     subst hty
     obtain ⟨hnil, c, hheap, hL⟩ := hs.blk n _ hn
     have hblk2 := hs.blk m _ hm
     have hnil2 : (σ m).nil = false := by
      cases d with
      | row => cases hd2
      | omap => cases hd2
      | rowx => cases hd2
      | cells l ty => exact hblk2.1
     let vs : Nat -> Value := fun k => c.getD k undef
     have hvs : ∀ j, j < c.length -> vs (0 + j) = c.getD j undef := fun j _ => by simp only [vs, Nat.zero_add]
     have hin : L2 (R M σ) (OI is vs 0 l0) c := PP is vs 0 l l0 c hl hlen0 hvs (fun _ _ => .inr trivial) hL
     have hcall := Su (b0 := Blk.cells (B0 vs) ty') (b1 := Blk.cells (B0 vs) ty') hx hKL hnm' hs hn hm hnil hnil2 (fun σ' _ => ⟨hnil, c, hheap, by rw [<- e0 vs]; exact hin.mono fun a ha v hv => (HY ((List.all_eq_true.1 (hdl vs)) a ha)).2 ((HY ((List.all_eq_true.1 (hdl vs)) a ha)).1 hv)⟩) (fun σ' => Eo hd2 hblk2) hargs (h vs)
     refine hcall.mono ?_
     rintro en w' ⟨U, hU, M', hk, hR, hb, hb2⟩
     refine ⟨U, hU, fun dst _ => ⟨M', σ, LL hk fun b hb => hb.symm, rfl, hR σ, hb2 σ, ?_⟩⟩
     obtain ⟨k1, c', k2, k3⟩ := hb σ
     refine ⟨k1, c', k2, ?_⟩
     rw [<- e0 vs] at k3
     have k4 := Mu is vs hk.sub 0 l l0 c c' hlen0 hvs hL k3
     rw [<- hl] at k4
     exact k4
end
end
section
open Go.RowKit Go.MapKept
def T5 (P : Program) (V : Env P) (N : Nat) (o : Oper) (G : Prop) (s : AS) : Option (List Prop × AS) := match eff P V o.dst o.op (evG (get s.t) (FR o.op)) with
 | some e => match res (get s.h) e with
  | some (cs, g) => bif GU N s o.dst g then some (Hc (get s.t) G (FR o.op) ++ cs, Nk s o.dst g) else none
  | none => none
 | none => none
section
variable {P : Program} {rd : Option Nat} {N : Nat} {W0 : World} {X : Nat → Option Loc} {M0 : Nat → Option Obj} {s : AS}
theorem KZ {E : TypeId -> Option (List Kd)} (hE : HZ P ⟨fun _ => none, E, fun _ => false, fun _ => none⟩) {ops : Array Oper} {o : Oper} {l : List Oper} {K : AS -> Prop} (j : Nat) (want : Bool) (G : Prop) (qs : List (Nat × (Bool × Nat))) (tbl : List (Nat × FuncId × List Av × Ef)) (cs : List Prop) (S : AS) (hg : o.guard = some (j, want)) (hG : Fv (get s.t) ops j want = some G) (hGp : G) (htbl : GM P tbl)
  (hst : T5 P ⟨Gr tbl, E, Bc [], get qs⟩ N o G s = some (cs, S)) (hc : CA cs) (h : AWL P rd N W0 X M0 ops l K S) : AWL P rd N W0 X M0 ops (o :: l) K s := by
 have hV := htbl.env (O := Bc []) (q := get qs) hE
 intro M σ a w hs Q' hQ'
 refine wpListIn_step fun K0 hK' => ?_
 rw [if_pos ((FC hs.tmps hs.room hg hG).2 hGp)]
 unfold T5 at hst
 split at hst
 ·rename_i e he
  split at hst
  ·rename_i cs' g hr
   cases hok : GU N s o.dst g with
   | false => rw [hok] at hst; cases hst
   | true =>
    rw [hok] at hst
    simp only [cond_true, Option.some.injEq, Prod.mk.injEq] at hst
    obtain ⟨rfl, rfl⟩ := hst
    obtain ⟨hc1, hc2⟩ := hc.append
    have hgo0 := IP hok (fun n v b hg => by subst hg; exact OL hr) (fun l v hg => by subst hg; exact Lr hr) (fun n q v b bq hg => by subst hg; exact OM hr) (fun n b v hg => by subst hg; exact Ls hr)
    refine (O6 hV (fun x v hv => SM hGp hc1 hs.tmps hv) he hs.std hr hc2 (Pt hgo0)).wp ?_ (fun c hc => by rw [hc] at he; cases he)
    rintro U w' ⟨M', σ', ho⟩
    have hsim := Jq hs ho hgo0
    rw [<- (FZ s o.dst g).1, <- (FZ s o.dst g).2] at hsim
    exact hK' _ _ (h M' σ' _ w' hsim Q' hQ')
  ·cases hst
 ·cases hst
theorem Ka {ops : Array Oper} {o : Oper} {l : List Oper} {K : AS -> Prop} (j : Nat) (want : Bool) (G : Prop) (S : AS) (hg : o.guard = some (j, want)) (hG : Fv (get s.t) ops j want = some G) (hGn : ¬ G) (hok : GU N s o.dst (.val (.av (.one (.val (.bool false))))) = true) (hS : JU s o.dst (.grd G (.one (.val (.bool false)))) = S)
  (h : AWL P rd N W0 X M0 ops l K S) : AWL P rd N W0 X M0 ops (o :: l) K s := by
 subst hS
 intro M σ a w hs Q' hQ'
 refine wpListIn_step fun K0 hK' => ?_
 rw [if_neg (fun h => hGn ((FC hs.tmps hs.room hg hG).1 h))]
 refine ⟨fun _ _ => trivial, ?_⟩
 have hgo0 := IP hok (fun n v b hg => by cases hg) (fun l v hg => by cases hg) (fun n q v b bq hg => by cases hg) (fun n b v hg => by cases hg)
 have hsim := Jq hs (g := .val (.grd G (.one (.val (.bool false))))) (V := undef) (w' := w) (M' := M) (σ' := σ) ⟨Fz.refl hs.imm _, rfl, fun h => absurd h hGn, fun _ => rfl⟩ ⟨hgo0.1, trivial⟩
 rw [<- (FZ s o.dst _).1, <- (FZ s o.dst _).2] at hsim
 exact hK' _ _ (h M σ _ w hsim Q' hQ')
end
end
section
open Go.RowKit
def BkN : Blk -> Prop
 | .cells l _ => ∀ c ∈ l, NM c
 | .row _ _ f _ => ∀ i j, NM (f i j)
 | .omap _ _ _ _ vf => ∀ i j, NM (vf i j)
 | .rowx .. => False
theorem PJ {M M' : Nat -> Option Obj} (h : ∀ b c t f, M b = some (.cells c t f) -> M' b = some (.cells c t f)) {σ : Nat -> Loc} {w : World} {x : Loc} {b : Blk} (hr : Bz M σ w x b) (hn : BkN b) : Bz M' σ w x b := by
 cases b with
 | cells l ty =>
  obtain ⟨h0, c, hc, hl⟩ := hr
  exact ⟨h0, c, hc, hl.mono fun a ha b hb => P5 h hb (hn a ha)⟩
 | row sz len f ty =>
  rcases hr with hr | ⟨h0, c, hc, h1, h2, h3, g, hg⟩
  ·exact .inl hr
  ·exact .inr ⟨h0, c, hc, h1, h2, h3, g, fun i j hi hj => ⟨(hg i j hi hj).1, Mf h (hg i j hi hj).2 (hn i j)⟩⟩
 | omap agg nv len kf vf =>
  obtain ⟨h0, es, ck, g, hc, h1, h2, h3⟩ := hr
  exact ⟨h0, es, ck, g, hc, h1, h2, fun i j hi hj => Mf h (h3 i j hi hj) (hn i j)⟩
 | rowx => exact hn.elim
def Blk.isP : Blk -> Bool
 | .cells .. => true
 | .omap .. => true
 | _ => false
def Blk.isR : Blk -> Bool
 | .row .. => true
 | _ => false
def slV : Value -> Bool
 | .slice (some _) _ _ => true
 | _ => false
def MA (o : Obj) (k : Nat) : Option Value := match o with
 | .cells c _ _ => c[k]?
 | _ => none
def Gj (bq off : Nat) (W : World) (b : Nat) : Prop := ∃ o len cap, W.heap[bq]? = some o /\ MA o off = some (.slice (some ⟨b, 0, none⟩) len cap)
def KL (q off r : Nat) (h : List (Nat × Blk)) : Bool := match get h q with
 | some (.cells l _) => (match get h r with
  | some (.row ..) => (match l[off]? with
   | some (.own r' _ _) => Nat.beq r' r
   | _ => false)
  | none => (match l[off]? with
   | none => true
   | some (.val v) => !slV v
   | some (.ptr ..) => true
   | _ => false)
  | _ => false)
 | _ => false
def PXr (pids : List Nat) (r : Nat) (G : Prop) (X : Nat -> Option Loc) : Prop := ∀ m x, X m = some x -> (∃ q, Bc pids q = true /\ ∃ y, X q = some y /\ y.b = x.b) \/ (m = r /\ G /\ x.nil = false)
section
variable {N : Nat} {W0 W W' : World} {X XA : Nat → Option Loc} {M0 M M' M3 : Nat → Option Obj} {σ σ' σ3 : Nat → Loc} {T T' : Nat → Option Tv} {H H' : Nat → Option Blk} {a a' : Act} {h : List (Nat × Blk)} {q off r : Nat}
theorem MO (hs : Sim N W0 X M0 M σ T (get h) a W) (hb : KL q off r h = true) {b : Nat} (hh : Gj (σ q).b off W b) : (∃ x, get h r = some x) /\ (σ r).nil = false /\ (σ r).b = b := by
 unfold KL at hb
 cases hq : get h q with
 | none => rw [hq] at hb; cases hb
 | some bq =>
  rw [hq] at hb
  cases bq with
  | cells l ty =>
   obtain ⟨hn, c, hc, hl⟩ := hs.blk q _ hq
   obtain ⟨o, len, cap, ho, hcell⟩ := hh
   rw [hc] at ho; injection ho with ho; subst ho
   have hcl : c[off]? = some (.slice (some ⟨b, 0, none⟩) len cap) := by simpa [MA] using hcell
   have hoff : off < l.length := by rw [hl.length]; exact (List.getElem?_eq_some_iff.1 hcl).1
   have hcl2 : l[off]? = some l[off] := List.getElem?_eq_getElem hoff
   obtain ⟨v, hv, hR⟩ := hl.get off _ hcl2
   rw [hcl] at hv; injection hv with hv; subst hv
   generalize l[off] = cl at hcl2 hR
   cases hr : get h r with
   | none =>
    simp only [hr, hcl2] at hb
    exfalso
    cases cl with
    | val u =>
     obtain ⟨h1, _⟩ := hR
     subst h1
     simp [slV] at hb
    | ptr n o => cases hR
    | _ => cases hb
   | some br =>
    simp only [hr, hcl2] at hb
    cases br with
    | row sz len' f ty' =>
     cases cl with
     | own r' sz' len'' =>
      have := Nat.eq_of_beq_eq_true hb
      subst this
      unfold R at hR
      split at hR
      ·cases hR.2
      ·rename_i hnil
       injection hR with h1
       injection h1 with h1
       injection h1 with h1
       exact ⟨⟨_, rfl⟩, by simpa using hnil, h1.symm⟩
     | _ => cases hb
    | _ => cases hb
  | _ => cases hb
theorem Nj (hs : Sim N W0 X M0 M σ T (get h) a W) (hb : KL q off r h = true) {x : Blk} (hr : get h r = some x) (hn : (σ r).nil = false) : Gj (σ q).b off W (σ r).b := by
 unfold KL at hb
 cases hq : get h q with
 | none => rw [hq] at hb; cases hb
 | some bq =>
  rw [hq] at hb
  cases bq with
  | cells l ty =>
   obtain ⟨_, c, hc, hl⟩ := hs.blk q _ hq
   simp only [hr] at hb
   cases x with
   | row sz len' f ty' =>
    cases hcl : l[off]? with
    | none => simp only [hcl] at hb; cases hb
    | some cl =>
     simp only [hcl] at hb
     cases cl with
     | own r' sz' len'' =>
      have := Nat.eq_of_beq_eq_true hb
      subst this
      obtain ⟨v, hv, hR⟩ := hl.get off _ hcl
      unfold R at hR
      rw [hn] at hR
      exact ⟨_, len'', (σ r').cap, hc, by simp only [MA, List.getElem?_toArray]; rw [hv]; exact congrArg some hR⟩
     | _ => cases hb
   | _ => cases hb
  | _ => cases hb
theorem Q9 {Xr X2 : Nat -> Option Loc} (hs : Sim N W0 XA M0 M' σ' T H a W) (hr : Sim N W Xr M' M3 σ3 T' H' a' W') (hin : ∀ b, inX Xr b -> inX XA b \/ W0.heap.size <= b)
  {H2 : Nat -> Option Blk} (hH2 : ∀ n b, H2 n = some b -> H' n = some b) (hH : ∀ n b, H2 n = some b -> BkN b) {a2 : Act} {T2 : Nat -> Option Tv} (hsz : a2.tmps.size = N) (hT2 : ∀ i v, T2 i = some v -> RT (HX M' M3) σ3 v (a2.tmps.getD i undef)) (hX2 : ∀ n x, X2 n = some x -> N <= n /\ σ3 n = x) (hX3 : ∀ b, inX XA b ↔ inX X2 b) (hd : G8 X2 M0 (HX M' M3) a2.defers) :
  Sim N W0 X2 M0 (HX M' M3) σ3 T2 H2 a2 W' := by
 have hsub : ∀ b o, M' b = some o -> M3 b = some o := hr.sub
 refine ⟨hr.os.trans hs.os, hr.tape.trans hs.tape, hr.output.trans hs.output, Nat.le_trans hs.size hr.size, fun b hb hx => ?_, fun b o h => Lc (hs.sub b o h), fun b o h h' => ?_, hX2, hd, hsz, hT2, fun b o h => hr.imm b o (GF hsub h), fun n b h => PJ (KX hsub) (hr.blk n b (hH2 n b h)) (hH n b h), fun n b h => ?_, fun n m b c hb hc hne => hr.inj n m b c (hH2 n b hb) (hH2 m c hc) hne⟩
 ·have h1 : ¬ inX XA b := fun h => hx ((hX3 b).1 h)
  refine (hr.old b (Nat.lt_of_lt_of_le hb hs.size) fun h => ?_).trans (hs.old b hb h1)
  rcases hin b h with h | h
  ·exact h1 h
  ·omega
 ·cases h1 : M' b with
  | some o' => exact hs.new b o' h1 h'
  | none => exact Nat.le_trans hs.size (hr.new b o (GF hsub h) h1)
 ·refine (hr.loc n b (hH2 n b h)).imp id fun h => ⟨?_, ?_⟩
  ·cases hc : HX M' M3 (σ3 n).b with
   | none => rfl
   | some o => have := GF hsub hc; rw [h.1] at this; cases this
  ·rcases h.2 with h | h
   ·exact .inl (Nat.le_trans hs.size h)
   ·rcases hin _ h with h | h
    ·exact .inr ((hX3 _).1 h)
    ·exact .inl h
theorem OE (hs : Sim N W0 X M0 M σ T H a W) {row : Option Nat} (hH : ∀ n b, H n = some b -> b.isM = true -> ∀ r, row = some r -> (σ n).b < r) (hg : W.grownBy W' row) (hr : ∀ r, row = some r -> W0.heap.size <= r /\ (∃ o : Obj, W.heap[r]? = some o /\ o.isCells = false) /\ M r = none) : Sim N W0 X M0 M σ T H a W' := by
 have hsame : ∀ b (o : Obj), W.heap[b]? = some o -> (o.isCells = true \/ M b = some o \/ b < W0.heap.size) -> W'.heap[b]? = some o := fun b o hb hc => by
  refine (hg.block b (Array.getElem?_eq_some_iff.1 hb).1 fun e => ?_).trans hb
  obtain ⟨h1, ⟨o', h2, h3⟩, h4⟩ := hr b e.symm
  rw [hb] at h2; injection h2 with h2; subst h2
  rcases hc with h | h | h
  ·rw [h3] at h; cases h
  ·rw [h4] at h; cases h
  ·omega
 refine ⟨hg.os.trans hs.os, hg.tape.trans hs.tape, hg.output.trans hs.output, Nat.le_trans hs.size hg.size, fun b hb hx => ?_, hs.sub, hs.new, hs.pin, hs.defers, hs.room, hs.tmps, fun b o h => hsame b o (hs.imm b o h) (.inr (.inl h)), fun n b h => ?_, hs.loc, hs.inj⟩
 ·have h1 := hs.old b hb hx
  have h2 : W0.heap[b]? = some W0.heap[b] := Array.getElem?_eq_getElem hb
  rw [h2] at h1 ⊢
  exact hsame b _ h1 (.inr (.inr hb))
 ·refine (hs.blk n b h).mono (fun _ _ h => h) (fun _ _ => rfl) fun hn => ?_
  have hb := hs.blk n b h
  cases b with
  | cells l ty => obtain ⟨_, c, hc, _⟩ := hb; rw [hc]; exact hsame _ _ hc (.inl rfl)
  | row sz len f ty =>
   rcases hb with ⟨h0, _⟩ | ⟨_, c, hc, _⟩
   ·rw [hn] at h0; cases h0
   ·rw [hc]; exact hsame _ _ hc (.inl rfl)
  | omap =>
   obtain ⟨_, es, ck, g, hc, _⟩ := hb
   exact hg.block _ (Array.getElem?_eq_some_iff.1 hc).1 fun e => by have := hH n _ h rfl _ e.symm; omega
  | rowx sz len f ty hh => obtain ⟨_, c, hc, _⟩ := hb; rw [hc]; exact hsame _ _ hc (.inl rfl)
theorem K9 {fid : Nat} {XB : Nat -> Option Loc} {σ2 : Nat -> Loc} (hs : Sim N W0 XA M0 M' σ' T H a W) {a2 : Act} (hd : a2.defers = []) (hr : a2.tmps.size = N) (hpin : ∀ n x, XB n = some x -> N <= n /\ σ2 n = x) (hσ : ∀ n, n ≠ fid -> σ2 n = σ' n)
  (hT : ∀ i v, T' i = some v -> RT M' σ' v (a2.tmps.getD i undef) /\ v.no fid = true) (hHf : ∀ n b, H n = some b -> n ≠ fid /\ b.no fid = true /\ ((σ' n).nil = true \/ inX XB (σ' n).b)) : Sim N W XB M' M' σ2 T' H a2 W := by
 refine ⟨rfl, rfl, rfl, Nat.le_refl _, fun _ _ _ => rfl, fun _ _ h => h, fun b o h h' => by (rw [h] at h'; cases h'), hpin, ⟨by rw [hd]; trivial, fun _ => hd⟩, hr, fun i v hv => Dc (fun _ _ h => h) (fun d hd => hσ d fun e => ?_) (hT i v hv).1, hs.imm, fun n b hb => ?_, fun n b hb => ?_, fun n m b c hb hc hne => ?_⟩
 ·subst e; rw [(hT i v hv).2] at hd; cases hd
 ·obtain ⟨h1, h2, h3⟩ := hHf n b hb
  rw [hσ n h1]
  exact (hs.blk n b hb).mono (fun _ _ h => h) (fun d hd => hσ d fun e => by subst e; rw [h2] at hd; cases hd) (fun _ => rfl)
 ·obtain ⟨h1, h2, h3⟩ := hHf n b hb
  rw [hσ n h1]
  rcases hs.loc n b hb with h4 | h4
  ·exact .inl h4
  ·exact h3.imp id fun h => ⟨h4.1, .inr h⟩
 ·rw [hσ n (hHf n b hb).1, hσ m (hHf m c hc).1]
  exact hs.inj n m b c hb hc hne
end
end
section
open Go.RowKit
def PT (N : Nat) (pids : List Nat) (fid q r : Nat) (t0 : List (Nat × Tv)) (ps : Array Tmp) : Bool :=
 t0.all (fun p => pvT pids p.2) && (pids.all (fun m => Nat.ble N m) && (!Bc pids fid && (!Bc pids r && (!Nat.beq r fid && (Nat.ble N fid && (Nat.ble N r && (Bc pids q && ps.toList.all (fun p => Nat.blt p N))))))))
def famB (pids : List Nat) (fid q off r : Nat) (h : List (Nat × Blk)) : Bool :=
 h.all (fun p => (Bc pids p.1 && p.2.isP || Nat.beq p.1 r && p.2.isR) && p.2.no fid) && (pids.all (fun m => (get h m).isSome) && KL q off r h)
def HsN (h : List (Nat × Blk)) : Prop := ∀ n b, get h n = some b -> BkN b
theorem Ny {l : List Cl} {ty : TypeId} (h : ∀ c ∈ l, NM c) : BkN (.cells l ty) := h
theorem bkN_r {α : Type} [Inhabited α] {sz len : Nat} {c : α -> List Cl} {xs : List α} {ty : TypeId} (h : ∀ x, ∀ y ∈ c x, NM y) : BkN (.row sz len (AY c xs) ty) := fun i j => by
 unfold AY
 rw [List.getD_eq_getElem?_getD]
 cases hj : (c (xs.getD i default))[j]? with
 | none => exact .val _
 | some y => exact h _ y (List.mem_of_getElem? hj)
theorem UG {κ α : Type} [Inhabited κ] [Inhabited α] {agg : Bool} {nv len : Nat} {kf : Nat -> Value} {c : α -> List Cl} {xs : List (κ × α)} (h : ∀ x, ∀ y ∈ c x, NM y) : BkN (.omap agg nv len kf (vfG c xs)) := fun i j => by
 unfold vfG
 rw [List.getD_eq_getElem?_getD]
 cases hj : (c (xs.getD i default).2)[j]? with
 | none => exact .val _
 | some y => exact h _ y (List.mem_of_getElem? hj)
def Si (pids : List Nat) (n r : Nat) (s : AS) : Bool := !Nat.beq r n && pids.all fun q => !Nat.beq q n && match get s.h q with | some (.cells ..) => true | some (.omap ..) => true | _ => false
section
variable {P : Program} {N : Nat} {W0 : World} {X : Nat → Option Loc} {M0 : Nat → Option Obj} {s : AS}
theorem KW (S : AS) (n : Nat) (l : List Cl) (ty : TypeId) (pids : List Nat) (r : Nat) {G : Prop} (hX : PXr pids r G X) (hK : Si pids n r s = true) (hG : G -> ∃ b, get s.h r = some b) (hn : get s.h n = some (.cells l ty)) (hdv : l.all Cl.dv = true) (hS : fxS n l s = S) : Cv N W0 X M0 s S := by
 subst hS
 intro M σ a w hs
 simp only [Si, Bool.and_eq_true, Bool.not_eq_true'] at hK
 obtain ⟨hrn, hK⟩ := hK
 obtain ⟨M', h1⟩ := PO n l ty (fun hnil => by
  rintro ⟨m, x, h1, h2⟩
  have key : ∀ q y bk, q ≠ n -> X q = some y -> y.b = x.b -> (σ q).nil = false -> get s.h q = some bk -> False := fun q y bk hqn hy hyx h4 hb => by
   have h5 := (hs.pin q y hy).2
   rcases hs.inj q n _ _ hb hn hqn with h6 | h6 | h6
   ·rw [h4] at h6; cases h6
   ·rw [hnil] at h6; cases h6
   ·exact h6 (by rw [h5, hyx, h2])
  rcases hX m x h1 with ⟨q, hq, y, hy, hyx⟩ | ⟨rfl, hg, hxn⟩
  ·have h3 := List.all_eq_true.1 hK q (Pi hq)
   simp only [Bool.and_eq_true, Bool.not_eq_true'] at h3
   have hqn : q ≠ n := fun e => by have := h3.1; rw [e, Nat.beq_refl] at this; cases this
   cases hb : get s.h q with
   | none => rw [hb] at h3; cases h3.2
   | some bk =>
    rw [hb] at h3
    refine key q y bk hqn hy hyx ?_ hb
    have h4 := hs.blk q _ hb
    cases bk with
    | row => cases h3.2
    | rowx => cases h3.2
    | omap => exact h4.1
    | cells lq tq => exact h4.1
  ·obtain ⟨bk, hb⟩ := hG hg
   refine key m x bk (fun e => by rw [e, Nat.beq_refl] at hrn; cases hrn) h1 rfl ?_ hb
   rw [(hs.pin m x h1).2]; exact hxn) hn hdv hs
 exact ⟨M', σ, h1⟩
end
end
end Go.Proofs.Ytdbampcfmjbgmaa
