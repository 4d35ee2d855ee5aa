/-
  No statement is proved in this text. It shows how a run of operations in their order takes a state to another one.
-/
import Derived.Test.YtgmhnkoifdpemaaS10
namespace Go.Proofs.Ytgmhnkoifdpemaa
open Go.RowKit
set_option linter.unusedSimpArgs false
set_option linter.unusedVariables false

/-- What a guard asks. -/
def guardP (t : Nat → Option Tv) (ops : Array Oper) (j : Nat) (want : Bool) : Option Prop := match ops[j]? with
  | some o => match o.dst with
    | some d => match t d with
      | some (.av (.one (.val (.bool b)))) => some (b = want)
      | some (.grd g (.one (.val (.bool b)))) => some (g ∧ b = want)
      | _ => none
    | none => none
  | none => none
/-- Operands below a guard. -/
def tmpsOf : List Operand → List Nat
  | [] => []
  | .tmp i :: r => i :: tmpsOf r
  | _ :: r => tmpsOf r
def strip : Tv → Tv
  | .grd _ x => .av x
  | v => v
def evG (t : Nat → Option Tv) (l : List Nat) : Operand → Option Tv
  | .tmp i => bif l.any (Nat.beq i) then (t i).map strip else t i
  | x => evT t x
def needG (t : Nat → Option Tv) (G : Prop) : List Nat → List Prop
  | [] => []
  | i :: r => match t i with
    | some (.grd g _) => (G → g) :: needG t G r
    | _ => needG t G r
/-- The slots whose values are taken out of their guard. -/
def stripL : Op → List Nat
  | .pick c _ _ => tmpsOf [c]
  | op => tmpsOf op.operands.toList
def step1 (P : Program) (V : Env P) (N : Nat) (ops : Array Oper) (o : Oper) (s : AS) : Option (List Prop × AS) := match o.guard with
  | none => match eff P V o.dst o.op (evT (get s.t)) with
    | some e => match res (get s.h) e with
      | some (cs, g) => bif goOk N s o.dst g then some (cs, goOn s o.dst g) else none
      | none => none
    | none => none
  | some (j, want) => match guardP (get s.t) ops j want with
    | some G => match eff P V o.dst o.op (evG (get s.t) (stripL o.op)) with
      | some e => match res (get s.h) e with
        | some (cs, .val (.av v)) => bif goOk N s o.dst (.val (.av v)) then some (needG (get s.t) G (stripL o.op) ++ cs.map (fun p => G → p), putT s o.dst (.grd G v)) else none
        | _ => none
      | none => bif goOk N s o.dst (.val (.av (.one (.val (.bool false))))) then some ([¬ G], putT s o.dst (.grd G (.one (.val (.bool false))))) else none
    | none => none
def runL (P : Program) (V : Env P) (N : Nat) (ops : Array Oper) : List Oper → AS → Option (List Prop × AS)
  | [], s => some ([], s)
  | o :: l, s => match step1 P V N ops o s with
    | some (cs, s1) => match runL P V N ops l s1 with
      | some (ds, s2) => some (cs ++ ds, s2)
      | none => none
    | none => none

section
variable {P : Program} {V : Env P} {N : Nat} {ops : Array Oper} {W0 : World} {X : Nat → Option Loc} {M0 M : Nat → Option Obj} {σ : Nat → Loc} {w : World} {a : Act}

theorem geth_mem {h : Nat → Option Blk} : ∀ {ns : List Nat} {bs : List Blk}, geth h ns = some bs → ∀ n ∈ ns, (h n).isSome
  | [], _, _, n, hn => by cases hn
  | k :: r, bs, hg, n, hn => by
    simp only [geth] at hg
    split at hg
    · rename_i b0 bs0 h1 h2
      rcases List.mem_cons.1 hn with rfl | hn
      · rw [h1]; rfl
      · exact geth_mem h2 n hn
    · cases hg
theorem res_wr {h : Nat → Option Blk} {e : Ef} {cs : List Prop} {n : Nat} {v : Tv} {b : Blk} (hr : res h e = some (cs, .wr n v b)) : (h n).isSome := by
  cases e <;> simp only [res] at hr
  case wr =>
    split at hr
    · rename_i b0 bs h1 h2
      split at hr
      · simp only [Option.some.injEq, Prod.mk.injEq, Eg.wr.injEq] at hr
        obtain ⟨_, rfl, _, _⟩ := hr
        rw [h1]; rfl
      · cases hr
    · cases hr
  all_goals ((repeat' split at hr) <;> simp at hr)
theorem res_wrs {h : Nat → Option Blk} {e : Ef} {cs : List Prop} {l : List (Nat × Blk)} {v : Tv} (hr : res h e = some (cs, .wrs l v)) : ∀ n b, get l n = some b → (h n).isSome := by
  cases e <;> simp only [res] at hr
  case wrs =>
    split at hr
    · rename_i b0 bs h1 h2
      split at hr
      · rename_i cs1 v1 b1 _
        cases hl : Nat.beq _ b1.length with
        | false => rw [hl] at hr; cases hr
        | true =>
          rw [hl] at hr
          simp only [Option.some.injEq, Prod.mk.injEq, Eg.wrs.injEq] at hr
          obtain ⟨_, rfl, _⟩ := hr
          intro n b hg
          exact geth_mem h1 n (List.of_mem_zip (get_mem hg)).1
      · cases hr
    · cases hr
  all_goals ((repeat' split at hr) <;> simp at hr)
theorem res_app {h : Nat → Option Blk} {e : Ef} {cs : List Prop} {n : Nat} {v : Nat → Tv} {b : Blk} (hr : res h e = some (cs, .app n b v)) : (h n).isSome := by
  cases e <;> simp only [res] at hr
  case app =>
    split at hr
    · rename_i b0 h1
      split at hr
      · simp only [Option.some.injEq, Prod.mk.injEq, Eg.app.injEq] at hr
        obtain ⟨_, rfl, _, _⟩ := hr
        rw [h1]; rfl
      · cases hr
    · cases hr
  all_goals ((repeat' split at hr) <;> simp at hr)
theorem gnew_of {T : Nat → Option Tv} {H : Nat → Option Blk} {dst : Option Nat} {g : Eg} (h : GoOk N T H dst g) : gnew dst g := by
  cases g with
  | val => trivial
  | wr => trivial
  | wrs => trivial
  | new b v => obtain ⟨_, d, hd, _, hn⟩ := h; exact ⟨d, hd, hn⟩
  | app n b v => obtain ⟨_, d, hd, _⟩ := h; exact ⟨d, hd⟩

theorem wanted_guard {t : Nat → Option Tv} (ht : ∀ i v, t i = some v → RT M σ v (a.tmps.getD i undef)) (hroom : a.tmps.size = N) {o : Oper} {j : Nat} {want : Bool} {G : Prop} (hg : o.guard = some (j, want)) (hG : guardP t ops j want = some G) : Region.wanted o (yielded ops a.tmps) = true ↔ G := by
  unfold guardP at hG
  split at hG
  · rename_i oj hj
    split at hG
    · rename_i d hd
      have hy : yielded ops a.tmps j = match a.tmps[d]? with | some (.bool b) => some b | _ => none := by
        simp only [yielded, hj, Option.bind_some, hd]
        rfl
      unfold Region.wanted
      rw [hg]
      simp only [hy]
      split at hG
      · rename_i b hb
        injection hG with hG
        subst hG
        have hv : a.tmps.getD d undef = .bool b := (ht d _ hb).1
        have : a.tmps[d]? = some (.bool b) := by
          rw [Array.getD_eq_getD_getElem?] at hv
          cases hq : a.tmps[d]? with
          | none => rw [hq] at hv; cases hv
          | some y => rw [hq] at hv; simp only [Option.getD_some] at hv; rw [hv]
        rw [this]
        simp
      · rename_i g b hb
        injection hG with hG
        subst hG
        have hR := ht d _ hb
        by_cases hgp : g
        · have hv : a.tmps.getD d undef = .bool b := (hR.1 hgp).1
          have : a.tmps[d]? = some (.bool b) := by
            rw [Array.getD_eq_getD_getElem?] at hv
            cases hq : a.tmps[d]? with
            | none => rw [hq] at hv; cases hv
            | some y => rw [hq] at hv; simp only [Option.getD_some] at hv; rw [hv]
          rw [this]
          simp [hgp]
        · have hv : a.tmps.getD d undef = undef := hR.2 hgp
          have : ∀ b, a.tmps[d]? ≠ some (.bool b) := fun b hb => by
            rw [Array.getD_eq_getD_getElem?, hb] at hv
            simp only [Option.getD_some] at hv
            cases hv
          simp only [hgp, false_and, iff_false, Bool.not_eq_true]
          cases hq : a.tmps[d]? with
          | none => rfl
          | some y =>
            cases y <;> first | rfl | exact absurd hq (this _)
      · cases hG
    · cases hG
  · cases hG

/-- The operands of a guarded operation. -/
theorem needG_ok {t : Nat → Option Tv} {G : Prop} (hG : G) : ∀ {l : List Nat}, AllP (needG t G l) → ∀ i ∈ l, ∀ g y, t i = some (.grd g y) → g
  | x :: r, hc, z, hz, g, y, hy => by
    unfold needG at hc
    cases hz with
    | head =>
      rw [hy] at hc
      exact hc.head hG
    | tail _ hm =>
      split at hc
      · exact needG_ok hG hc.tail z hm g y hy
      · exact needG_ok hG hc z hm g y hy
theorem evG_ok {t : Nat → Option Tv} {l : List Nat} {G : Prop} (hG : G) (hc : AllP (needG t G l)) (ht : ∀ i v, t i = some v → RT M σ v (a.tmps.getD i undef)) {x : Operand} {v : Tv} (hv : evG t l x = some v) : RT M σ v (a.eval x) := by
  cases x with
  | tmp i =>
    simp only [evG] at hv
    cases hm : l.any (Nat.beq i) with
    | false => rw [hm] at hv; exact ht i v hv
    | true =>
      rw [hm] at hv
      simp only [cond_true] at hv
      obtain ⟨u, hu, rfl⟩ := Option.map_eq_some_iff.1 hv
      have hR := ht i u hu
      obtain ⟨k, hk, hik⟩ := List.any_eq_true.1 hm
      have := Nat.eq_of_beq_eq_true hik
      subst this
      cases u with
      | av x => exact hR
      | tup x => exact hR
      | grd g y => exact hR.1 (needG_ok hG hc i hk g y hu)
  | const c => exact evT_ok ht (x := .const c) hv
  | global g => exact evT_ok ht (x := .global g) hv
  | func f => exact evT_ok ht (x := .func f) hv

/-! ### What an operation looks at -/
theorem partsC_congr {ev ev' : Operand → Option Tv} : ∀ (l : List (Nat × Operand)), (∀ p ∈ l, ev p.2 = ev' p.2) → partsC ev l = partsC ev' l
  | [], _ => rfl
  | (i, x) :: r, h => by
    simp only [partsC]
    rw [h (i, x) (by simp), partsC_congr r fun p hp => h p (by simp [hp])]
theorem argsC_congr {ev ev' : Operand → Option Tv} : ∀ (l : List Operand), (∀ x ∈ l, ev x = ev' x) → argsC ev l = argsC ev' l
  | [], _ => rfl
  | x :: r, h => by
    simp only [argsC]
    rw [h x (by simp), argsC_congr r fun p hp => h p (by simp [hp])]
theorem eff_congr {dst : Option Nat} {op : Op} {ev ev' : Operand → Option Tv} (h : ∀ x ∈ op.operands.toList, ev x = ev' x) : eff P V dst op ev = eff P V dst op ev' := by
  cases op <;> simp only [eff, effMore] <;> simp only [Op.operands] at h
  case move x => rw [h x (by simp)]
  case assign x => rw [h x (by simp)]
  case pick c a b => rw [h c (by simp), h a (by simp), h b (by simp)]
  case box T x => rw [h x (by simp)]
  case build T ps => unfold effBuild; rw [partsC_congr _ fun p hp => h p.2 (by simp; exact ⟨p.1, by simpa using hp⟩)]
  case buildSlice T n ps => unfold effBuildSlice; rw [partsC_congr _ fun p hp => h p.2 (by simp; exact ⟨p.1, by simpa using hp⟩)]
  case load T x => rw [h x (by simp)]
  case store T x y => rw [h x (by simp), h y (by simp)]
  case fieldAddr T x k => rw [h x (by simp)]
  case field T x k => rw [h x (by simp)]
  case indexAddr T x y => rw [h x (by simp), h y (by simp)]
  case binOp b T x y yT => rw [h x (by simp), h y (by simp)]
  case unOp b T x => rw [h x (by simp)]
  case convert a b x => rw [h x (by simp)]
  case extract x i => rw [h x (by simp)]
  case nilCheck x => rw [h x (by simp)]
  case makeFunc fn first captured =>
    cases fn <;> simp only [eff, effMore]
    rw [argsC_congr _ fun x hx => h x (by simp at hx ⊢; exact .inr hx)]
  case index T x y => rw [h x (by simp), h y (by simp)]
  case makeSlice T x y => rw [h x (by simp), h y (by simp)]
  case lookup T x k ok => rw [h x (by simp), h k (by simp)]
  case makeMap T r => cases r <;> rfl
  case mapUpdate T m k x => rw [h m (by simp), h k (by simp), h x (by simp)]
  case slice T x lo hi mx =>
    cases mx <;> simp only [eff, effMore]
    rw [h x (by simp)]
    have e1 : lo.map ev = lo.map ev' := by
      cases lo with
      | none => rfl
      | some y => simp only [Option.map_some]; rw [h y (by simp)]
    have e2 : hi.map ev = hi.map ev' := by
      cases hi with
      | none => rfl
      | some y => simp only [Option.map_some]; rw [h y (by simp)]
    rw [e1, e2]
  case call c =>
    have ha : argsC ev c.args.toList = argsC ev' c.args.toList := argsC_congr _ fun x hx => h x (by simp [Call.operands]; exact .inr (by simpa using hx))
    rw [ha]
    cases hc : c.callee with
    | value f =>
      have hf := h f (by simp [Call.operands, hc])
      cases argsC ev' c.args.toList with
      | none => rfl
      | some xs => simp only [hf]
    | _ => cases argsC ev' c.args.toList <;> rfl
def footR : Ef → List Nat
  | .rd ns _ => ns
  | .wr n ns _ => n :: ns
  | .wrs ns rs _ => ns ++ rs
  | .app n _ => [n]
  | _ => []
theorem geth_congr {h h' : Nat → Option Blk} : ∀ (l : List Nat), (∀ n ∈ l, h n = h' n) → geth h l = geth h' l
  | [], _ => rfl
  | n :: r, k => by
    simp only [geth]
    rw [k n (by simp), geth_congr r fun m hm => k m (by simp [hm])]
theorem res_congr {h h' : Nat → Option Blk} {e : Ef} (k : ∀ n ∈ footR e, h n = h' n) : res h e = res h' e := by
  cases e <;> simp only [res] <;> simp only [footR] at k
  case rd ns q => rw [geth_congr ns k]
  case wr n ns q => rw [k n (by simp), geth_congr ns fun m hm => k m (by simp [hm])]
  case wrs ns rs q => rw [geth_congr ns fun m hm => k m (by simp [hm]), geth_congr rs fun m hm => k m (by simp [hm])]
  case app n q => rw [k n (by simp)]
theorem guardP_congr {t t' : Nat → Option Tv} {ops : Array Oper} {j : Nat} {want : Bool} (h : ∀ d, (ops[j]?).bind (·.dst) = some d → t d = t' d) : guardP t ops j want = guardP t' ops j want := by
  unfold guardP
  cases ho : ops[j]? with
  | none => rfl
  | some o =>
    simp only
    cases hd : o.dst with
    | none => rfl
    | some d => simp only; rw [h d (by simp [ho, hd])]
theorem mem_tmpsOf : ∀ {l : List Operand} {i : Nat}, i ∈ tmpsOf l ↔ .tmp i ∈ l
  | [], i => by simp [tmpsOf]
  | x :: r, i => by
    have := mem_tmpsOf (l := r) (i := i)
    cases x <;> simp [tmpsOf, this]
theorem mem_stripL {op : Op} {i : Nat} (h : i ∈ stripL op) : .tmp i ∈ op.operands.toList := by
  unfold stripL at h
  split at h
  · rw [mem_tmpsOf] at h
    simp only [List.mem_singleton] at h
    simp [Op.operands, h]
  · exact mem_tmpsOf.1 h
theorem needG_congr {t t' : Nat → Option Tv} {G : Prop} : ∀ (l : List Nat), (∀ i ∈ l, t i = t' i) → needG t G l = needG t' G l
  | [], _ => rfl
  | i :: r, h => by
    unfold needG
    rw [h i (by simp), needG_congr r fun k hk => h k (by simp [hk])]
/-- The blocks that an operation reads and writes. -/
def footH (P : Program) (V : Env P) (ops : Array Oper) (o : Oper) (s : AS) : List Nat := match o.guard with
  | none => match eff P V o.dst o.op (evT (get s.t)) with
    | some e => footR e
    | none => []
  | some _ => match eff P V o.dst o.op (evG (get s.t) (stripL o.op)) with
    | some e => footR e
    | none => []
def footW (P : Program) (V : Env P) (o : Oper) (s : AS) : List Nat := match o.guard with
  | none => match eff P V o.dst o.op (evT (get s.t)) with
    | some (.wr n _ _) => [n]
    | some (.wrs ns _ _) => ns
    | some (.new _ _ _) => o.dst.toList
    | some (.app n _) => n :: o.dst.toList
    | _ => []
  | some _ => []
def isNew (P : Program) (V : Env P) (o : Oper) (s : AS) : Bool := match o.guard with
  | none => match eff P V o.dst o.op (evT (get s.t)) with
    | some (.new _ _ _) => true
    | some (.app _ _) => true
    | _ => false
  | some _ => false
theorem looksAt_tmp {ops : Array Oper} {o : Oper} {i : Nat} (h : Operand.tmp i ∈ o.op.operands.toList) : i ∈ o.looksAt ops := by
  unfold Oper.looksAt
  exact List.mem_append_left _ (List.mem_filterMap.2 ⟨.tmp i, h, rfl⟩)
theorem looksAt_guard {ops : Array Oper} {o : Oper} {j : Nat} {want : Bool} (hg : o.guard = some (j, want)) {d : Nat} (hd : (ops[j]?).bind (·.dst) = some d) : d ∈ o.looksAt ops := by
  unfold Oper.looksAt
  rw [hg]
  exact List.mem_append_right _ (by simp [hd])

def wrOf (dst : Option Nat) : Eg → List Nat
  | .val _ => []
  | .wr n _ _ => [n]
  | .wrs l _ => l.map (·.1)
  | .new _ _ => dst.toList
  | .app n _ _ => n :: dst.toList
theorem footW_res {h : Nat → Option Blk} {o : Oper} {s : AS} {e : Ef} {cs : List Prop} {g : Eg} (hg : o.guard = none) (he : eff P V o.dst o.op (evT (get s.t)) = some e) (hr : res h e = some (cs, g)) : footW P V o s = wrOf o.dst g := by
  unfold footW
  split
  · rw [he]
    cases e <;> simp only [res] at hr
    case val => simp only [Option.some.injEq, Prod.mk.injEq] at hr; obtain ⟨_, rfl⟩ := hr; rfl
    case rd =>
      split at hr
      · split at hr
        · simp only [Option.some.injEq, Prod.mk.injEq] at hr; obtain ⟨_, rfl⟩ := hr; rfl
        · cases hr
      · cases hr
    case wr =>
      split at hr
      · split at hr
        · simp only [Option.some.injEq, Prod.mk.injEq] at hr; obtain ⟨_, rfl⟩ := hr; rfl
        · cases hr
      · cases hr
    case wrs ns rs k =>
      split at hr
      · split at hr
        · rename_i cs1 v1 b1 _
          cases hl : Nat.beq ns.length b1.length with
          | false => rw [hl] at hr; cases hr
          | true =>
            rw [hl] at hr
            simp only [Option.some.injEq, Prod.mk.injEq] at hr
            obtain ⟨_, rfl⟩ := hr
            have := Nat.eq_of_beq_eq_true hl
            simp only [wrOf]
            rw [List.map_fst_zip (by omega)]
        · cases hr
      · cases hr
    case new => simp only [Option.some.injEq, Prod.mk.injEq] at hr; obtain ⟨_, rfl⟩ := hr; rfl
    case app =>
      split at hr
      · split at hr
        · simp only [Option.some.injEq, Prod.mk.injEq] at hr; obtain ⟨_, rfl⟩ := hr; rfl
        · cases hr
      · cases hr
  · rename_i hg'; rw [hg] at hg'; cases hg'
theorem goH_frame {N : Nat} {s : AS} {dst : Option Nat} {g : Eg} (hok : goOk N s dst g = true) (H : Nat → Option Blk) : (fun n => if n ∈ wrOf dst g then get (goOn s dst g).h n else H n) = goH H dst g := by
  funext n
  rw [(get_goOn s dst g).2]
  cases g with
  | val v => simp [goH, wrOf]
  | wr m v b =>
    simp only [goH, upd_get, List.mem_singleton, wrOf]
    by_cases h : m = n
    · simp [h]
    · simp [h, Ne.symm h]
  | wrs l v =>
    have hwo : wrOf dst (.wrs l v) = l.map (·.1) := rfl
    simp only [goH]
    by_cases hn : n ∈ wrOf dst (.wrs l v)
    · rw [if_pos hn]
      rw [hwo] at hn
      cases hg : get l n with
      | none =>
        exfalso
        obtain ⟨⟨k, b⟩, hm, rfl⟩ := List.mem_map.1 hn
        clear hn hok hwo
        induction l with
        | nil => cases hm
        | cons p r ih =>
          obtain ⟨k', b'⟩ := p
          simp only [get, beqN] at hg
          by_cases e : k' = k
          · simp [e] at hg
          · simp only [e, decide_false, cond_false] at hg
            rcases List.mem_cons.1 hm with hm | hm
            · injection hm with h1 _; exact e h1.symm
            · exact ih hm hg
      | some b => simp only [orL, hg]
    · rw [if_neg hn]
      rw [hwo] at hn
      cases hg : get l n with
      | none => simp only [orL, hg]
      | some b => exact absurd (List.mem_map.2 ⟨_, get_mem hg, rfl⟩) hn
  | new b v =>
    cases dst with
    | none => simp [goH, wrOf]
    | some d =>
      simp only [goH, upd_get, Option.toList_some, List.mem_singleton, wrOf]
      by_cases h : d = n
      · simp [h]
      · simp [h, Ne.symm h]
  | app m b v =>
    cases dst with
    | none => cases hok
    | some d =>
      simp only [goH, upd_get, Option.toList_some, List.mem_cons, List.not_mem_nil, or_false, wrOf]
      by_cases h1 : d = n
      · simp [h1]
      · by_cases h2 : m = n
        · simp [h2]
        · simp [h1, h2, Ne.symm h1, Ne.symm h2]
theorem goT_frame {s : AS} {dst : Option Nat} {g : Eg} (T : Nat → Option Tv) : (fun i => if dst = some i then get (goOn s dst g).t i else T i) = goT T dst g := by
  funext i
  rw [(get_goOn s dst g).1]
  cases g <;> cases dst <;> simp only [goT, putF, upd_get, Option.some.injEq, reduceCtorEq, if_false] <;> split <;> simp_all
/-- One operation, in whatever world that is as the state says where the operation looks. -/
theorem step_any {rd : Option Nat} (hV : EnvOk P V) {o : Oper} {s s1 : AS} {cs : List Prop} (hst : step1 P V N ops o s = some (cs, s1)) (hc : AllP cs) {T : Nat → Option Tv} {H : Nat → Option Blk} (hs : Sim N W0 X M0 M σ T H a w) (hT : ∀ i ∈ o.looksAt ops, T i = get s.t i) (hH : ∀ n ∈ footH P V ops o s, H n = get s.h n)
    (hfr : isNew P V o s = true → ∀ d, o.dst = some d → Fresh T H d) {K : Act → World → Prop} {Q : Exit → Act → World → Prop} (hK : ∀ M' σ' a' w', Sim N W0 X M0 M' σ' (fun i => if o.dst = some i then get s1.t i else T i) (fun n => if n ∈ footW P V o s then get s1.h n else H n) a' w' → K a' w') :
    if Region.wanted o (yielded ops a.tmps) then o.wpIn (FW rd) 0 P a w K Q else (∀ f, o.about P w a.eval = some f → (FW rd).fn f) ∧ K (a.put o.dst undef) w := by
  unfold step1 at hst
  split at hst
  · rename_i hg
    rw [if_pos (by simp [Region.wanted, hg])]
    split at hst
    · rename_i e he
      split at hst
      · rename_i cs' g hr
        cases hok : goOk N s o.dst g with
        | false => rw [hok] at hst; cases hst
        | true =>
          rw [hok] at hst
          simp only [cond_true, Option.some.injEq, Prod.mk.injEq] at hst
          obtain ⟨rfl, rfl⟩ := hst
          have hev : ∀ x ∈ o.op.operands.toList, evT T x = evT (get s.t) x := fun x hx => by
            cases x with
            | tmp i => exact hT i (looksAt_tmp hx)
            | _ => rfl
          have he' : eff P V o.dst o.op (evT T) = some e := by rw [eff_congr hev]; exact he
          have hfoot : footH P V ops o s = footR e := by unfold footH; rw [hg, he]
          have hr' : res H e = some (cs', g) := by rw [res_congr (h' := get s.h) fun n hn => hH n (by rw [hfoot]; exact hn)]; exact hr
          have hgo0 := goOk_of hok (fun n v b hg => by subst hg; exact res_wr hr) (fun l v hg => by subst hg; exact res_wrs hr) (fun n b v hg => by subst hg; exact res_app hr)
          have hkind : (∃ b v, g = .new b v) ∨ (∃ n b v, g = .app n b v) → isNew P V o s = true := fun hk => by
            unfold isNew
            rw [hg, he]
            cases e <;> simp only [res] at hr <;> first
              | rfl
              | (exfalso; rcases hk with ⟨b, v, rfl⟩ | ⟨n, b, v, rfl⟩ <;> (repeat' split at hr) <;> simp at hr)
          have hgo : GoOk N T H o.dst g := by
            refine ⟨hgo0.1, ?_⟩
            cases g with
            | val v => trivial
            | wr n v b => exact res_wr hr'
            | wrs l v => exact res_wrs hr'
            | new b v =>
              obtain ⟨_, d, hd, hf, hn⟩ := hgo0
              exact ⟨d, hd, hfr (hkind (.inl ⟨_, _, rfl⟩)) d hd, hn⟩
            | app n b v =>
              obtain ⟨_, d, hd, hf, hn, _⟩ := hgo0
              exact ⟨d, hd, hfr (hkind (.inr ⟨_, _, _, rfl⟩)) d hd, hn, res_app hr'⟩
          refine (eff_ok hV (fun x v hv => evT_ok hs.tmps hv) he' hs.std hr' hc (gnew_of hgo)).wp ?_ (fun c hc => by rw [hc] at he'; cases he')
          rintro U w' ⟨M', σ', ho⟩
          have hsim := sim_go hs ho hgo
          refine hK M' σ' _ _ ?_
          rw [footW_res hg he hr, goT_frame, goH_frame hok]
          exact hsim
      · cases hst
    · cases hst
  · rename_i j want hg
    split at hst
    · rename_i G hG
      split at hst
      · rename_i e he
        split at hst
        · rename_i cs' v hr
          cases hok : goOk N s o.dst (.val (.av v)) with
          | false => rw [hok] at hst; cases hst
          | true =>
            rw [hok] at hst
            simp only [cond_true, Option.some.injEq, Prod.mk.injEq] at hst
            obtain ⟨rfl, rfl⟩ := hst
            obtain ⟨hc1, hc2⟩ := hc.append
            have htm : ∀ i ∈ stripL o.op, T i = get s.t i := fun i hi => hT i (looksAt_tmp (mem_stripL hi))
            have hG' : guardP T ops j want = some G := by rw [guardP_congr fun d hd => hT d (looksAt_guard hg hd)]; exact hG
            have hw := wanted_guard hs.tmps hs.room hg hG'
            have hev : ∀ x ∈ o.op.operands.toList, evG T (stripL o.op) x = evG (get s.t) (stripL o.op) x := fun x hx => by
              cases x with
              | tmp i => simp only [evG]; rw [hT i (looksAt_tmp hx)]
              | _ => rfl
            have he' : eff P V o.dst o.op (evG T (stripL o.op)) = some e := by rw [eff_congr hev]; exact he
            have hfoot : footH P V ops o s = footR e := by unfold footH; rw [hg]; simp only [he]
            have hr' : res H e = some (cs', .val (.av v)) := by rw [res_congr (h' := get s.h) fun n hn => hH n (by rw [hfoot]; exact hn)]; exact hr
            rw [← needG_congr (t := T) _ htm] at hc1
            have hgo0 := goOk_of hok (fun n v b hg => by cases hg) (fun l v hg => by cases hg) (fun n b v hg => by cases hg)
            have fin : ∀ (U : Value) (w' : World) (M' : Nat → Option Obj) (σ' : Nat → Loc), Outg M σ w o.dst U w' M' σ' (.val (.grd G v)) → K (a.put o.dst U) w' := fun U w' M' σ' ho => by
              have hsim := sim_go hs (g := .val (.grd G v)) ho ⟨hgo0.1, trivial⟩
              refine hK M' σ' _ _ ?_
              have e1 : (fun i => if o.dst = some i then get (putT s o.dst (.grd G v)).t i else T i) = goT T o.dst (.val (.grd G v)) := goT_frame (s := s) (g := .val (.grd G v)) T
              have e2 : (fun n => if n ∈ footW P V o s then get (putT s o.dst (.grd G v)).h n else H n) = H := by
                funext n
                unfold footW
                rw [hg]
                simp
              rw [e1, e2]
              exact hsim
            by_cases hGp : G
            · rw [if_pos (hw.2 hGp)]
              have hcs : AllP cs' := by
                have : ∀ l : List Prop, AllP (l.map fun p => G → p) → AllP l := fun l => by
                  induction l with
                  | nil => intro _; exact .nil
                  | cons p l ih => intro h; exact .cons (h.head hGp) (ih h.tail)
                exact this _ hc2
              have := eff_ok hV (o := o) (a := a) (fun x v hv => evG_ok hGp hc1 hs.tmps hv) he' hs.std hr' hcs trivial
              refine this.wp ?_ (fun c hc => by rw [hc] at he'; cases he')
              rintro U w' ⟨M', σ', ho⟩
              obtain ⟨k, hσ, hR⟩ := ho
              exact fin U w' M' σ' ⟨k, hσ, fun _ => hR, fun h => absurd hGp h⟩
            · rw [if_neg (fun h => hGp (hw.1 h))]
              refine ⟨fun _ _ => trivial, ?_⟩
              exact fin undef w M σ ⟨Keep.refl hs.imm _, rfl, fun h => absurd h hGp, fun _ => rfl⟩
        · cases hst
      · cases hok : goOk N s o.dst (.val (.av (.one (.val (.bool false))))) with
        | false => rw [hok] at hst; cases hst
        | true =>
          rw [hok] at hst
          simp only [cond_true, Option.some.injEq, Prod.mk.injEq] at hst
          obtain ⟨rfl, rfl⟩ := hst
          have hGp : ¬ G := hc.head
          have hG' : guardP T ops j want = some G := by rw [guardP_congr fun d hd => hT d (looksAt_guard hg hd)]; exact hG
          have hw := wanted_guard hs.tmps hs.room hg hG'
          rw [if_neg (fun h => hGp (hw.1 h))]
          refine ⟨fun _ _ => trivial, ?_⟩
          have hgo0 := goOk_of hok (fun n v b hg => by cases hg) (fun l v hg => by cases hg) (fun n b v hg => by cases hg)
          have hsim := sim_go hs (g := .val (.grd G (.one (.val (.bool false))))) (V := undef) (w' := w) (M' := M) (σ' := σ) ⟨Keep.refl hs.imm _, rfl, fun h => absurd h hGp, fun _ => rfl⟩ ⟨hgo0.1, trivial⟩
          refine hK M σ _ _ ?_
          have e1 : (fun i => if o.dst = some i then get (putT s o.dst (.grd G (.one (.val (.bool false))))).t i else T i) = goT T o.dst (.val (.grd G (.one (.val (.bool false))))) := goT_frame (s := s) (g := .val (.grd G (.one (.val (.bool false))))) T
          have e2 : (fun n => if n ∈ footW P V o s then get (putT s o.dst (.grd G (.one (.val (.bool false))))).h n else H n) = H := by
            funext n
            unfold footW
            rw [hg]
            simp
          rw [e1, e2]
          exact hsim
    · cases hst
/-- What an operation changes. -/
theorem step_cases {o : Oper} {s s1 : AS} {cs : List Prop} (hst : step1 P V N ops o s = some (cs, s1)) : ∃ g, goOk N s o.dst g = true ∧ s1 = goOn s o.dst g ∧ footW P V o s = wrOf o.dst g ∧ (isNew P V o s = true → (∃ b v, g = .new b v) ∨ ∃ n b v, g = .app n b v) := by
  unfold step1 at hst
  split at hst
  · rename_i hg
    split at hst
    · rename_i e he
      split at hst
      · rename_i cs' g hr
        cases hok : goOk N s o.dst g with
        | false => rw [hok] at hst; cases hst
        | true =>
          rw [hok] at hst
          simp only [cond_true, Option.some.injEq, Prod.mk.injEq] at hst
          obtain ⟨rfl, rfl⟩ := hst
          refine ⟨g, hok, rfl, footW_res hg he hr, fun hn => ?_⟩
          unfold isNew at hn
          rw [hg] at hn
          simp only [he] at hn
          cases e <;> simp only [res] at hr <;> simp only at hn <;> try (cases hn; done)
          case new => simp only [Option.some.injEq, Prod.mk.injEq] at hr; obtain ⟨_, rfl⟩ := hr; exact .inl ⟨_, _, rfl⟩
          case app =>
            split at hr
            · split at hr
              · simp only [Option.some.injEq, Prod.mk.injEq] at hr; obtain ⟨_, rfl⟩ := hr; exact .inr ⟨_, _, _, rfl⟩
              · cases hr
            · cases hr
      · cases hst
    · cases hst
  · rename_i j want hg
    split at hst
    · rename_i G hG
      split at hst
      · rename_i e he
        split at hst
        · rename_i cs' v hr
          cases hok : goOk N s o.dst (.val (.av v)) with
          | false => rw [hok] at hst; cases hst
          | true =>
            rw [hok] at hst
            simp only [cond_true, Option.some.injEq, Prod.mk.injEq] at hst
            obtain ⟨rfl, rfl⟩ := hst
            refine ⟨.val (.grd G v), hok, rfl, ?_, fun hn => ?_⟩
            · unfold footW; rw [hg]; rfl
            · unfold isNew at hn; rw [hg] at hn; cases hn
        · cases hst
      · cases hok : goOk N s o.dst (.val (.av (.one (.val (.bool false))))) with
        | false => rw [hok] at hst; cases hst
        | true =>
          rw [hok] at hst
          simp only [cond_true, Option.some.injEq, Prod.mk.injEq] at hst
          obtain ⟨rfl, rfl⟩ := hst
          refine ⟨.val (.grd G (.one (.val (.bool false)))), hok, rfl, ?_, fun hn => ?_⟩
          · unfold footW; rw [hg]; rfl
          · unfold isNew at hn; rw [hg] at hn; cases hn
    · cases hst
theorem step_frame {o : Oper} {s s1 : AS} {cs : List Prop} (hst : step1 P V N ops o s = some (cs, s1)) : (get s1.t = fun i => if o.dst = some i then get s1.t i else get s.t i) ∧ (get s1.h = fun n => if n ∈ footW P V o s then get s1.h n else get s.h n) := by
  obtain ⟨g, hok, rfl, hfw, _⟩ := step_cases hst
  rw [hfw, goT_frame, goH_frame hok]
  exact get_goOn s o.dst g
theorem step_fresh {o : Oper} {s s1 : AS} {cs : List Prop} (hst : step1 P V N ops o s = some (cs, s1)) (hn : isNew P V o s = true) {d : Nat} (hd : o.dst = some d) : Fresh (get s.t) (get s.h) d := by
  obtain ⟨g, hok, rfl, _, hk⟩ := step_cases hst
  rcases hk hn with ⟨b, v, rfl⟩ | ⟨n, b, v, rfl⟩
  · rw [hd] at hok
    simp only [goOk, Option.any_some, Bool.and_eq_true] at hok
    exact fresh_of hok.1.2
  · rw [hd] at hok
    simp only [goOk, Option.any_some, Bool.and_eq_true] at hok
    exact fresh_of hok.1.2
end
end Go.Proofs.Ytgmhnkoifdpemaa
