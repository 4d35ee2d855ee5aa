/-
  No statement is proved in this text. It shows that the model does what the effects say, all operations in one theorem, and how a state goes on.
-/
import Derived.Test.YtgmhnkoifdpemaaSK
namespace Go.Proofs.Ytgmhnkoifdpemaa
open Go.RowKit Go.MapKept
set_option linter.unusedSimpArgs false
set_option linter.unusedVariables false

section
variable {P : Program}

/-- The new id does not occur in its own block. -/
def gnew (dst : Option Nat) : Eg → Prop
  | .new b _ => ∃ d, dst = some d ∧ b.no d = true
  | .app _ _ _ => ∃ d, dst = some d
  | _ => True
/-- What is asked of a contract in the environment: the function is called by its number and does what the effect says. -/
def CallEn (P : Program) (f : FuncId) (xs : List Av) (e : Ef) : Prop :=
  (∀ args w, (callFunc f args).run P w = .ok (.enter f args) w) ∧
  ∀ (M : Nat → Option Obj) (σ : Nat → Loc) (w : World) (h : Nat → Option Blk) (args : List Value) (cs : List Prop) (g : Eg), Std M σ w h → L2 (RA M σ) xs args → res h e = some (cs, g) → AllP cs →
    Calls P f args.toArray w fun en w' => ∃ V, en = .returned V ∧ ∀ dst, gnew dst g → ∃ M' σ', Outg M σ w dst V w' M' σ' g
/-- A function without a text, which answers at once. -/
def CallNow (P : Program) (f : FuncId) (xs : List Av) (e : Ef) : Prop := ∃ cs v, e = .val cs v ∧ ∀ (M : Nat → Option Obj) (σ : Nat → Loc) (w : World) (args : List Value), (∀ b o, M b = some o → w.heap[b]? = some o) → AllP cs → L2 (RA M σ) xs args → ∃ V, (callFunc f args.toArray).run P w = .ok (.value V) w ∧ RT M σ v V
def CallOk (P : Program) (f : FuncId) (xs : List Av) (e : Ef) : Prop := CallEn P f xs e ∨ CallNow P f xs e
structure EnvOk (P : Program) (V : Env P) : Prop where
  eqs : EqOk P V
  calls : ∀ d f xs e, V.Γ d = some (f, xs, e) → CallOk P f xs e

variable {M : Nat → Option Obj} {σ : Nat → Loc} {w : World} {h : Nat → Option Blk} {a : Act} {o : Oper} {cs : List Prop} {g : Eg} {e : Ef}

theorem res_addC {h : Nat → Option Blk} {p : Prop} {e : Ef} {cs : List Prop} {g : Eg} (hr : res h (addC p e) = some (cs, g)) (hc : AllP cs) : p ∧ ∃ ds, res h e = some (ds, g) ∧ AllP ds := by
  cases e with
  | val ds v =>
    simp only [addC, res, Option.some.injEq, Prod.mk.injEq] at hr
    obtain ⟨rfl, rfl⟩ := hr
    exact ⟨hc.head, ds, rfl, hc.tail⟩
  | rd ns k =>
    simp only [addC, res] at hr ⊢
    split at hr
    · rename_i bs hb
      cases hk : k bs with
      | none => rw [hk] at hr; cases hr
      | some q =>
        rw [hk] at hr
        simp only [Option.some.injEq, Prod.mk.injEq] at hr
        obtain ⟨rfl, rfl⟩ := hr
        exact ⟨hc.head, q.1, by simp only [hk], hc.tail⟩
    · cases hr
  | wr n ns k =>
    simp only [addC, res] at hr ⊢
    split at hr
    · rename_i b bs hb1 hb2
      cases hk : k b bs with
      | none => rw [hk] at hr; cases hr
      | some q =>
        rw [hk] at hr
        obtain ⟨q1, q2, q3⟩ := q
        simp only [Option.some.injEq, Prod.mk.injEq] at hr
        obtain ⟨rfl, rfl⟩ := hr
        exact ⟨hc.head, q1, by simp only [hk], hc.tail⟩
    · cases hr
  | wrs ns rs k =>
    simp only [addC, res] at hr ⊢
    split at hr
    · rename_i b bs hb1 hb2
      cases hk : k b bs with
      | none => rw [hk] at hr; cases hr
      | some q =>
        rw [hk] at hr
        obtain ⟨q1, q2, q3⟩ := q
        simp only at hr
        cases hl : Nat.beq ns.length q3.length with
        | false => rw [hl] at hr; cases hr
        | true =>
          rw [hl] at hr
          simp only [Option.some.injEq, Prod.mk.injEq] at hr
          obtain ⟨rfl, rfl⟩ := hr
          exact ⟨hc.head, q1, by simp only [hk, hl], hc.tail⟩
    · cases hr
  | new ds b v =>
    simp only [addC, res, Option.some.injEq, Prod.mk.injEq] at hr
    obtain ⟨rfl, rfl⟩ := hr
    exact ⟨hc.head, ds, rfl, hc.tail⟩
  | app n k =>
    simp only [addC, res] at hr ⊢
    split at hr
    · rename_i b hb1
      cases hk : k b with
      | none => rw [hk] at hr; cases hr
      | some q =>
        rw [hk] at hr
        obtain ⟨q1, q2, q3⟩ := q
        simp only [Option.some.injEq, Prod.mk.injEq] at hr
        obtain ⟨rfl, rfl⟩ := hr
        exact ⟨hc.head, q1, by simp only [hk], hc.tail⟩
    · cases hr
theorem call_ok {V : Env P} (hV : EnvOk P V) {c : Call} {f : Operand} {ev : Operand → Option Tv} {xs : List Av} {q : FuncId} {k : Nat} {caps : Nat → Cl} (hev : ∀ x v, ev x = some v → RT M σ v (a.eval x)) (ho : o.op = .call c) (hcf : c.callee = .value f) (hxs : argsC ev c.args.toList = some xs) (hf : ev f = some (.av (.one (.clo q k caps))))
    {d : Nat} {xs' : List Av} (he : V.Γ d = some (q, xs', e)) (hs : Std M σ w h) (hr : res h (addC (xs ++ capList k caps = xs') e) = some (cs, g)) (hc : AllP cs) (hn : gnew o.dst g) : Good P M σ o a w g := by
  obtain ⟨hxe, ds, hr2, hc2⟩ := res_addC hr hc
  clear hr hc
  subst hxe
  have hcalls := hV.calls _ _ _ _ he
  obtain ⟨caps', hfv, hsz, hcaps⟩ := hev f _ hf
  have hargs := args_ok hev _ _ hxs
  have hcl : L2 (RA M σ) (capList k caps) caps'.toList := by
    refine L2.of (by simp [capList, hsz]) fun i x y hx hy => ?_
    have hi : i < k := by have := (List.getElem?_eq_some_iff.1 hx).1; simpa [capList] using this
    have := hcaps i hi
    simp only [capList, List.getElem?_map, List.getElem?_range hi, Option.map_some, Option.some.injEq] at hx
    subst hx
    have hy' : caps'.getD i undef = y := by
      simp only [Array.getD_eq_getD_getElem?]
      rw [← Array.getElem?_toList, hy]; rfl
    rw [hy'] at this
    exact this
  have hmap : c.args.map a.eval = (c.args.toList.map a.eval).toArray := by apply Array.ext'; simp
  have happ : (c.args.toList.map a.eval).toArray ++ caps' = (c.args.toList.map a.eval ++ caps'.toList).toArray := by apply Array.ext'; simp
  have hres : (resolve a.eval c o.type).run P w = .ok { target := .fn (.func q) caps', args := (c.args.toList.map a.eval).toArray } w := by
    simp only [resolve, hcf, hfv, Deferred.ofValue, hmap]
    simp
  rcases hcalls with ⟨h1, h2⟩ | ⟨cs1, v1, rfl, h2⟩
  · have hfin := h2 M σ w h (c.args.toList.map a.eval ++ caps'.toList) ds g hs (hargs.append hcl) hr2 hc2
    refine .inr (.inr ⟨q, (c.args.toList.map a.eval ++ caps'.toList).toArray, ?_, ?_⟩)
    · simp only [execOp, ho, Sem.run_bind, hres, Result.andThen_ok, invoke, happ]
      exact h1 _ _
    · exact hfin.mono fun en w' ⟨V, hV, hall⟩ => ⟨V, hV, hall o.dst hn⟩
  · obtain ⟨rfl, rfl⟩ := res_val hr2
    obtain ⟨V, e1, e2⟩ := h2 M σ w (c.args.toList.map a.eval ++ caps'.toList) hs.imm hc2 (hargs.append hcl)
    refine good_val hs.imm (V := V) ?_ e2
    simp only [execOp, ho, Sem.run_bind, hres, Result.andThen_ok, invoke, happ]
    exact e1



theorem eff_ok {V : Env P} (hV : EnvOk P V) {ev : Operand → Option Tv} (hev : ∀ x v, ev x = some v → RT M σ v (a.eval x)) (he : eff P V o.dst o.op ev = some e) (hs : Std M σ w h) (hr : res h e = some (cs, g)) (hc : AllP cs) (hn : gnew o.dst g) : Good P M σ o a w g := by
  have hdn : ∀ b v, g = .new b v → ∃ d, o.dst = some d ∧ b.no d = true := fun b v hg => by subst hg; exact hn
  have hda : ∀ n b v, g = .app n b v → ∃ d, o.dst = some d := fun n b v hg => by subst hg; exact hn
  cases hop : o.op <;> rw [hop] at he <;> simp only [eff, effMore] at he <;> try (cases he; done)
  case move x =>
    obtain ⟨v, hv, rfl⟩ := Option.map_eq_some_iff.1 he
    obtain ⟨rfl, rfl⟩ := res_val hr
    exact good_val hs.imm (V := a.eval x) (by simp only [execOp, hop]; rfl) (hev x v hv)
  case assign x =>
    obtain ⟨v, hv, rfl⟩ := Option.map_eq_some_iff.1 he
    obtain ⟨rfl, rfl⟩ := res_val hr
    exact good_val hs.imm (V := a.eval x) (by simp only [execOp, hop]; rfl) (hev x v hv)
  case pick c x y =>
    split at he
    · rename_i cb ta tb h1 h2 h3
      split at he
      · rename_i ga xa gb xb h4 h5
        simp only [Option.some.injEq] at he
        subst he
        exact pick_ok hop (hev _ _ h1) (hev _ _ h2) (hev _ _ h3) h4 h5 hs hr hc
      · cases he
    · cases he
  case alloc T =>
    split at he
    · rename_i z hz
      simp only [Option.some.injEq] at he
      subst he
      simp only [res, Option.some.injEq, Prod.mk.injEq] at hr
      obtain ⟨rfl, rfl⟩ := hr
      obtain ⟨d, hd, _⟩ := hdn _ _ rfl
      exact alloc_ok hop hz hs hd
    · cases he
  case box T x =>
    split at he
    · rename_i v hv
      simp only [Option.some.injEq] at he
      subst he
      simp only [res, Option.some.injEq, Prod.mk.injEq] at hr
      obtain ⟨rfl, rfl⟩ := hr
      obtain ⟨d, hd, hno⟩ := hdn _ _ rfl
      exact box_ok hop (hev _ _ hv) hs hd hno
    · cases he
  case build T parts => exact build_ok hev hop he hs hr
  case buildSlice T len parts => exact buildSlice_ok hev hop he hs hr (fun ⟨b, v, hg⟩ => let ⟨d, hd, _⟩ := hdn b v hg; ⟨d, hd⟩)
  case load T x =>
    split at he
    · rename_i v hv; exact load_ok hop (hev _ _ hv) he hs hr hc
    · cases he
  case store T x y =>
    split at he
    · rename_i p v hp hv; exact store_ok hop (hev _ _ hp) (hev _ _ hv) he hs hr hc
    · cases he
  case fieldAddr T x k =>
    split at he
    · rename_i v hv; exact fieldAddr_ok hop (hev _ _ hv) he hs hr
    · cases he
  case field T x k =>
    split at he
    · rename_i v hv; exact field_ok hop (hev _ _ hv) he hs hr
    · cases he
  case indexAddr T x i =>
    split at he
    · rename_i v j hv hj; exact indexAddr_ok hop (hev _ _ hv) (hev _ _ hj) he hs hr hc
    · cases he
  case binOp op T x y yT =>
    split at he
    · rename_i u v hu hv; exact bin_ok hV.eqs hop (hev _ _ hu) (hev _ _ hv) he hs hr hc
    · cases he
  case unOp op T x =>
    split at he
    · rename_i v hv
      obtain ⟨r, hr', rfl⟩ := Option.map_eq_some_iff.1 he
      exact un_ok hop (hev _ _ hv).1 hr' hs hr
    · cases he
  case convert src dst x =>
    split at he
    · rename_i v hv; exact convert_ok hop (hev _ _ hv) he hs hr hc
    · cases he
  case extract x i =>
    split at he
    · rename_i l hl
      obtain ⟨v, hv, rfl⟩ := Option.map_eq_some_iff.1 he
      exact extract_ok hop (hev _ _ hl) hv hs hr
    · cases he
  case nilCheck x =>
    split at he <;> first | (cases he; done) | skip
    all_goals
      rename_i hv
      simp only [Option.some.injEq] at he
      subst he
      have hR := hev _ _ hv
    · exact nilCheck_ptr hop rfl (.inl ⟨_, hR⟩) hs hR hr
    · refine nilCheck_ptr hop rfl (.inl ?_) hs hR hr
      have hp := R_ptr hR
      obtain ⟨b, base, hV, _⟩ := hp
      exact ⟨_, hV⟩
    · exact nilCheck_ptr hop rfl (.inl ⟨_, hR⟩) hs hR hr
    · have hR2 : ∃ c : Array Value, _ := hR
      obtain ⟨c, hV, _⟩ := hR2
      exact nilCheck_ptr hop rfl (.inr ⟨_, _, hV⟩) hs hR hr
  case makeFunc fn first captured =>
    cases fn <;> simp only [eff, effMore] at he <;> try (cases he; done)
    rename_i f
    cases hf : first.toList.isEmpty with
    | false => rw [hf] at he; cases he
    | true =>
      rw [hf] at he
      simp only [cond_true] at he
      split at he
      · rename_i l hl
        obtain ⟨cl, hcl, rfl⟩ := Option.map_eq_some_iff.1 he
        exact makeFunc_ok hev hop hf hl hcl hs hr
      · cases he
  case index T x i =>
    split at he
    · rename_i v j hv hj; exact index_ok hop (hev _ _ hv) (hev _ _ hj) he hs hr hc
    · cases he
  case makeSlice T x i =>
    split at he
    · rename_i v j hv hj; exact makeSlice_ok hop (hev _ _ hv) (hev _ _ hj) he hs hr hc (fun ⟨b, v, hg⟩ => let ⟨d, hd, _⟩ := hdn b v hg; ⟨d, hd⟩)
    · cases he
  case makeMap T r =>
    cases r <;> simp only [eff, effMore] at he <;> try (cases he; done)
    have hnew : ∃ b v, g = .new b v := by
      unfold effMakeMap at he
      split at he
      · split at he
        · simp only [Option.some.injEq] at he; subst he
          simp only [res, Option.some.injEq, Prod.mk.injEq] at hr
          exact ⟨_, _, hr.2.symm⟩
        · cases he
      · cases he
    obtain ⟨b, v, hg⟩ := hnew
    obtain ⟨d, hd, _⟩ := hdn b v hg
    exact makeMap_ok hop he hs hr hd
  case mapUpdate T m k x =>
    split at he
    · rename_i v kv xv hv hkv hxv
      exact mapUpd_ok hV.eqs hop (hev _ _ hv) (hev _ _ hkv) (hev _ _ hxv) he hs hr hc
    · cases he
  case lookup T x k cok =>
    split at he
    · rename_i n kv d hv hkv _
      exact lookO_ok hV.eqs hop (hev _ _ hv) (hev _ _ hkv) he hs hr hc
    · rename_i v kv d _ hv hkv _
      exact lookup_ok hop (hev _ _ hv) (hev _ _ hkv) he hs hr hc
    · cases he
  case slice T x lo hi mx =>
    cases mx <;> simp only [eff, effMore] at he <;> try (cases he; done)
    split at he
    · rename_i v hv; exact slice_ok hev hop (hev _ _ hv) he hs hr hc
    · cases he
  case call c =>
    split at he
    · rename_i b xs hcb hxs
      exact builtin_ok hev hop hcb hxs he hs hr hc (fun hh => by
        rcases hh with ⟨b, v, hg⟩ | ⟨n, b, v, hg⟩
        · obtain ⟨d, hd, _⟩ := hdn b v hg; exact ⟨d, hd⟩
        · exact hda n b v hg)
    · rename_i f xs hcf hxs
      split at he
      · rename_i q k caps hf
        split at he
        · rename_i d hdst
          split at he
          · rename_i g' xs' e' hg
            cases hb : Nat.beq g' q with
            | false => rw [hb] at he; cases he
            | true =>
              rw [hb] at he
              have := Nat.eq_of_beq_eq_true hb
              subst this
              simp only [cond_true, Option.some.injEq] at he
              subst he
              exact call_ok hV hev hop hcf hxs hf hg hs hr hc hn
          · cases he
        · cases he
      · cases he
    · cases he

/-! ### How a state goes on -/
def putT (s : AS) (dst : Option Nat) (v : Tv) : AS := match dst with
  | some d => ⟨put s.t d v, s.h⟩
  | none => s
def putL {α : Type} (h : List (Nat × α)) : List (Nat × α) → List (Nat × α)
  | [] => h
  | (n, b) :: r => put (putL h r) n b
def orL {α : Type} (l : List (Nat × α)) (H : Nat → Option α) (n : Nat) : Option α := match get l n with
  | some b => some b
  | none => H n
theorem get_putL {α : Type} (h : List (Nat × α)) : ∀ (l : List (Nat × α)) (n : Nat), get (putL h l) n = orL l (get h) n
  | [], n => rfl
  | (k, b) :: r, n => by
    simp only [putL, get_put, orL, get, beqN]
    by_cases e : k = n
    · simp [e]
    · simp only [e, if_false, decide_false, cond_false]
      rw [get_putL h r n]
      rfl
/-- The state behind an effect. -/
def goOn (s : AS) (dst : Option Nat) : Eg → AS
  | .val v => putT s dst v
  | .wr n v b => putT ⟨s.t, put s.h n b⟩ dst v
  | .wrs l v => putT ⟨s.t, putL s.h l⟩ dst v
  | .new b v => match dst with
    | some d => ⟨put s.t d (v d), put s.h d b⟩
    | none => s
  | .app n b v => match dst with
    | some d => ⟨put s.t d (v d), put (del s.h n) d b⟩
    | none => s
def putF (T : Nat → Option Tv) (dst : Option Nat) (v : Tv) : Nat → Option Tv := match dst with
  | some d => upd T d (some v)
  | none => T
def goT (T : Nat → Option Tv) (dst : Option Nat) : Eg → Nat → Option Tv
  | .val v => putF T dst v
  | .wr _ v _ => putF T dst v
  | .wrs _ v => putF T dst v
  | .new _ v => match dst with
    | some d => upd T d (some (v d))
    | none => T
  | .app _ _ v => match dst with
    | some d => upd T d (some (v d))
    | none => T
def goH (H : Nat → Option Blk) (dst : Option Nat) : Eg → Nat → Option Blk
  | .val _ => H
  | .wr n _ b => upd H n (some b)
  | .wrs l _ => orL l H
  | .new b _ => match dst with
    | some d => upd H d (some b)
    | none => H
  | .app n b _ => match dst with
    | some d => upd (upd H n none) d (some b)
    | none => H
theorem get_goOn (s : AS) (dst : Option Nat) (g : Eg) : get (goOn s dst g).t = goT (get s.t) dst g ∧ get (goOn s dst g).h = goH (get s.h) dst g := by
  cases g <;> cases dst <;> refine ⟨?_, ?_⟩ <;> funext i <;> simp only [goOn, putT, goT, putF, goH, get_put, get_del, upd_get, get_putL]
/-- A new id occurs nowhere. -/
def Fresh (T : Nat → Option Tv) (H : Nat → Option Blk) (d : Nat) : Prop := (∀ i v, T i = some v → v.no d = true) ∧ ∀ n b, H n = some b → n ≠ d ∧ b.no d = true
def GoOk (N : Nat) (T : Nat → Option Tv) (H : Nat → Option Blk) (dst : Option Nat) (g : Eg) : Prop := (∀ d, dst = some d → d < N) ∧ match g with
  | .val _ => True
  | .wr n _ _ => (H n).isSome
  | .wrs l _ => ∀ n b, get l n = some b → (H n).isSome
  | .new b _ => ∃ d, dst = some d ∧ Fresh T H d ∧ b.no d = true
  | .app n b _ => ∃ d, dst = some d ∧ Fresh T H d ∧ b.isRow = true ∧ (H n).isSome
/-- A new id occurs nowhere. -/
def freshB (s : AS) (d : Nat) : Bool := s.t.all (fun p => p.2.no d) && s.h.all (fun p => !Nat.beq p.1 d && p.2.no d)
def goOk (N : Nat) (s : AS) (dst : Option Nat) : Eg → Bool
  | .val _ => dst.all fun d => Nat.ble (d + 1) N
  | .wr _ _ _ => dst.all fun d => Nat.ble (d + 1) N
  | .wrs _ _ => dst.all fun d => Nat.ble (d + 1) N
  | .new b _ => dst.any fun d => Nat.ble (d + 1) N && freshB s d && b.no d
  | .app n b _ => dst.any fun d => Nat.ble (d + 1) N && freshB s d && b.isRow

theorem getD_put {a : Act} {N d : Nat} (hN : a.tmps.size = N) (hd : d < N) (V : Value) (i : Nat) : (a.put (some d) V).tmps.getD i undef = if d = i then V else a.tmps.getD i undef := by
  simp only [Act.put, Array.getD_eq_getD_getElem?, Array.getElem?_setIfInBounds]
  by_cases h : d = i
  · subst h; simp [show d < a.tmps.size by omega]
  · simp [h]
theorem fresh_of {s : AS} {d : Nat} (hf : freshB s d = true) : Fresh (get s.t) (get s.h) d := by
  simp only [freshB, Bool.and_eq_true] at hf
  refine ⟨fun i v hv => (List.all_eq_true.1 hf.1) _ (get_mem hv), fun n b hv => ?_⟩
  have := (List.all_eq_true.1 hf.2) _ (get_mem hv)
  simp only [Bool.and_eq_true] at this
  exact ⟨beq_ne this.1, this.2⟩
theorem goOk_of {N : Nat} {s : AS} {dst : Option Nat} (hok : goOk N s dst g = true) (hwr : ∀ n v b, g = .wr n v b → (get s.h n).isSome) (hws : ∀ l v, g = .wrs l v → ∀ n b, get l n = some b → (get s.h n).isSome) (hap : ∀ n b v, g = .app n b v → (get s.h n).isSome) : GoOk N (get s.t) (get s.h) dst g := by
  cases g with
  | val v => exact ⟨fun d hd => by subst hd; exact Nat.le_of_ble_eq_true hok, trivial⟩
  | wr n v b => exact ⟨fun d hd => by subst hd; exact Nat.le_of_ble_eq_true hok, hwr _ _ _ rfl⟩
  | wrs l v => exact ⟨fun d hd => by subst hd; exact Nat.le_of_ble_eq_true hok, hws _ _ rfl⟩
  | new b v =>
    cases dst with
    | none => cases hok
    | some d =>
      simp only [goOk, Option.any_some, Bool.and_eq_true] at hok
      exact ⟨fun d' hd => by injection hd with hd; subst hd; exact Nat.le_of_ble_eq_true hok.1.1, d, rfl, fresh_of hok.1.2, hok.2⟩
  | app n b v =>
    cases dst with
    | none => cases hok
    | some d =>
      simp only [goOk, Option.any_some, Bool.and_eq_true] at hok
      exact ⟨fun d' hd => by injection hd with hd; subst hd; exact Nat.le_of_ble_eq_true hok.1.1, d, rfl, fresh_of hok.1.2, hok.2, hap _ _ _ rfl⟩
theorem no_upd {T : Type} (no : Nat → T → Bool) {v : T} {d : Nat} (h : no d v = true) (σ : Nat → Loc) (x : Loc) : ∀ e, no e v = false → upd σ d x e = σ e := fun e he => upd_ne _ _ fun heq => by subst heq; rw [h] at he; cases he

theorem Sim.std {N : Nat} {W0 : World} {X : Nat → Option Loc} {M0 : Nat → Option Obj} {T : Nat → Option Tv} {H : Nat → Option Blk} (hs : Sim N W0 X M0 M σ T H a w) : Std M σ w H := ⟨hs.imm, hs.blk, fun n b hb => (hs.loc n b hb).imp id (·.1), hs.inj⟩
theorem RC_same_blk {w w' : World} {x : Loc} {b : Blk} (hw : x.nil = false → w'.heap[x.b]? = w.heap[x.b]?) (h : BlkOk M σ w x b) : BlkOk M σ w' x b := h.mono (fun _ _ h => h) (fun _ _ => rfl) hw

theorem sim_go {N : Nat} {W0 : World} {X : Nat → Option Loc} {M0 : Nat → Option Obj} {T : Nat → Option Tv} {H : Nat → Option Blk} (hs : Sim N W0 X M0 M σ T H a w) {dst : Option Nat} {V : Value} {w' : World} {M' : Nat → Option Obj} {σ' : Nat → Loc} (ho : Outg M σ w dst V w' M' σ' g) (hok : GoOk N T H dst g) :
    Sim N W0 X M0 M' σ' (goT T dst g) (goH H dst g) (a.put dst V) w' := by
  have hdef : (∀ b o, M b = some o → M' b = some o) → DefsX X M0 M' (a.put dst V).defers := fun h => by cases dst <;> exact hs.defers.mono h
  have hroom : (a.put dst V).tmps.size = N := by cases dst <;> simp [Act.put, hs.room]
  have hpin0 : ∀ n x, X n = some x → N ≤ n ∧ σ n = x := hs.pin
  have hsub : (∀ b o, M b = some o → M' b = some o) → ∀ b o, M0 b = some o → M' b = some o := fun h b o hm => h b o (hs.sub b o hm)
  have hnew : (∀ b o, M' b = some o → M b = none → w.heap.size ≤ b) → ∀ b o, M' b = some o → M0 b = none → W0.heap.size ≤ b := fun h b o hm h0 => by
    cases hm2 : M b with
    | none => exact Nat.le_trans hs.size (h b o hm hm2)
    | some y => exact hs.new b y hm2 h0
  cases g with
  | val v =>
    obtain ⟨k, rfl, hv⟩ := ho
    have hpin := hpin0
    have hold : ∀ b, b < w.heap.size → w'.heap[b]? = w.heap[b]? := fun b hb => k.old b hb (fun h => h)
    have hblk : ∀ n b, H n = some b → BlkOk M' σ' w' (σ' n) b := fun n b hb => (hs.blk n b hb).mono k.sub (fun _ _ => rfl) fun hn => hold _ ((hs.blk n b hb).lt hn)
    have hloc : ∀ n b, H n = some b → (σ' n).nil = true ∨ (M' (σ' n).b = none ∧ (W0.heap.size ≤ (σ' n).b ∨ inX X (σ' n).b)) := fun n b hb => by
      cases hn : (σ' n).nil with
      | true => exact .inl rfl
      | false =>
        rcases hs.loc n b hb with h | ⟨h1, h2⟩
        · rw [hn] at h; cases h
        · refine .inr ⟨?_, h2⟩
          cases hm : M' (σ' n).b with
          | none => rfl
          | some y => have := k.new _ _ hm h1; have := (hs.blk n b hb).lt hn; omega
    have htm : ∀ i u, T i = some u → RT M' σ' u (a.tmps.getD i undef) := fun i u hu => RT_mono k.sub (fun _ _ => rfl) (hs.tmps i u hu)
    have base : ∀ t : Nat → Option Tv, (∀ i u, t i = some u → RT M' σ' u ((a.put dst V).tmps.getD i undef)) → Sim N W0 X M0 M' σ' t H (a.put dst V) w' := fun t ht =>
      ⟨k.os.trans hs.os, k.tape.trans hs.tape, k.output.trans hs.output, Nat.le_trans hs.size k.size, fun b hb hx => (hold b (Nat.lt_of_lt_of_le hb hs.size)).trans (hs.old b hb hx), hsub k.sub, hnew k.new, hpin, hdef k.sub, hroom, ht, k.imm, hblk, hloc, hs.inj⟩
    cases dst with
    | none => exact base T htm
    | some d =>
      refine base _ fun i u hu => ?_
      simp only [goT, putF] at hu
      rw [upd_get] at hu
      rw [getD_put hs.room (hok.1 d rfl)]
      by_cases hdi : d = i
      · simp only [hdi, if_true, Option.some.injEq] at hu ⊢; subst hu; exact hv
      · simp only [hdi, if_false] at hu ⊢; exact htm i u hu
  | wr n v b0 =>
    obtain ⟨k, rfl, hv, hb0⟩ := ho
    have hpin := hpin0
    obtain ⟨bn, hbn⟩ := Option.isSome_iff_exists.1 hok.2
    have hold : ∀ b, b < w.heap.size → ¬ only (σ' n) b → w'.heap[b]? = w.heap[b]? := fun b hb hne => k.old b hb hne
    have hblk : ∀ m b, upd H n (some b0) m = some b → BlkOk M' σ' w' (σ' m) b := fun m b hb => by
      rw [upd_get] at hb
      by_cases hnm : n = m
      · simp only [hnm, if_true, Option.some.injEq] at hb; subst hb; subst hnm; exact hb0
      · simp only [hnm, if_false] at hb
        refine (hs.blk m b hb).mono k.sub (fun _ _ => rfl) fun hn => hold _ ((hs.blk m b hb).lt hn) fun ho => ?_
        rcases hs.inj n m _ _ hbn hb hnm with h | h | h
        · rw [ho.1] at h; cases h
        · rw [hn] at h; cases h
        · exact h ho.2.symm
    have hloc0 : ∀ m b, H m = some b → (σ' m).nil = true ∨ (M' (σ' m).b = none ∧ (W0.heap.size ≤ (σ' m).b ∨ inX X (σ' m).b)) := fun n b hb => by
      cases hn : (σ' n).nil with
      | true => exact .inl rfl
      | false =>
        rcases hs.loc n b hb with h | ⟨h1, h2⟩
        · rw [hn] at h; cases h
        · refine .inr ⟨?_, h2⟩
          cases hm : M' (σ' n).b with
          | none => rfl
          | some y => have := k.new _ _ hm h1; have := (hs.blk n b hb).lt hn; omega
    have dom : ∀ m b, upd H n (some b0) m = some b → ∃ b', H m = some b' := fun m b hb => by
      rw [upd_get] at hb
      by_cases hnm : n = m
      · subst hnm; exact ⟨_, hbn⟩
      · simp only [hnm, if_false] at hb; exact ⟨_, hb⟩
    have htm : ∀ i u, T i = some u → RT M' σ' u (a.tmps.getD i undef) := fun i u hu => RT_mono k.sub (fun _ _ => rfl) (hs.tmps i u hu)
    have base : ∀ t : Nat → Option Tv, (∀ i u, t i = some u → RT M' σ' u ((a.put dst V).tmps.getD i undef)) → Sim N W0 X M0 M' σ' t (upd H n (some b0)) (a.put dst V) w' := fun t ht =>
      ⟨k.os.trans hs.os, k.tape.trans hs.tape, k.output.trans hs.output, Nat.le_trans hs.size k.size, fun b hb hx => (hold b (Nat.lt_of_lt_of_le hb hs.size) fun ho => by
          rcases hs.loc n _ hbn with h | ⟨_, h | h⟩
          · rw [ho.1] at h; cases h
          · have := ho.2; omega
          · exact hx (ho.2 ▸ h)).trans (hs.old b hb hx), hsub k.sub, hnew k.new, hpin, hdef k.sub, hroom, ht, k.imm, hblk, fun m b hb => (dom m b hb).elim fun b' hb' => hloc0 m b' hb', fun m1 m2 b1 b2 h1 h2 hne => (dom m1 b1 h1).elim fun b1' h1' => (dom m2 b2 h2).elim fun b2' h2' => hs.inj m1 m2 b1' b2' h1' h2' hne⟩
    cases dst with
    | none => exact base T htm
    | some d =>
      refine base _ fun i u hu => ?_
      simp only [goT, putF] at hu
      rw [upd_get] at hu
      rw [getD_put hs.room (hok.1 d rfl)]
      by_cases hdi : d = i
      · simp only [hdi, if_true, Option.some.injEq] at hu ⊢; subst hu; exact hv
      · simp only [hdi, if_false] at hu ⊢; exact htm i u hu
  | wrs l v =>
    obtain ⟨k, rfl, hv, hb0⟩ := ho
    have hpin := hpin0
    have hsome : ∀ n b, get l n = some b → (H n).isSome := hok.2
    have hold : ∀ b, b < w.heap.size → ¬ (∃ n, (get l n).isSome ∧ only (σ' n) b) → w'.heap[b]? = w.heap[b]? := fun b hb hne => k.old b hb hne
    have hcase : ∀ m b, orL l H m = some b → get l m = some b ∨ (get l m = none ∧ H m = some b) := fun m b hb => by
      unfold orL at hb
      split at hb
      · rename_i b' e; rw [e]; exact .inl hb
      · rename_i e; exact .inr ⟨e, hb⟩
    have hblk : ∀ m b, orL l H m = some b → BlkOk M' σ' w' (σ' m) b := fun m b hb => by
      rcases hcase m b hb with h1 | ⟨h1, h2⟩
      · exact hb0 m b h1
      · refine (hs.blk m b h2).mono k.sub (fun _ _ => rfl) fun hn => hold _ ((hs.blk m b h2).lt hn) ?_
        rintro ⟨n, hn1, ho⟩
        obtain ⟨bn, hbn⟩ := Option.isSome_iff_exists.1 hn1
        obtain ⟨b1, hb1⟩ := Option.isSome_iff_exists.1 (hsome n bn hbn)
        have hne : n ≠ m := fun e => by subst e; rw [h1] at hbn; cases hbn
        rcases hs.inj n m _ _ hb1 h2 hne with h | h | h
        · rw [ho.1] at h; cases h
        · rw [hn] at h; cases h
        · exact h ho.2.symm
    have hloc0 : ∀ m b, H m = some b → (σ' m).nil = true ∨ (M' (σ' m).b = none ∧ (W0.heap.size ≤ (σ' m).b ∨ inX X (σ' m).b)) := fun n b hb => by
      cases hn : (σ' n).nil with
      | true => exact .inl rfl
      | false =>
        rcases hs.loc n b hb with h | ⟨h1, h2⟩
        · rw [hn] at h; cases h
        · refine .inr ⟨?_, h2⟩
          cases hm : M' (σ' n).b with
          | none => rfl
          | some y => have := k.new _ _ hm h1; have := (hs.blk n b hb).lt hn; omega
    have dom : ∀ m b, orL l H m = some b → ∃ b', H m = some b' := fun m b hb => by
      rcases hcase m b hb with h1 | ⟨h1, h2⟩
      · exact Option.isSome_iff_exists.1 (hsome m b h1)
      · exact ⟨_, h2⟩
    have htm : ∀ i u, T i = some u → RT M' σ' u (a.tmps.getD i undef) := fun i u hu => RT_mono k.sub (fun _ _ => rfl) (hs.tmps i u hu)
    have base : ∀ t : Nat → Option Tv, (∀ i u, t i = some u → RT M' σ' u ((a.put dst V).tmps.getD i undef)) → Sim N W0 X M0 M' σ' t (orL l H) (a.put dst V) w' := fun t ht =>
      ⟨k.os.trans hs.os, k.tape.trans hs.tape, k.output.trans hs.output, Nat.le_trans hs.size k.size, fun b hb hx => (hold b (Nat.lt_of_lt_of_le hb hs.size) fun ⟨n, hn1, ho⟩ => by
          obtain ⟨bn, hbn⟩ := Option.isSome_iff_exists.1 hn1
          obtain ⟨b1, hb1⟩ := Option.isSome_iff_exists.1 (hsome n bn hbn)
          rcases hs.loc n _ hb1 with h | ⟨_, h | h⟩
          · rw [ho.1] at h; cases h
          · have := ho.2; omega
          · exact hx (ho.2 ▸ h)).trans (hs.old b hb hx), hsub k.sub, hnew k.new, hpin, hdef k.sub, hroom, ht, k.imm, hblk, fun m b hb => (dom m b hb).elim fun b' hb' => hloc0 m b' hb', fun m1 m2 b1 b2 h1 h2 hne => (dom m1 b1 h1).elim fun b1' h1' => (dom m2 b2 h2).elim fun b2' h2' => hs.inj m1 m2 b1' b2' h1' h2' hne⟩
    cases dst with
    | none => exact base T htm
    | some d =>
      refine base _ fun i u hu => ?_
      simp only [goT, putF] at hu
      rw [upd_get] at hu
      rw [getD_put hs.room (hok.1 d rfl)]
      by_cases hdi : d = i
      · simp only [hdi, if_true, Option.some.injEq] at hu ⊢; subst hu; exact hv
      · simp only [hdi, if_false] at hu ⊢; exact htm i u hu
  | new b0 v =>
    obtain ⟨x, d, rfl, k, hx, rfl, hb0, hv⟩ := ho
    obtain ⟨hdN, d', hdd, hf, hno⟩ := hok
    injection hdd with hdd
    subst hdd
    have hd := hdN d rfl
    have hpin : ∀ n y, X n = some y → N ≤ n ∧ upd σ d x n = y := fun n y hy => by
      obtain ⟨h1, h2⟩ := hpin0 n y hy
      exact ⟨h1, by rw [upd_ne _ _ (by omega)]; exact h2⟩
    have hold : ∀ b, b < w.heap.size → w'.heap[b]? = w.heap[b]? := fun b hb => k.old b hb (fun h => h)
    have hse : ∀ n b, H n = some b → upd σ d x n = σ n := fun n b hb => upd_ne _ _ (hf.2 n b hb).1
    have cases_ : ∀ n b, upd H d (some b0) n = some b → (n = d ∧ b = b0) ∨ (n ≠ d ∧ H n = some b) := fun n b hb => by
      rw [upd_get] at hb
      by_cases hdn : d = n
      · simp only [hdn, if_true, Option.some.injEq] at hb; exact .inl ⟨hdn.symm, hb.symm⟩
      · simp only [hdn, if_false] at hb; exact .inr ⟨Ne.symm hdn, hb⟩
    refine ⟨k.os.trans hs.os, k.tape.trans hs.tape, k.output.trans hs.output, Nat.le_trans hs.size k.size, fun b hb hx => (hold b (Nat.lt_of_lt_of_le hb hs.size)).trans (hs.old b hb hx), hsub k.sub, hnew k.new, hpin, hdef k.sub, hroom, fun i u hu => ?_, k.imm, fun n b hb => ?_, fun n b hb => ?_, fun n m b c hb hc hne => ?_⟩
    · simp only [goT] at hu
      rw [upd_get] at hu
      rw [getD_put hs.room hd]
      by_cases hdi : d = i
      · simp only [hdi, if_true, Option.some.injEq] at hu ⊢; subst hu; subst hdi; exact hv
      · simp only [hdi, if_false] at hu ⊢; exact RT_mono k.sub (no_upd Tv.no (hf.1 i u hu) σ x) (hs.tmps i u hu)
    · rcases cases_ n b hb with ⟨rfl, rfl⟩ | ⟨_, hb⟩
      · rw [upd_same]; exact hb0
      · rw [hse n b hb]; exact (hs.blk n b hb).mono k.sub (no_upd Blk.no (hf.2 n b hb).2 σ x) fun hn => hold _ ((hs.blk n b hb).lt hn)
    · rcases cases_ n b hb with ⟨rfl, rfl⟩ | ⟨_, hb⟩
      · rw [upd_same]
        rcases hx with h | ⟨h1, h2⟩
        · exact .inl h
        · exact .inr ⟨h2, .inl (Nat.le_trans hs.size h1)⟩
      · rw [hse n b hb]
        cases hn : (σ n).nil with
        | true => exact .inl rfl
        | false =>
          rcases hs.loc n b hb with h | ⟨h1, h2⟩
          · rw [hn] at h; cases h
          · refine .inr ⟨?_, h2⟩
            cases hm : M' (σ n).b with
            | none => rfl
            | some y => have := k.new _ _ hm h1; have := (hs.blk n b hb).lt hn; omega
    · have apart : ∀ m c, H m = some c → x.nil = true ∨ (σ m).nil = true ∨ x.b ≠ (σ m).b := fun m c hc => by
        cases hn : (σ m).nil with
        | true => exact .inr (.inl rfl)
        | false =>
          have := (hs.blk m c hc).lt hn
          rcases hx with h | ⟨h1, _⟩
          · exact .inl h
          · exact .inr (.inr (by omega))
      rcases cases_ n b hb with ⟨e1, e2⟩ | ⟨_, hb'⟩ <;> rcases cases_ m c hc with ⟨e3, e4⟩ | ⟨_, hc'⟩
      · exact absurd (e1.trans e3.symm) hne
      · rw [e1, upd_same, hse m c hc']; exact apart m c hc'
      · rw [e3, upd_same, hse n b hb']
        rcases apart n b hb' with h | h | h
        · exact .inr (.inl h)
        · exact .inl h
        · exact .inr (.inr (Ne.symm h))
      · rw [hse n b hb', hse m c hc']; exact hs.inj n m b c hb' hc' hne
  | app p b0 v =>
    obtain ⟨x, d, rfl, k, hx, rfl, hb0, hv⟩ := ho
    obtain ⟨hdN, d', hdd, hf, _, hbp⟩ := hok
    injection hdd with hdd
    subst hdd
    have hd := hdN d rfl
    have hpin : ∀ n y, X n = some y → N ≤ n ∧ upd σ d x n = y := fun n y hy => by
      obtain ⟨h1, h2⟩ := hpin0 n y hy
      exact ⟨h1, by rw [upd_ne _ _ (by omega)]; exact h2⟩
    obtain ⟨bp, hbp⟩ := Option.isSome_iff_exists.1 hbp
    have hold : ∀ b, b < w.heap.size → ¬ only (σ p) b → w'.heap[b]? = w.heap[b]? := fun b hb hne => k.old b hb hne
    have hse : ∀ n b, H n = some b → upd σ d x n = σ n := fun n b hb => upd_ne _ _ (hf.2 n b hb).1
    have cases_ : ∀ n b, upd (upd H p none) d (some b0) n = some b → (n = d ∧ b = b0) ∨ (n ≠ d ∧ n ≠ p ∧ H n = some b) := fun n b hb => by
      rw [upd_get] at hb
      by_cases hdn : d = n
      · simp only [hdn, if_true, Option.some.injEq] at hb; exact .inl ⟨hdn.symm, hb.symm⟩
      · simp only [hdn, if_false, upd_get] at hb
        by_cases hpn : p = n
        · simp [hpn] at hb
        · simp only [hpn, if_false] at hb; exact .inr ⟨Ne.symm hdn, Ne.symm hpn, hb⟩
    have apartp : ∀ n b, H n = some b → n ≠ p → (σ n).nil = false → ¬ only (σ p) (σ n).b := fun n b hb hne hn ho => by
      rcases hs.inj n p _ _ hb hbp hne with h | h | h
      · rw [hn] at h; cases h
      · rw [ho.1] at h; cases h
      · exact h ho.2
    refine ⟨k.os.trans hs.os, k.tape.trans hs.tape, k.output.trans hs.output, Nat.le_trans hs.size k.size, fun b hb hX => (hold b (Nat.lt_of_lt_of_le hb hs.size) fun ho => ?_).trans (hs.old b hb hX), hsub k.sub, hnew k.new, hpin, hdef k.sub, hroom, fun i u hu => ?_, k.imm, fun n b hb => ?_, fun n b hb => ?_, fun n m b c hb hc hne => ?_⟩
    · rcases hs.loc p _ hbp with h | ⟨_, h | h⟩
      · rw [ho.1] at h; cases h
      · have := ho.2; omega
      · exact hX (ho.2 ▸ h)
    · simp only [goT] at hu
      rw [upd_get] at hu
      rw [getD_put hs.room hd]
      by_cases hdi : d = i
      · simp only [hdi, if_true, Option.some.injEq] at hu ⊢; subst hu; subst hdi; exact hv
      · simp only [hdi, if_false] at hu ⊢; exact RT_mono k.sub (no_upd Tv.no (hf.1 i u hu) σ x) (hs.tmps i u hu)
    · rcases cases_ n b hb with ⟨rfl, rfl⟩ | ⟨_, hnp, hb⟩
      · rw [upd_same]; exact hb0
      · rw [hse n b hb]; exact (hs.blk n b hb).mono k.sub (no_upd Blk.no (hf.2 n b hb).2 σ x) fun hn => hold _ ((hs.blk n b hb).lt hn) (apartp n b hb hnp hn)
    · rcases cases_ n b hb with ⟨rfl, rfl⟩ | ⟨_, hnp, hb⟩
      · rw [upd_same]
        rcases hx with h | ⟨h1, h2⟩ | ⟨h1, h2⟩
        · exact .inl h
        · refine .inr ⟨h2, ?_⟩
          rcases hs.loc p _ hbp with h | ⟨_, h⟩
          · rw [h1.1] at h; cases h
          · rw [h1.2]; exact h
        · exact .inr ⟨h2, .inl (Nat.le_trans hs.size h1)⟩
      · rw [hse n b hb]
        cases hn : (σ n).nil with
        | true => exact .inl rfl
        | false =>
          rcases hs.loc n b hb with h | ⟨h1, h2⟩
          · rw [hn] at h; cases h
          · refine .inr ⟨?_, h2⟩
            cases hm : M' (σ n).b with
            | none => rfl
            | some y => have := k.new _ _ hm h1; have := (hs.blk n b hb).lt hn; omega
    · have apart : ∀ m c, m ≠ p → H m = some c → x.nil = true ∨ (σ m).nil = true ∨ x.b ≠ (σ m).b := fun m c hmp hc => by
        cases hn : (σ m).nil with
        | true => exact .inr (.inl rfl)
        | false =>
          have := (hs.blk m c hc).lt hn
          rcases hx with h | ⟨h1, _⟩ | ⟨h1, _⟩
          · exact .inl h
          · refine .inr (.inr fun e => apartp m c hc hmp hn ⟨h1.1, ?_⟩)
            rw [← e]; exact h1.2
          · exact .inr (.inr (by omega))
      rcases cases_ n b hb with ⟨e1, e2⟩ | ⟨_, hnp, hb'⟩ <;> rcases cases_ m c hc with ⟨e3, e4⟩ | ⟨_, hmp, hc'⟩
      · exact absurd (e1.trans e3.symm) hne
      · rw [e1, upd_same, hse m c hc']; exact apart m c hmp hc'
      · rw [e3, upd_same, hse n b hb']
        rcases apart n b hnp hb' with h | h | h
        · exact .inr (.inl h)
        · exact .inl h
        · exact .inr (.inr (Ne.symm h))
      · rw [hse n b hb', hse m c hc']; exact hs.inj n m b c hb' hc' hne
end
end Go.Proofs.Ytgmhnkoifdpemaa
