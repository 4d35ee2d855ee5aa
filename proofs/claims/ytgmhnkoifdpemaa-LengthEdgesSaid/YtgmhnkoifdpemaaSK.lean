/-
  No statement is proved in this text. It shows that the model does what the effects say: maps of the function's own.
-/
import Derived.Test.YtgmhnkoifdpemaaS9
import Derived.WideKeyRuns
namespace Go.Proofs.Ytgmhnkoifdpemaa
open Go.RowKit Go.MapKept
set_option linter.unusedSimpArgs false
set_option linter.unusedVariables false

section
variable {P : Program} {M : Nat → Option Obj} {σ : Nat → Loc} {w : World} {h : Nat → Option Blk} {a : Act} {o : Oper} {cs : List Prop} {g : Eg} {e : Ef}

/-! ### Keys -/
theorem ba_inj {a b : ByteArray} (h : a.toList = b.toList) : a = b := by
  rw [ByteArray.toList_eq, ByteArray.toList_eq] at h
  obtain ⟨⟨x⟩⟩ := a
  obtain ⟨⟨y⟩⟩ := b
  simpa using h
theorem fit_eqV : ∀ (ks : List Kd) (l m : List Value), fitV ks l = true → fitV ks m = true → ∃ r, eqV ks (l.map Cl.val) (m.map Cl.val) = some r ∧ (r = true ↔ l = m) := by
  intro ks
  induction ks with
  | nil =>
    intro l m hl hm
    cases l <;> cases m <;> simp [fitV] at hl hm
    exact ⟨true, rfl, by simp⟩
  | cons k ks ih =>
    intro l m hl hm
    unfold fitV at hl hm
    split at hl
    · cases ‹_ = []›
    · rename_i k1 k2 v vs e1
      injection e1 with e1 e2
      subst e1; subst e2
      split at hm
      · cases ‹_ = []›
      · rename_i k3 k4 u us e1
        injection e1 with e1 e2
        injection e1 with e1
        subst e1; subst e2
        simp only [Bool.and_eq_true, decide_eq_true_eq] at hl hm
        obtain ⟨r, h1, h2⟩ := ih _ _ hl.2 hm.2
        refine ⟨decide (v = u) && r, ?_, ?_⟩
        · simp only [List.map_cons, eqV, hl.1, hm.1, and_self, if_true, h1, Option.map_some]
        · simp only [Bool.and_eq_true, decide_eq_true_eq, h2, List.cons.injEq, hl.1, hm.1, Value.int.injEq, true_and]
      · rename_i e1; cases e1
      · rename_i e1; cases e1
      · cases hm
    · rename_i v vs e1
      injection e1 with e1 e2
      subst e1; subst e2
      split at hm
      · cases ‹_ = []›
      · rename_i e1; cases e1
      · rename_i u us e1
        injection e1 with _ e2
        subst e2
        obtain ⟨r, h1, h2⟩ := ih _ _ hl hm
        refine ⟨(v == u) && r, ?_, ?_⟩
        · simp only [List.map_cons, eqV, h1, Option.map_some]
        · simp only [Bool.and_eq_true, beq_iff_eq, h2, List.cons.injEq, Value.bool.injEq]
      · rename_i e1; cases e1
      · cases hm
    · rename_i v vs e1
      injection e1 with e1 e2
      subst e1; subst e2
      split at hm
      · cases ‹_ = []›
      · rename_i e1; cases e1
      · rename_i e1; cases e1
      · rename_i u us e1
        injection e1 with _ e2
        subst e2
        obtain ⟨r, h1, h2⟩ := ih _ _ hl hm
        refine ⟨(v.toList == u.toList) && r, ?_, ?_⟩
        · simp only [List.map_cons, eqV, h1, Option.map_some]
        · simp only [Bool.and_eq_true, beq_iff_eq, h2, List.cons.injEq, Value.string.injEq]
          constructor
          · rintro ⟨h3, h4⟩; exact ⟨ba_inj h3, h4⟩
          · rintro ⟨rfl, h4⟩; exact ⟨rfl, h4⟩
      · cases hm
    · cases hl
theorem fit_one : ∀ (ks : List Kd) (l : List Value), fitV ks l = true → l.all Value.oneCell' = true ∧ l.length = ks.length := by
  intro ks
  induction ks with
  | nil => intro l h; cases l <;> simp [fitV] at h; exact ⟨rfl, rfl⟩
  | cons k ks ih =>
    intro l hl
    unfold fitV at hl
    split at hl
    · cases ‹_ = []›
    · rename_i e1
      injection e1 with e1 e2
      subst e2
      simp only [Bool.and_eq_true, decide_eq_true_eq] at hl
      obtain ⟨h1, h2⟩ := ih _ hl.2
      exact ⟨by simp only [List.all_cons, h1, Bool.and_true]; rfl, by simp [h2]⟩
    · rename_i e1
      injection e1 with e1 e2
      subst e2
      obtain ⟨h1, h2⟩ := ih _ hl
      exact ⟨by simp only [List.all_cons, h1, Bool.and_true]; rfl, by simp [h2]⟩
    · rename_i e1
      injection e1 with e1 e2
      subst e2
      obtain ⟨h1, h2⟩ := ih _ hl
      exact ⟨by simp only [List.all_cons, h1, Bool.and_true]; rfl, by simp [h2]⟩
    · cases hl
theorem fit_bits (n : Nat) : ∀ (ks : List Kd) (l : List Value), fitV ks l = true → ((l.zip l).all fun (x, y) => Instr.sameBits (n + 1) x y) = true := by
  intro ks
  induction ks with
  | nil => intro l h; cases l <;> simp [fitV] at h; rfl
  | cons k ks ih =>
    intro l hl
    unfold fitV at hl
    split at hl
    · cases ‹_ = []›
    · rename_i e1
      injection e1 with e1 e2
      subst e2
      simp only [Bool.and_eq_true, decide_eq_true_eq] at hl
      simp only [List.zip_cons_cons, List.all_cons, ih _ hl.2, Bool.and_true, Instr.sameBits, beq_self_eq_true]
    · rename_i e1
      injection e1 with e1 e2
      subst e2
      simp only [List.zip_cons_cons, List.all_cons, ih _ hl, Bool.and_true, Instr.sameBits, beq_self_eq_true]
    · rename_i e1
      injection e1 with e1 e2
      subst e2
      simp only [List.zip_cons_cons, List.all_cons, ih _ hl, Bool.and_true, Instr.sameBits, (bytes_beq _ _).2 rfl]
    · cases hl
theorem fit_stays {E : TypeId → Option (List Kd)} {kt : TypeId} {k : Value} (hk : KeyFit P E kt k) : (Instr.keyThatStays k k).run P w = .ok k w := by
  have : Instr.sameBits 10000 k k = true := by
    rcases hk with ⟨kd, _, h1⟩ | ⟨ks, vs, fs, _, _, _, rfl, h2⟩
    · exact sameBits_self h1 10000
    · show Instr.sameBits (9999 + 1) (.agg vs) (.agg vs) = true
      simp only [Instr.sameBits, beq_self_eq_true, Bool.true_and]
      exact fit_bits 9998 ks _ h2
  simp [Instr.keyThatStays, this]
theorem fit_check {E : TypeId → Option (List Kd)} {kt : TypeId} {k : Value} (hk : KeyFit P E kt k) (em : Bool) : (Instr.checkKey em 10000 kt k).run P w = .ok () w := by
  rcases hk with ⟨kd, hu, h1⟩ | ⟨ks, vs, fs, _, hu, hsc, rfl, h2⟩
  · exact run_checkKey hu h1 em 9999
  · obtain ⟨_, hlen⟩ := fit_one _ _ h2
    rw [show (10000 : Nat) = 9998 + 1 + 1 from rfl, Instr.checkKey]
    simp only [Sem.run_bind, run_underlying hu, Result.andThen_ok]
    rw [← Array.forIn_toList]
    unfold scalF at hsc
    generalize fs.toList = L at hsc
    induction L with
    | nil => simp
    | cons f L ih =>
      simp only [List.all_cons, Bool.and_eq_true, bne_iff_ne, ne_eq] at hsc
      obtain ⟨⟨hn, hlt, hsT⟩, hrest⟩ := hsc
      have hlt' : f.offset < vs.size := by
        have := Nat.le_of_ble_eq_true hlt
        have : vs.toList.length = vs.size := by simp
        omega
      have hpart : (part f.type vs f.offset).run P w = .ok vs[f.offset] w ∧ (Instr.checkKey em (9998 + 1) f.type vs[f.offset]).run P w = .ok () w := by
        unfold scalT at hsT
        cases ht : ti P f.type with
        | none => rw [ht] at hsT; cases hsT
        | some t =>
          obtain ⟨s, ag, d⟩ := t
          rw [ht] at hsT
          have ha := agg_of_ti ht
          obtain ⟨_, hag, hu', _, _⟩ := run_ti ht w
          have hagf : ag = false := by
            simp only at ha
            rw [ha]
            cases d <;> simp at hsT <;> rfl
          rw [hagf] at hag
          refine ⟨?_, ?_⟩
          · simp [part, hag, hlt']
          · unfold Instr.checkKey
            simp only [Sem.run_bind, hu', Result.andThen_ok]
            cases d <;> simp at hsT <;> rfl
      simp only [List.forIn_cons, Sem.run_bind, hn, ne_eq, not_false_eq_true, if_true, Result.andThen_ok, hpart.1, hpart.2, Sem.run_pure]
      exact ih hrest
/-! ### Finding -/
theorem ask_at {kt : TypeId} {key : Value} : ∀ (l : List MapEntry) (n i : Nat) (e : MapEntry), (∀ x ∈ l, ∃ r, (Op.equal kt key x.key).run P w = .ok r w ∧ (r = true ↔ key = x.key)) → l[i]? = some e → e.key = key → (∀ j x, j < i → l[j]? = some x → x.key ≠ key) →
    (Instr.findAsking kt key l n).run P w = .ok (some (n + i, e.val)) w
  | [], n, i, e, _, h, _, _ => by simp at h
  | y :: l, n, i, e, hq, h, hk, hb => by
    obtain ⟨r, h1, h2⟩ := hq y (.head _)
    simp only [Instr.findAsking, Sem.run_bind, h1, Result.andThen_ok]
    cases i with
    | zero =>
      simp at h
      subst h
      have : r = true := h2.2 hk.symm
      subst this
      simp
    | succ i =>
      have : r = false := by
        cases r
        · rfl
        · exact absurd (h2.1 rfl).symm (hb 0 y (by omega) rfl)
      subst this
      simp only [Bool.false_eq_true, if_false]
      rw [ask_at l (n + 1) i e (fun x hx => hq x (.tail _ hx)) (by simpa using h) hk fun j x hj hx => hb (j + 1) x (by omega) (by simpa using hx), show n + 1 + i = n + (i + 1) by omega]
theorem ask_none {kt : TypeId} {key : Value} : ∀ (l : List MapEntry) (n : Nat), (∀ x ∈ l, ∃ r, (Op.equal kt key x.key).run P w = .ok r w ∧ (r = true ↔ key = x.key)) → (∀ x ∈ l, x.key ≠ key) → (Instr.findAsking kt key l n).run P w = .ok none w
  | [], n, _, _ => by simp [Instr.findAsking]
  | y :: l, n, hq, hb => by
    obtain ⟨r, h1, h2⟩ := hq y (.head _)
    have : r = false := by
      cases r
      · rfl
      · exact absurd (h2.1 rfl).symm (hb y (.head _))
    subst this
    simp only [Instr.findAsking, Sem.run_bind, h1, Result.andThen_ok, Bool.false_eq_true, if_false]
    exact ask_none l (n + 1) (fun x hx => hq x (.tail _ hx)) fun x hx => hb x (.tail _ hx)
theorem fit_asks {V : Env P} (hV : EqOk P V) {kt : TypeId} {k k' : Value} {ks : List Kd} {vs us : Array Value} (hE : V.E kt = some ks) (h1 : fitV ks vs.toList = true) (h2 : fitV ks us.toList = true) : ∃ r, (Op.equal kt (.agg vs) (.agg us)).run P w = .ok r w ∧ (r = true ↔ Value.agg vs = Value.agg us) := by
  obtain ⟨r, e1, e2⟩ := fit_eqV ks _ _ h1 h2
  have f1 := fit_one _ _ h1
  have f2 := fit_one _ _ h2
  have := eq_agg (M := fun _ => none) (σ := fun _ => ⟨0, 0, false⟩) (w := w) hV hE (L2_vals _ _ _ f1.1) (L2_vals _ _ _ f2.1) e1
  refine ⟨r, ?_, ?_⟩
  · simp only [Array.toArray_toList] at this
    exact this
  · rw [e2]
    constructor
    · intro h; congr 1; exact Array.toList_inj.1 h
    · intro h; injection h with h; rw [h]
theorem fit_same {E : TypeId → Option (List Kd)} {kt : TypeId} {k : Value} {kd : TypeDesc} (hu : P.underlying kt = some kd) (hk : KeyFit P E kt k) : IsKey kd k ∨ ∃ ks vs fs, E kt = some ks ∧ kd = .struct fs ∧ k = .agg vs ∧ fitV ks vs.toList = true := by
  rcases hk with ⟨kd', h1, h2⟩ | ⟨ks, vs, fs, h1, h2, _, h3, h4⟩
  · rw [hu] at h1; injection h1 with h1; subst h1; exact .inl h2
  · rw [hu] at h2; injection h2 with h2; exact .inr ⟨ks, vs, fs, h1, h2, h3, h4⟩
theorem fit_kd {E : TypeId → Option (List Kd)} {kt : TypeId} {k : Value} (hk : KeyFit P E kt k) : ∃ kd, P.underlying kt = some kd := by
  rcases hk with ⟨kd', h1, h2⟩ | ⟨ks, vs, fs, h1, h2, _⟩
  · exact ⟨_, h1⟩
  · exact ⟨_, h2⟩
theorem not_key_struct {fs : Array Field} {v : Value} : ¬ IsKey (.struct fs) v := by cases v <;> simp [IsKey]
theorem find_at {V : Env P} (hV : EqOk P V) {kt : TypeId} {key : Value} (hk : KeyFit P V.E kt key) {l : List MapEntry} (hl : ∀ x ∈ l, KeyFit P V.E kt x.key) {i : Nat} {e : MapEntry} (he : l[i]? = some e) (hek : e.key = key) (hb : ∀ j x, j < i → l[j]? = some x → x.key ≠ key) :
    (Instr.findKey kt key l).run P w = .ok (some (i, e.val)) w := by
  obtain ⟨kd, hu⟩ := fit_kd hk
  rcases fit_same hu hk with h1 | ⟨ks, vs, fs, hE, rfl, rfl, hf⟩
  · have hall : ∀ x ∈ l, IsKey kd x.key := fun x hx => by
      rcases fit_same hu (hl x hx) with h2 | ⟨_, _, fs, _, rfl, _⟩
      · exact h2
      · exact absurd h1 not_key_struct
    have := findNow_at h1 l 0 i hall e he hek hb
    rw [Nat.zero_add] at this
    exact run_findKey hu this
  · rw [run_findKey_eq w (by rw [hu])]
    have := ask_at (P := P) (w := w) (kt := kt) (key := .agg vs) l 0 i e (fun x hx => by
      rcases fit_same hu (hl x hx) with h2 | ⟨ks2, us, fs2, hE2, _, h4, h5⟩
      · exact absurd h2 not_key_struct
      · rw [hE] at hE2; injection hE2 with hE2; subst hE2
        rw [h4]
        exact fit_asks (k := .agg vs) (k' := .agg us) hV hE hf h5) he hek hb
    rw [Nat.zero_add] at this
    exact this
theorem find_none {V : Env P} (hV : EqOk P V) {kt : TypeId} {key : Value} (hk : KeyFit P V.E kt key) {l : List MapEntry} (hl : ∀ x ∈ l, KeyFit P V.E kt x.key) (hb : ∀ x ∈ l, x.key ≠ key) :
    (Instr.findKey kt key l).run P w = .ok none w := by
  obtain ⟨kd, hu⟩ := fit_kd hk
  rcases fit_same hu hk with h1 | ⟨ks, vs, fs, hE, rfl, rfl, hf⟩
  · have hall : ∀ x ∈ l, IsKey kd x.key := fun x hx => by
      rcases fit_same hu (hl x hx) with h2 | ⟨_, _, fs, _, rfl, _⟩
      · exact h2
      · exact absurd h1 not_key_struct
    exact run_findKey hu (findNow_none h1 l 0 hall hb)
  · rw [run_findKey_eq w (by rw [hu])]
    exact ask_none (P := P) (w := w) (kt := kt) (key := .agg vs) l 0 (fun x hx => by
      rcases fit_same hu (hl x hx) with h2 | ⟨ks2, us, fs2, hE2, _, h4, h5⟩
      · exact absurd h2 not_key_struct
      · rw [hE] at hE2; injection hE2 with hE2; subst hE2
        rw [h4]
        exact fit_asks (k := .agg vs) (k' := .agg us) hV hE hf h5) hb
/-- A key's value. -/
theorem keyA_ok {ka : Av} {key V : Value} (hk : keyA ka = some key) (hR : RA M σ ka V) : V = key := by
  unfold keyA at hk
  split at hk
  · simp only [Option.some.injEq] at hk
    subst hk
    exact hR.1
  · rename_i l
    cases hb : l.all isVal with
    | false => rw [hb] at hk; cases hk
    | true =>
      rw [hb] at hk
      simp only [cond_true, Option.some.injEq] at hk
      subst hk
      obtain ⟨vs, rfl, h2⟩ := hR
      congr 2
      induction h2 with
      | nil => rfl
      | @cons c v l vs h3 _ ih =>
        simp only [List.all_cons, Bool.and_eq_true] at hb
        rw [List.map_cons, ← ih hb.2]
        congr 1
        cases c <;> simp [isVal] at hb
        exact h3.1
  · cases hk

/-! ### Operations -/
theorem makeMap_ok {T : TypeId} (ho : o.op = .makeMap T none) (he : effMakeMap P T = some e) (hs : Std M σ w h) (hr : res h e = some (cs, g)) {d : Nat} (hd : o.dst = some d) : Good P M σ o a w g := by
  unfold effMakeMap at he
  split at he
  · split at he
    · rename_i z hz
      simp only [Option.some.injEq] at he
      subst he
      simp only [res, Option.some.injEq, Prod.mk.injEq] at hr
      obtain ⟨rfl, rfl⟩ := hr
      refine .inl ⟨.map (some w.heap.size), w.alloc (.map #[] 0), ?_, M, upd σ d ⟨w.heap.size, 0, false⟩, ⟨w.heap.size, 0, false⟩, d, hd, ?_, .inr ⟨Nat.le_refl _, ?_⟩, rfl, ?_, ?_⟩
      · simp only [execOp, ho, Option.map_none, Instr.makeMap, Sem.run_bind, run_newObj, Result.andThen_ok, Sem.run_pure]
        rfl
      · refine ⟨rfl, rfl, rfl, ?_, fun b hb _ => (heap_alloc w _).2 b hb, fun _ _ h => h, fun _ _ h h' => by (rw [h] at h'; cases h'), fun b o hm => ?_⟩
        · show w.heap.size ≤ (w.heap.push _).size
          simp
        · have hb := hs.imm b o hm
          have hlt : b < w.heap.size := (Array.getElem?_eq_some_iff.1 hb).1
          rw [(heap_alloc w _).2 b hlt]; exact hb
      · cases hM : M w.heap.size with
        | none => rfl
        | some o => have := (Array.getElem?_eq_some_iff.1 (hs.imm _ _ hM)).1; omega
      · refine ⟨rfl, #[], 0, fun _ _ => undef, (heap_alloc w _).1, rfl, fun i e he => by simp at he, fun i j hi => absurd hi (Nat.not_lt_zero _)⟩
      · show Value.map _ = .map (some (upd σ d _ d).b)
        rw [upd_same]
    · cases he
  · cases he
theorem zero_cases {el : TypeId} {agg : Bool} {nv : Nat} {z : List Cl} {iz : TypeInfo} {zv : Value} (hiz : P.info? el = some iz) (hzv : iz.zero = some zv) (hzL : L2 (R M σ) z zv.cells.toList) (hzm : z = zv.cells.toList.map Cl.val) (e1 : agg = zeroAgg P el) (hb4 : agg = true ∨ nv = 1) (hzl : z.length = nv) :
    (agg = true → ∃ zs : Array Value, zv = .agg zs) ∧ (agg = false → zv.oneCell' = true ∧ z = [.val zv]) := by
  unfold zeroAgg at e1
  rw [hiz] at e1
  simp only [hzv] at e1
  constructor
  · intro hag
    rw [hag] at e1
    split at e1
    · rename_i zs heq; injection heq with heq; exact ⟨zs, heq⟩
    · cases e1
  · intro hag
    rw [hag] at e1 hb4
    have hne : ∀ zs, zv ≠ .agg zs := fun zs e => by subst e; simp at e1
    have hcells : zv.cells = #[zv] := by cases zv <;> first | rfl | exact absurd rfl (hne _)
    rw [hcells] at hzm hzL
    simp only [List.map_cons, List.map_nil] at hzm
    refine ⟨?_, hzm⟩
    subst hzm
    cases hzL with | cons q1 _ => exact q1.2
theorem lookO_ok {V : Env P} (hV : EqOk P V) {q : Option (Bool × Nat)} {T : TypeId} {x k : Operand} {cok : Bool} {n : Nat} {v : Tv} (ho : o.op = .lookup T x k cok) (hx : RT M σ (.av (.one (.om n))) (a.eval x)) (hk : RT M σ v (a.eval k)) (he : effLookO P V.E q T n v cok = some e) (hs : Std M σ w h) (hr : res h e = some (cs, g)) (hc : AllP cs) : Good P M σ o a w g := by
  unfold effLookO at he
  split at he
  · rename_i s ag kt el ka found i ht
    split at he
    · rename_i key z hkey hz
      simp only [Option.some.injEq] at he
      subst he
      simp only [res, geth] at hr
      cases hn : h n with
      | none => rw [hn] at hr; cases hr
      | some blk =>
        rw [hn] at hr
        cases blk with
        | cells => cases hr
        | row => cases hr
        | omap agg nv len kf vf =>
        simp only at hr
        cases hb : (Nat.beq z.length nv && (agg == zeroAgg P el) && (agg || Nat.beq nv 1)) with
        | false => rw [hb] at hr; cases hr
        | true =>
          rw [hb] at hr
          simp only [cond_true, Option.some.injEq, Prod.mk.injEq] at hr
          obtain ⟨rfl, rfl⟩ := hr
          simp only [Bool.and_eq_true] at hb
          obtain ⟨⟨hb1, hb3⟩, hb4⟩ := hb
          have hzl := Nat.eq_of_beq_eq_true hb1
          obtain ⟨_, _, hu, _, _⟩ := run_ti ht w
          obtain ⟨iz, zv, hiz, hzv, hzL, hzm, hzr⟩ := zeroOf_ok (M := M) (σ := σ) (w := w) hz
          obtain ⟨hk0, hk1, hk2, hk3⟩ := hc.head
          have hkv : a.eval k = key := keyA_ok hkey hk
          have hX : a.eval x = .map (some (σ n).b) := hx
          obtain ⟨hnil, es, clock, gv, hblk, h1, h2, h3⟩ := hs.blk n _ hn
          have hkeys : ∀ e ∈ es.toList, KeyFit P V.E kt e.key := fun e he => by
            obtain ⟨j, hj⟩ := List.mem_iff_getElem?.1 he
            have hj' : es[j]? = some e := by simpa using hj
            rw [(h2 j e hj').1]
            exact hk1 j (by rw [← h1]; exact (Array.getElem?_eq_some_iff.1 hj').1)
          have hb4' : agg = true ∨ nv = 1 := by
            cases agg
            · exact .inr (Nat.eq_of_beq_eq_true hb4)
            · exact .inl rfl
          have hzagg := zero_cases hiz hzv hzL hzm (by simpa using hb3) hb4' hzl
          have fin : ∀ (r : Option (Nat × Value)) (V : Value), (Instr.findKey kt key es.toList).run P w = .ok r w → (match r with
              | some (_, v) => v
              | none => zv) = V → r.isSome = found → RA M σ (lookV agg found nv (vf i) z) V → Good P M σ o a w (.val (bif cok then .tup [(lookV agg found nv (vf i) z), .one (.val (.bool found))] else .av (lookV agg found nv (vf i) z))) := by
            intro r V hrun hV hf hR
            refine good_val hs.imm (V := if cok then .tuple #[V, .bool found] else V) ?_ ?_
            · have hck := fit_check (w := w) hk0 es.isEmpty
              simp only [execOp, ho, hX, hkv, Instr.lookup, Sem.run_bind, hu, Result.andThen_ok, Go.MapKept.run_getObj_map hblk, Sem.run_pure, hck, hrun]
              cases r with
              | some p =>
                simp only at hV
                subst hV
                simp only [Option.isSome_some] at hf
                subst hf
                rfl
              | none =>
                simp only at hV
                subst hV
                simp only [Option.isSome_none] at hf
                subst hf
                simp only [Sem.run_bind, hzr, Result.andThen_ok, Sem.run_pure]
            · cases cok with
              | true => exact ⟨[V, .bool found], rfl, .cons hR (.cons ⟨rfl, rfl⟩ .nil)⟩
              | false => exact hR
          cases hf : found with
          | true =>
            rw [hf] at fin
            obtain ⟨hi, hki, hbefore⟩ := hk2 hf
            have hlt : i < es.size := by omega
            have hei : es[i]? = some es[i] := by simp [hlt]
            have hfnd := find_at (w := w) hV hk0 hkeys (i := i) (e := es[i]) (by simp) ((h2 i _ hei).1.trans hki) (fun j e' hj hej => by
              have hej' : es[j]? = some e' := by simpa using hej
              rw [(h2 j e' hej').1]; exact hbefore j hj)
            refine fin _ (mpV agg nv (gv i)) hfnd (h2 i _ hei).2 rfl ?_
            cases hag : agg with
            | true =>
              refine ⟨(List.range nv).map (gv i), rfl, pickL_t (by simp [hzl]) ?_⟩
              refine L2.of (by simp) fun j p q hp hq => ?_
              have hj : j < nv := by have := (List.getElem?_eq_some_iff.1 hp).1; simpa using this
              simp only [List.getElem?_map, List.getElem?_range hj, Option.map_some, Option.some.injEq] at hp hq
              subst hp; subst hq
              exact RC_R (h3 i j hi hj)
            | false =>
              have hnv : nv = 1 := hb4'.resolve_left (by rw [hag]; decide)
              exact pickC_t (RC_R (h3 i 0 hi (by omega)))
          | false =>
            rw [hf] at fin
            have hfnd := find_none (w := w) hV hk0 hkeys (fun e he => by
              obtain ⟨j, hj⟩ := List.mem_iff_getElem?.1 he
              have hj' : es[j]? = some e := by simpa using hj
              rw [(h2 j e hj').1]; exact hk3 hf j (by rw [← h1]; exact (Array.getElem?_eq_some_iff.1 hj').1))
            refine fin none zv hfnd rfl rfl ?_
            cases hag : agg with
            | true =>
              obtain ⟨zs, rfl⟩ := hzagg.1 hag
              exact ⟨zs.toList, by simp, pickL_f (by simp [hzl]) hzL⟩
            | false =>
              obtain ⟨h5, h6⟩ := hzagg.2 hag
              rw [h6]
              exact pickC_f ⟨rfl, h5⟩
    · cases he
  · cases he
theorem mapUpd_ok {V : Env P} (hV : EqOk P V) {q : Option (Bool × Nat)} {T : TypeId} {m k x : Operand} {vm vk vx : Tv} (ho : o.op = .mapUpdate T m k x) (hm : RT M σ vm (a.eval m)) (hk : RT M σ vk (a.eval k)) (hx : RT M σ vx (a.eval x)) (he : effMapUpd P V.E q T vm vk vx = some e) (hs : Std M σ w h) (hr : res h e = some (cs, g)) (hc : AllP cs) : Good P M σ o a w g := by
  unfold effMapUpd at he
  split at he
  · rename_i s ag kt el n ka va found i ht
    split at he
    · rename_i key hkey
      cases hdv : va.dv with
      | false => rw [hdv] at he; cases he
      | true =>
      rw [hdv] at he
      simp only [cond_true, Option.some.injEq] at he
      subst he
      simp only [res, geth] at hr
      cases hn : h n with
      | none => rw [hn] at hr; cases hr
      | some blk =>
        rw [hn] at hr
        cases blk with
        | cells => cases hr
        | row => cases hr
        | omap agg nv len kf vf =>
        simp only at hr
        cases hb : (Nat.beq va.cells.length nv && (agg == va.isAgg)) with
        | false => rw [hb] at hr; cases hr
        | true =>
          rw [hb] at hr
          simp only [cond_true, Option.some.injEq, Prod.mk.injEq] at hr
          obtain ⟨rfl, rfl⟩ := hr
          simp only [Bool.and_eq_true] at hb
          obtain ⟨hb1, hb3⟩ := hb
          have hlen := Nat.eq_of_beq_eq_true hb1
          have hagg : agg = va.isAgg := by simpa using hb3
          obtain ⟨_, _, hu, _, _⟩ := run_ti ht w
          obtain ⟨hk0, hk1, hk2, hk3⟩ := hc.head
          have hkv : a.eval k = key := keyA_ok hkey hk
          have hX : a.eval m = .map (some (σ n).b) := hm
          obtain ⟨hnil, es, clock, gv, hblk, h1, h2, h3⟩ := hs.blk n _ hn
          have hkeys : ∀ e ∈ es.toList, KeyFit P V.E kt e.key := fun e he => by
            obtain ⟨j, hj⟩ := List.mem_iff_getElem?.1 he
            have hj' : es[j]? = some e := by simpa using hj
            rw [(h2 j e hj').1]
            exact hk1 j (by rw [← h1]; exact (Array.getElem?_eq_some_iff.1 hj').1)
          -- the value's cells
          obtain ⟨gx, hgx, hgR⟩ : ∃ gx : Nat → Value, a.eval x = mpV agg nv gx ∧ ∀ j, j < nv → RC M (va.cells.getD j default) (gx j) := by
            have hcells := RA_cells hx
            refine ⟨fun j => (a.eval x).cells.toList.getD j undef, ?_, fun j hj => ?_⟩
            · cases va with
              | one c =>
                have : agg = false := hagg
                subst this
                have h5 := R_one (M := M) (σ := σ) hx
                rw [cells_one h5]
                rfl
              | agg l =>
                have : agg = true := hagg
                subst this
                obtain ⟨vs, hvs, h6⟩ := hx
                rw [hvs]
                have h7 := h6.length
                have h8 : l.length = nv := hlen
                show Value.agg vs.toArray = .agg _
                congr 2
                refine List.ext_getElem? fun j => ?_
                rw [List.getElem?_map]
                by_cases hj : j < nv
                · rw [List.getElem?_range hj]
                  simp only [Option.map_some, Value.cells, List.getD_eq_getElem?_getD]
                  rw [List.getElem?_eq_getElem (by omega)]; rfl
                · rw [List.getElem?_eq_none (l := vs) (by omega), List.getElem?_eq_none (l := List.range nv) (by simp; omega)]; rfl
            · have hj' : j < va.cells.length := by omega
              obtain ⟨u, hu1, hu2⟩ := hcells.get j va.cells[j] (List.getElem?_eq_getElem hj')
              show RC M (va.cells.getD j default) ((a.eval x).cells.toList.getD j undef)
              rw [List.getD_eq_getElem?_getD, List.getElem?_eq_getElem hj', List.getD_eq_getElem?_getD, hu1]
              have hd : (va.cells[j]).dv = true := by
                cases va with
                | one c => simp only [Av.cells, List.getElem_singleton]; exact hdv
                | agg l => exact (List.all_eq_true.1 hdv) _ (List.getElem_mem _)
              exact (R_dv hd).1 hu2
          have hset : ∀ (o' : Obj), ∃ w', (setObj (σ n).b o').run P w = .ok () w' ∧ w' = { w with heap := w.heap.setIfInBounds (σ n).b o' } := fun o' => ⟨_, run_setObj_map o' hblk, rfl⟩
          have fin : ∀ (es' : Array MapEntry) (clock' : Nat), (Instr.mapUpdate T (a.eval m) (a.eval k) (a.eval x)).run P w = (setObj (σ n).b (.map es' clock')).run P w → es'.size = (bif found then len else len + 1) →
              (∀ j e, es'[j]? = some e → (j = (bif found then i else len) ∧ e.key = key ∧ e.val = a.eval x) ∨ (j ≠ (bif found then i else len) ∧ es[j]? = some e)) →
              Good P M σ o a w (.wr n (.tup []) (.omap agg nv (bif found then len else len + 1) (fun j => bif Nat.beq j (bif found then i else len) then key else kf j) (fun j c => bif Nat.beq j (bif found then i else len) then va.cells.getD c default else vf j c))) := by
            intro es' clock' hrun hsz hes
            obtain ⟨w', hw1, hw2⟩ := hset (.map es' clock')
            obtain ⟨g1, g2⟩ := heap_set (o' := .map es' clock') hblk
            have hold : ∀ b, ¬ only (σ n) b → w'.heap[b]? = w.heap[b]? := fun b hb => by
              rw [hw2]; exact g2 b fun e => hb ⟨hnil, e⟩
            refine .inr (.inl ⟨w', ?_, M, σ, ⟨by rw [hw2], by rw [hw2], by rw [hw2], by rw [hw2]; simp, fun b _ hb => hold b hb, fun _ _ h => h, fun _ _ h h' => by (rw [h] at h'; cases h'), fun b o hm' => ?_⟩, rfl, ⟨[], rfl, .nil⟩, hnil, es', clock', fun j => if j = (bif found then i else len) then gx else gv j, ?_, hsz, fun j e hj => ?_, fun j c hj hc' => ?_⟩)
            · simp only [execOp, ho, Sem.run_bind, hrun, hw1, Result.andThen_ok, Sem.run_pure]
            · have hne : ¬ only (σ n) b := fun ⟨_, he⟩ => by
                rcases hs.loc n _ hn with h8 | h8
                · rw [hnil] at h8; cases h8
                · rw [← he, hm'] at h8; cases h8
              rw [hold b hne]; exact hs.imm b o hm'
            · rw [hw2]; exact g1
            · rcases hes j e hj with ⟨rfl, h5, h6⟩ | ⟨h5, h6⟩
              · simp only [if_true, Nat.beq_refl, cond_true]; exact ⟨h5, by rw [h6, hgx]⟩
              · have : Nat.beq j (bif found then i else len) = false := by rw [beqN]; exact decide_eq_false h5
                simp only [h5, if_false, this, cond_false]; exact h2 j e h6
            · by_cases h5 : j = (bif found then i else len)
              · subst h5
                simp only [if_true, Nat.beq_refl, cond_true]; exact hgR c hc'
              · have : Nat.beq j (bif found then i else len) = false := by rw [beqN]; exact decide_eq_false h5
                simp only [h5, if_false, this, cond_false]
                refine h3 j c ?_ hc'
                cases hf : found with
                | true => rw [hf] at hj; exact hj
                | false => rw [hf] at hj h5; simp only [cond_false] at hj h5; omega
          have hck := fit_check (w := w) hk0 false
          cases hf : found with
          | true =>
            rw [hf] at fin
            obtain ⟨hi, hki, hbefore⟩ := hk2 hf
            have hlt : i < es.size := by omega
            have hei : es[i]? = some es[i] := by simp [hlt]
            have hfnd := find_at (w := w) hV hk0 hkeys (i := i) (e := es[i]) (by simp) ((h2 i _ hei).1.trans hki) (fun j e' hj hej => by
              have hej' : es[j]? = some e' := by simpa using hej
              rw [(h2 j e' hej').1]; exact hbefore j hj)
            have hst := fit_stays (w := w) hk0
            refine fin (es.modify i fun e => { e with key := key, val := a.eval x }) clock ?_ (by simp [h1]) fun j e hj => ?_
            · simp only [Instr.mapUpdate, Sem.run_bind, hu, hX, Result.andThen_ok, Go.MapKept.run_getObj_map hblk, hkv, hck, hfnd, hei, Option.map_some, Option.getD_some, (h2 i _ hei).1, hki, hst]
            · rw [Array.getElem?_modify] at hj
              by_cases hji : i = j
              · subst hji
                rw [if_pos rfl, hei] at hj
                simp only [Option.map_some, Option.some.injEq] at hj
                subst hj
                exact .inl ⟨rfl, rfl, rfl⟩
              · rw [if_neg hji] at hj
                exact .inr ⟨Ne.symm hji, hj⟩
          | false =>
            rw [hf] at fin
            have hfnd := find_none (w := w) hV hk0 hkeys (fun e he => by
              obtain ⟨j, hj⟩ := List.mem_iff_getElem?.1 he
              have hj' : es[j]? = some e := by simpa using hj
              rw [(h2 j e hj').1]; exact hk3 hf j (by rw [← h1]; exact (Array.getElem?_eq_some_iff.1 hj').1))
            refine fin (es.push { key := key, val := a.eval x, born := clock }) (clock + 1) ?_ (by simp [h1]) fun j e hj => ?_
            · simp only [Instr.mapUpdate, Sem.run_bind, hu, hX, Result.andThen_ok, Go.MapKept.run_getObj_map hblk, hkv, hck, hfnd]
            · rw [Array.getElem?_push] at hj
              by_cases hji : j = es.size
              · rw [if_pos hji] at hj
                simp only [Option.some.injEq] at hj
                subst hj
                exact .inl ⟨by simp only [cond_false]; omega, rfl, rfl⟩
              · rw [if_neg hji] at hj
                exact .inr ⟨by simp only [cond_false]; omega, hj⟩
    · cases he
  · cases he
end
end Go.Proofs.Ytgmhnkoifdpemaa
