/-
  No statement is proved in this text. It shows that the model does what the effects say: builtins, function values, calls; and all operations in one theorem.
-/
import Derived.Test.YtgmhnkoifdpemaaS7
namespace Go.Proofs.Ytgmhnkoifdpemaa
open Go.RowKit
set_option linter.unusedSimpArgs false
set_option linter.unusedVariables false

section
variable {P : Program} {M : Nat → Option Obj} {σ : Nat → Loc} {w : World} {h : Nat → Option Blk} {a : Act} {o : Oper} {cs : List Prop} {g : Eg} {e : Ef}

theorem args_ok {ev : Operand → Option Tv} (hev : ∀ x v, ev x = some v → RT M σ v (a.eval x)) : ∀ (xs : List Operand) (l : List Av), argsC ev xs = some l → L2 (RA M σ) l (xs.map a.eval)
  | [], l, he => by simp only [argsC, Option.some.injEq] at he; subst he; exact .nil
  | x :: xs, l, he => by
    simp only [argsC] at he
    split at he
    · rename_i v l' h1 h2
      simp only [Option.some.injEq] at he
      subst he
      exact .cons (hev x _ h1) (args_ok hev xs l' h2)
    · cases he
theorem caps_ok : ∀ (l : List Av) (cs : List Cl) (vs : List Value), capsC l = some cs → L2 (RA M σ) l vs → L2 (R M σ) cs vs
  | [], cs, vs, he, hl => by simp only [capsC, Option.some.injEq] at he; subst he; cases hl; exact .nil
  | .one c :: l, cs, vs, he, hl => by
    cases hl with | cons h1 h2 =>
    simp only [capsC] at he
    obtain ⟨cs', h3, rfl⟩ := Option.map_eq_some_iff.1 he
    exact .cons h1 (caps_ok l cs' _ h3 h2)
  | .agg _ :: l, cs, vs, he, hl => by simp [capsC] at he
theorem makeFunc_ok {f : FuncId} {first captured : Array Operand} {ev : Operand → Option Tv} {l : List Av} {cl : List Cl} (hev : ∀ x v, ev x = some v → RT M σ v (a.eval x)) (ho : o.op = .makeFunc (.func f) first captured) (hf : first.toList.isEmpty = true) (hl : argsC ev captured.toList = some l) (hcl : capsC l = some cl) (hs : Std M σ w h) (hr : res h (.val [] (.av (.one (.clo f cl.length (listF cl))))) = some (cs, g)) : Good P M σ o a w g := by
  obtain ⟨rfl, rfl⟩ := res_val hr
  have h1 := caps_ok l cl _ hcl (args_ok hev _ _ hl)
  have hfe : first = #[] := by
    have : first.toList = [] := by simpa using hf
    exact Array.toList_eq_nil_iff.1 this
  refine good_val hs.imm (V := .func (.func f) #[] (captured.toList.map a.eval).toArray) ?_ ⟨_, rfl, by simp [h1.length], fun i hi => ?_⟩
  · subst hfe
    simp only [execOp, ho, Instr.makeFunc, Sem.run_bind, Sem.run_pure, Result.andThen_ok]
    congr 3
    all_goals (apply Array.ext'; simp)
  · obtain ⟨u, hu, hR⟩ := h1.get i _ (List.getElem?_eq_getElem hi)
    have : (captured.toList.map a.eval).toArray.getD i undef = u := by
      rw [← List.getElem?_toArray] at hu
      simp only [Array.getD_eq_getD_getElem?, hu, Option.getD_some]
    rw [this]
    simp only [listF, List.getD, List.getElem?_eq_getElem hi, Option.getD_some]
    exact hR
theorem nilCheck_ptr {x : Operand} {v : Value} (ho : o.op = .nilCheck x) (hv : a.eval x = v) (hp : (∃ p, v = .pointer (some p)) ∨ ∃ f c, v = .func (.func f) #[] c) (hs : Std M σ w h) {t : Tv} (ht : RT M σ t v) (hr : res h (.val [] t) = some (cs, g)) : Good P M σ o a w g := by
  obtain ⟨rfl, rfl⟩ := res_val hr
  refine good_val hs.imm (V := v) ?_ ht
  rcases hp with ⟨p, rfl⟩ | ⟨f, c, rfl⟩ <;> simp [execOp, ho, hv]
def boundI (d : Int) : Option (Option Tv) → Option Int
  | none => some d
  | some (some (.av (.one (.val (.int _ n))))) => some n
  | _ => none
theorem sliceBounds_ok {ev : Operand → Option Tv} (hev : ∀ x v, ev x = some v → RT M σ v (a.eval x)) {lo hi : Option Operand} {len cap : Nat} {l hh : Int} (h1 : boundI 0 (lo.map ev) = some l) (h2 : boundI len (hi.map ev) = some hh) (hle : 0 ≤ l ∧ l ≤ hh ∧ hh ≤ len) (hcap : len ≤ cap) (b : Bool) :
    (Instr.sliceBounds b len cap (lo.map a.eval) (hi.map a.eval) none).run P w = .ok (l.toNat, hh.toNat, cap) w := by
  obtain ⟨a1, a2, a3⟩ := hle
  have hlo : ∀ x, lo = some x → ∃ k, a.eval x = .int k l := by
    intro x hx; subst hx
    simp only [Option.map_some, boundI] at h1
    split at h1 <;> first | (cases h1; done) | skip
    · rename_i heq; cases heq
    · rename_i k n heq
      injection heq with heq
      injection h1 with h1
      subst h1
      exact ⟨_, RA_i (hev x _ heq)⟩
  have hhi : ∀ x, hi = some x → ∃ k, a.eval x = .int k hh := by
    intro x hx; subst hx
    simp only [Option.map_some, boundI] at h2
    split at h2 <;> first | (cases h2; done) | skip
    · rename_i heq; cases heq
    · rename_i k n heq
      injection heq with heq
      injection h2 with h2
      subst h2
      exact ⟨_, RA_i (hev x _ heq)⟩
  cases lo with
  | none =>
    simp only [Option.map_none, boundI, Option.some.injEq] at h1
    subst h1
    cases hi with
    | none =>
      simp only [Option.map_none, boundI, Option.some.injEq] at h2
      subst h2
      simp [Instr.sliceBounds]
    | some y =>
      obtain ⟨k, hy⟩ := hhi y rfl
      have hc : 0 ≤ hh ∧ hh ≤ (cap : Int) := by omega
      simp [Instr.sliceBounds, Instr.sliceBound, hy, asIntOf, hc]
  | some x =>
    obtain ⟨k, hx⟩ := hlo x rfl
    cases hi with
    | none =>
      simp only [Option.map_none, boundI, Option.some.injEq] at h2
      subst h2
      have hc : 0 ≤ l ∧ l ≤ (len : Int) := by omega
      simp [Instr.sliceBounds, Instr.sliceBound, hx, asIntOf, hc]
    | some y =>
      obtain ⟨k', hy⟩ := hhi y rfl
      have hc : 0 ≤ hh ∧ hh ≤ (cap : Int) := by omega
      have hc2 : 0 ≤ l ∧ l ≤ ((hh.toNat : Nat) : Int) := by omega
      have hm : max hh 0 = hh := by omega
      simp [Instr.sliceBounds, Instr.sliceBound, hx, hy, asIntOf, hc, hm, a1, a2]
theorem slice_ok {T : TypeId} {x : Operand} {lo hi : Option Operand} {ev : Operand → Option Tv} {v : Tv} (hev : ∀ x v, ev x = some v → RT M σ v (a.eval x)) (ho : o.op = .slice T x lo hi none) (hx : RT M σ v (a.eval x)) (he : effSlice P T v (lo.map ev) (hi.map ev) = some e) (hs : Std M σ w h) (hr : res h e = some (cs, g)) (hc : AllP cs) : Good P M σ o a w g := by
  unfold effSlice at he
  simp only at he
  split at he
  · rename_i s ag el tg sz len f ht
    obtain ⟨_, _, hu, _, _⟩ := run_ti ht w
    split at he
    · rename_i t hte
      obtain ⟨hsz, _⟩ := run_ti hte w
      split at he
      · rename_i l hh h1 h2
        have h1 : boundI 0 (lo.map ev) = some l := h1
        have h2 : boundI len (hi.map ev) = some hh := h2
        cases hb : Nat.beq t.size sz with
        | false => rw [hb] at he; cases he
        | true =>
          rw [hb] at he
          simp only [cond_true, Option.some.injEq] at he
          subst he
          obtain ⟨rfl, rfl⟩ := res_val hr
          have hin := hc.head
          have hsz' := Nat.eq_of_beq_eq_true hb
          have hx' : RC M (.list tg sz len f) (a.eval x) := hx
          generalize hV0 : a.eval x = V0 at hx'
          cases hx' with
          | nil =>
            have hb := sliceBounds_ok (P := P) (w := w) hev h1 h2 hin (Nat.le_refl _) true
            have hl0 : l.toNat = 0 := by omega
            have hh0 : hh.toNat = 0 := by omega
            refine good_val hs.imm (V := .slice none 0 0) ?_ (show RC M _ _ from ?_)
            · simp only [execOp, ho, hV0, Option.map_none, Instr.sliceAt, Sem.run_bind, hu, Result.andThen_ok, Instr.slice, hb, hsz, Sem.run_pure, hl0, hh0]
              simp
            · rw [hl0, hh0]; exact .nil _ _ _ rfl
          | mt _ _ _ p0 cap =>
            have hb := sliceBounds_ok (P := P) (w := w) hev h1 h2 hin (Nat.zero_le cap) true
            have hl0 : l.toNat = 0 := by omega
            have hh0 : hh.toNat = 0 := by omega
            refine good_val hs.imm (V := .slice (some p0) 0 cap) ?_ (show RC M _ _ from ?_)
            · simp only [execOp, ho, hV0, Option.map_none, Instr.sliceAt, Sem.run_bind, hu, Result.andThen_ok, Instr.slice, hb, hsz, Sem.run_pure, hl0, hh0]
              simp [Addr.add]
            · rw [hl0, hh0]; exact .mt _ _ _ _ _
          | list _ _ _ _ b off cap gv g1 g2 g4 =>
            have hb := sliceBounds_ok (P := P) (w := w) hev h1 h2 hin g4 true
            by_cases hml : cap = l.toNat
            · have he0 : hh.toNat - l.toNat = 0 := by omega
              refine good_val hs.imm (V := .slice (some ⟨b, off, none⟩) (hh.toNat - l.toNat) (cap - l.toNat)) ?_ (show RC M _ _ from ?_)
              · simp only [execOp, ho, hV0, Option.map_none, Instr.sliceAt, Sem.run_bind, hu, Result.andThen_ok, Instr.slice, hb, hsz, Sem.run_pure]
                simp [hml]
              · rw [he0]; exact .list _ _ _ _ b off _ (fun _ _ => undef) (fun i j hi => absurd hi (by omega)) (fun i j hi => absurd hi (by omega)) (by omega)
            · refine good_val hs.imm (V := .slice (some ⟨b, off + l.toNat * sz, none⟩) (hh.toNat - l.toNat) (cap - l.toNat)) ?_ (show RC M _ _ from ?_)
              · simp only [execOp, ho, hV0, Option.map_none, Instr.sliceAt, Sem.run_bind, hu, Result.andThen_ok, Instr.slice, hb, hsz, Sem.run_pure]
                simp [hml, Addr.add_lit, hsz']
              · refine .list _ _ _ _ b _ _ (fun i j => gv (i + l.toNat) j) (fun i j hi hj => ?_) (fun i j hi hj => g2 _ _ (by omega) hj) (by omega)
                have := g1 (i + l.toNat) j (by omega) hj
                rw [Nat.add_mul] at this
                rw [show off + l.toNat * sz + (i * sz + j) = off + (i * sz + l.toNat * sz + j) by omega]
                exact this
      · cases he
    · cases he
  · cases he
theorem pick_ok {c x y : Operand} {cb : Bool} {tx ty : Tv} {ga gb : List Prop} {xa xb : Bool} (ho : o.op = .pick c x y) (hcv : RT M σ (.av (.one (.val (.bool cb)))) (a.eval c)) (hx : RT M σ tx (a.eval x)) (hy : RT M σ ty (a.eval y)) (h1 : asB tx = some (ga, xa)) (h2 : asB ty = some (gb, xb)) (hs : Std M σ w h)
    (hr : res h (.val ((ga.map fun g => cb = true → g) ++ (gb.map fun g => cb = false → g)) (.av (.one (.val (.bool (bif cb then xa else xb)))))) = some (cs, g)) (hc : AllP cs) : Good P M σ o a w g := by
  obtain ⟨rfl, rfl⟩ := res_val hr
  obtain ⟨hca, hcb⟩ := hc.append
  have asB_ok : ∀ (t : Tv) (gs : List Prop) (b : Bool) (V : Value), asB t = some (gs, b) → RT M σ t V → (∀ p ∈ gs, p) → V = .bool b := by
    intro t gs b V hb hR hg
    unfold asB at hb
    split at hb
    · simp only [Option.some.injEq, Prod.mk.injEq] at hb
      obtain ⟨rfl, rfl⟩ := hb
      exact hR.1
    · simp only [Option.some.injEq, Prod.mk.injEq] at hb
      obtain ⟨rfl, rfl⟩ := hb
      exact (hR.1 (hg _ (by simp))).1
    · cases hb
  refine good_val hs.imm (V := .bool (bif cb then xa else xb)) ?_ (R_v rfl)
  have hcv' := RA_b hcv
  simp only [execOp, ho, hcv', asBool, Sem.run_bind, Sem.run_pure, Result.andThen_ok]
  cases cb with
  | true =>
    have := asB_ok tx ga xa _ h1 hx (fun p hp => hca.mem (true = true → p) (List.mem_map.2 ⟨p, hp, rfl⟩) rfl)
    simp [this]
  | false =>
    have := asB_ok ty gb xb _ h2 hy (fun p hp => hcb.mem (false = false → p) (List.mem_map.2 ⟨p, hp, rfl⟩) rfl)
    simp [this]

/-! ### Builtins -/
theorem mn_ok {k : IntKind} : ∀ (r : List Av) (vs : List Value) (x n : Int), L2 (RA M σ) r vs → mn k x r = some n → (vs.foldlM Builtin.min2 (.int k x)).run P w = .ok (.int k n) w
  | [], vs, x, n, hl, he => by cases hl; simp only [mn, Option.some.injEq] at he; subst he; rfl
  | .agg _ :: r, vs, x, n, hl, he => by cases r <;> simp [mn] at he
  | .one c :: r, vs, x, n, hl, he => by
    cases hl with | cons h1 h2 =>
    unfold mn at he
    split at he
    · cases ‹_ = []›
    · rename_i k' y r' heq
      injection heq with e1 e2
      injection e1 with e1
      subst e1; subst e2
      split at he
      · rename_i hk; subst hk
        have hy : _ = Value.int k' y := h1.1
        subst hy
        have := mn_ok (k := k') _ _ _ n h2 he
        simp only [List.foldlM_cons, Builtin.min2, Sem.run_bind, Sem.run_pure, Result.andThen_ok]
        rw [show ∀ x y : Int, (if y < x then y else x) = min x y from fun x y => by omega]
        exact this
      · cases he
    · cases he
theorem mx_ok {k : IntKind} : ∀ (r : List Av) (vs : List Value) (x n : Int), L2 (RA M σ) r vs → mx k x r = some n → (vs.foldlM Builtin.max2 (.int k x)).run P w = .ok (.int k n) w
  | [], vs, x, n, hl, he => by cases hl; simp only [mx, Option.some.injEq] at he; subst he; rfl
  | .agg _ :: r, vs, x, n, hl, he => by cases r <;> simp [mx] at he
  | .one c :: r, vs, x, n, hl, he => by
    cases hl with | cons h1 h2 =>
    unfold mx at he
    split at he
    · cases ‹_ = []›
    · rename_i k' y r' heq
      injection heq with e1 e2
      injection e1 with e1
      subst e1; subst e2
      split at he
      · rename_i hk; subst hk
        have hy : _ = Value.int k' y := h1.1
        subst hy
        have := mx_ok (k := k') _ _ _ n h2 he
        simp only [List.foldlM_cons, Builtin.max2, Sem.run_bind, Sem.run_pure, Result.andThen_ok]
        rw [show ∀ x y : Int, (if y > x then y else x) = max x y from fun x y => by omega]
        exact this
      · cases he
    · cases he
end
end Go.Proofs.Ytgmhnkoifdpemaa
