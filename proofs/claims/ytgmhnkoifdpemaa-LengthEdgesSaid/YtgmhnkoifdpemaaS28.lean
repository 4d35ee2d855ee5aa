/-
  No statement is proved in this text. It holds contracts of functions that make a row of their own and return it.
-/
import Derived.Test.YtgmhnkoifdpemaaS27
namespace Go.Proofs.Ytgmhnkoifdpemaa
open Go.RowKit
set_option linter.unusedVariables false

section
variable {P : Program}
/-- A function that makes a row: it returns v d, where d stands for the new row b. -/
def Fr (P : Program) (f : FuncId) (xs : List Av) (b : Blk) (v : Nat → Tv) : Prop := ∀ (M : Nat → Option Obj) (σ : Nat → Loc) (w : World) (args : List Value), (∀ b o, M b = some o → w.heap[b]? = some o) → L2 (RA M σ) xs args →
  Calls P f args.toArray w fun en w' => ∃ U, en = .returned U ∧ ∃ M' x, Keep w w' M M' never ∧ (x.nil = true ∨ (w.heap.size ≤ x.b ∧ M' x.b = none)) ∧ (∀ σ', BlkOk M' σ' w' x b) ∧ ∀ (σ' : Nat → Loc) d, σ' d = x → RT M' σ' (v d) U
theorem callOk_fr {f : FuncId} {xs : List Av} {b : Blk} {v : Nat → Tv} (h1 : ∀ args w, (callFunc f args).run P w = .ok (.enter f args) w) (h : Fr P f xs b v) : CallOk P f xs (.new [] b v) := by
  refine .inl ⟨h1, fun M σ w h' args cs' g hs hargs hr hc => ?_⟩
  simp only [res, Option.some.injEq, Prod.mk.injEq] at hr
  obtain ⟨rfl, rfl⟩ := hr
  refine (h M σ w args hs.imm hargs).mono ?_
  rintro en w' ⟨U, hU, M', x, hk, hx, hb, hR⟩
  refine ⟨U, hU, fun dst ⟨d, hd, hno⟩ => ⟨M', upd σ d x, x, d, hd, hk, hx, rfl, hb _, hR _ _ (upd_same _ _ _)⟩⟩
/-- What is returned, with the row's id left open. -/
def OwnV (v : Nat → Tv) : Prop := ∀ (M : Nat → Option Obj) (σ σ' : Nat → Loc) (n d : Nat) (U : Value), σ' d = σ n → RT M σ (v n) U → RT M σ' (v d) U
theorem ownV_one (sz len : Nat) : OwnV fun d => .av (.one (.own d sz len)) := fun M σ σ' n d U h hR => by
  have hR : R M σ (.own n sz len) U := hR
  show R M σ' (.own d sz len) U
  simp only [R] at *
  rw [h]; exact hR
/-- Cells of which some are the row. -/
def ownX (sz len : Nat) (d : Nat) : List (Option Cl) → List Cl
  | [] => []
  | none :: l => .own d sz len :: ownX sz len d l
  | some c :: l => c :: ownX sz len d l
def dvL : List (Option Cl) → Bool
  | [] => true
  | none :: l => dvL l
  | some c :: l => c.dv && dvL l
theorem ownX_ok {sz len : Nat} {M : Nat → Option Obj} {σ σ' : Nat → Loc} {n d : Nat} (h : σ' d = σ n) : ∀ {l : List (Option Cl)} {vs : List Value}, dvL l = true → L2 (R M σ) (ownX sz len n l) vs → L2 (R M σ') (ownX sz len d l) vs
  | [], _, _, h2 => by cases h2; exact .nil
  | none :: l, _, hd, h2 => by
    cases h2 with
    | cons h3 h4 => exact .cons (by simp only [R] at *; rw [h]; exact h3) (ownX_ok h hd h4)
  | some c :: l, _, hd, h2 => by
    simp only [dvL, Bool.and_eq_true] at hd
    cases h2 with
    | cons h3 h4 => exact .cons ((R_dv hd.1).2 ((R_dv hd.1).1 h3)) (ownX_ok h hd.2 h4)
theorem ownV_agg (sz len : Nat) (l : List (Option Cl)) (hd : dvL l = true) : OwnV fun d => .av (.agg (ownX sz len d l)) := fun M σ σ' n d U h hR => by
  obtain ⟨vs, e, h2⟩ := hR
  exact ⟨vs, e, ownX_ok h hd h2⟩
theorem fr_of_awF {f : FuncId} {fn : Func} {c : Code} (hf : P.funcs[f]? = some fn) (hb : fn.body = some c) {xs : List Av} {sz len : Nat} {g : Nat → Nat → Cl} {ty : TypeId} {v : Nat → Tv} (hN : Nat.ble xs.length fn.ntmps = true) (hv : OwnV v)
    (h : ∀ (W0 : World) (M0 : Nat → Option Obj), AWp P none fn.ntmps W0 noX M0 c (EndQ P fn.ntmps W0 noX M0 fn fun r' s' => ∃ n, TvE r' (v n) ∧ ∃ b, get s'.h n = some b ∧ BlkE b (.row sz len g ty)) ⟨entryT 0 xs, []⟩) : Fr P f xs (.row sz len g ty) v := by
  intro M σ w args himm hargs
  refine calls_of_aw (X := noX) (σ := σ) (h0 := []) hf hb (Nat.le_of_ble_eq_true hN) himm hargs (fun n b h => by cases h) (fun n b h => by cases h) (fun n x h => by cases h) (fun n m b c h => by cases h) (aw_cvend (h w M)) ?_
  rintro r' s' M' σ' a' w' U ⟨n, he, b, hb1, hbe⟩ hs hR
  have hbk := BlkOk_E hbe (hs.blk n _ hb1)
  refine ⟨U, rfl, M', σ' n, ⟨hs.os, hs.tape, hs.output, hs.size, fun b hb _ => hs.old b hb (not_inX b), hs.sub, hs.new, hs.imm⟩, ?_, fun σ'' => ?_, fun σ'' d hd => hv M' σ' σ'' n d U hd (RT_TvE he hR)⟩
  · rcases hs.loc n _ hb1 with h1 | ⟨h1, h2 | h2⟩
    · exact .inl h1
    · exact .inr ⟨h2, h1⟩
    · exact absurd h2 (not_inX _)
  · exact hbk
/-- A function's end: the row that is returned is told by its text. -/
theorem frE {α : Type} [Inhabited α] {c : α → List Cl} {sz n : Nat} {ty : TypeId} {xs ys : List α} {s' : AS} (h : xs = ys) (hg : get s'.h n = some (.row sz xs.length (rowF c xs) ty)) :
    ∃ m, TvE (.av (.one (.own n sz xs.length))) (.av (.one (.own m sz ys.length))) ∧ ∃ b, get s'.h m = some b ∧ BlkE b (.row sz ys.length (rowF c ys) ty) := by subst h; exact ⟨n, .refl _, _, hg, .refl _⟩
/-- A list is nil, or it is not. -/
theorem fr_nil {f : FuncId} {sz len : Nat} {F : Nat → Nat → Cl} {b : Blk} {v : Nat → Tv} (h0 : len = 0 → Fr P f [.one (.val (.slice none 0 0))] b v) (h1 : Fr P f [.one (.list true sz len F)] b v) : Fr P f [.one (.list false sz len F)] b v := by
  intro M σ w args himm hargs
  cases hargs with
  | cons ha ht =>
    cases ht with
    | nil =>
      have ha : RC M (.list false sz len F) _ := ha
      cases ha with
      | nil => exact h0 rfl M σ w _ himm (.cons ⟨rfl, rfl⟩ .nil)
      | mt _ _ _ a cap => exact h1 M σ w _ himm (.cons (RC.mt true sz F a cap) .nil)
      | list _ _ _ _ b off cap g e1 e2 e3 => exact h1 M σ w _ himm (.cons (RC.list true sz len F b off cap g e1 e2 e3) .nil)
end
end Go.Proofs.Ytgmhnkoifdpemaa
