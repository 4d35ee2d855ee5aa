/-
  No statement is proved in this text. It holds the rule that a block of variables may become one that nobody changes.
-/
import Derived.Test.YtgmhnkoifdpemaaS17
namespace Go.Proofs.Ytgmhnkoifdpemaa
open Go.RowKit
set_option linter.unusedVariables false
set_option linter.unusedSimpArgs false

/-- Pointers into the block n, whose cells are l, become pointers into a block that nobody changes. -/
def fxC (n : Nat) (l : List Cl) : Cl → Cl
  | .ptr m off => bif Nat.beq m n then .eptr l.length 1 (fun _ j => l.getD j default) 0 off else .ptr m off
  | .clo f k caps => .clo f k (listF ((List.range k).map fun i => fxC n l (caps i)))
  | c => c
def fxS (n : Nat) (l : List Cl) (s : AS) : AS := ⟨mapL (Tv.map (fxC n l)) s.t, del (mapL (Blk.map (fxC n l)) s.h) n⟩
theorem allT_true : ∀ v : Tv, allT (fun _ => True) v := by
  have av : ∀ x : Av, allA (fun _ => True) x := fun x => by cases x <;> simp [allA]
  intro v
  cases v with
  | av x => exact av x
  | tup l => exact fun x _ => av x
  | grd g x => exact av x
section
variable {P : Program} {rd : Option Nat} {N : Nat} {W0 : World} {X : Nat → Option Loc} {M0 M : Nat → Option Obj} {σ : Nat → Loc} {w : World} {a : Act} {Q : Exit → AS → Prop} {s : AS}

theorem sim_fix (n : Nat) (l : List Cl) (ty : TypeId) (hnx : (σ n).nil = false → ¬ inX X (σ n).b) (hn : get s.h n = some (.cells l ty)) (hdv : l.all Cl.dv = true) (hs : Sim N W0 X M0 M σ (get s.t) (get s.h) a w) : ∃ M', Sim N W0 X M0 M' σ (get (fxS n l s).t) (get (fxS n l s).h) a w := by
  obtain ⟨hnil, cc, hcc, hl⟩ := hs.blk n _ hn
  have hloc : M (σ n).b = none ∧ W0.heap.size ≤ (σ n).b := by
    rcases hs.loc n _ hn with h | ⟨h1, h2 | h2⟩
    · rw [hnil] at h; cases h
    · exact ⟨h1, h2⟩
    · exact absurd h2 (hnx hnil)
  obtain ⟨M', hM'⟩ : ∃ M' : Nat → Option Obj, M' = fun b => if b = (σ n).b then w.heap[b]? else M b := ⟨_, rfl⟩
  have hsub : ∀ b o, M b = some o → M' b = some o := fun b o h1 => by
    subst hM'
    by_cases hb : b = (σ n).b
    · subst hb; rw [hloc.1] at h1; cases h1
    · simp only [hb, if_false]; exact h1
  have himm : ∀ b o, M' b = some o → w.heap[b]? = some o := fun b o h1 => by
    subst hM'
    by_cases hb : b = (σ n).b
    · simp only [hb, if_true] at h1; rw [hb]; exact h1
    · simp only [hb, if_false] at h1; exact hs.imm b o h1
  have hother : ∀ b, b ≠ (σ n).b → M' b = M b := fun b hb => by subst hM'; simp only [hb, if_false]
  have hself : M' (σ n).b = w.heap[(σ n).b]? := by subst hM'; simp only [if_true]
  have hR : ∀ {c : Cl} {V : Value}, R M σ c V → R M' σ (fxC n l c) V := by
    intro c
    induction c with
    | ptr m off =>
      intro V hc
      simp only [fxC]
      cases hm : Nat.beq m n with
      | false => exact hc
      | true =>
        have := Nat.eq_of_beq_eq_true hm
        subst this
        simp only [R] at hc
        rw [hc]
        have key := RC.eptr (M := M') l.length 1 (fun _ j => l.getD j default) 0 off (σ m).b 0 (fun j => cc.getD j undef) (fun j hj => by
          have hjc : j < cc.length := by have := hl.length; omega
          unfold cellM
          rw [hself, hcc, Nat.zero_add]
          simp [List.getD_eq_getElem?_getD, hjc]) (fun j hj => by
          have hjl : l[j]? = some (l[j]'hj) := List.getElem?_eq_getElem hj
          obtain ⟨v, hv, hRv⟩ := hl.get j _ hjl
          simp only [List.getD_eq_getElem?_getD, hjl, hv, Option.getD_some]
          exact RC_mono hsub ((R_dv ((List.all_eq_true.1 hdv) _ (List.getElem_mem hj))).1 hRv))
        rw [Nat.zero_add] at key
        exact key
    | clo f k caps ih =>
      intro V hc
      obtain ⟨cs, h1, h2, h3⟩ := hc
      exact ⟨cs, h1, h2, fun i hi => by rw [listF_map _ hi]; exact ih i (h3 i hi)⟩
    | val v => intro V hc; exact hc
    | own => intro V hc; exact R_mono hsub (fun _ _ => rfl) hc
    | rptr => intro V hc; exact R_mono hsub (fun _ _ => rfl) hc
    | list => intro V hc; exact R_mono hsub (fun _ _ => rfl) hc
    | eptr => intro V hc; exact R_mono hsub (fun _ _ => rfl) hc
    | mp => intro V hc; exact R_mono hsub (fun _ _ => rfl) hc
    | om => intro V hc; exact R_mono hsub (fun _ _ => rfl) hc
  refine ⟨M', hs.os, hs.tape, hs.output, hs.size, hs.old, fun b o h1 => hsub b o (hs.sub b o h1), fun b o h1 h2 => ?_, hs.pin, hs.defers.mono hsub, hs.room, fun i v hv => ?_, himm, fun m b hb' => ?_, fun m b hb' => ?_, fun m k b c h1 h2 => ?_⟩
  · by_cases hb : b = (σ n).b
    · subst hb; exact hloc.2
    · rw [hother b hb] at h1; exact hs.new b o h1 h2
  · simp only [fxS, get_mapL] at hv
    cases hg : get s.t i with
    | none => rw [hg] at hv; cases hv
    | some v0 =>
      rw [hg] at hv
      simp only [Option.map_some, Option.some.injEq] at hv
      subst hv
      exact RT_map (p := fun _ => True) (fun c V _ hc => hR hc) (allT_true v0) (hs.tmps i v0 hg)
  · simp only [fxS, get_del, get_mapL] at hb'
    split at hb'
    · cases hb'
    · cases hg : get s.h m with
      | none => rw [hg] at hb'; cases hb'
      | some b0 =>
        rw [hg] at hb'
        simp only [Option.map_some, Option.some.injEq] at hb'
        subst hb'
        have h0 := hs.blk m b0 hg
        cases b0 with
        | cells l' ty' =>
          obtain ⟨h1, cc', h2, h3⟩ := h0
          exact ⟨h1, cc', h2, L2_map (p := fun _ => True) (fun c V _ hc => hR hc) (fun _ _ => trivial) h3⟩
        | row => exact BlkOk.mono hsub (fun _ _ => rfl) (fun _ => rfl) h0
        | omap => exact BlkOk.mono hsub (fun _ _ => rfl) (fun _ => rfl) h0
  · simp only [fxS, get_del, get_mapL] at hb'
    split at hb'
    · cases hb'
    · rename_i hne
      cases hg : get s.h m with
      | none => rw [hg] at hb'; cases hb'
      | some b0 =>
        rcases hs.loc m b0 hg with h1 | ⟨h1, h2⟩
        · exact .inl h1
        · by_cases hmn : (σ m).nil = true
          · exact .inl hmn
          · refine .inr ⟨?_, h2⟩
            rw [hother]
            · exact h1
            · rcases hs.inj n m _ _ hn hg hne with h3 | h3 | h3
              · rw [hnil] at h3; cases h3
              · exact absurd h3 hmn
              · exact Ne.symm h3
  · simp only [fxS, get_del, get_mapL] at h1 h2
    split at h1
    · cases h1
    split at h2
    · cases h2
    intro hne
    cases hg : get s.h m with
    | none => rw [hg] at h1; cases h1
    | some b0 =>
      cases hg2 : get s.h k with
      | none => rw [hg2] at h2; cases h2
      | some c0 => exact hs.inj m k b0 c0 hg hg2 hne
theorem cv_fix {K : Option Nat} (S : AS) (n : Nat) (l : List Cl) (ty : TypeId) (hX : ∀ k x, X k = some x → K = some k) (hK : xok K n s = true) (hn : get s.h n = some (.cells l ty)) (hdv : l.all Cl.dv = true) (hS : fxS n l s = S) : Cv N W0 X M0 s S := by
  subst hS
  intro M σ a w hs
  obtain ⟨M', h1⟩ := sim_fix n l ty (fun hnil => xok_ok hX hK hs hn hnil) hn hdv hs
  exact ⟨M', σ, h1⟩
/-- The pinned ids are some, and such as lie where these do. -/
def PX (pids : List Nat) (X : Nat → Option Loc) : Prop := ∀ m x, X m = some x → ∃ q, memO pids q = true ∧ ∃ y, X q = some y ∧ y.b = x.b
def apartB (pids : List Nat) (n : Nat) (s : AS) : Bool := pids.all fun q => !Nat.beq q n && match get s.h q with | some (.cells ..) => true | _ => false
theorem memO_in : ∀ {l : List Nat} {n : Nat}, memO l n = true → n ∈ l
  | [], _, h => by cases h
  | k :: r, n, h => by
    simp only [memO] at h
    cases hk : Nat.beq k n with
    | true => have := Nat.eq_of_beq_eq_true hk; subst this; exact List.mem_cons_self ..
    | false => rw [hk] at h; exact List.mem_cons_of_mem _ (memO_in h)
theorem cv_fixP (S : AS) (n : Nat) (l : List Cl) (ty : TypeId) (pids : List Nat) (hX : PX pids X) (hK : apartB pids n s = true) (hn : get s.h n = some (.cells l ty)) (hdv : l.all Cl.dv = true) (hS : fxS n l s = S) : Cv N W0 X M0 s S := by
  subst hS
  intro M σ a w hs
  obtain ⟨M', h1⟩ := sim_fix n l ty (fun hnil => by
    rintro ⟨m, x, h1, h2⟩
    obtain ⟨q, hq, y, hy, hyx⟩ := hX m x h1
    have h3 := List.all_eq_true.1 hK q (memO_in hq)
    simp only [Bool.and_eq_true, Bool.not_eq_true'] at h3
    have hqn : q ≠ n := fun e => by have := h3.1; rw [e, Nat.beq_refl] at this; cases this
    cases hb : get s.h q with
    | none => rw [hb] at h3; cases h3.2
    | some bk =>
      rw [hb] at h3
      cases bk with
      | row => cases h3.2
      | omap => cases h3.2
      | cells lq tq =>
        have h4 := (hs.blk q _ hb).1
        have h5 := (hs.pin q y hy).2
        rcases hs.inj q n _ _ hb hn hqn with h6 | h6 | h6
        · rw [h4] at h6; cases h6
        · rw [hnil] at h6; cases h6
        · exact h6 (by rw [h5, hyx, h2])) hn hdv hs
  exact ⟨M', σ, h1⟩
end
end Go.Proofs.Ytgmhnkoifdpemaa
