/-
  No statement is proved in this text. It holds rules that say a state in other words: rows become lists that nobody changes, nothing becomes an empty row, ids get new names, rows are told anew.
-/
import Derived.Test.YtgmhnkoifdpemaaS15
namespace Go.Proofs.Ytgmhnkoifdpemaa
open Go.RowKit
set_option linter.unusedVariables false
set_option linter.unusedSimpArgs false

/-! ### Maps over states -/
def Av.map (g : Cl → Cl) : Av → Av
  | .one c => .one (g c)
  | .agg l => .agg (l.map g)
def Tv.map (g : Cl → Cl) : Tv → Tv
  | .av x => .av (x.map g)
  | .tup l => .tup (l.map (Av.map g))
  | .grd p x => .grd p (x.map g)
def Blk.map (g : Cl → Cl) : Blk → Blk
  | .cells l ty => .cells (l.map g) ty
  | b => b
def mapL {α : Type} (F : α → α) : List (Nat × α) → List (Nat × α)
  | [] => []
  | (k, v) :: r => (k, F v) :: mapL F r
theorem get_mapL {α : Type} (F : α → α) (l : List (Nat × α)) (n : Nat) : get (mapL F l) n = (get l n).map F := by
  induction l with
  | nil => rfl
  | cons p r ih =>
    obtain ⟨k, v⟩ := p
    simp only [mapL, get, beqN]
    by_cases h : k = n
    · simp [h]
    · simp only [h, decide_false, cond_false, ih]
def allA (p : Cl → Prop) : Av → Prop
  | .one c => p c
  | .agg l => ∀ c ∈ l, p c
def allT (p : Cl → Prop) : Tv → Prop
  | .av x => allA p x
  | .tup l => ∀ x ∈ l, allA p x
  | .grd _ x => allA p x
def allB (p : Cl → Prop) : Blk → Prop
  | .cells l _ => ∀ c ∈ l, p c
  | _ => True
section
variable {M M' : Nat → Option Obj} {σ σ' : Nat → Loc} {g : Cl → Cl} {p : Cl → Prop}
theorem RA_map (h : ∀ c V, p c → R M σ c V → R M' σ' (g c) V) : ∀ {x : Av} {V : Value}, allA p x → RA M σ x V → RA M' σ' (x.map g) V
  | .one c, V, hp, hx => h c V hp hx
  | .agg l, V, hp, ⟨vs, h1, h2⟩ => by
    refine ⟨vs, h1, ?_⟩
    replace hp : ∀ c ∈ l, p c := hp
    clear h1
    induction h2 with
    | nil => exact .nil
    | cons h3 _ ih => exact .cons (h _ _ (hp _ (by simp)) h3) (ih fun c hc => hp c (by simp [hc]))
theorem RT_map (h : ∀ c V, p c → R M σ c V → R M' σ' (g c) V) : ∀ {x : Tv} {V : Value}, allT p x → RT M σ x V → RT M' σ' (x.map g) V
  | .av x, V, hp, hx => RA_map h hp hx
  | .tup l, V, hp, ⟨vs, h1, h2⟩ => by
    refine ⟨vs, h1, ?_⟩
    replace hp : ∀ c ∈ l, allA p c := hp
    clear h1
    induction h2 with
    | nil => exact .nil
    | cons h3 _ ih => exact .cons (RA_map h (hp _ (by simp)) h3) (ih fun c hc => hp c (by simp [hc]))
  | .grd q x, V, hp, hx => ⟨fun hq => RA_map h hp (hx.1 hq), hx.2⟩
theorem L2_map (h : ∀ c V, p c → R M σ c V → R M' σ' (g c) V) {l : List Cl} {vs : List Value} (hp : ∀ c ∈ l, p c) (h2 : L2 (R M σ) l vs) : L2 (R M' σ') (l.map g) vs := by
  induction h2 with
  | nil => exact .nil
  | cons h3 _ ih => exact .cons (h _ _ (hp _ (by simp)) h3) (ih fun c hc => hp c (by simp [hc]))
end

/-! ### A row that nobody changes any more -/
def fzC (n sz len : Nat) (f : Nat → Nat → Cl) : Cl → Cl
  | .own m s l => bif Nat.beq m n then .list false sz len f else .own m s l
  | c => c
/-- What must hold of a cell so that a row may be frozen. -/
def fzP (n sz len : Nat) : Cl → Prop
  | .own m s l => bif Nat.beq m n then l = len ∧ s = sz else True
  | _ => True
def fzS (n sz len : Nat) (f : Nat → Nat → Cl) (s : AS) : AS := ⟨mapL (Tv.map (fzC n sz len f)) s.t, del (mapL (Blk.map (fzC n sz len f)) s.h) n⟩
def AllT (p : Cl → Prop) : List (Nat × Tv) → Prop
  | [] => True
  | (_, v) :: r => allT p v ∧ AllT p r
def AllB (p : Cl → Prop) : List (Nat × Blk) → Prop
  | [] => True
  | (_, v) :: r => allB p v ∧ AllB p r
theorem AllT.get {p : Cl → Prop} : ∀ {l : List (Nat × Tv)}, AllT p l → ∀ i v, get l i = some v → allT p v
  | [], _, i, v, h => by cases h
  | (k, u) :: r, h, i, v, hg => by
    simp only [Go.Proofs.Ytgmhnkoifdpemaa.get, beqN] at hg
    by_cases hk : k = i
    · simp [hk] at hg; subst hg; exact h.1
    · simp [hk] at hg; exact AllT.get h.2 i v hg
theorem AllB.get {p : Cl → Prop} : ∀ {l : List (Nat × Blk)}, AllB p l → ∀ i v, get l i = some v → allB p v
  | [], _, i, v, h => by cases h
  | (k, u) :: r, h, i, v, hg => by
    simp only [Go.Proofs.Ytgmhnkoifdpemaa.get, beqN] at hg
    by_cases hk : k = i
    · simp [hk] at hg; subst hg; exact h.1
    · simp [hk] at hg; exact AllB.get h.2 i v hg
section
variable {P : Program} {rd : Option Nat} {N : Nat} {W0 : World} {X : Nat → Option Loc} {M0 M : Nat → Option Obj} {σ : Nat → Loc} {w : World} {a : Act} {Q : Exit → AS → Prop} {s : AS}

/-- The one id that may be pinned is another one than n, and its block is known. -/
def xok (K : Option Nat) (n : Nat) (s : AS) : Bool := match K with
  | none => true
  | some k => !Nat.beq k n && (match get s.h k with
    | some (.cells ..) => true
    | _ => false)
theorem xok_ok {K : Option Nat} {n : Nat} (hX : ∀ k x, X k = some x → K = some k) (hK : xok K n s = true) (hs : Sim N W0 X M0 M σ (get s.t) (get s.h) a w) {b0 : Blk} (hn : get s.h n = some b0) (hnil : (σ n).nil = false) : ¬ inX X (σ n).b := by
  rintro ⟨k, x, hk, hx⟩
  have := hX k x hk
  subst this
  simp only [xok, Bool.and_eq_true] at hK
  obtain ⟨h1, h2⟩ := hK
  have hne : n ≠ k := (beq_ne h1).symm
  split at h2
  · rename_i l ty hg
    have hnk : (σ k).nil = false := (hs.blk k _ hg).1
    have hp := (hs.pin k x hk).2
    rcases hs.inj n k _ _ hn hg hne with h3 | h3 | h3
    · rw [hnil] at h3; cases h3
    · rw [hnk] at h3; cases h3
    · rw [hp] at h3; exact h3 hx.symm
  · cases h2
theorem sim_freeze {K : Option Nat} (n sz len : Nat) (f : Nat → Nat → Cl) (ty : TypeId) (hX : ∀ k x, X k = some x → K = some k) (hK : xok K n s = true) (hn : get s.h n = some (.row sz len f ty)) (ht : AllT (fzP n sz len) s.t) (hb : AllB (fzP n sz len) s.h) (hs : Sim N W0 X M0 M σ (get s.t) (get s.h) a w) : ∃ M', Sim N W0 X M0 M' σ (get (fzS n sz len f s).t) (get (fzS n sz len f s).h) a w := by
  have hrow := hs.blk n _ hn
  -- the new M
  obtain ⟨M', hsub, hnew, himm, hother, hR⟩ : ∃ M' : Nat → Option Obj, (∀ b o, M b = some o → M' b = some o) ∧ (∀ b o, M' b = some o → M b = none → W0.heap.size ≤ b) ∧ (∀ b o, M' b = some o → w.heap[b]? = some o) ∧ (∀ b, ((σ n).nil = true ∨ b ≠ (σ n).b) → M' b = M b) ∧
      (∀ c V, fzP n sz len c → R M σ c V → R M' σ (fzC n sz len f c) V) := by
    cases hnil : (σ n).nil with
    | true =>
      have hl0 : len = 0 := by
        rcases hrow with ⟨_, h⟩ | ⟨h, _⟩
        · exact h
        · rw [hnil] at h; cases h
      subst hl0
      refine ⟨M, fun _ _ h => h, fun b o h1 h2 => (by rw [h1] at h2; cases h2), hs.imm, fun _ _ => rfl, fun c V hp hc => ?_⟩
      cases c with
      | own m s' l =>
        simp only [fzC, fzP] at *
        cases hm : Nat.beq m n with
        | false => exact hc
        | true =>
          rw [hm] at hp
          obtain ⟨rfl, rfl⟩ := hp
          have := Nat.eq_of_beq_eq_true hm
          subst this
          simp only [R, hnil, if_true] at hc
          rw [hc.2]
          exact .nil _ _ _ rfl
      | _ => exact hc
    | false =>
      rcases hrow with ⟨h, _⟩ | ⟨_, cc, hcc, hsz, hlc, hcm, gg, hgg⟩
      · rw [hnil] at h; cases h
      have hloc : M (σ n).b = none ∧ W0.heap.size ≤ (σ n).b := by
        rcases hs.loc n _ hn with h | ⟨h1, h2 | h2⟩
        · rw [hnil] at h; cases h
        · exact ⟨h1, h2⟩
        · exact absurd h2 (xok_ok hX hK hs hn hnil)
      refine ⟨fun b => if b = (σ n).b then w.heap[b]? else M b, fun b o h1 => ?_, fun b o h1 h2 => ?_, fun b o h1 => ?_, fun b hb => ?_, fun c V hp hc => ?_⟩
      · by_cases hb : b = (σ n).b
        · subst hb; rw [hloc.1] at h1; cases h1
        · simp only [hb, if_false]; exact h1
      · by_cases hb : b = (σ n).b
        · subst hb; exact hloc.2
        · simp only [hb, if_false] at h1; rw [h1] at h2; cases h2
      · by_cases hb : b = (σ n).b
        · simp only [hb, if_true] at h1; rw [hb]; exact h1
        · simp only [hb, if_false] at h1; exact hs.imm b o h1
      · rcases hb with hb | hb
        · cases hb
        · simp only [hb, if_false]
      · have hsub : ∀ b o, M b = some o → (fun b => if b = (σ n).b then w.heap[b]? else M b) b = some o := fun b o h1 => by
          by_cases hb : b = (σ n).b
          · subst hb; rw [hloc.1] at h1; cases h1
          · simp only [hb, if_false]; exact h1
        have hmono : ∀ c V, R M σ c V → R (fun b => if b = (σ n).b then w.heap[b]? else M b) σ c V := fun c V h => R_mono hsub (fun _ _ => rfl) h
        cases c with
        | own m s' l =>
          simp only [fzC, fzP] at *
          cases hm : Nat.beq m n with
          | false => exact hmono _ _ hc
          | true =>
            rw [hm] at hp
            obtain ⟨rfl, rfl⟩ := hp
            have := Nat.eq_of_beq_eq_true hm
            subst this
            simp only [R, hnil, Bool.false_eq_true, if_false] at hc
            rw [hc]
            refine .list _ _ _ _ _ 0 _ gg (fun i j hi hj => ?_) (fun i j hi hj => RC_mono hsub (hgg i j hi hj).2) hlc
            unfold cellM
            simp only [if_true, hcc, Nat.zero_add]
            exact (hgg i j hi hj).1
        | _ => exact hmono _ _ hc
  refine ⟨M', hs.os, hs.tape, hs.output, hs.size, hs.old, fun b o h1 => hsub b o (hs.sub b o h1), fun b o h1 h2 => ?_, hs.pin, hs.defers.mono hsub, hs.room, fun i v hv => ?_, himm, fun m b hb' => ?_, fun m b hb' => ?_, fun m k b c h1 h2 => ?_⟩
  · cases hM : M b with
    | none => exact hnew b o h1 hM
    | some o' => exact hs.new b o' hM h2
  · simp only [fzS, get_mapL] at hv
    cases hg : get s.t i with
    | none => rw [hg] at hv; cases hv
    | some v0 =>
      rw [hg] at hv
      simp only [Option.map_some, Option.some.injEq] at hv
      subst hv
      exact RT_map hR (ht.get i v0 hg) (hs.tmps i v0 hg)
  · simp only [fzS, get_del, get_mapL] at hb'
    split at hb'
    · cases hb'
    · rename_i hne
      cases hg : get s.h m with
      | none => rw [hg] at hb'; cases hb'
      | some b0 =>
        rw [hg] at hb'
        simp only [Option.map_some, Option.some.injEq] at hb'
        subst hb'
        have h0 := hs.blk m b0 hg
        cases b0 with
        | cells l ty' =>
          obtain ⟨h1, cc, h2, h3⟩ := h0
          exact ⟨h1, cc, h2, L2_map hR (hb.get m _ hg) h3⟩
        | row => exact BlkOk.mono hsub (fun _ _ => rfl) (fun _ => rfl) h0
        | omap => exact BlkOk.mono hsub (fun _ _ => rfl) (fun _ => rfl) h0
  · simp only [fzS, get_del, get_mapL] at hb'
    split at hb'
    · cases hb'
    · rename_i hne
      cases hg : get s.h m with
      | none => rw [hg] at hb'; cases hb'
      | some b0 =>
        rcases hs.loc m b0 hg with h1 | ⟨h1, h2⟩
        · exact .inl h1
        · by_cases hmn : (σ m).nil = true
          · exact .inl hmn
          · refine .inr ⟨?_, h2⟩
            rw [hother]
            · exact h1
            · rcases hs.inj n m _ _ hn hg hne with h3 | h3 | h3
              · exact .inl h3
              · exact absurd h3 hmn
              · exact .inr (Ne.symm h3)
  · simp only [fzS, get_del, get_mapL] at h1 h2
    split at h1
    · cases h1
    split at h2
    · cases h2
    intro hne
    cases hg : get s.h m with
    | none => rw [hg] at h1; cases h1
    | some b0 =>
      cases hg2 : get s.h k with
      | none => rw [hg2] at h2; cases h2
      | some c0 => exact hs.inj m k b0 c0 hg hg2 hne
/-- Whatever stands as s says stands as t says. -/
def Cv (N : Nat) (W0 : World) (X : Nat → Option Loc) (M0 : Nat → Option Obj) (s t : AS) : Prop := ∀ M σ a w, Sim N W0 X M0 M σ (get s.t) (get s.h) a w → ∃ M' σ', Sim N W0 X M0 M' σ' (get t.t) (get t.h) a w
theorem Cv.refl (s : AS) : Cv N W0 X M0 s s := fun M σ _ _ hs => ⟨M, σ, hs⟩
theorem Cv.trans {s t u : AS} (h : Cv N W0 X M0 s t) (k : Cv N W0 X M0 t u) : Cv N W0 X M0 s u := fun M σ a w hs => (h M σ a w hs).elim fun M' h1 => h1.elim fun σ' h2 => k M' σ' a w h2
theorem cv_keep {s : AS} (ts ns : List Nat) (S : AS) (hS : keepS ts ns s = S) : Cv N W0 X M0 s S := fun M σ _ _ hs => ⟨M, σ, hS ▸ sim_keep hs ts ns⟩
theorem cv_frz {s : AS} {K : Option Nat} (S : AS) (n sz len : Nat) (f : Nat → Nat → Cl) (ty : TypeId) (hX : ∀ k x, X k = some x → K = some k) (hK : xok K n s = true) (hn : get s.h n = some (.row sz len f ty)) (ht : AllT (fzP n sz len) s.t) (hb : AllB (fzP n sz len) s.h) (hS : fzS n sz len f s = S) : Cv N W0 X M0 s S := by
  subst hS
  intro M σ a w hs
  obtain ⟨M', h1⟩ := sim_freeze n sz len f ty hX hK hn ht hb hs
  exact ⟨M', σ, h1⟩
theorem aw_cv {c : Code} {s S : AS} (h : Cv N W0 X M0 s S) (k : AWp P rd N W0 X M0 c Q S) : AWp P rd N W0 X M0 c Q s := fun M σ a w hs => (h M σ a w hs).elim fun M' h1 => h1.elim fun σ' h2 => k M' σ' a w h2
theorem aw_cvend {c : Code} {s : AS} (h : AWp P rd N W0 X M0 c (fun e s => ∃ t, Cv N W0 X M0 s t ∧ Q e t) s) : AWp P rd N W0 X M0 c Q s := by
  intro M σ a w hs
  refine wpIn_mono (h M σ a w hs) ?_
  rintro e a' w' ⟨s', M', σ', ⟨t, h1, h2⟩, h3⟩
  obtain ⟨M'', σ'', h4⟩ := h1 M' σ' a' w' h3
  exact ⟨t, M'', σ'', h2, h4⟩
theorem aw_joinC {c : Code} {K : AS → Prop} {s : AS} (S : AS) (h1 : AWp P rd N W0 X M0 c (ATh (fun s' => Cv N W0 X M0 s' S) Q) s) (h2 : K S) : AWp P rd N W0 X M0 c (ATh K Q) s := by
  intro M σ a w hs
  refine wpIn_mono (h1 M σ a w hs) ?_
  rintro e a' w' ⟨s', M', σ', h3, h4⟩
  cases e with
  | normal =>
    obtain ⟨M'', σ'', h5⟩ := (show Cv N W0 X M0 s' S from h3) M' σ' a' w' h4
    exact ⟨_, M'', σ'', h2, h5⟩
  | _ => exact ⟨s', M', σ', h3, h4⟩
theorem aw_loopC {ι : Type} {c : Code} (S : ι → AS) (Inv : ι → Prop) (μ : ι → Nat) (round : ∀ x, Inv x → AWp P rd N W0 X M0 c (ATh (fun s' => ∃ y, Inv y ∧ μ y < μ x ∧ Cv N W0 X M0 s' (S y)) Q) (S x)) (x : ι) (hx : Inv x) : AWp P rd N W0 X M0 (.loop c) Q (S x) := by
  refine aw_loop S Inv μ (fun x hx => ?_) x hx
  intro M σ a w hs
  refine wpIn_mono (round x hx M σ a w hs) ?_
  rintro e a' w' ⟨s', M', σ', h1, h2⟩
  cases e with
  | normal =>
    obtain ⟨y, hy, hm, hc⟩ := h1
    obtain ⟨M'', σ'', h5⟩ := hc M' σ' a' w' h2
    exact ⟨S y, M'', σ'', ⟨y, hy, hm, rfl⟩, h5⟩
  | _ => exact ⟨s', M', σ', h1, h2⟩
end
end Go.Proofs.Ytgmhnkoifdpemaa
