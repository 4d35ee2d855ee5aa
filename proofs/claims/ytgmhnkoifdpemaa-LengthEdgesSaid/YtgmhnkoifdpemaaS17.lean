/-
  No statement is proved in this text. It holds more rules that say a state in other words: ids get new names, nothing becomes an empty row, rows are told anew.
-/
import Derived.Test.YtgmhnkoifdpemaaS16
namespace Go.Proofs.Ytgmhnkoifdpemaa
open Go.RowKit
set_option linter.unusedVariables false
set_option linter.unusedSimpArgs false

/-! ### New names -/
def renC (q d : Nat) : Cl → Cl
  | .ptr n off => .ptr (bif Nat.beq n q then d else n) off
  | .own n sz len => .own (bif Nat.beq n q then d else n) sz len
  | .rptr n sz i off => .rptr (bif Nat.beq n q then d else n) sz i off
  | .om n => .om (bif Nat.beq n q then d else n)
  | .clo f k caps => .clo f k (listF ((List.range k).map fun i => renC q d (caps i)))
  | c => c
theorem no_ne {n d : Nat} (h : (!Nat.beq n d) = true) : n ≠ d := beq_ne h
theorem renC_ok {M : Nat → Option Obj} {σ : Nat → Loc} (q d : Nat) : ∀ {c : Cl} {V : Value}, c.no d = true → R M σ c V → R M (upd σ d (σ q)) (renC q d c) V
  | .val _, _, _, h => h
  | .ptr n off, V, hd, h => by
    have hne := no_ne hd
    simp only [renC, R, beqN] at *
    by_cases hq : n = q
    · subst hq; simp only [decide_true, cond_true, upd_same]; exact h
    · simp only [hq, decide_false, cond_false, upd_ne _ _ hne]; exact h
  | .own n sz len, V, hd, h => by
    have hne := no_ne hd
    simp only [renC, R, beqN] at *
    by_cases hq : n = q
    · subst hq; simp only [decide_true, cond_true, upd_same]; exact h
    · simp only [hq, decide_false, cond_false, upd_ne _ _ hne]; exact h
  | .rptr n sz i off, V, hd, h => by
    have hne := no_ne hd
    simp only [renC, R, beqN] at *
    by_cases hq : n = q
    · subst hq; simp only [decide_true, cond_true, upd_same]; exact h
    · simp only [hq, decide_false, cond_false, upd_ne _ _ hne]; exact h
  | .om n, V, hd, h => by
    have hne := no_ne hd
    simp only [renC, R, beqN] at *
    by_cases hq : n = q
    · subst hq; simp only [decide_true, cond_true, upd_same]; exact h
    · simp only [hq, decide_false, cond_false, upd_ne _ _ hne]; exact h
  | .list .., _, _, h => h
  | .eptr .., _, _, h => h
  | .mp .., _, _, h => h
  | .clo f k caps, V, hd, h => by
    obtain ⟨cs, h1, h2, h3⟩ := h
    refine ⟨cs, h1, h2, fun i hi => ?_⟩
    rw [listF_map _ hi]
    refine renC_ok q d ?_ (h3 i hi)
    simp only [Cl.no, List.all_eq_true] at hd
    exact hd i (by simpa using hi)
def renH (q d : Nat) : List (Nat × Blk) → List (Nat × Blk)
  | [] => []
  | (k, v) :: r => (bif Nat.beq k q then d else k, v.map (renC q d)) :: renH q d r
theorem get_renH {q d : Nat} : ∀ {l : List (Nat × Blk)}, get l d = none → ∀ m b, get (renH q d l) m = some b → ∃ m0 b0, get l m0 = some b0 ∧ b = b0.map (renC q d) ∧ ((m0 = q ∧ m = d) ∨ (m0 ≠ q ∧ m0 = m ∧ m ≠ d))
  | [], _, m, b, h => by cases h
  | (k, v) :: r, hd, m, b, h => by
    simp only [get, beqN] at hd
    by_cases hkd : k = d
    · simp [hkd] at hd
    simp only [hkd, decide_false, cond_false] at hd
    simp only [renH, get, beqN] at h
    by_cases hkq : k = q
    · simp only [hkq, decide_true, cond_true] at h
      by_cases hdm : d = m
      · simp only [hdm, decide_true, cond_true, Option.some.injEq] at h
        exact ⟨q, v, by simp [get, beqN, hkq], by rw [hdm]; exact h.symm, .inl ⟨rfl, hdm.symm⟩⟩
      · simp only [hdm, decide_false, cond_false] at h
        obtain ⟨m0, b0, h1, h2, h3⟩ := get_renH hd m b h
        refine ⟨m0, b0, ?_, h2, h3⟩
        rcases h3 with ⟨_, h4⟩ | ⟨h4, _⟩
        · exact absurd h4.symm hdm
        · simp only [get, beqN]
          have : ¬ k = m0 := fun e => h4 (e ▸ hkq)
          simp [this, h1]
    · simp only [hkq, decide_false, cond_false] at h
      by_cases hkm : k = m
      · simp only [hkm, decide_true, cond_true, Option.some.injEq] at h
        exact ⟨k, v, by simp [get, beqN], h.symm, .inr ⟨hkq, hkm, hkm ▸ hkd⟩⟩
      · simp only [hkm, decide_false, cond_false] at h
        obtain ⟨m0, b0, h1, h2, h3⟩ := get_renH hd m b h
        refine ⟨m0, b0, ?_, h2, h3⟩
        simp only [get, beqN]
        have : ¬ k = m0 := by
          rcases h3 with ⟨h4, _⟩ | ⟨_, h4, _⟩
          · rw [h4]; exact hkq
          · rw [h4]; exact hkm
        simp [this, h1]
def noD (d : Nat) (s : AS) : Bool := s.t.all (fun p => p.2.no d) && s.h.all (fun p => p.2.no d) && (match get s.h d with
  | none => true
  | _ => false)
def notK (K : Option Nat) (n : Nat) : Bool := match K with
  | none => true
  | some k => !Nat.beq k n
def renS (q d : Nat) (s : AS) : AS := ⟨mapL (Tv.map (renC q d)) s.t, renH q d s.h⟩
theorem allT_of {d : Nat} {v : Tv} (h : v.no d = true) : allT (fun c => c.no d = true) v := by
  have av : ∀ x : Av, x.no d = true → allA (fun c => c.no d = true) x := fun x hx => by
    cases x with
    | one c => exact hx
    | agg l => exact fun c hc => (List.all_eq_true.1 hx) c hc
  cases v with
  | av x => exact av x h
  | tup l => exact fun x hx => av x ((List.all_eq_true.1 h) x hx)
  | grd g x => exact av x h
section
variable {P : Program} {rd : Option Nat} {N : Nat} {W0 : World} {X : Nat → Option Loc} {M0 M : Nat → Option Obj} {σ : Nat → Loc} {w : World} {a : Act} {Q : Exit → AS → Prop} {s : AS}
theorem noD_t {d : Nat} (h : noD d s = true) {i : Nat} {v : Tv} (hg : get s.t i = some v) : v.no d = true := by
  simp only [noD, Bool.and_eq_true, List.all_eq_true] at h
  exact h.1.1 _ (get_mem hg)
theorem noD_h {d : Nat} (h : noD d s = true) {i : Nat} {v : Blk} (hg : get s.h i = some v) : v.no d = true := by
  simp only [noD, Bool.and_eq_true, List.all_eq_true] at h
  exact h.1.2 _ (get_mem hg)
theorem noD_g {d : Nat} (h : noD d s = true) : get s.h d = none := by
  simp only [noD, Bool.and_eq_true] at h
  have := h.2
  split at this
  · assumption
  · cases this
theorem cv_ren {K : Option Nat} (S : AS) (q d : Nat) (hX : ∀ k x, X k = some x → K = some k) (h1 : notK K q = true) (h2 : notK K d = true) (hd : noD d s = true) (hS : renS q d s = S) : Cv N W0 X M0 s S := by
  subst hS
  intro M σ a w hs
  have hg := noD_g hd
  have hu : ∀ n, n ≠ d → upd σ d (σ q) n = σ n := fun n hn => upd_ne _ _ hn
  have hud : upd σ d (σ q) d = σ q := upd_same _ _ _
  refine ⟨M, upd σ d (σ q), ⟨hs.os, hs.tape, hs.output, hs.size, hs.old, hs.sub, hs.new, fun n x hx => ?_, hs.defers, hs.room, fun i v hv => ?_, hs.imm, fun m b hb => ?_, fun m b hb => ?_, fun m k b b' hb hb' hne => ?_⟩⟩
  · have hk := hX n x hx
    subst hk
    have hne : n ≠ d := beq_ne h2
    rw [hu n hne]
    exact hs.pin n x hx
  · simp only [renS, get_mapL] at hv
    cases hgi : get s.t i with
    | none => rw [hgi] at hv; cases hv
    | some v0 =>
      rw [hgi] at hv
      simp only [Option.map_some, Option.some.injEq] at hv
      subst hv
      exact RT_map (p := fun c => c.no d = true) (fun c V hp hc => renC_ok q d hp hc) (allT_of (noD_t hd hgi)) (hs.tmps i v0 hgi)
  · obtain ⟨m0, b0, g1, rfl, g3⟩ := get_renH hg m b hb
    have hloc : upd σ d (σ q) m = σ m0 := by
      rcases g3 with ⟨rfl, rfl⟩ | ⟨_, rfl, h4⟩
      · exact hud
      · exact hu _ h4
    rw [hloc]
    have h0 := hs.blk m0 b0 g1
    have hno := noD_h hd g1
    cases b0 with
    | cells l ty =>
      obtain ⟨e1, cc, e2, e3⟩ := h0
      exact ⟨e1, cc, e2, L2_map (p := fun c => c.no d = true) (fun c V hp hc => renC_ok q d hp hc) (fun c hc => (List.all_eq_true.1 hno) c hc) e3⟩
    | row => exact h0
    | omap => exact h0
  · obtain ⟨m0, b0, g1, rfl, g3⟩ := get_renH hg m b hb
    have hloc : upd σ d (σ q) m = σ m0 := by
      rcases g3 with ⟨rfl, rfl⟩ | ⟨_, rfl, h4⟩
      · exact hud
      · exact hu _ h4
    rw [hloc]
    exact hs.loc m0 b0 g1
  · obtain ⟨m0, b0, g1, rfl, g3⟩ := get_renH hg m b hb
    obtain ⟨k0, b0', g1', rfl, g3'⟩ := get_renH hg k b' hb'
    have hl1 : upd σ d (σ q) m = σ m0 := by
      rcases g3 with ⟨rfl, rfl⟩ | ⟨_, rfl, h4⟩
      · exact hud
      · exact hu _ h4
    have hl2 : upd σ d (σ q) k = σ k0 := by
      rcases g3' with ⟨rfl, rfl⟩ | ⟨_, rfl, h4⟩
      · exact hud
      · exact hu _ h4
    rw [hl1, hl2]
    refine hs.inj m0 k0 b0 b0' g1 g1' ?_
    rintro rfl
    rcases g3 with ⟨e1, e2⟩ | ⟨e1, e2, _⟩ <;> rcases g3' with ⟨e3, e4⟩ | ⟨e3, e4, _⟩
    · exact hne (e2.trans e4.symm)
    · exact e3 e1
    · exact e1 e3
    · exact hne (e2.symm.trans e4)

/-! ### Nothing becomes an empty row -/
def memN (n : Nat) : List Nat → Bool
  | [] => false
  | k :: r => Nat.beq k n || memN n r
def nilC (d sz : Nat) : Cl → Cl
  | .val (.slice none 0 0) => .own d sz 0
  | c => c
def mapIx (g : Cl → Cl) (is : List Nat) : Nat → List Cl → List Cl
  | _, [] => []
  | k, c :: r => (bif memN k is then g c else c) :: mapIx g is (k + 1) r
def Av.mapIx (g : Cl → Cl) (is : List Nat) : Av → Av
  | .one c => .one (bif memN 0 is then g c else c)
  | .agg l => .agg (Go.Proofs.Ytgmhnkoifdpemaa.mapIx g is 0 l)
def Tv.mapIx (g : Cl → Cl) (is : List Nat) : Tv → Tv
  | .av x => .av (x.mapIx g is)
  | v => v
def Blk.mapIx (g : Cl → Cl) (is : List Nat) : Blk → Blk
  | .cells l ty => .cells (Go.Proofs.Ytgmhnkoifdpemaa.mapIx g is 0 l) ty
  | b => b
def mapAt {α : Type} (F : List Nat → α → α) (is : List (Nat × List Nat)) : List (Nat × α) → List (Nat × α)
  | [] => []
  | (k, v) :: r => (k, F ((get is k).getD []) v) :: mapAt F is r
theorem get_mapAt {α : Type} (F : List Nat → α → α) (is : List (Nat × List Nat)) (l : List (Nat × α)) (n : Nat) : get (mapAt F is l) n = (get l n).map (F ((get is n).getD [])) := by
  induction l with
  | nil => rfl
  | cons p r ih =>
    obtain ⟨k, v⟩ := p
    simp only [mapAt, get, beqN]
    by_cases h : k = n
    · simp [h]
    · simp only [h, decide_false, cond_false, ih]
theorem nilC_ok {d sz : Nat} {x : Loc} (hx : x.nil = true) : ∀ {c : Cl} {V : Value}, c.no d = true → R M σ c V → ∀ t : Bool, R M (upd σ d x) (bif t then nilC d sz c else c) V := by
  intro c V hd hc t
  have keep : R M (upd σ d x) c V := R_mono (fun _ _ h => h) (fun n hn => by
    by_cases e : n = d
    · subst e; rw [hd] at hn; cases hn
    · exact upd_ne _ _ e) hc
  cases t with
  | false => exact keep
  | true =>
    show R M (upd σ d x) (nilC d sz c) V
    unfold nilC
    split
    · obtain ⟨rfl, _⟩ := hc
      simp only [R, upd_same, hx, if_true]
      exact ⟨trivial, trivial⟩
    · exact keep
theorem L2_mapIx {d sz : Nat} {x : Loc} (hx : x.nil = true) (is : List Nat) : ∀ (k : Nat) {l : List Cl} {vs : List Value}, (∀ c ∈ l, c.no d = true) → L2 (R M σ) l vs → L2 (R M (upd σ d x)) (mapIx (nilC d sz) is k l) vs
  | k, [], vs, hp, h => by cases h; exact .nil
  | k, c :: r, vs, hp, h => by
    cases h with | cons h1 h2 =>
    exact .cons (nilC_ok hx (hp c (by simp)) h1 _) (L2_mapIx hx is (k + 1) (fun c hc => hp c (by simp [hc])) h2)
def ghS (d sz : Nat) (f : Nat → Nat → Cl) (ty : TypeId) (it ih : List (Nat × List Nat)) (s : AS) : AS := ⟨mapAt (Tv.mapIx (nilC d sz)) it s.t, (d, .row sz 0 f ty) :: mapAt (Blk.mapIx (nilC d sz)) ih s.h⟩
theorem cv_ghost {K : Option Nat} (S : AS) (d sz : Nat) (f : Nat → Nat → Cl) (ty : TypeId) (it ih : List (Nat × List Nat)) (hX : ∀ k x, X k = some x → K = some k) (h2 : notK K d = true) (hd : noD d s = true) (hS : ghS d sz f ty it ih s = S) : Cv N W0 X M0 s S := by
  subst hS
  intro M σ a w hs
  have hg := noD_g hd
  have hu : ∀ n, n ≠ d → upd σ d ⟨0, 0, true⟩ n = σ n := fun n hn => upd_ne _ _ hn
  have hud : (upd σ d ⟨0, 0, true⟩ d) = ⟨0, 0, true⟩ := upd_same _ _ _
  have hkey : ∀ m b, get ((d, Blk.row sz 0 f ty) :: mapAt (Blk.mapIx (nilC d sz)) ih s.h) m = some b → (m = d ∧ b = .row sz 0 f ty) ∨ (m ≠ d ∧ ∃ b0, get s.h m = some b0 ∧ b = b0.mapIx (nilC d sz) ((get ih m).getD [])) := fun m b hb => by
    simp only [get, beqN] at hb
    by_cases e : d = m
    · simp [e] at hb; exact .inl ⟨e.symm, by rw [← hb]⟩
    · simp only [e, decide_false, cond_false, get_mapAt] at hb
      cases hg0 : get s.h m with
      | none => rw [hg0] at hb; cases hb
      | some b0 =>
        rw [hg0] at hb
        simp only [Option.map_some, Option.some.injEq] at hb
        exact .inr ⟨Ne.symm e, b0, rfl, hb.symm⟩
  refine ⟨M, upd σ d ⟨0, 0, true⟩, ⟨hs.os, hs.tape, hs.output, hs.size, hs.old, hs.sub, hs.new, fun n x hx => ?_, hs.defers, hs.room, fun i v hv => ?_, hs.imm, fun m b hb => ?_, fun m b hb => ?_, fun m k b b' hb hb' hne => ?_⟩⟩
  · have hk := hX n x hx
    subst hk
    have hne : n ≠ d := beq_ne h2
    rw [hu n hne]
    exact hs.pin n x hx
  · simp only [ghS, get_mapAt] at hv
    cases hgi : get s.t i with
    | none => rw [hgi] at hv; cases hv
    | some v0 =>
      rw [hgi] at hv
      simp only [Option.map_some, Option.some.injEq] at hv
      subst hv
      have h0 := hs.tmps i v0 hgi
      have hno := noD_t hd hgi
      have hmono : RT M (upd σ d ⟨0, 0, true⟩) v0 (a.tmps.getD i undef) := RT_mono (fun _ _ h => h) (fun n hn => by
        by_cases e : n = d
        · subst e; rw [hno] at hn; cases hn
        · exact hu n e) h0
      cases v0 with
      | av x =>
        cases x with
        | one c => exact nilC_ok rfl hno h0 _
        | agg l =>
          obtain ⟨vs, e1, e2⟩ := h0
          exact ⟨vs, e1, L2_mapIx rfl _ 0 (fun c hc => (List.all_eq_true.1 hno) c hc) e2⟩
      | tup l => exact hmono
      | grd g x => exact hmono
  · rcases hkey m b hb with ⟨rfl, rfl⟩ | ⟨hne, b0, g1, rfl⟩
    · rw [hud]; exact .inl ⟨rfl, rfl⟩
    · rw [hu m hne]
      have h0 := hs.blk m b0 g1
      have hno := noD_h hd g1
      cases b0 with
      | cells l ty' =>
        obtain ⟨e1, cc, e2, e3⟩ := h0
        exact ⟨e1, cc, e2, L2_mapIx rfl _ 0 (fun c hc => (List.all_eq_true.1 hno) c hc) e3⟩
      | row => exact h0
      | omap => exact h0
  · rcases hkey m b hb with ⟨rfl, rfl⟩ | ⟨hne, b0, g1, rfl⟩
    · rw [hud]; exact .inl rfl
    · rw [hu m hne]; exact hs.loc m b0 g1
  · rcases hkey m b hb with ⟨rfl, rfl⟩ | ⟨h3, b0, g1, rfl⟩
    · rw [hud]; exact .inl rfl
    · rcases hkey k b' hb' with ⟨rfl, rfl⟩ | ⟨h4, b0', g1', rfl⟩
      · rw [hud]; exact .inr (.inl rfl)
      · rw [hu m h3, hu k h4]; exact hs.inj m k b0 b0' g1 g1' hne

/-! ### Rows and lists told anew -/
theorem aw_rw {α : Type} {c : Code} (mk : α → AS) {x y : α} (h : x = y) (hk : AWp P rd N W0 X M0 c Q (mk y)) : AWp P rd N W0 X M0 c Q (mk x) := h ▸ hk
theorem aw_row {c : Code} (n sz : Nat) (mk : Nat → (Nat → Nat → Cl) → AS) (x y : Nat) (f f' : Nat → Nat → Cl) (ty : TypeId) (hxy : x = y) (hf : ∀ i j, i < y → j < sz → f i j = f' i j) (h1 : get (mk y f).h n = some (.row sz y f ty))
    (h2 : (⟨(mk y f).t, put (mk y f).h n (.row sz y f' ty)⟩ : AS) = mk y f') (h : AWp P rd N W0 X M0 c Q (mk y f')) : AWp P rd N W0 X M0 c Q (mk x f) := by
  subst hxy
  rw [← h2] at h
  intro M σ a w hs
  have hb : ∀ m b, get (put (mk x f).h n (.row sz x f' ty)) m = some b → ∃ b0, get (mk x f).h m = some b0 ∧ (BlkOk M σ w (σ m) b0 → BlkOk M σ w (σ m) b) := fun m b hb => by
    rw [get_put] at hb
    split at hb
    · rename_i e
      subst e
      injection hb with hb
      subst hb
      refine ⟨_, h1, fun h0 => ?_⟩
      rcases h0 with h0 | ⟨e0, cc, e1, e2, e3, e4, g, e5⟩
      · exact .inl h0
      · exact .inr ⟨e0, cc, e1, e2, e3, e4, g, fun i j hi hj => ⟨(e5 i j hi hj).1, by rw [← hf i j hi hj]; exact (e5 i j hi hj).2⟩⟩
    · exact ⟨b, hb, id⟩
  refine h M σ a w ⟨hs.os, hs.tape, hs.output, hs.size, hs.old, hs.sub, hs.new, hs.pin, hs.defers, hs.room, hs.tmps, hs.imm, fun m b hm => ?_, fun m b hm => ?_, fun m k b b' hm hk hne => ?_⟩
  · obtain ⟨b0, e1, e2⟩ := hb m b hm; exact e2 (hs.blk m b0 e1)
  · obtain ⟨b0, e1, _⟩ := hb m b hm; exact hs.loc m b0 e1
  · obtain ⟨b0, e1, _⟩ := hb m b hm; obtain ⟨b0', e1', _⟩ := hb k b' hk; exact hs.inj m k b0 b0' e1 e1' hne
end
/-- How a typed row reads. -/
def rowF {α : Type} [Inhabited α] (c : α → List Cl) (xs : List α) : Nat → Nat → Cl := fun i j => (c (xs.getD i default)).getD j default
theorem row_app {α : Type} [Inhabited α] (c : α → List Cl) (xs ys : List α) (sz : Nat) (g : Nat → Nat → Cl) (hg : ∀ i j, i < ys.length → j < sz → g i j = rowF c ys i j) : ∀ i j, i < (xs ++ ys).length → j < sz → (if i < xs.length then rowF c xs i j else g (i - xs.length) j) = rowF c (xs ++ ys) i j := by
  intro i j hi hj
  rw [List.length_append] at hi
  unfold rowF at *
  by_cases h : i < xs.length
  · rw [if_pos h]
    simp only [List.getD_eq_getElem?_getD, List.getElem?_append_left h]
  · rw [if_neg h, hg _ _ (by omega) hj]
    simp only [List.getD_eq_getElem?_getD, List.getElem?_append_right (Nat.le_of_not_lt h)]
theorem row_set {α : Type} [Inhabited α] (c : α → List Cl) (xs : List α) (k : Nat) (v : α) (l : List Cl) (sz off m : Nat) (hk : k < xs.length) (hv : ∀ j, j < sz → (if off ≤ j ∧ j < off + m then l.getD (j - off) default else (c (xs.getD k default)).getD j default) = (c v).getD j default) :
    ∀ i j, i < (xs.set k v).length → j < sz → (if i = k ∧ off ≤ j ∧ j < off + m then l.getD (j - off) default else rowF c xs i j) = rowF c (xs.set k v) i j := by
  intro i j hi hj
  unfold rowF
  by_cases h : i = k
  · subst h
    have := hv j hj
    simp only [List.getD_eq_getElem?_getD, List.getElem?_set_self hk, Option.getD_some, true_and] at *
    exact this
  · rw [if_neg (fun k => h k.1)]
    simp only [List.getD_eq_getElem?_getD, List.getElem?_set_ne (Ne.symm h)]
end Go.Proofs.Ytgmhnkoifdpemaa
