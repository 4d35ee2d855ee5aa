/-
  No statement is proved in this text. It holds that values may be told in other words at calls, in states and at a function's end, and how rows and lists are told by typed lists.
-/
import Derived.Test.YtgmhnkoifdpemaaS18
namespace Go.Proofs.Ytgmhnkoifdpemaa
open Go.RowKit
set_option linter.unusedVariables false

/-! ### Values in other words -/
inductive AvE : Av → Av → Prop
  | one {c c' : Cl} (h : ClE c c') : AvE (.one c) (.one c')
  | agg {l l' : List Cl} (h : L2 ClE l l') : AvE (.agg l) (.agg l')
inductive TvE : Tv → Tv → Prop
  | refl (v : Tv) : TvE v v
  | av {x x' : Av} (h : AvE x x') : TvE (.av x) (.av x')
  | tup {l l' : List Av} (h : L2 AvE l l') : TvE (.tup l) (.tup l')
inductive BlkE : Blk → Blk → Prop
  | refl (b : Blk) : BlkE b b
  | cells {l l' : List Cl} (ty : TypeId) (h : L2 ClE l l') : BlkE (.cells l ty) (.cells l' ty)
  | row (sz : Nat) {len len' : Nat} {f f' : Nat → Nat → Cl} (ty : TypeId) (hl : len = len') (h : ∀ i j, i < len' → j < sz → ClE (f i j) (f' i j)) : BlkE (.row sz len f ty) (.row sz len' f' ty)
  | omap (agg : Bool) (nv : Nat) {len len' : Nat} {kf kf' : Nat → Value} {f f' : Nat → Nat → Cl} (hl : len = len') (hk : ∀ i, i < len' → kf i = kf' i) (h : ∀ i j, i < len' → j < nv → ClE (f i j) (f' i j)) : BlkE (.omap agg nv len kf f) (.omap agg nv len' kf' f')
theorem AvE.refl : ∀ x : Av, AvE x x
  | .one c => .one (.refl c)
  | .agg l => .agg (by
      induction l with
      | nil => exact .nil
      | cons c l ih => exact .cons (.refl c) ih)
theorem L2.trans3 {α β : Type} {r : α → β → Prop} {q : α → α → Prop} {r' : α → β → Prop} (hq : ∀ a a' b, q a a' → r a b → r' a' b) {l l' : List α} {m : List β} (h : L2 q l l') (k : L2 r l m) : L2 r' l' m := by
  induction h generalizing m with
  | nil => cases k; exact .nil
  | cons h1 _ ih => cases k with | cons k1 k2 => exact .cons (hq _ _ _ h1 k1) (ih k2)
section
variable {P : Program} {rd : Option Nat} {N : Nat} {W0 : World} {X : Nat → Option Loc} {M0 M : Nat → Option Obj} {σ : Nat → Loc} {w : World} {a : Act} {Q : Exit → AS → Prop} {s S : AS}
theorem RA_AvE {x x' : Av} {V : Value} (he : AvE x x') (h : RA M σ x V) : RA M σ x' V := by
  cases he with
  | one h1 => exact R_ClE h1 h
  | agg h1 =>
    obtain ⟨vs, e1, e2⟩ := h
    exact ⟨vs, e1, L2.trans3 (r := R M σ) (r' := R M σ) (fun _ _ _ => R_ClE) h1 e2⟩
theorem RT_TvE {x x' : Tv} {V : Value} (he : TvE x x') (h : RT M σ x V) : RT M σ x' V := by
  cases he with
  | refl => exact h
  | av h1 => exact RA_AvE h1 h
  | tup h1 =>
    obtain ⟨vs, e1, e2⟩ := h
    exact ⟨vs, e1, L2.trans3 (r := RA M σ) (r' := RA M σ) (fun _ _ _ => RA_AvE) h1 e2⟩
theorem BlkOk_E {x : Loc} {b b' : Blk} (he : BlkE b b') (h : BlkOk M σ w x b) : BlkOk M σ w x b' := by
  cases he with
  | refl => exact h
  | cells ty h1 =>
    obtain ⟨h0, c, hc, hl⟩ := h
    exact ⟨h0, c, hc, L2.trans3 (r := R M σ) (r' := R M σ) (fun _ _ _ => R_ClE) h1 hl⟩
  | row sz ty hl hf =>
    subst hl
    rcases h with h0 | ⟨e0, cc, e1, e2, e3, e4, g, e5⟩
    · exact .inl h0
    · exact .inr ⟨e0, cc, e1, e2, e3, e4, g, fun i j hi hj => ⟨(e5 i j hi hj).1, RC_ClE (hf i j hi hj) _ (e5 i j hi hj).2⟩⟩
  | omap agg nv hl hk hf =>
    subst hl
    obtain ⟨e0, es, ck, g, e1, e2, e3, e4⟩ := h
    exact ⟨e0, es, ck, g, e1, e2, fun i e he => by
      have hi : i < es.size := (Array.getElem?_eq_some_iff.1 he).1
      rw [← hk i (by omega)]; exact e3 i e he, fun i j hi hj => RC_ClE (hf i j hi hj) _ (e4 i j hi hj)⟩
def TE : List (Nat × Tv) → List (Nat × Tv) → Prop := L2 fun p q => p.1 = q.1 ∧ TvE p.2 q.2
def HE : List (Nat × Blk) → List (Nat × Blk) → Prop := L2 fun p q => p.1 = q.1 ∧ BlkE p.2 q.2
theorem get_L2 {α : Type} {r : α → α → Prop} {l l' : List (Nat × α)} (h : L2 (fun p q => p.1 = q.1 ∧ r p.2 q.2) l l') (i : Nat) {v' : α} (hv : get l' i = some v') : ∃ v, get l i = some v ∧ r v v' := by
  induction h with
  | nil => cases hv
  | @cons p q l l' h1 _ ih =>
    obtain ⟨k, v⟩ := p
    obtain ⟨k', u⟩ := q
    obtain ⟨rfl, h2⟩ := h1
    simp only [get, beqN] at hv ⊢
    by_cases hk : k = i
    · simp [hk] at hv ⊢; subst hv; exact h2
    · simp only [hk, decide_false, cond_false] at hv ⊢; exact ih hv
theorem sim_ce (ht : TE s.t S.t) (hh : HE s.h S.h) (hs : Sim N W0 X M0 M σ (get s.t) (get s.h) a w) : Sim N W0 X M0 M σ (get S.t) (get S.h) a w :=
  ⟨hs.os, hs.tape, hs.output, hs.size, hs.old, hs.sub, hs.new, hs.pin, hs.defers, hs.room, fun i v h => (get_L2 ht i h).elim fun u hu => RT_TvE hu.2 (hs.tmps i u hu.1), hs.imm,
    fun n b h => (get_L2 hh n h).elim fun u hu => BlkOk_E hu.2 (hs.blk n u hu.1), fun n b h => (get_L2 hh n h).elim fun u hu => hs.loc n u hu.1,
    fun n m b c h1 h2 => (get_L2 hh n h1).elim fun u hu => (get_L2 hh m h2).elim fun v hv => hs.inj n m u v hu.1 hv.1⟩
theorem cv_ce (S : AS) (ht : TE s.t S.t) (hh : HE s.h S.h) : Cv N W0 X M0 s S := fun M σ _ _ hs => ⟨M, σ, sim_ce ht hh hs⟩
/-- A contract, told for values that read as its own ones. -/
theorem callOk_ce {f : FuncId} {xs xs' : List Av} {e : Ef} (h : CallOk P f xs' e) (hx : L2 AvE xs xs') : CallOk P f xs e :=
  match h with
  | .inl h => .inl ⟨h.1, fun M σ w hh args cs g hs hargs hr hc => h.2 M σ w hh args cs g hs (L2.trans3 (r := RA M σ) (r' := RA M σ) (fun _ _ _ => RA_AvE) hx hargs) hr hc⟩
  | .inr ⟨cs, v, he, h⟩ => .inr ⟨cs, v, he, fun M σ w args himm hc hargs => h M σ w args himm hc (L2.trans3 (r := RA M σ) (r' := RA M σ) (fun _ _ _ => RA_AvE) hx hargs)⟩
theorem pure_ce {f : FuncId} {xs xs' : List Av} {r : Tv} (h : Pure P f xs' r) (hx : L2 AvE xs xs') : Pure P f xs r :=
  fun M σ w args himm hargs => h M σ w args himm (L2.trans3 (r := RA M σ) (r' := RA M σ) (fun _ _ _ => RA_AvE) hx hargs)
/-- The contract c, called with xs. -/
def ceI (xs : List Av) (c : FuncId × List Av × Ef) : FuncId × List Av × Ef := (c.1, xs, c.2.2)

/-! ### A function's end -/
/-- What is asked at a function's end: what it returns reads as r, perhaps when its rows are frozen. -/
def EndQ (P : Program) (N : Nat) (W0 : World) (X : Nat → Option Loc) (M0 : Nat → Option Obj) (fn : Func) (φ : Tv → AS → Prop) : Exit → AS → Prop := fun e s => ∃ t, Cv N W0 X M0 s t ∧ RetQ P fn φ e t
theorem pure_of_awF {f : FuncId} {fn : Func} {c : Code} (hf : P.funcs[f]? = some fn) (hb : fn.body = some c) {xs : List Av} {r : Tv} (hN : Nat.ble xs.length fn.ntmps = true) (hd : r.dv = true)
    (h : ∀ (W0 : World) (M0 : Nat → Option Obj), AWp P none fn.ntmps W0 noX M0 c (EndQ P fn.ntmps W0 noX M0 fn fun r' _ => TvE r' r) ⟨entryT 0 xs, []⟩) : Pure P f xs r := by
  intro M σ w args himm hargs
  refine calls_of_aw (X := noX) (σ := σ) (h0 := []) hf hb (Nat.le_of_ble_eq_true hN) himm hargs (fun n b h => by cases h) (fun n b h => by cases h) (fun n x h => by cases h) (fun n m b c h => by cases h) (aw_cvend (h w M)) ?_
  rintro r' s' M' σ' a' w' U he hs hR
  exact ⟨U, rfl, M', ⟨hs.os, hs.tape, hs.output, hs.size, fun b hb _ => hs.old b hb (not_inX b), hs.sub, hs.new, hs.imm⟩, fun σ'' => RT_any hd (RT_TvE he hR)⟩
theorem wr_of_awF {f : FuncId} {fn : Func} {c : Code} (hf : P.funcs[f]? = some fn) (hb : fn.body = some c) {K : Nat} {xs : List Av} {b0 b1 : Blk} {r : Tv} (hN : Nat.ble xs.length fn.ntmps = true) (hK : Nat.ble fn.ntmps K = true) (hd : r.dv = true) (hd1 : capOk b1 = true)
    (h : ∀ (W0 : World) (M0 : Nat → Option Obj) (X : Nat → Option Loc), (∀ k x, X k = some x → some K = some k) → AWp P none fn.ntmps W0 X M0 c (EndQ P fn.ntmps W0 X M0 fn fun r' s' => TvE r' r ∧ ∃ b, get s'.h K = some b ∧ BlkE b b1) ⟨entryT 0 xs, [(K, b0)]⟩) : Wr P f K xs b0 r b1 := by
  intro M σ w args himm hblk hnil hM hargs
  let X : Nat → Option Loc := upd noX K (some (σ K))
  have hX : X K = some (σ K) := upd_same _ _ _
  have one : ∀ n b, get [(K, b0)] n = some b → n = K ∧ b = b0 := fun n b hn => by
    simp only [get, beqN] at hn
    by_cases hk : K = n
    · simp [hk] at hn; exact ⟨hk.symm, hn.symm⟩
    · simp [hk] at hn
  have pins : ∀ n x, X n = some x → n = K ∧ x = σ K := fun n x hx => by
    by_cases hk : n = K
    · subst hk; rw [hX] at hx; injection hx with hx; exact ⟨rfl, hx.symm⟩
    · simp only [X] at hx; rw [upd_ne _ _ hk] at hx; cases hx
  have hXK : ∀ k x, X k = some x → some K = some k := fun k x hk => by rw [(pins k x hk).1]
  refine calls_of_aw (X := X) (σ := σ) (h0 := [(K, b0)]) hf hb (Nat.le_of_ble_eq_true hN) himm hargs (fun n b hn => ?_) (fun n b hn => ?_) (fun n x hx => ?_) (fun n m b c hn hm hne => ?_) (aw_cvend (h w M X hXK)) ?_
  · obtain ⟨rfl, rfl⟩ := one n b hn; exact hblk
  · obtain ⟨rfl, rfl⟩ := one n b hn; exact .inr ⟨hM, n, σ n, hX, rfl⟩
  · obtain ⟨rfl, rfl⟩ := pins n x hx; exact ⟨Nat.le_of_ble_eq_true hK, rfl⟩
  · exact absurd ((one n b hn).1.trans (one m c hm).1.symm) hne
  · rintro r' s' M' σ' a' w' U ⟨he, b, hb1, hbe⟩ hs hR
    have hpin := (hs.pin K _ hX).2
    have hbk := hs.blk K _ hb1
    rw [hpin] at hbk
    refine ⟨U, rfl, M', ⟨hs.os, hs.tape, hs.output, hs.size, fun b hb hne => hs.old b hb ?_, hs.sub, hs.new, hs.imm⟩, fun σ'' => RT_any hd (RT_TvE he hR), fun σ'' => BlkOk_any hd1 (BlkOk_E hbe hbk)⟩
    rintro ⟨n, x, hx, rfl⟩
    obtain ⟨rfl, rfl⟩ := pins n x hx
    exact hne ⟨hnil, rfl⟩
end
/-! ### What a freezing asks -/
def ownL (n sz len : Nat) : Cl → List Prop → List Prop
  | .own m s l, r => bif Nat.beq m n then (l = len ∧ s = sz) :: r else r
  | _, r => r
def ownLL (n sz len : Nat) : List Cl → List Prop → List Prop
  | [], r => r
  | c :: l, r => ownL n sz len c (ownLL n sz len l r)
def ownA (n sz len : Nat) : Av → List Prop → List Prop
  | .one c, r => ownL n sz len c r
  | .agg l, r => ownLL n sz len l r
def ownAL (n sz len : Nat) : List Av → List Prop → List Prop
  | [], r => r
  | c :: l, r => ownA n sz len c (ownAL n sz len l r)
def ownT (n sz len : Nat) : List (Nat × Tv) → List Prop → List Prop
  | [], r => r
  | (_, .av x) :: l, r => ownA n sz len x (ownT n sz len l r)
  | (_, .tup x) :: l, r => ownAL n sz len x (ownT n sz len l r)
  | (_, .grd _ x) :: l, r => ownA n sz len x (ownT n sz len l r)
def ownH (n sz len : Nat) : List (Nat × Blk) → List Prop
  | [] => []
  | (_, .cells l _) :: r => ownLL n sz len l (ownH n sz len r)
  | (_, .row ..) :: r => ownH n sz len r
  | (_, .omap ..) :: r => ownH n sz len r
section
variable {n sz len : Nat}
theorem ownL_ok {c : Cl} {r : List Prop} (h : AllP (ownL n sz len c r)) : fzP n sz len c ∧ AllP r := by
  cases c with
  | own m s l =>
    simp only [ownL, fzP] at *
    cases hb : Nat.beq m n with
    | true => rw [hb] at h; exact ⟨h.head, h.tail⟩
    | false => rw [hb] at h; exact ⟨trivial, h⟩
  | _ => exact ⟨trivial, h⟩
theorem ownLL_ok : ∀ {l : List Cl} {r : List Prop}, AllP (ownLL n sz len l r) → (∀ c ∈ l, fzP n sz len c) ∧ AllP r
  | [], r, h => ⟨fun c hc => (by cases hc), h⟩
  | c :: l, r, h => by
    obtain ⟨h1, h2⟩ := ownL_ok h
    obtain ⟨h3, h4⟩ := ownLL_ok h2
    exact ⟨fun d hd => by
      cases hd with
      | head => exact h1
      | tail _ hd => exact h3 d hd, h4⟩
theorem ownA_ok {x : Av} {r : List Prop} (h : AllP (ownA n sz len x r)) : allA (fzP n sz len) x ∧ AllP r := by
  cases x with
  | one c => exact ownL_ok h
  | agg l => exact ownLL_ok h
theorem ownAL_ok : ∀ {l : List Av} {r : List Prop}, AllP (ownAL n sz len l r) → (∀ c ∈ l, allA (fzP n sz len) c) ∧ AllP r
  | [], r, h => ⟨fun c hc => (by cases hc), h⟩
  | c :: l, r, h => by
    obtain ⟨h1, h2⟩ := ownA_ok h
    obtain ⟨h3, h4⟩ := ownAL_ok h2
    exact ⟨fun d hd => by
      cases hd with
      | head => exact h1
      | tail _ hd => exact h3 d hd, h4⟩
theorem ownT_ok : ∀ {l : List (Nat × Tv)} {r : List Prop}, AllP (ownT n sz len l r) → AllT (fzP n sz len) l ∧ AllP r
  | [], r, h => ⟨trivial, h⟩
  | (_, .av x) :: l, r, h => by
    obtain ⟨h1, h2⟩ := ownA_ok (x := x) h
    obtain ⟨h3, h4⟩ := ownT_ok h2
    exact ⟨⟨h1, h3⟩, h4⟩
  | (_, .tup x) :: l, r, h => by
    obtain ⟨h1, h2⟩ := ownAL_ok (l := x) h
    obtain ⟨h3, h4⟩ := ownT_ok h2
    exact ⟨⟨h1, h3⟩, h4⟩
  | (_, .grd _ x) :: l, r, h => by
    obtain ⟨h1, h2⟩ := ownA_ok (x := x) h
    obtain ⟨h3, h4⟩ := ownT_ok h2
    exact ⟨⟨h1, h3⟩, h4⟩
theorem ownH_ok : ∀ {l : List (Nat × Blk)}, AllP (ownH n sz len l) → AllB (fzP n sz len) l
  | [], h => trivial
  | (_, .cells l _) :: r, h => by
    obtain ⟨h1, h2⟩ := ownLL_ok (l := l) h
    exact ⟨h1, ownH_ok h2⟩
  | (_, .row ..) :: r, h => ⟨trivial, ownH_ok (l := r) h⟩
  | (_, .omap ..) :: r, h => ⟨trivial, ownH_ok (l := r) h⟩
end
section
variable {N : Nat} {W0 : World} {X : Nat → Option Loc} {M0 : Nat → Option Obj} {s : AS}
theorem cv_fz {K : Option Nat} (S : AS) (n sz len : Nat) (f : Nat → Nat → Cl) (ty : TypeId) (hX : ∀ k x, X k = some x → K = some k) (hK : xok K n s = true) (hn : get s.h n = some (.row sz len f ty)) (ho : AllP (ownT n sz len s.t (ownH n sz len s.h))) (hS : fzS n sz len f s = S) : Cv N W0 X M0 s S :=
  cv_frz S n sz len f ty hX hK hn (ownT_ok ho).1 (ownH_ok (ownT_ok ho).2) hS
theorem cv_eq {S : AS} (h : s = S) : Cv N W0 X M0 s S := h ▸ Cv.refl s
end
theorem tve_eq {x y : Tv} (h : x = y) : TvE x y := h ▸ .refl x
theorem tve_of {x y z : Tv} (h : TvE x y) (e : y = z) : TvE x z := e ▸ h
theorem bke_eq {x y : Blk} (h : x = y) : BlkE x y := h ▸ .refl x
theorem bke_of {x y z : Blk} (h : BlkE x y) (e : y = z) : BlkE x z := e ▸ h

/-! ### Typed rows -/
/-- The cells of a row or a list are those of the typed list xs. -/
def Told {α : Type} [Inhabited α] (sz len : Nat) (f : Nat → Nat → Cl) (c : α → List Cl) (xs : List α) : Prop := len = xs.length ∧ ∀ i j, i < xs.length → j < sz → ClE (f i j) (rowF c xs i j)
section
variable {α : Type} [Inhabited α] {sz n m : Nat} {f g : Nat → Nat → Cl} {c : α → List Cl} {xs ys : List α}
theorem told_rfl (sz : Nat) (c : α → List Cl) (xs : List α) : Told sz xs.length (rowF c xs) c xs := ⟨rfl, fun _ _ _ _ => .refl _⟩
theorem told_nil (sz : Nat) (f : Nat → Nat → Cl) (c : α → List Cl) : Told sz 0 f c [] := ⟨rfl, fun _ _ h => absurd h (Nat.not_lt_zero _)⟩
theorem told_rep (sz : Nat) (c : α → List Cl) (n : Nat) (v : α) {l : List Cl} (h : c v = l) : Told sz n (fun _ j => l.getD j default) c (List.replicate n v) := by
  subst h
  refine ⟨by simp, fun i j hi hj => ?_⟩
  have : (List.replicate n v).getD i default = v := by
    rw [List.length_replicate] at hi
    simp [List.getD_eq_getElem?_getD, hi]
  unfold rowF
  rw [this]
  exact .refl _
theorem told_app (h : Told sz n f c xs) (k : Told sz m g c ys) : Told sz (n + m) (fun i j => if i < n then f i j else g (i - n) j) c (xs ++ ys) := by
  obtain ⟨rfl, h⟩ := h
  obtain ⟨rfl, k⟩ := k
  refine ⟨List.length_append.symm, fun i j hi hj => ?_⟩
  rw [← row_app c xs ys sz (rowF c ys) (fun _ _ _ _ => rfl) i j hi hj]
  show ClE (if i < xs.length then f i j else g (i - xs.length) j) _
  by_cases hl : i < xs.length
  · rw [if_pos hl, if_pos hl]; exact h i j hl hj
  · rw [if_neg hl, if_neg hl]; exact k (i - xs.length) j (by rw [List.length_append] at hi; omega) hj
theorem told_set {l : List Cl} {off q k : Nat} (h : Told sz n f c xs) (hk : k < n) (v : α) (hv : ∀ j, j < sz → (if off ≤ j ∧ j < off + q then l.getD (j - off) default else (c (xs.getD k default)).getD j default) = (c v).getD j default) :
    Told sz n (fun i j => if i = k ∧ off ≤ j ∧ j < off + q then l.getD (j - off) default else f i j) c (xs.set k v) := by
  obtain ⟨rfl, h⟩ := h
  refine ⟨by simp, fun i j hi hj => ?_⟩
  rw [← row_set c xs k v l sz off q hk hv i j hi hj]
  show ClE (if i = k ∧ off ≤ j ∧ j < off + q then l.getD (j - off) default else f i j) _
  have hi' : i < xs.length := by simpa using hi
  by_cases hc : i = k ∧ off ≤ j ∧ j < off + q
  · rw [if_pos hc, if_pos hc]; exact .refl _
  · rw [if_neg hc, if_neg hc]; exact h i j hi' hj
theorem told_slice (h : Told sz n f c xs) {a b : Int} (ha : 0 ≤ a) (hab : a ≤ b) (hb : b ≤ (n : Int)) : Told sz (b.toNat - a.toNat) (fun i j => f (i + a.toNat) j) c ((xs.take b.toNat).drop a.toNat) := by
  obtain ⟨rfl, h⟩ := h
  refine ⟨by simp; omega, fun i j hi hj => ?_⟩
  have hi' : i < min b.toNat xs.length - a.toNat := by simpa using hi
  suffices e : rowF c xs (i + a.toNat) j = rowF c ((xs.take b.toNat).drop a.toNat) i j by rw [← e]; exact h (i + a.toNat) j (by omega) hj
  unfold rowF
  rw [List.getD_eq_getElem?_getD, List.getD_eq_getElem?_getD, List.getD_eq_getElem?_getD, List.getD_eq_getElem?_getD, List.getElem?_drop, List.getElem?_take_of_lt (show a.toNat + i < b.toNat by omega), Nat.add_comm]
theorem told_drop (h : Told sz n f c xs) {a : Int} (ha : 0 ≤ a) (hab : a ≤ ((n : Nat) : Int)) : Told sz (((n : Nat) : Int).toNat - a.toNat) (fun i j => f (i + a.toNat) j) c (xs.drop a.toNat) := by
  have := told_slice h ha hab (Int.le_refl _)
  rwa [show xs.take ((n : Nat) : Int).toNat = xs from by rw [h.1]; simp] at this
theorem told_take (h : Told sz n f c xs) {b : Int} (hab : 0 ≤ b) (hb : b ≤ (n : Int)) : Told sz (b.toNat - (0 : Int).toNat) (fun i j => f (i + (0 : Int).toNat) j) c (xs.take b.toNat) := by
  have := told_slice h (Int.le_refl 0) hab hb
  rwa [show (xs.take b.toNat).drop (0 : Int).toNat = xs.take b.toNat from by simp] at this
theorem told_rw {n' : Nat} {f' : Nat → Nat → Cl} {xs' : List α} (h : Told sz n f c xs) (hn : n = n') (hf : f = f') (hx : xs = xs') : Told sz n' f' c xs' := by subst hn; subst hf; subst hx; exact h
def tab (n : Nat) (p : Nat → Cl) : List Cl := (List.range n).map p
def tab2 (n sz : Nat) (p : Nat → Nat → Cl) : List (List Cl) := (List.range n).map fun i => tab sz (p i)
theorem tab_get {n : Nat} {p q : Nat → Cl} (h : tab n p = tab n q) : ∀ j, j < n → p j = q j := by
  intro j hj
  have := congrArg (fun l => l[j]?) h
  simpa [tab, hj] using this
theorem told_lit (hl : n = xs.length) (h : tab2 n sz f = tab2 n sz (rowF c xs)) : Told sz n f c xs := by
  refine ⟨hl, fun i j hi hj => ?_⟩
  subst hl
  have := congrArg (fun l => l[i]?) h
  simp only [tab2, List.getElem?_map, List.getElem?_range hi, Option.map_some, Option.some.injEq] at this
  rw [tab_get this j hj]
  exact .refl _
theorem told_litE {y z : List (List Cl)} (hl : n = xs.length) (e1 : tab2 n sz f = y) (e2 : tab2 n sz (rowF c xs) = z) (h : L2 (L2 ClE) y z) : Told sz n f c xs := by
  refine ⟨hl, fun i j hi hj => ?_⟩
  subst hl
  subst e1
  subst e2
  obtain ⟨b, hb, hL⟩ := h.get i (tab sz (f i)) (by simp [tab2, hi])
  obtain ⟨b', hb', hR⟩ := hL.get j (f i j) (by simp [tab, hj])
  have e3 : b = tab sz (rowF c xs i) := by
    simp only [tab2, List.getElem?_map, List.getElem?_range hi, Option.map_some, Option.some.injEq] at hb
    exact hb.symm
  subst e3
  simp only [tab, List.getElem?_map, List.getElem?_range hj, Option.map_some, Option.some.injEq] at hb'
  rw [hb']
  exact hR
theorem cle_told (t : Bool) (h : Told sz n f c xs) : ClE (.list t sz n f) (lst sz c xs) := by
  obtain ⟨rfl, h⟩ := h
  exact .list _ _ _ _ _ _ h (fun h => by cases h)
theorem cle_own (k : Nat) (h : Told sz n f c xs) : ClE (.own k sz n) (.own k sz xs.length) := .own _ _ h.1
theorem bke_told (ty : TypeId) (h : Told sz n f c xs) : BlkE (.row sz n f ty) (.row sz xs.length (rowF c xs) ty) := .row _ _ h.1 h.2
theorem cle_nil (sz : Nat) (c : α → List Cl) : ClE (.val (.slice none 0 0)) (lst sz c []) := .nil _ _
end
def tI (x : Int) : Tv := .av (.one (.i x))
def tB (x : Bool) : Tv := .av (.one (.b x))
def tP (a b : Nat) : Tv := .av (.one (.ptr a b))
theorem idx_tmod {a n : Int} (ha : 0 ≤ a) (hn : 0 < n) : 0 ≤ Int.tmod a n ∧ Int.tmod a n < n := ⟨Int.tmod_nonneg _ ha, Int.tmod_lt_of_pos _ hn⟩
end Go.Proofs.Ytgmhnkoifdpemaa
