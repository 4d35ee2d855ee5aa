/-
  No statement is proved in this text. It holds abstract values and states, and what it means that a run of the model is as such a state says.
-/
import Derived.WalkKit
import Derived.WalkSpells
import Derived.WalkLawsBesides
import Derived.LoopNIn
import Derived.Laws.Cover3
import Derived.MapKept
import Derived.OrdersIn
import Derived.TacticsIn
import Derived.CallsIn
import Derived.RangeFuncRecord
import Derived.RangeFuncLeaves
import Derived.Laws.StructEq
import Derived.Maps.AppendAt
namespace Go.Proofs.Ytgmhnkoifdpemaa
open Go.RowKit

/-! ### Abstract values -/
/-- A value of one cell (the last: a map that nobody changes, by its entries): a plain one, a pointer into a block of the function's own, a slice that it owns, a pointer to an element of that, a slice that nobody changes, a pointer to one of its elements, a function with what it has captured; om: a map of the function's own. -/
inductive Cl where
  | val (v : Value)
  | ptr (n off : Nat)
  | own (n sz len : Nat)
  | rptr (n sz i off : Nat)
  | list (tight : Bool) (sz len : Nat) (f : Nat → Nat → Cl)
  | eptr (sz len : Nat) (f : Nat → Nat → Cl) (i off : Nat)
  | clo (f : FuncId) (k : Nat) (caps : Nat → Cl)
  | mp (agg : Bool) (nv len : Nat) (kf : Nat → Value) (vf : Nat → Nat → Cl)
  | om (n : Nat)
abbrev Cl.i (x : Int) : Cl := .val (.int .i64 x)
abbrev Cl.b (x : Bool) : Cl := .val (.bool x)
abbrev Cl.s (x : ByteArray) : Cl := .val (.string x)
instance : Inhabited Cl := ⟨.val (.bool false)⟩
inductive Av where
  | one (c : Cl)
  | agg (l : List Cl)
inductive Tv where
  | av (x : Av)
  | tup (l : List Av)
  | grd (g : Prop) (x : Av)
abbrev Tv.i (x : Int) : Tv := .av (.one (.val (.int .i64 x)))
abbrev Tv.b (x : Bool) : Tv := .av (.one (.val (.bool x)))
abbrev Tv.c (x : Cl) : Tv := .av (.one x)
abbrev Tv.g (x : List Cl) : Tv := .av (.agg x)
def Av.cells : Av → List Cl
  | .one c => [c]
  | .agg l => l

inductive L2 {α β : Type} (r : α → β → Prop) : List α → List β → Prop
  | nil : L2 r [] []
  | cons {a b l m} : r a b → L2 r l m → L2 r (a :: l) (b :: m)
theorem L2.length {α β : Type} {r : α → β → Prop} {l : List α} {m : List β} (h : L2 r l m) : l.length = m.length := by
  induction h with
  | nil => rfl
  | cons _ _ ih => simp [ih]
theorem L2.mono {α β : Type} {r r' : α → β → Prop} {l : List α} {m : List β} (h : L2 r l m) (hr : ∀ a ∈ l, ∀ b, r a b → r' a b) : L2 r' l m := by
  induction h with
  | nil => exact .nil
  | cons h1 _ ih => exact .cons (hr _ (by simp) _ h1) (ih fun a ha b hb => hr a (by simp [ha]) b hb)
theorem L2.get {α β : Type} {r : α → β → Prop} {l : List α} {m : List β} (h : L2 r l m) : ∀ (i : Nat) a, l[i]? = some a → ∃ b, m[i]? = some b ∧ r a b := by
  induction h with
  | nil => intro i a h; simp at h
  | cons h1 _ ih =>
    intro i a h
    cases i with
    | zero => simp at h; subst h; exact ⟨_, rfl, h1⟩
    | succ i => simpa using ih i a (by simpa using h)
theorem L2.get' {α β : Type} {r : α → β → Prop} {l : List α} {m : List β} (h : L2 r l m) : ∀ (i : Nat) b, m[i]? = some b → ∃ a, l[i]? = some a ∧ r a b := by
  induction h with
  | nil => intro i a h; simp at h
  | cons h1 _ ih =>
    intro i a h
    cases i with
    | zero => simp at h; subst h; exact ⟨_, rfl, h1⟩
    | succ i => simpa using ih i a (by simpa using h)
theorem L2.of {α β : Type} {r : α → β → Prop} : ∀ {l : List α} {m : List β}, l.length = m.length → (∀ (i : Nat) a b, l[i]? = some a → m[i]? = some b → r a b) → L2 r l m
  | [], [], _, _ => .nil
  | [], _ :: _, h, _ => by simp at h
  | _ :: _, [], h, _ => by simp at h
  | _ :: _, _ :: _, h, k => .cons (k 0 _ _ rfl rfl) (L2.of (by simpa using h) fun i a b ha hb => k (i + 1) a b (by simpa using ha) (by simpa using hb))
theorem L2.append {α β : Type} {r : α → β → Prop} {l l' : List α} {m m' : List β} (h : L2 r l m) (h' : L2 r l' m') : L2 r (l ++ l') (m ++ m') := by
  induction h with
  | nil => exact h'
  | cons h1 _ ih => exact .cons h1 ih
theorem L2.set {α β : Type} {r : α → β → Prop} {l : List α} {m : List β} (h : L2 r l m) (i : Nat) {a : α} {b : β} (hab : r a b) : L2 r (l.set i a) (m.set i b) := by
  induction h generalizing i with
  | nil => exact .nil
  | cons h1 h2 ih =>
    cases i with
    | zero => exact .cons hab h2
    | succ i => exact .cons h1 (ih i)
theorem L2.take {α β : Type} {r : α → β → Prop} {l : List α} {m : List β} (h : L2 r l m) (i : Nat) : L2 r (l.take i) (m.take i) := by
  induction h generalizing i with
  | nil => simp; exact .nil
  | cons h1 h2 ih =>
    cases i with
    | zero => exact .nil
    | succ i => exact .cons h1 (ih i)
theorem L2.drop {α β : Type} {r : α → β → Prop} {l : List α} {m : List β} (h : L2 r l m) (i : Nat) : L2 r (l.drop i) (m.drop i) := by
  induction h generalizing i with
  | nil => simp; exact .nil
  | cons h1 h2 ih =>
    cases i with
    | zero => exact .cons h1 h2
    | succ i => exact ih i

def cellM (M : Nat → Option Obj) (b o : Nat) : Option Value := match M b with
  | some (.cells c _ _) => c[o]?
  | _ => none
/-- A map's element, by its cells. -/
def mpV (agg : Bool) (nv : Nat) (g : Nat → Value) : Value := match agg with
  | true => .agg ((List.range nv).map g).toArray
  | false => g 0
/-- A value that no later store changes. -/
inductive RC (M : Nat → Option Obj) : Cl → Value → Prop
  | val (v : Value) (h : v.oneCell' = true) : RC M (.val v) v
  | nil (t : Bool) (sz : Nat) (f : Nat → Nat → Cl) (h0 : t = false) : RC M (.list t sz 0 f) (.slice none 0 0)
  | mt (t : Bool) (sz : Nat) (f : Nat → Nat → Cl) (a : Addr) (cap : Nat) : RC M (.list t sz 0 f) (.slice (some a) 0 cap)
  | list (t : Bool) (sz len : Nat) (f : Nat → Nat → Cl) (b off cap : Nat) (g : Nat → Nat → Value) (h1 : ∀ i j, i < len → j < sz → cellM M b (off + (i * sz + j)) = some (g i j))
      (h2 : ∀ i j, i < len → j < sz → RC M (f i j) (g i j)) (h4 : len ≤ cap) : RC M (.list t sz len f) (.slice (some ⟨b, off, none⟩) len cap)
  | clo (f : FuncId) (k : Nat) (caps : Nat → Cl) (cs : Array Value) (h1 : cs.size = k) (h2 : ∀ i, i < k → RC M (caps i) (cs.getD i undef)) : RC M (.clo f k caps) (.func (.func f) #[] cs)
  | eptr (sz len : Nat) (f : Nat → Nat → Cl) (i off : Nat) (b base : Nat) (g : Nat → Value) (h1 : ∀ j, j < sz → cellM M b (base + j) = some (g j))
      (h2 : ∀ j, j < sz → RC M (f i j) (g j)) : RC M (.eptr sz len f i off) (.pointer (some ⟨b, base + off, none⟩))
  | mp (agg : Bool) (nv len : Nat) (kf : Nat → Value) (vf : Nat → Nat → Cl) (b : Nat) (es : Array MapEntry) (clock : Nat) (g : Nat → Nat → Value) (h0 : M b = some (.map es clock)) (h1 : es.size = len)
      (h2 : ∀ i e, es[i]? = some e → e.key = kf i ∧ e.val = mpV agg nv (g i)) (h3 : ∀ i j, i < len → j < nv → RC M (vf i j) (g i j)) : RC M (.mp agg nv len kf vf) (.map (some b))

/-- Where a block of the function's own lies; the capacity, if it is an owned slice's row; whether that is nil. -/
structure Loc where
  b : Nat
  cap : Nat
  nil : Bool
def R (M : Nat → Option Obj) (σ : Nat → Loc) : Cl → Value → Prop
  | .val v, V => V = v ∧ v.oneCell' = true
  | .ptr n off, V => V = .pointer (some ⟨(σ n).b, off, none⟩)
  | .own n _ len, V => if (σ n).nil then len = 0 ∧ V = .slice none 0 0 else V = .slice (some ⟨(σ n).b, 0, none⟩) len (σ n).cap
  | .rptr n sz i off, V => V = .pointer (some ⟨(σ n).b, i * sz + off, none⟩)
  | .om n, V => V = .map (some (σ n).b)
  | .list t sz len f, V => RC M (.list t sz len f) V
  | .eptr sz len f i off, V => RC M (.eptr sz len f i off) V
  | .mp agg nv len kf vf, V => RC M (.mp agg nv len kf vf) V
  | .clo f k caps, V => ∃ cs : Array Value, V = .func (.func f) #[] cs ∧ cs.size = k ∧ ∀ i, i < k → R M σ (caps i) (cs.getD i undef)
def RA (M : Nat → Option Obj) (σ : Nat → Loc) : Av → Value → Prop
  | .one c, V => R M σ c V
  | .agg l, V => ∃ vs : List Value, V = .agg vs.toArray ∧ L2 (R M σ) l vs
def RT (M : Nat → Option Obj) (σ : Nat → Loc) : Tv → Value → Prop
  | .av x, V => RA M σ x V
  | .tup l, V => ∃ vs : List Value, V = .tuple vs.toArray ∧ L2 (RA M σ) l vs
  | .grd g x, V => (g → RA M σ x V) ∧ (¬ g → V = undef)

/-- The value leads to no block of the function's own. -/
def Cl.dv : Cl → Bool
  | .val _ => true
  | .list .. => true
  | .eptr .. => true
  | .mp .. => true
  | .clo _ k caps => (List.range k).all fun i => (caps i).dv
  | _ => false
def Av.dv : Av → Bool
  | .one c => c.dv
  | .agg l => l.all Cl.dv
theorem R_dv {M : Nat → Option Obj} {σ : Nat → Loc} : ∀ {c : Cl} {V : Value}, c.dv = true → (R M σ c V ↔ RC M c V)
  | .val v, V, _ => by
    constructor
    · rintro ⟨rfl, h⟩; exact .val _ h
    · intro h; cases h; exact ⟨rfl, ‹_›⟩
  | .list .., _, _ => Iff.rfl
  | .eptr .., _, _ => Iff.rfl
  | .mp .., _, _ => Iff.rfl
  | .clo f k caps, V, hd => by
    have hd' : ∀ i, i < k → (caps i).dv = true := fun i hi => by
      simp only [Cl.dv, List.all_eq_true] at hd
      exact hd i (by simpa using hi)
    constructor
    · rintro ⟨cs, rfl, h1, h2⟩
      exact .clo f k caps cs h1 fun i hi => (R_dv (hd' i hi)).1 (h2 i hi)
    · intro h
      cases h with
      | clo _ _ _ cs h1 h2 => exact ⟨cs, rfl, h1, fun i hi => (R_dv (hd' i hi)).2 (h2 i hi)⟩
  | .ptr .., _, hd => by cases hd
  | .own .., _, hd => by cases hd
  | .rptr .., _, hd => by cases hd
  | .om .., _, hd => by cases hd

/-- Id d does not occur. -/
def Cl.no (d : Nat) : Cl → Bool
  | .val _ => true
  | .ptr n _ => !Nat.beq n d
  | .own n _ _ => !Nat.beq n d
  | .rptr n _ _ _ => !Nat.beq n d
  | .om n => !Nat.beq n d
  | .list .. => true
  | .eptr .. => true
  | .mp .. => true
  | .clo _ k caps => (List.range k).all fun i => (caps i).no d
def Av.no (d : Nat) : Av → Bool
  | .one c => c.no d
  | .agg l => l.all (Cl.no d)
def Tv.no (d : Nat) : Tv → Bool
  | .av x => x.no d
  | .tup l => l.all (Av.no d)
  | .grd _ x => x.no d
def upd {α : Type} (σ : Nat → α) (d : Nat) (x : α) : Nat → α := fun n => bif Nat.beq n d then x else σ n
theorem upd_same {α : Type} (σ : Nat → α) (d : Nat) (x : α) : upd σ d x d = x := by simp [upd, Nat.beq_refl]
theorem upd_ne {α : Type} (σ : Nat → α) {d n : Nat} (x : α) (h : n ≠ d) : upd σ d x n = σ n := by
  have : Nat.beq n d = false := by cases hb : Nat.beq n d; rfl; exact absurd (Nat.eq_of_beq_eq_true hb) h
  simp [upd, this]
theorem upd_get {α : Type} (σ : Nat → α) (d n : Nat) (x : α) : upd σ d x n = if d = n then x else σ n := by
  by_cases h : d = n
  · subst h; rw [upd_same, if_pos rfl]
  · rw [upd_ne _ _ (Ne.symm h), if_neg h]
theorem beq_ne {n d : Nat} (h : (!Nat.beq n d) = true) : n ≠ d := by
  intro e; subst e; simp [Nat.beq_refl] at h

theorem RC_mono {M M' : Nat → Option Obj} (hM : ∀ b o, M b = some o → M' b = some o) {c : Cl} {V : Value} (h : RC M c V) : RC M' c V := by
  have hc : ∀ b o v, cellM M b o = some v → cellM M' b o = some v := fun b o v h => by
    unfold cellM at *
    cases hb : M b with
    | none => rw [hb] at h; cases h
    | some x => rw [hb] at h; rw [hM _ _ hb]; exact h
  induction h with
  | val v h => exact .val v h
  | nil t sz f h0 => exact .nil t sz f h0
  | mt t sz f a cap => exact .mt t sz f a cap
  | clo f k caps cs h1 _ ih => exact .clo f k caps cs h1 ih
  | list t sz len f b off cap g h1 _ h4 ih => exact .list t sz len f b off cap g (fun i j hi hj => hc _ _ _ (h1 i j hi hj)) ih h4
  | eptr sz len f i off b base g h1 _ ih => exact .eptr sz len f i off b base g (fun j hj => hc _ _ _ (h1 j hj)) ih
  | mp agg nv len kf vf b es clock g h0 h1 h2 _ ih => exact .mp agg nv len kf vf b es clock g (hM _ _ h0) h1 h2 ih

/-- M grows, and the place of an id that does not occur changes. -/
theorem R_mono {M M' : Nat → Option Obj} {σ σ' : Nat → Loc} (hM : ∀ b o, M b = some o → M' b = some o) : ∀ {c : Cl} {V : Value}, (∀ d, c.no d = false → σ' d = σ d) → R M σ c V → R M' σ' c V
  | .val _, _, _, h => h
  | .ptr n _, _, hs, h => by have := hs n (by simp [Cl.no, Nat.beq_refl]); simp only [R] at *; rw [this]; exact h
  | .own n _ _, _, hs, h => by have := hs n (by simp [Cl.no, Nat.beq_refl]); simp only [R] at *; rw [this]; exact h
  | .rptr n _ _ _, _, hs, h => by have := hs n (by simp [Cl.no, Nat.beq_refl]); simp only [R] at *; rw [this]; exact h
  | .om n, _, hs, h => by have := hs n (by simp [Cl.no, Nat.beq_refl]); simp only [R] at *; rw [this]; exact h
  | .list .., _, _, h => RC_mono hM h
  | .eptr .., _, _, h => RC_mono hM h
  | .mp .., _, _, h => RC_mono hM h
  | .clo f k caps, V, hs, h => by
    obtain ⟨cs, h1, h2, h3⟩ := h
    refine ⟨cs, h1, h2, fun i hi => R_mono hM (fun d hd => hs d ?_) (h3 i hi)⟩
    simp only [Cl.no]
    rw [List.all_eq_false]
    exact ⟨i, by simpa using hi, by simp [hd]⟩
theorem RA_mono {M M' : Nat → Option Obj} {σ σ' : Nat → Loc} (hM : ∀ b o, M b = some o → M' b = some o) {c : Av} {V : Value} (hs : ∀ d, c.no d = false → σ' d = σ d) (h : RA M σ c V) : RA M' σ' c V := by
  cases c with
  | one c => exact R_mono hM hs h
  | agg l =>
    obtain ⟨vs, h1, h2⟩ := h
    exact ⟨vs, h1, h2.mono fun c hc b hb => R_mono hM (fun d hd => hs d (by simp only [Av.no]; rw [List.all_eq_false]; exact ⟨c, hc, by simp [hd]⟩)) hb⟩
theorem RT_mono {M M' : Nat → Option Obj} {σ σ' : Nat → Loc} (hM : ∀ b o, M b = some o → M' b = some o) {c : Tv} {V : Value} (hs : ∀ d, c.no d = false → σ' d = σ d) (h : RT M σ c V) : RT M' σ' c V := by
  cases c with
  | av x => exact RA_mono hM hs h
  | tup l =>
    obtain ⟨vs, h1, h2⟩ := h
    exact ⟨vs, h1, h2.mono fun c hc b hb => RA_mono hM (fun d hd => hs d (by simp only [Tv.no]; rw [List.all_eq_false]; exact ⟨c, hc, by simp [hd]⟩)) hb⟩
  | grd g x => exact ⟨fun hg => RA_mono hM hs (h.1 hg), h.2⟩

/-! ### Tables -/
def get {α : Type} : List (Nat × α) → Nat → Option α
  | [], _ => none
  | (k, v) :: r, n => bif Nat.beq k n then some v else get r n
def put {α : Type} : List (Nat × α) → Nat → α → List (Nat × α)
  | [], n, v => [(n, v)]
  | (k, u) :: r, n, v => bif Nat.beq k n then (n, v) :: r else (k, u) :: put r n v
def del {α : Type} : List (Nat × α) → Nat → List (Nat × α)
  | [], _ => []
  | (k, u) :: r, n => bif Nat.beq k n then del r n else (k, u) :: del r n
theorem beqN (a b : Nat) : Nat.beq a b = decide (a = b) := by
  cases h : Nat.beq a b
  · have : ¬ a = b := fun e => by subst e; simp [Nat.beq_refl] at h
    simp [this]
  · simp [Nat.eq_of_beq_eq_true h]
theorem get_put {α : Type} (l : List (Nat × α)) (n m : Nat) (v : α) : get (put l n v) m = if n = m then some v else get l m := by
  induction l with
  | nil => simp only [put, get, beqN]; by_cases h : n = m <;> simp [h]
  | cons p r ih =>
    obtain ⟨k, u⟩ := p
    simp only [put, beqN]
    by_cases h : k = n
    · subst h; simp only [decide_true, cond_true, get, beqN]; by_cases h : k = m <;> simp [h]
    · simp only [h, decide_false, cond_false, get, beqN, ih]
      by_cases hk : k = m
      · subst hk; simp [Ne.symm h]
      · simp [hk]
theorem get_del {α : Type} (l : List (Nat × α)) (n m : Nat) : get (del l n) m = if n = m then none else get l m := by
  induction l with
  | nil => simp [del, get]
  | cons p r ih =>
    obtain ⟨k, u⟩ := p
    simp only [del, beqN]
    by_cases h : k = n
    · subst h; simp only [decide_true, cond_true, ih, get, beqN]; by_cases h : k = m <;> simp [h]
    · simp only [h, decide_false, cond_false, get, beqN, ih]
      by_cases hk : k = m
      · subst hk; simp [Ne.symm h]
      · simp [hk]
theorem get_mem {α : Type} {l : List (Nat × α)} {n : Nat} {v : α} (h : get l n = some v) : (n, v) ∈ l := by
  induction l with
  | nil => cases h
  | cons p r ih =>
    obtain ⟨k, u⟩ := p
    simp only [get, beqN] at h
    by_cases hk : k = n
    · subst hk; simp at h; subst h; simp
    · simp [hk] at h; simp [ih h]

/-! ### States -/
inductive Blk where
  | cells (l : List Cl) (ty : TypeId)
  | row (sz len : Nat) (f : Nat → Nat → Cl) (ty : TypeId)
  | omap (agg : Bool) (nv len : Nat) (kf : Nat → Value) (vf : Nat → Nat → Cl)
structure AS where
  t : List (Nat × Tv)
  h : List (Nat × Blk)
def Blk.no (d : Nat) : Blk → Bool
  | .cells l _ => l.all (Cl.no d)
  | .row .. => true
  | .omap .. => true
def Blk.isRow : Blk → Bool
  | .row .. => true
  | _ => false
def BlkOk (M : Nat → Option Obj) (σ : Nat → Loc) (w : World) (x : Loc) : Blk → Prop
  | .cells l ty => x.nil = false ∧ ∃ c : List Value, w.heap[x.b]? = some (.cells c.toArray ty) ∧ L2 (R M σ) l c
  | .row sz len f ty => (x.nil = true ∧ len = 0) ∨ (x.nil = false ∧ ∃ c : Array Value, w.heap[x.b]? = some (.cells c ty) ∧ c.size = x.cap * sz ∧ len ≤ x.cap ∧ x.cap ≤ maxLen ∧
      ∃ g : Nat → Nat → Value, ∀ i j, i < len → j < sz → c[i * sz + j]? = some (g i j) ∧ RC M (f i j) (g i j))
  | .omap agg nv len kf vf => x.nil = false ∧ ∃ (es : Array MapEntry) (clock : Nat) (g : Nat → Nat → Value), w.heap[x.b]? = some (.map es clock) ∧ es.size = len ∧ (∀ i e, es[i]? = some e → e.key = kf i ∧ e.val = mpV agg nv (g i)) ∧ ∀ i j, i < len → j < nv → RC M (vf i j) (g i j)

/-- Blocks that were there at the entry and that the function may change: those of the pinned ids. -/
def inX (X : Nat → Option Loc) (b : Nat) : Prop := ∃ n x, X n = some x ∧ x.b = b
def noX : Nat → Option Loc := fun _ => none
theorem not_inX (b : Nat) : ¬ inX noX b := fun ⟨_, _, h, _⟩ => by cases h
/-- The marks that loops over iterators leave among the deferred calls. -/
def DefsOk (M0 M : Nat → Option Obj) : List Deferred → Prop
  | [] => True
  | d :: ds => (∃ D, d = { target := .collected D, args := #[] } ∧ M D = some (.deferred (some [])) ∧ M0 D = none ∧ ∀ d' ∈ ds, d' ≠ d) ∧ DefsOk M0 M ds
theorem DefsOk.mono {M0 M M' : Nat → Option Obj} (h : ∀ b o, M b = some o → M' b = some o) : ∀ {l : List Deferred}, DefsOk M0 M l → DefsOk M0 M' l
  | [], _ => trivial
  | _ :: _, ⟨⟨D, h1, h2, h3⟩, h4⟩ => ⟨⟨D, h1, h _ _ h2, h3⟩, h4.mono h⟩
/-- Where X bears the mark of a round, no deferred calls are laid. -/
def Flat (X : Nat → Option Loc) : Prop := ∃ n x, X n = some x ∧ x.nil = true ∧ x.cap = 424242
theorem not_flat : ¬ Flat noX := fun ⟨_, _, h, _⟩ => by cases h
def DefsX (X : Nat → Option Loc) (M0 M : Nat → Option Obj) (l : List Deferred) : Prop := DefsOk M0 M l ∧ (Flat X → l = [])
theorem DefsX.mono {X : Nat → Option Loc} {M0 M M' : Nat → Option Obj} {l : List Deferred} (hd : DefsX X M0 M l) (h : ∀ b o, M b = some o → M' b = some o) : DefsX X M0 M' l := ⟨DefsOk.mono h hd.1, hd.2⟩
theorem DefsX.nil {X : Nat → Option Loc} {M0 M : Nat → Option Obj} : DefsX X M0 M [] := ⟨trivial, fun _ => rfl⟩
/-- A run stands as the state s says: W0 is the world at the function's entry, X the blocks of that world that it may change, M0 and M what nobody changes at the entry and now, σ where its own blocks lie. -/
structure Sim (N : Nat) (W0 : World) (X : Nat → Option Loc) (M0 M : Nat → Option Obj) (σ : Nat → Loc) (T : Nat → Option Tv) (H : Nat → Option Blk) (a : Act) (w : World) : Prop where
  os : w.os = W0.os
  tape : w.tape = W0.tape
  output : w.output = W0.output
  size : W0.heap.size ≤ w.heap.size
  old : ∀ b, b < W0.heap.size → ¬ inX X b → w.heap[b]? = W0.heap[b]?
  sub : ∀ b o, M0 b = some o → M b = some o
  new : ∀ b o, M b = some o → M0 b = none → W0.heap.size ≤ b
  pin : ∀ n x, X n = some x → N ≤ n ∧ σ n = x
  defers : DefsX X M0 M a.defers
  room : a.tmps.size = N
  tmps : ∀ i v, T i = some v → RT M σ v (a.tmps.getD i undef)
  imm : ∀ b o, M b = some o → w.heap[b]? = some o
  blk : ∀ n b, H n = some b → BlkOk M σ w (σ n) b
  loc : ∀ n b, H n = some b → (σ n).nil = true ∨ (M (σ n).b = none ∧ (W0.heap.size ≤ (σ n).b ∨ inX X (σ n).b))
  inj : ∀ n m b c, H n = some b → H m = some c → n ≠ m → (σ n).nil = true ∨ (σ m).nil = true ∨ (σ n).b ≠ (σ m).b

theorem BlkOk.lt {M : Nat → Option Obj} {σ : Nat → Loc} {w : World} {x : Loc} {b : Blk} (h : BlkOk M σ w x b) (hn : x.nil = false) : x.b < w.heap.size := by
  cases b with
  | cells l ty => obtain ⟨_, c, hc, _⟩ := h; exact (Array.getElem?_eq_some_iff.1 hc).1
  | row sz len f ty =>
    rcases h with ⟨h, _⟩ | ⟨_, c, hc, _⟩
    · rw [hn] at h; cases h
    · exact (Array.getElem?_eq_some_iff.1 hc).1
  | omap agg nv len kf vf => obtain ⟨_, es, clock, g, hc, _⟩ := h; exact (Array.getElem?_eq_some_iff.1 hc).1
theorem BlkOk.mono {M M' : Nat → Option Obj} {σ σ' : Nat → Loc} {w w' : World} {x : Loc} {b : Blk} (hM : ∀ b o, M b = some o → M' b = some o) (hs : ∀ d, b.no d = false → σ' d = σ d)
    (hw : x.nil = false → w'.heap[x.b]? = w.heap[x.b]?) (h : BlkOk M σ w x b) : BlkOk M' σ' w' x b := by
  cases b with
  | cells l ty =>
    obtain ⟨h0, c, hc, hl⟩ := h
    refine ⟨h0, c, (hw h0).trans hc, hl.mono fun a ha b hb => R_mono hM (fun d hd => hs d ?_) hb⟩
    simp only [Blk.no]; rw [List.all_eq_false]; exact ⟨a, ha, by simp [hd]⟩
  | row sz len f ty =>
    rcases h with h | ⟨h0, c, hc, h1, h2, h3, g, hg⟩
    · exact .inl h
    · exact .inr ⟨h0, c, (hw h0).trans hc, h1, h2, h3, g, fun i j hi hj => ⟨(hg i j hi hj).1, RC_mono hM (hg i j hi hj).2⟩⟩
  | omap agg nv len kf vf =>
    obtain ⟨h0, es, clock, g, hc, h1, h2, h3⟩ := h
    exact ⟨h0, es, clock, g, (hw h0).trans hc, h1, h2, fun i j hi hj => RC_mono hM (h3 i j hi hj)⟩
end Go.Proofs.Ytgmhnkoifdpemaa
