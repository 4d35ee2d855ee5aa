/-
  No statement is proved in this text. It holds the words for worlds that only grow, and one theorem on a region that draws its order: its reads and calls, walked once in the order of the text, serve every order; new variables get addresses of which only freshness is known; stores at the end follow in their forced order.
-/
import Derived.Test.YtmhhigaelofbmaaProg
import Derived.WalkKit
import Derived.WalkSpells
import Derived.WalkLawsBesides
import Derived.BigQuiet
import Derived.Deep.QuietTactic
import Derived.StillTail
namespace Go.Proofs.Ytmhhigaelofbmaa
open Go.RowKit

/-! ### Worlds that only grow -/

/-- A world in which everything lies as it lay in w. -/
structure Grew (w : World) where
  world : World
  below : Below w.heap.size w world
def past (w : World) (t : Grew w) : World := t.world
theorem past_below (w : World) (t : Grew w) : Below w.heap.size w (past w t) := t.below
theorem all_grew (w : World) (p : Prop) : (∀ _ : Grew w, p) = p := propext ⟨fun h => h ⟨w, Below.refl _ _⟩, fun h _ => h⟩
theorem some_grew (w : World) (p : Prop) : (∃ _ : Grew w, p) = p := propext ⟨fun ⟨_, h⟩ => h, fun h => ⟨⟨w, Below.refl _ _⟩, h⟩⟩
theorem past_cell (w : World) (t : Grew w) (b o : Nat) (h : b < w.heap.size) : (past w t).cell? ⟨b, o, none⟩ = w.cell? ⟨b, o, none⟩ := t.below.cell (p := ⟨b, o, none⟩) h
theorem past_frozen (w : World) (t : Grew w) (b o : Nat) (h : b < w.heap.size) : (past w t).frozen? ⟨b, o, none⟩ = w.frozen? ⟨b, o, none⟩ := t.below.frozen (p := ⟨b, o, none⟩) h
theorem past_block (w : World) (t : Grew w) (b : Nat) (h : b < w.heap.size) : (past w t).heap[b]? = w.heap[b]? := t.below.block b h
theorem past_le (w : World) (t : Grew w) : w.heap.size ≤ (past w t).heap.size := t.below.size
theorem past_lt (w : World) (t : Grew w) (b : Nat) (h : b < w.heap.size) : b < (past w t).heap.size := Nat.lt_of_lt_of_le h t.below.size
theorem past_lt1 (w : World) (t : Grew w) (b : Nat) (h : b < w.heap.size) : b ≤ (past w t).heap.size := Nat.le_of_lt (past_lt w t b h)
theorem past_lt2 (w : World) (t : Grew w) (b : Nat) (h : b < w.heap.size) : b ≤ (past w t).heap.size + 1 := Nat.le_succ_of_le (past_lt1 w t b h)
theorem past_lt3 (w : World) (t : Grew w) (b : Nat) (h : b < w.heap.size) : b ≤ (past w t).heap.size + 1 + 1 := Nat.le_succ_of_le (past_lt2 w t b h)
theorem past_ne (w : World) (t : Grew w) (b : Nat) (h : b < w.heap.size) : (b = (past w t).heap.size) = False := eq_false (Nat.ne_of_lt (past_lt w t b h))
theorem past_ne' (w : World) (t : Grew w) (b : Nat) (h : b < w.heap.size) : ((past w t).heap.size = b) = False := eq_false (Nat.ne_of_gt (past_lt w t b h))
attribute [go_sem] all_grew some_grew past_cell past_frozen past_lt past_lt1 past_lt2 past_lt3 past_ne past_ne'

/-- A store changes no cell's being there. -/
theorem isSome_setCell (w : World) (a b : Addr) (v : Value) : ((w.setCell a v).cell? b).isSome = (w.cell? b).isSome := by
  simp only [World.setCell, World.cell?, Array.getElem?_modify]
  by_cases hb : a.block = b.block
  · simp only [hb, if_true]
    cases hh : w.heap[b.block]? with
    | none => rfl
    | some o =>
      cases o with
      | cells c e f =>
        simp only [Option.map_some]
        by_cases hs : b.spot.isSome = true
        · simp [hs]
        · simp only [hs]
          by_cases h1 : a.spot.isSome = true
          · simp [h1]
          · simp only [h1, Bool.false_eq_true, if_false]
            by_cases h2 : a.off = b.off
            · rw [h2]
              by_cases h3 : b.off < c.size <;> simp [h3]
            · simp only [Array.getElem?_setIfInBounds_ne h2]
      | _ => rfl
  · simp [hb]
attribute [go_sem ↓] isSome_setCell
theorem store_func (P : Program) (w : World) (a : Addr) (m : Mode) (fn : Fn) (first captured : Array Value) : (store a (.func fn first captured) m).run P w = stored P w a (.func fn first captured) m := run_store P w a _ m rfl
theorem store_nilFunc (P : Program) (w : World) (a : Addr) (m : Mode) : (store a .nilFunc m).run P w = stored P w a .nilFunc m := run_store P w a _ m rfl
attribute [go_sem] store_func store_nilFunc

/-- What a call gives: the value v, in a world that has only grown. -/
abbrev Gives (W : World) (v : Value) (e : Ending) (w' : World) : Prop := e = .returned v ∧ Below W.heap.size W w'

theorem gives_of {W w' : World} {v u : Value} (hb : Below W.heap.size W w') (h : u = v) : Gives W v (.returned u) w' := ⟨by rw [h], hb⟩

/-- What the walk wants to know of a world that has grown. -/
theorem grown_facts {w w1 : World} (h : Below w.heap.size w w1) :
    (∀ b o, b < w.heap.size → w1.cell? ⟨b, o, none⟩ = w.cell? ⟨b, o, none⟩) ∧ (∀ b o, b < w.heap.size → w1.frozen? ⟨b, o, none⟩ = w.frozen? ⟨b, o, none⟩) ∧ (∀ b, b < w.heap.size → w1.heap[b]? = w.heap[b]?) ∧
    (∀ b, b < w.heap.size → b < w1.heap.size) ∧ (∀ b, b < w.heap.size → b ≤ w1.heap.size) ∧ (∀ b, b < w.heap.size → b ≤ w1.heap.size + 1) ∧ (∀ b, b < w.heap.size → b ≤ w1.heap.size + 1 + 1) ∧
    (∀ b, b < w.heap.size → (b = w1.heap.size) = False) ∧ (∀ b, b < w.heap.size → (w1.heap.size = b) = False) ∧ (∀ b, b < w.heap.size → (b = w1.heap.size + 1) = False) ∧ (∀ b, b < w.heap.size → (w1.heap.size + 1 = b) = False) := by
  have hs := h.size
  refine ⟨fun b o hb => h.cell (p := ⟨b, o, none⟩) hb, fun b o hb => h.frozen (p := ⟨b, o, none⟩) hb, fun b hb => h.block b hb, ?_, ?_, ?_, ?_, ?_, ?_, ?_, ?_⟩ <;> intro b hb
  · omega
  · omega
  · omega
  · omega
  · exact eq_false (by omega)
  · exact eq_false (by omega)
  · exact eq_false (by omega)
  · exact eq_false (by omega)

theorem bool_ext {a b : Bool} (h : a = true ↔ b = true) : Value.bool a = .bool b := by rw [Bool.eq_iff_iff.2 h]
theorem int_ext {k : IntKind} {a b : Int} (h : a = b) : Value.int k a = .int k b := by rw [h]

theorem ret_gives {P : Program} {fn : Func} {a : Act} {W w : World} {v : Value} (hp : Below W.heap.size W w) (hr : (results fn a.tmps).run P w = .ok v w) (hd : a.defers = []) : bodyPost P fn (Gives W v) .ret a w := bodyPost_ret hr hd ⟨rfl, hp⟩

/-! ### 'Below' along a walk -/
theorem since_refl (w : World) : Below w.heap.size w w := Below.refl _ _
theorem since_past {a w : World} (h : Below a.heap.size a w) (t : Grew w) : Below a.heap.size a (past w t) := h.trans (t.below.mono h.size)
theorem since_alloc {a w : World} (h : Below a.heap.size a w) (o : Obj) : Below a.heap.size a (w.alloc o) := h.alloc h.size o
theorem since_set {a w : World} (h : Below a.heap.size a w) {p : Addr} (hp : a.heap.size ≤ p.block) (u : Value) : Below a.heap.size a (w.setCell p u) := h.setCell hp u
theorem since_trans {a b c : World} (k : Below b.heap.size b c) (h : Below a.heap.size a b) : Below a.heap.size a c := h.trans (k.mono h.size)
theorem since_drew {a w : World} (h : Below a.heap.size a w) : Below a.heap.size a w.drew := h.drew

/-! ### A region that draws its order -/
section
variable {P : Program} {ops : Array Oper} {md : Region.Mode}

/-- The block that a pointer or a slice leads to. -/
def headBlock : Value → Option Nat
  | .pointer (some a) => some a.block
  | .slice (some a) _ _ => some a.block
  | _ => none

def calmUpon (P : Program) (w : World) (v : Value) : Result Next → Prop
  | .ok (.value u) w' => w' = w ∧ u = v
  | .ok .skip w' => w' = w ∧ undef = v
  | .ok (.enter f args) w' => w' = w ∧ Calls P f args w (fun e w'' => Gives w v e w'')
  | _ => False

/-- What a new value is: R holds of it, the world has grown, and what it leads to was not there. -/
def Born (w : World) (R : Value → World → Prop) (v : Value) (w' : World) : Prop := R v w' ∧ (∃ t : Grew w, w' = past w t) ∧ ∀ b, headBlock v = some b → w.heap.size ≤ b ∧ b < w'.heap.size

def bornUpon (P : Program) (w : World) (R : Value → World → Prop) : Result Next → Prop
  | .ok (.value u) w' => Born w R u w'
  | .ok (.enter f args) w' => w' = w ∧ Calls P f args w (fun e w'' => ∃ v, e = .returned v ∧ Born w R v w'')
  | _ => False

def freshOf (D : List Tmp) (o : Oper) : Option Tmp :=
  match o.dst, o.guard with
  | some d, none => if D.contains d then some d else none
  | _, _ => none

/-- An operation that neither reads nor writes a world. -/
def pureOp (o : Oper) : Bool := o.guard.isNone && match o.op with | .move _ | .assign _ | .pick .. => true | _ => false

/-- One of them may come up in the head. -/
def PureRest (md : Region.Mode) (ops : Array Oper) (n : Nat) (listed : Array Bool) : Prop := ∃ p, p < n ∧ p ∈ Region.ready md ops listed ∧ ((ops[p]?).map pureOp).getD false = true ∧ Region.free md ops listed p = true

/-- The new values so far, by their slots. -/
def upd (A : Tmp → Option Value) (d : Tmp) (v : Value) : Tmp → Option Value := fun x => if x = d then some v else A x
theorem upd_comm (A : Tmp → Option Value) {d e : Tmp} (v u : Value) (h : d ≠ e) : upd (upd A d v) e u = upd (upd A e u) d v := by
  funext x
  unfold upd
  by_cases h1 : x = e
  · subst h1; simp [Ne.symm h]
  · simp [h1]

/-- One operation. -/
def cStep (P : Program) (ops : Array Oper) (w0 : World) (D : List Tmp) (R : Tmp → Value → World → Prop) (o : Oper) (K : (Tmp → Option Value) → Act → Prop) (A : Tmp → Option Value) (a : Act) : Prop :=
  if Region.wanted o (yielded ops a.tmps) then
    match freshOf D o with
    | some d => (∀ t : Grew w0, bornUpon P (past w0 t) (R d) ((execOp a.eval o).run P (past w0 t))) ∧ ∀ v, K (upd A d v) (a.put o.dst v)
    | none => ∃ v, (∀ t : Grew w0, calmUpon P (past w0 t) v ((execOp a.eval o).run P (past w0 t))) ∧ K A (a.put o.dst v)
  else K A (a.put o.dst undef)

/-- The walk in the order of the text. -/
def wpCalm (P : Program) (ops : Array Oper) (w0 : World) (D : List Tmp) (R : Tmp → Value → World → Prop) (L : (Tmp → Option Value) → Act → Prop) : List Oper → (Tmp → Option Value) → Act → Prop
  | [], A, a => L A a
  | o :: rest, A, a => cStep P ops w0 D R o (fun A' a' => wpCalm P ops w0 D R L rest A' a') A a

def cOp (P : Program) (ops : Array Oper) (w0 : World) (D : List Tmp) (R : Tmp → Value → World → Prop) (i : Nat) (K : (Tmp → Option Value) → Act → Prop) (A : Tmp → Option Value) (a : Act) : Prop :=
  match ops[i]? with
  | none => K A a
  | some o => cStep P ops w0 D R o K A a

/-- The first n operations, in whatever order; behind them L. -/
def wpHead (P : Program) (md : Region.Mode) (ops : Array Oper) (w0 : World) (D : List Tmp) (R : Tmp → Value → World → Prop) (n : Nat) (L : Array Bool → (Tmp → Option Value) → Act → Prop) : Nat → Array Bool → (Tmp → Option Value) → Act → Prop
  | 0, listed, A, a => L listed A a
  | f + 1, listed, A, a => Region.ready md ops listed ≠ [] ∧ ∀ i ∈ Region.ready md ops listed, (n ≤ i ∧ PureRest md ops n listed) ∨ i < n ∧ cOp P ops w0 D R i (wpHead P md ops w0 D R n L f (listed.setIfInBounds i true)) A a

variable {w0 : World} {D : List Tmp} {R : Tmp → Value → World → Prop}

theorem cStep_mono {o : Oper} {A : Tmp → Option Value} {a : Act} {K K' : (Tmp → Option Value) → Act → Prop} (h : ∀ A a, K A a → K' A a) (hh : cStep P ops w0 D R o K A a) : cStep P ops w0 D R o K' A a := by
  unfold cStep at *
  split
  · rename_i hw
    simp only [hw, if_true] at hh
    revert hh
    cases freshOf D o with
    | some d => exact fun ⟨h1, h2⟩ => ⟨h1, fun v => h _ _ (h2 v)⟩
    | none => exact fun ⟨v, h1, h2⟩ => ⟨v, h1, h _ _ h2⟩
  · rename_i hw
    simp only [hw] at hh
    exact h _ _ hh

theorem cOp_mono {i : Nat} {A : Tmp → Option Value} {a : Act} {K K' : (Tmp → Option Value) → Act → Prop} (h : ∀ A a, K A a → K' A a) (hh : cOp P ops w0 D R i K A a) : cOp P ops w0 D R i K' A a := by
  unfold cOp at *
  split
  · rename_i ho; simp only [ho] at hh; exact h _ _ hh
  · rename_i o ho; simp only [ho] at hh; exact cStep_mono h hh

/-- Operation o, which is not new, leaves v. -/
def Calm (P : Program) (ops : Array Oper) (w0 : World) (o : Oper) (v : Value) (a : Act) : Prop :=
  (Region.wanted o (yielded ops a.tmps) = true ∧ ∀ t : Grew w0, calmUpon P (past w0 t) v ((execOp a.eval o).run P (past w0 t))) ∨ (Region.wanted o (yielded ops a.tmps) = false ∧ v = undef)

theorem Calm.step {o : Oper} {v : Value} {A : Tmp → Option Value} {a : Act} (hf : freshOf D o = none) (hy : Calm P ops w0 o v a) {K : (Tmp → Option Value) → Act → Prop} (h : K A (a.put o.dst v)) : cStep P ops w0 D R o K A a := by
  unfold cStep
  rcases hy with ⟨hw, hv⟩ | ⟨hw, rfl⟩
  · simp only [hw, if_true, hf]; exact ⟨v, hv, h⟩
  · simp only [hw, Bool.false_eq_true, if_false]; exact h

theorem calm_of_step {o : Oper} {A : Tmp → Option Value} {a : Act} {K : (Tmp → Option Value) → Act → Prop} (hf : freshOf D o = none) (h : cStep P ops w0 D R o K A a) : ∃ v, Calm P ops w0 o v a ∧ K A (a.put o.dst v) := by
  unfold cStep at h
  by_cases hw : Region.wanted o (yielded ops a.tmps) = true
  · simp only [hw, if_true, hf] at h
    obtain ⟨v, h1, h2⟩ := h
    exact ⟨v, .inl ⟨hw, h1⟩, h2⟩
  · simp only [hw] at h
    exact ⟨undef, .inr ⟨by simpa using hw, rfl⟩, h⟩

theorem freshOf_dst {o : Oper} {d : Tmp} (h : freshOf D o = some d) : o.dst = some d ∧ o.guard = none := by
  unfold freshOf at h
  split at h
  · rename_i d' h1 h2
    split at h
    · injection h with h; subst h; exact ⟨h1, h2⟩
    · cases h
  · cases h
theorem fresh_wanted {o : Oper} {d : Tmp} (h : freshOf D o = some d) (y : Nat → Option Bool) : Region.wanted o y = true := by
  unfold Region.wanted; rw [(freshOf_dst h).2]

/-- The step of oj does not see that oi's value lies in its slot. -/
theorem step_put {oi oj : Oper} {v : Value} (hap : oi.apart ops oj = true) (hsi : ∀ cs b, oi.op ≠ .select cs b) (hsj : ∀ cs b, oj.op ≠ .select cs b) {K : (Tmp → Option Value) → Act → Prop} {A : Tmp → Option Value} {a : Act}
    (hy : Calm P ops w0 oi v a) (h : cStep P ops w0 D R oj K A (a.put oi.dst v)) : cStep P ops w0 D R oj (fun A' a' => Calm P ops w0 oi v a' ∧ K A' (a'.put oi.dst v)) A a := by
  obtain ⟨h1, h2, h3⟩ := Oper.apart_spec hap
  have keep : ∀ u, Calm P ops w0 oi v (a.put oj.dst u) := fun u => by
    unfold Calm at *
    rw [execOp_put oi hsi a oj.dst u h3, wanted_put oi a oj.dst u h3]
    exact hy
  unfold cStep at *
  rw [wanted_put oj a oi.dst v h1] at h
  split
  · rename_i hw
    simp only [hw, if_true] at h
    rw [execOp_put oj hsj a oi.dst v h1] at h
    revert h
    cases freshOf D oj with
    | some d => exact fun ⟨hb, hk⟩ => ⟨hb, fun u => ⟨keep u, by rw [← Act.put_comm a v u h2]; exact hk u⟩⟩
    | none => exact fun ⟨u, hu, hk⟩ => ⟨u, hu, keep u, by rw [← Act.put_comm a v u h2]; exact hk⟩
  · rename_i hw
    simp only [hw] at h
    exact ⟨keep _, by rw [← Act.put_comm a v undef h2]; exact h⟩

/-! ### Tails -/

/-- Operation t stands behind all of the head's. -/
def sinkT (md : Region.Mode) (ops : Array Oper) (n t : Nat) : Bool :=
  (List.range n).all fun i => Region.waitsFor md ops t i || (List.range n).any fun j => decide (i < j) && Region.waitsFor md ops j i
def tailB (md : Region.Mode) (ops : Array Oper) (n : Nat) : Bool :=
  (List.range ops.size).all fun t => decide (t < n) || (decide (n < t) && Region.waitsFor md ops t (t - 1)) || sinkT md ops n t

theorem tail_waitsT {n : Nat} {listed : Array Bool} (hs : tailB md ops n = true) (inv : HeadInv md ops n listed) :
    ∀ (d i : Nat), n - i = d → i < n → listed.getD i true = false → ∀ t, n ≤ t → t ∉ Region.ready md ops listed := by
  intro d
  induction d using Nat.strongRecOn with
  | _ d ih =>
    intro i hd hi hun t ht hr
    obtain ⟨_, ot, hot, hall⟩ := mem_ready.1 hr
    have htlt : t < ops.size := (Array.getElem?_eq_some_iff.1 hot).1
    have h1 := List.all_eq_true.1 hs t (List.mem_range.2 htlt)
    simp only [Bool.or_eq_true, Bool.and_eq_true, decide_eq_true_eq] at h1
    rcases h1 with (h1 | ⟨h1, h2⟩) | h1
    · omega
    · obtain ⟨o', ho', e, he, hb, hon⟩ := Region.waitsFor_spec h2
      have : o' = ot := Option.some.inj (ho'.symm.trans hot)
      subst this
      have h3 := hall e he hb
      rw [hon, getD_both (inv.tail (t - 1) (by omega) (by omega))] at h3
      cases h3
    · have h2 := List.all_eq_true.1 h1 i (List.mem_range.2 hi)
      simp only [Bool.or_eq_true] at h2
      rcases h2 with h2 | h2
      · obtain ⟨o', ho', e, he, hb, hon⟩ := Region.waitsFor_spec h2
        have : o' = ot := Option.some.inj (ho'.symm.trans hot)
        subst this
        have h3 := hall e he hb
        rw [hon, getD_both hun] at h3
        cases h3
      · obtain ⟨j, hj, hj2⟩ := List.any_eq_true.1 h2
        simp only [Bool.and_eq_true, decide_eq_true_eq] at hj2
        obtain ⟨oj, hoj, e, he, hb, hon⟩ := Region.waitsFor_spec hj2.2
        have hjn : j < n := List.mem_range.1 hj
        cases hl : listed.getD j false with
        | true =>
          have h3 := inv.closed j oj hoj hl e he hb
          rw [hon, getD_both hun] at h3
          cases h3
        | false =>
          have hjs : j < listed.size := by rw [inv.size]; exact (Array.getElem?_eq_some_iff.1 hoj).1
          exact ih (n - j) (by omega) j rfl hjn (getD_in hjs hl) t ht hr

/-- A tail in the order of the text: each operation is forced, or neither reads nor writes a world and may be taken first. -/
def seqT (md : Region.Mode) (ops : Array Oper) : Nat → Nat → Array Bool → Bool
  | 0, _, listed => (Region.ready md ops listed).isEmpty
  | g + 1, k, listed => (decide (Region.ready md ops listed = [k]) || ((Region.ready md ops listed).contains k && (Region.ready md ops listed).all (fun j => decide (k ≤ j)) && Region.free md ops listed k && ((ops[k]?).map pureOp).getD false)) && seqT md ops g (k + 1) (listed.setIfInBounds k true)

theorem seqT_ready {g k : Nat} {listed : Array Bool} (h : seqT md ops g k listed = true) : ∀ j ∈ Region.ready md ops listed, k ≤ j := by
  cases g with
  | zero => intro j hj; simp only [seqT, List.isEmpty_iff] at h; rw [h] at hj; cases hj
  | succ g =>
    intro j hj
    simp only [seqT, Bool.and_eq_true, Bool.or_eq_true, decide_eq_true_eq] at h
    rcases h.1 with h1 | ⟨⟨⟨_, h1⟩, _⟩, _⟩
    · rw [h1] at hj
      have : j = k := by simpa using hj
      omega
    · have := List.all_eq_true.1 h1 j hj
      simpa using this

/-- What such an operation yields, it yields in every world. -/
theorem pure_yields {o : Oper} {a : Act} {w : World} {K : Act → World → Prop} {Q : Exit → Act → World → Prop} (hp : pureOp o = true)
    (h : if Region.wanted o (yielded ops a.tmps) then o.wp P a w K Q ∨ (o.asks P a w ∧ LetsOut Q) else K (a.put o.dst undef) w) : ∃ v, Yields P ops o v a ∧ K (a.put o.dst v) w := by
  unfold pureOp at hp
  simp only [Bool.and_eq_true, Option.isNone_iff_eq_none] at hp
  obtain ⟨hg, hp⟩ := hp
  have hw : Region.wanted o (yielded ops a.tmps) = true := by unfold Region.wanted; rw [hg]
  simp only [hw, if_true] at h
  split at hp
  · rename_i x ho
    have hr : ∀ w, (execOp a.eval o).run P w = .ok (.value (a.eval x)) w := fun w => by unfold execOp; rw [ho]; rfl
    refine ⟨_, .inl ⟨hw, hr⟩, ?_⟩
    rcases h with h | ⟨h, _⟩
    · unfold Oper.wp at h; rw [hr] at h; exact h
    · exact absurd h (by unfold Oper.asks execOp; rw [ho]; rintro ⟨h, _⟩; exact absurd (show noRoomEvent ∈ (#[] : Array Event) from h) (by simp))
  · rename_i x ho
    have hr : ∀ w, (execOp a.eval o).run P w = .ok (.value (a.eval x)) w := fun w => by unfold execOp; rw [ho]; rfl
    refine ⟨_, .inl ⟨hw, hr⟩, ?_⟩
    rcases h with h | ⟨h, _⟩
    · unfold Oper.wp at h; rw [hr] at h; exact h
    · exact absurd h (by unfold Oper.asks execOp; rw [ho]; rintro ⟨h, _⟩; exact absurd (show noRoomEvent ∈ (#[] : Array Event) from h) (by simp))
  · rename_i c x y ho
    cases hc : a.eval c with
    | bool b =>
      have hr : ∀ w, (execOp a.eval o).run P w = .ok (.value (if b then a.eval x else a.eval y)) w := fun w => by unfold execOp; rw [ho]; simp only [hc]; rfl
      refine ⟨_, .inl ⟨hw, hr⟩, ?_⟩
      rcases h with h | ⟨h, _⟩
      · unfold Oper.wp at h; rw [hr] at h; exact h
      · exact absurd h (by unfold Oper.asks execOp; rw [ho]; simp only [hc]; rintro ⟨h, _⟩; exact absurd (show noRoomEvent ∈ (#[] : Array Event) from h) (by simp))
    | _ =>
      exfalso
      unfold Oper.wp Oper.asks execOp at h
      rw [ho] at h
      simp only [hc] at h
      rcases h with h | ⟨⟨h, _⟩, _⟩
      · exact h
      · exact absurd (show noRoomEvent ∈ (#[] : Array Event) from h) (by simp)
  · cases hp

theorem wpAny_of_seqT {Q' : Exit → Act → World → Prop} (hsel : Region.noSelect ops = true) (hQ : ∀ c d v a w, Q' (.panic c) (Act.put a d v) w → Q' (.panic c) a w) : ∀ (l : List Oper) (k : Nat) (listed : Array Bool) (a : Act) (w : World), (∀ j, l[j]? = ops[k + j]?) →
    seqT md ops l.length k listed = true → wpList P ops Q' l a w → wpAny P md ops Q' l.length listed a w
  | [], _, _, _, _, _, hB, h => ⟨by simpa [seqT] using hB, h⟩
  | o :: l, k, listed, a, w, hl, hB, h => by
    have h0 : ops[k]? = some o := by simpa using (hl 0).symm
    simp only [List.length_cons, seqT, Bool.and_eq_true, Bool.or_eq_true, decide_eq_true_eq] at hB
    have next : ∀ a' w', wpList P ops Q' l a' w' → wpAny P md ops Q' l.length (listed.setIfInBounds k true) a' w' := fun a' w' h' => wpAny_of_seqT hsel hQ l (k + 1) _ a' w' (fun j => by have := hl (j + 1); simpa [Nat.add_assoc, Nat.add_comm 1 j] using this) hB.2 h'
    rcases hB.1 with hB1 | ⟨⟨⟨hr, _⟩, hf⟩, hp⟩
    · refine ⟨fun h1 => (by rw [hB1] at h1; cases h1), fun i hi => ?_⟩
      rw [hB1] at hi
      have hik : i = k := by simpa using hi
      subst hik
      have hw : wpOp P ops Q' i (wpList P ops Q' l) a w := by unfold wpOp; simp only [h0]; exact h
      exact wpOp_mono next hw
    · rw [h0] at hp
      obtain ⟨v, hy, hK⟩ := pure_yields (P := P) (ops := ops) (Q := Q') (K := wpList P ops Q' l) (w := w) (by simpa using hp) h
      exact wpAny_first h0 (Region.noSelect_spec hsel) (fun c a w => hQ c _ _ a w) l.length listed a w (Region.free_spec h0 hf) (by simpa using hr) hy (next _ _ hK)

/-- Which operations of the head may come up. -/
structure HeadAt (md : Region.Mode) (ops : Array Oper) (n : Nat) (listed : Array Bool) : Prop where
  inv : n < ops.size → HeadInv md ops n listed ∧ tailB md ops n = true

theorem HeadAt.below {n i j : Nat} {listed : Array Bool} (h : HeadAt md ops n listed) (hi : i ∈ Region.ready md ops listed) (hin : i < n) (hj : j ∈ Region.ready md ops listed) : j < n := by
  rcases Nat.lt_or_ge n ops.size with hn | hn
  · obtain ⟨inv, hs⟩ := h.inv hn
    rcases Nat.lt_or_ge j n with h' | h'
    · exact h'
    · exact absurd hj (tail_waitsT hs inv _ i rfl hin (mem_ready.1 hi).1 j h')
  · obtain ⟨_, oj, hoj, _⟩ := mem_ready.1 hj
    have := (Array.getElem?_eq_some_iff.1 hoj).1
    omega
theorem HeadAt.set {n i : Nat} {listed : Array Bool} (h : HeadAt md ops n listed) (hi : i ∈ Region.ready md ops listed) (hin : i < n) : HeadAt md ops n (listed.setIfInBounds i true) :=
  ⟨fun hn => ⟨(h.inv hn).1.set hi hin, (h.inv hn).2⟩⟩

/-- What stands ahead of operation t among the first k. -/
def befs (md : Region.Mode) (ops : Array Oper) (t : Nat) : Nat → List Nat → List Nat
  | 0, S => S
  | k + 1, S => befs md ops t k (if Region.waitsFor md ops t k || S.any (fun j => Region.waitsFor md ops j k) then k :: S else S)
/-- An operation that neither reads nor writes a world, and that no other one's slots touch that is not ahead of it. -/
def lateB (md : Region.Mode) (ops : Array Oper) (i : Nat) : Bool := match ops[i]? with
  | none => false
  | some oi => pureOp oi && (List.range ops.size).all fun j => j == i || (befs md ops i i []).contains j || match ops[j]? with
      | some oj => oj.after.any (fun e => Region.binds md e && e.on == i) || oi.apart ops oj
      | none => true
def lateTail (md : Region.Mode) (ops : Array Oper) (n : Nat) : Bool :=
  (List.range ops.size).all fun t => decide (t < n) || (decide (n < t) && Region.waitsFor md ops t (t - 1)) || (List.range n).all fun i => (befs md ops t n []).contains i || lateB md ops i

theorem waits_listed {n t k : Nat} {listed : Array Bool} (inv : HeadInv md ops n listed) (hl : listed.getD t false = true ∨ t ∈ Region.ready md ops listed) (h : Region.waitsFor md ops t k = true) : listed.getD k false = true := by
  obtain ⟨o, ho, e, he, hb, rfl⟩ := Region.waitsFor_spec h
  rcases hl with hl | hl
  · exact inv.closed t o ho hl e he hb
  · obtain ⟨_, ot, hot, hall⟩ := mem_ready.1 hl
    have : o = ot := Option.some.inj (ho.symm.trans hot)
    subst this
    exact hall e he hb
theorem befs_listed {n t : Nat} {listed : Array Bool} (inv : HeadInv md ops n listed) (ht : t ∈ Region.ready md ops listed) :
    ∀ (k : Nat) (S : List Nat), (∀ j ∈ S, listed.getD j false = true) → ∀ j ∈ befs md ops t k S, listed.getD j false = true
  | 0, S, hS => hS
  | k + 1, S, hS => by
    unfold befs
    refine befs_listed inv ht k _ ?_
    split
    · rename_i hc
      intro j hj
      rcases List.mem_cons.1 hj with rfl | hj
      · rcases Bool.or_eq_true _ _ ▸ hc with hc | hc
        · exact waits_listed inv (.inr ht) hc
        · obtain ⟨j', hj', hw⟩ := List.any_eq_true.1 hc
          exact waits_listed inv (.inl (hS j' hj')) hw
      · exact hS j hj
    · exact hS

theorem late_free {n i : Nat} {listed : Array Bool} (inv : HeadInv md ops n listed) (hi : i ∈ Region.ready md ops listed) (h : lateB md ops i = true) : ((ops[i]?).map pureOp).getD false = true ∧ Region.free md ops listed i = true := by
  unfold lateB at h
  cases ho : ops[i]? with
  | none => rw [ho] at h; cases h
  | some oi =>
    rw [ho] at h
    simp only [Bool.and_eq_true] at h
    refine ⟨by simpa using h.1, ?_⟩
    unfold Region.free
    rw [ho]
    simp only [List.all_eq_true, List.mem_range]
    intro j hj
    have h1 := List.all_eq_true.1 h.2 j (List.mem_range.2 hj)
    simp only [Bool.or_eq_true] at h1 ⊢
    rcases h1 with (h1 | h1) | h1
    · exact .inl (.inl h1)
    · refine .inl (.inr ?_)
      have h3 := befs_listed inv hi i [] (fun _ h => by cases h) j (by simpa using h1)
      cases hl : listed.getD j true with
      | true => rfl
      | false => rw [getD_both hl] at h3; cases h3
    · exact .inr h1

/-- Which operations of the head may come up. -/
structure HeadAtL (md : Region.Mode) (ops : Array Oper) (n : Nat) (listed : Array Bool) : Prop where
  inv : n < ops.size → HeadInv md ops n listed ∧ lateTail md ops n = true

theorem HeadAtL.below {n i j : Nat} {listed : Array Bool} (h : HeadAtL md ops n listed) (hi : i ∈ Region.ready md ops listed) (hin : i < n) (hj : j ∈ Region.ready md ops listed) : j < n ∨ (n ≤ j ∧ PureRest md ops n listed) := by
  rcases Nat.lt_or_ge n ops.size with hn | hn
  · obtain ⟨inv, hs⟩ := h.inv hn
    rcases Nat.lt_or_ge j n with h' | h'
    · exact .inl h'
    · refine .inr ⟨h', ?_⟩
      obtain ⟨_, ot, hot, hall⟩ := mem_ready.1 hj
      have htlt : j < ops.size := (Array.getElem?_eq_some_iff.1 hot).1
      have h1 := List.all_eq_true.1 hs j (List.mem_range.2 htlt)
      simp only [Bool.or_eq_true, Bool.and_eq_true, decide_eq_true_eq] at h1
      rcases h1 with (h1 | ⟨h1, h2⟩) | h1
      · omega
      · have h3 := waits_listed inv (.inr hj) h2
        rw [getD_both (inv.tail (j - 1) (by omega) (by omega))] at h3
        cases h3
      · have h2 := List.all_eq_true.1 h1 i (List.mem_range.2 hin)
        simp only [Bool.or_eq_true] at h2
        rcases h2 with h2 | h2
        · have h3 := befs_listed inv hj n [] (fun _ h => by cases h) i (by simpa using h2)
          rw [getD_both (mem_ready.1 hi).1] at h3
          cases h3
        · exact ⟨i, hin, hi, late_free inv hi h2⟩
  · obtain ⟨_, oj, hoj, _⟩ := mem_ready.1 hj
    have := (Array.getElem?_eq_some_iff.1 hoj).1
    exact .inl (by omega)
theorem HeadAtL.set {n i : Nat} {listed : Array Bool} (h : HeadAtL md ops n listed) (hi : i ∈ Region.ready md ops listed) (hin : i < n) : HeadAtL md ops n (listed.setIfInBounds i true) :=
  ⟨fun hn => ⟨(h.inv hn).1.set hi hin, (h.inv hn).2⟩⟩

theorem not_after {i : Nat} {listed : Array Bool} (hi : i ∈ Region.ready md ops listed) {oj : Oper} (hj : ∀ e ∈ oj.after, Region.binds md e = true → listed.getD e.on false = true) : ∀ e ∈ oj.after, Region.binds md e = true → e.on ≠ i := fun e he hb heq => by
  have h1 := hj e he hb
  rw [heq, getD_both (mem_ready.1 hi).1] at h1
  cases h1

/-- An operation that is not new, and may come up, may be taken first. -/
theorem head_first {n i : Nat} {oi : Oper} {v : Value} {L : Array Bool → (Tmp → Option Value) → Act → Prop} (hi : ops[i]? = some oi) (hsel : ∀ (j : Nat) (o : Oper) cs b, ops[j]? = some o → o.op ≠ .select cs b) (hin : i < n) (hfr : freshOf D oi = none)
    (hdone : ∀ listed A a, L listed A a → ∀ j ∈ Region.ready md ops listed, n ≤ j) :
    ∀ (f : Nat) (listed : Array Bool) (A : Tmp → Option Value) (a : Act), HeadAtL md ops n listed →
      (∀ j oj, ops[j]? = some oj → j ≠ i → listed.getD j true = false → (∀ e ∈ oj.after, Region.binds md e = true → e.on ≠ i) → oi.apart ops oj = true) →
      i ∈ Region.ready md ops listed → Calm P ops w0 oi v a →
      wpHead P md ops w0 D R n L f (listed.setIfInBounds i true) A (a.put oi.dst v) → wpHead P md ops w0 D R n L (f + 1) listed A a := by
  intro f
  induction f with
  | zero =>
    intro listed A a inv _ hr hy H
    refine ⟨fun h => (by rw [h] at hr; cases hr), fun j hj => ?_⟩
    rcases inv.below hr hin hj with hjn | hjn
    case inr => exact .inl hjn
    refine .inr ⟨hjn, ?_⟩
    by_cases hji : j = i
    · subst hji; unfold cOp; rw [hi]; exact hy.step hfr H
    · have := hdone _ _ _ H j (ready_mono hj hji)
      omega
  | succ f ih =>
    intro listed A a inv hfree hr hy H
    refine ⟨fun h => (by rw [h] at hr; cases hr), fun j hj => ?_⟩
    rcases inv.below hr hin hj with hjn | hjn
    case inr => exact .inl hjn
    refine .inr ⟨hjn, ?_⟩
    by_cases hji : j = i
    · subst hji; unfold cOp; rw [hi]; exact hy.step hfr H
    · have h1 := ((H.2 j (ready_mono hj hji)).resolve_left (fun h => by omega)).2
      obtain ⟨hjun, oj, hoj, hall⟩ := mem_ready.1 hj
      unfold cOp at h1 ⊢
      rw [hoj] at h1 ⊢
      have h2 := step_put (hfree j oj hoj hji hjun (not_after hr hall)) (fun cs b => hsel i oi cs b hi) (fun cs b => hsel j oj cs b hoj) hy h1
      have hfree' : ∀ k ok, ops[k]? = some ok → k ≠ i → (listed.setIfInBounds j true).getD k true = false →
          (∀ e ∈ ok.after, Region.binds md e = true → e.on ≠ i) → oi.apart ops ok = true := fun k ok hk hki hun hno => by
        refine hfree k ok hk hki ?_ hno
        by_cases hjk : j = k
        · subst hjk; exact hjun
        · rw [getD_set_ne true hjk] at hun; exact hun
      refine cStep_mono (fun A' a' h3 => ih (listed.setIfInBounds j true) A' a' (inv.set hj hjn) hfree' (ready_mono hr (Ne.symm hji)) h3.1 ?_) h2
      rw [Array.setIfInBounds_comm _ _ hji]
      exact h3.2

/-- A new value may be taken first where all that is left of the head are new values. -/
theorem head_fresh {n i : Nat} {oi : Oper} {d : Tmp} {L : Array Bool → (Tmp → Option Value) → Act → Prop} (hi : ops[i]? = some oi) (hsel : ∀ (j : Nat) (o : Oper) cs b, ops[j]? = some o → o.op ≠ .select cs b) (hin : i < n) (hfr : freshOf D oi = some d)
    (hdone : ∀ listed A a, L listed A a → ∀ j ∈ Region.ready md ops listed, n ≤ j) :
    ∀ (f : Nat) (listed : Array Bool) (A : Tmp → Option Value) (a : Act), HeadAtL md ops n listed →
      (∀ j oj, ops[j]? = some oj → j ≠ i → listed.getD j true = false → (∀ e ∈ oj.after, Region.binds md e = true → e.on ≠ i) → oi.apart ops oj = true) →
      (∀ j oj, j < n → ops[j]? = some oj → listed.getD j true = false → ∃ e, freshOf D oj = some e) →
      i ∈ Region.ready md ops listed → (∀ t : Grew w0, bornUpon P (past w0 t) (R d) ((execOp a.eval oi).run P (past w0 t))) →
      (∀ v, wpHead P md ops w0 D R n L f (listed.setIfInBounds i true) (upd A d v) (a.put oi.dst v)) → wpHead P md ops w0 D R n L (f + 1) listed A a := by
  intro f
  induction f with
  | zero =>
    intro listed A a inv _ _ hr hb H
    refine ⟨fun h => (by rw [h] at hr; cases hr), fun j hj => ?_⟩
    rcases inv.below hr hin hj with hjn | hjn
    case inr => exact .inl hjn
    refine .inr ⟨hjn, ?_⟩
    by_cases hji : j = i
    · subst hji; unfold cOp cStep; rw [hi]; simp only [fresh_wanted hfr, if_true, hfr]; exact ⟨hb, H⟩
    · have := hdone _ _ _ (H undef) j (ready_mono hj hji)
      omega
  | succ f ih =>
    intro listed A a inv hfree hall' hr hb H
    refine ⟨fun h => (by rw [h] at hr; cases hr), fun j hj => ?_⟩
    rcases inv.below hr hin hj with hjn | hjn
    case inr => exact .inl hjn
    refine .inr ⟨hjn, ?_⟩
    by_cases hji : j = i
    · subst hji; unfold cOp cStep; rw [hi]; simp only [fresh_wanted hfr, if_true, hfr]; exact ⟨hb, H⟩
    · obtain ⟨hjun, oj, hoj, hall⟩ := mem_ready.1 hj
      obtain ⟨e, hfe⟩ := hall' j oj hjn hoj hjun
      have hap := hfree j oj hoj hji hjun (not_after hr hall)
      obtain ⟨h1, h2, h3⟩ := Oper.apart_spec hap
      have hsi := fun cs b => hsel i oi cs b hi
      have hsj := fun cs b => hsel j oj cs b hoj
      have hde : d ≠ e := fun he => h2 d (freshOf_dst hfr).1 (by rw [he]; exact (freshOf_dst hfe).1)
      have hH : ∀ v, (∀ t : Grew w0, bornUpon P (past w0 t) (R e) ((execOp a.eval oj).run P (past w0 t))) ∧ ∀ u, wpHead P md ops w0 D R n L f ((listed.setIfInBounds i true).setIfInBounds j true) (upd (upd A d v) e u) ((a.put oi.dst v).put oj.dst u) := fun v => by
        have h4 := (((H v).2 j (ready_mono hj hji)).resolve_left (fun h => by omega)).2
        unfold cOp cStep at h4
        rw [hoj] at h4
        simp only [fresh_wanted hfe, if_true, hfe] at h4
        rw [execOp_put oj hsj a oi.dst v h1] at h4
        exact h4
      unfold cOp cStep
      rw [hoj]
      simp only [fresh_wanted hfe, if_true, hfe]
      refine ⟨(hH undef).1, fun u => ?_⟩
      refine ih (listed.setIfInBounds j true) (upd A e u) (a.put oj.dst u) (inv.set hj hjn) ?_ ?_ (ready_mono hr (Ne.symm hji)) ?_ ?_
      · intro k ok hk hki hun hno
        refine hfree k ok hk hki ?_ hno
        by_cases hjk : j = k
        · subst hjk; exact hjun
        · rw [getD_set_ne true hjk] at hun; exact hun
      · intro k ok hkn hk hun
        refine hall' k ok hkn hk ?_
        by_cases hjk : j = k
        · subst hjk; exact hjun
        · rw [getD_set_ne true hjk] at hun; exact hun
      · intro t; rw [execOp_put oi hsi a oj.dst u h3]; exact hb t
      · intro v
        rw [Array.setIfInBounds_comm _ _ hji, upd_comm A u v (Ne.symm hde), ← Act.put_comm a v u h2]
        exact (hH v).2 u

/-- The head in the order of the text. New values stand at its end. -/
def lexOk (md : Region.Mode) (ops : Array Oper) (D : List Tmp) (n : Nat) : Nat → Nat → Array Bool → Bool
  | 0, k, listed => seqT md ops (ops.size - n) k listed
  | f + 1, k, listed => (Region.ready md ops listed).contains k && Region.free md ops listed k &&
      (match ops[k]? with
       | some o => (freshOf D o).isNone || (List.range n).all fun j => listed.getD j true || match ops[j]? with
          | some oj => (freshOf D oj).isSome
          | none => true
       | none => true) && lexOk md ops D n f (k + 1) (listed.setIfInBounds k true)

theorem wpHead_lex {n : Nat} {Lq : (Tmp → Option Value) → Act → Prop} (hsel : Region.noSelect ops = true) :
    ∀ (l : List Oper) (k : Nat) (listed : Array Bool) (A : Tmp → Option Value) (a : Act), (∀ j, j < l.length → l[j]? = ops[k + j]?) → k + l.length = n → HeadAtL md ops n listed →
    lexOk md ops D n l.length k listed = true → wpCalm P ops w0 D R Lq l A a →
    wpHead P md ops w0 D R n (fun listed' A' a' => seqT md ops (ops.size - n) n listed' = true ∧ Lq A' a') l.length listed A a
  | [], k, listed, A, a, _, hk, _, hB, h => by
    have : k = n := by simpa using hk
    subst this
    exact ⟨by simpa [lexOk] using hB, h⟩
  | o :: l, k, listed, A, a, hl, hk, inv, hB, h => by
    have h0 : ops[k]? = some o := by simpa using (hl 0 (by simp)).symm
    simp only [List.length_cons, lexOk, Bool.and_eq_true, h0] at hB
    obtain ⟨⟨⟨hr, hf⟩, hfresh⟩, hB'⟩ := hB
    have hkn : k < n := by simp only [List.length_cons] at hk; omega
    have hr' : k ∈ Region.ready md ops listed := by simpa using hr
    have hst : cStep P ops w0 D R o (fun A' a' => wpCalm P ops w0 D R Lq l A' a') A a := h
    have next : ∀ A' a', wpCalm P ops w0 D R Lq l A' a' → wpHead P md ops w0 D R n (fun listed' A' a' => seqT md ops (ops.size - n) n listed' = true ∧ Lq A' a') l.length (listed.setIfInBounds k true) A' a' := fun A' a' h' =>
      wpHead_lex hsel l (k + 1) _ A' a' (fun j hj => by have := hl (j + 1) (by simp; omega); simpa [Nat.add_assoc, Nat.add_comm 1 j] using this) (by simp only [List.length_cons] at hk; omega) (inv.set hr' hkn) hB' h'
    have hdone : ∀ listed' A' a', (seqT md ops (ops.size - n) n listed' = true ∧ Lq A' a') → ∀ j ∈ Region.ready md ops listed', n ≤ j := fun _ _ _ hL => seqT_ready hL.1
    cases hfo : freshOf D o with
    | none =>
      obtain ⟨v, hy, hK⟩ := calm_of_step hfo hst
      exact head_first h0 (Region.noSelect_spec hsel) hkn hfo hdone l.length listed A a inv (Region.free_spec h0 hf) hr' hy (next _ _ hK)
    | some d =>
      unfold cStep at hst
      simp only [fresh_wanted hfo, if_true, hfo] at hst
      refine head_fresh h0 (Region.noSelect_spec hsel) hkn hfo hdone l.length listed A a inv (Region.free_spec h0 hf) ?_ hr' hst.1 (fun v => next _ _ (hst.2 v))
      intro j oj hjn hoj hun
      simp only [hfo, Option.isNone_some, Bool.false_or, List.all_eq_true, List.mem_range] at hfresh
      have h5 := hfresh j hjn
      simp only [hoj, hun, Bool.false_or] at h5
      exact Option.isSome_iff_exists.1 h5

/-- What is known of the new values in a world behind them. -/
def Newborn (w0 : World) (R : Tmp → Value → World → Prop) (A : Tmp → Option Value) (w : World) : Prop :=
  Below w0.heap.size w0 w ∧ (∀ d v, A d = some v → R d v w ∧ ∀ b, headBlock v = some b → w0.heap.size ≤ b ∧ b < w.heap.size) ∧
  ∀ d e v u b c, A d = some v → A e = some u → d ≠ e → headBlock v = some b → headBlock u = some c → b ≠ c

/-- R is kept by worlds that grow. -/
def Kept (R : Tmp → Value → World → Prop) : Prop := ∀ d v w (t : Grew w), R d v w → R d v (past w t)

theorem Newborn.past {A : Tmp → Option Value} {w : World} (hk : Kept R) (h : Newborn w0 R A w) (t : Grew w) : Newborn w0 R A (past w t) :=
  ⟨since_past h.1 t, fun d v hd => ⟨hk d v w t (h.2.1 d v hd).1, fun b hb => ⟨((h.2.1 d v hd).2 b hb).1, past_lt w t b ((h.2.1 d v hd).2 b hb).2⟩⟩, h.2.2⟩

theorem Newborn.born {A : Tmp → Option Value} {w w' : World} {d : Tmp} {v : Value} (hk : Kept R) (h : Newborn w0 R A w) (hb : Born w (R d) v w') : Newborn w0 R (upd A d v) w' := by
  obtain ⟨hR, ⟨t, rfl⟩, hh⟩ := hb
  have hp := h.past hk t
  refine ⟨hp.1, fun e u he => ?_, fun e f u x b c he hf hne hb hc => ?_⟩
  · unfold upd at he
    split at he
    · rename_i hed; subst hed; injection he with he; subst he
      exact ⟨hR, fun b hb => ⟨Nat.le_trans h.1.size (hh b hb).1, (hh b hb).2⟩⟩
    · exact hp.2.1 e u he
  · unfold upd at he hf
    split at he <;> split at hf
    · rename_i h1 h2; exact absurd (h1.trans h2.symm) hne
    · injection he with he; subst he
      have := (hh b hb).1
      have := ((h.2.1 f x hf).2 c hc).2
      omega
    · injection hf with hf; subst hf
      have := (hh c hc).1
      have := ((h.2.1 e u he).2 b hb).2
      omega
    · exact h.2.2 e f u x b c he hf hne hb hc

/-- What a step promises, as the walk of one operation. -/
theorem cstep_wp {Q : Exit → Act → World → Prop} {o : Oper} {A : Tmp → Option Value} {a : Act} {w : World} {K : Act → World → Prop} {K' : (Tmp → Option Value) → Act → Prop} (hk : Kept R) (hKK : ∀ A' a' w', Newborn w0 R A' w' → K' A' a' → K a' w') (hw : Newborn w0 R A w)
    (h1 : cStep P ops w0 D R o K' A a) : if Region.wanted o (yielded ops a.tmps) then o.wp P a w K Q ∨ (o.asks P a w ∧ LetsOut Q) else K (a.put o.dst undef) w := by
  unfold cStep at h1
  split
  · rename_i hwant
    simp only [hwant, if_true] at h1
    refine .inl ?_
    have hg : past w0 ⟨w, hw.1⟩ = w := rfl
    revert h1
    cases hfo : freshOf D o with
    | some d =>
      rintro ⟨hb, hK⟩
      have hb := hb ⟨w, hw.1⟩
      rw [hg] at hb
      unfold Oper.wp
      generalize (execOp a.eval o).run P w = r at *
      cases r with
      | ok nx w' =>
        cases nx <;> simp only [bornUpon] at hb <;> simp only [Oper.upon]
        case value u => exact hKK _ _ _ (hw.born hk hb) (hK u)
        case enter fn args =>
          obtain ⟨rfl, hc⟩ := hb
          exact hc.mono fun e w'' ⟨v, he, hv⟩ => by subst he; exact hKK _ _ _ (hw.born hk hv) (hK v)
      | halt x w' => simp only [bornUpon] at hb
    | none =>
      rintro ⟨v, hb, hK⟩
      have hb := hb ⟨w, hw.1⟩
      rw [hg] at hb
      unfold Oper.wp
      generalize (execOp a.eval o).run P w = r at *
      cases r with
      | ok nx w' =>
        cases nx <;> simp only [calmUpon] at hb <;> simp only [Oper.upon]
        case value u => obtain ⟨rfl, rfl⟩ := hb; exact hKK _ _ _ hw hK
        case skip => obtain ⟨rfl, rfl⟩ := hb; exact hKK _ _ _ hw hK
        case enter fn args =>
          obtain ⟨rfl, hc⟩ := hb
          exact hc.mono fun e w'' ⟨he, hbl⟩ => by subst he; exact hKK _ _ _ (hw.past hk ⟨w'', hbl⟩) hK
      | halt x w' => simp only [calmUpon] at hb
  · rename_i hwant
    simp only [hwant] at h1
    exact hKK _ _ _ hw h1

theorem head_sound {n g : Nat} {L : Array Bool → (Tmp → Option Value) → Act → Prop} {Q : Exit → Act → World → Prop} (hsel : Region.noSelect ops = true) (hQ : ∀ c d v a w, Q (.panic c) (Act.put a d v) w → Q (.panic c) a w) (hk : Kept R) (hL : ∀ listed A a w, Newborn w0 R A w → L listed A a → wpAny P md ops Q g listed a w) :
    ∀ (f : Nat) (listed : Array Bool) (A : Tmp → Option Value) (a : Act) (w : World), Newborn w0 R A w → wpHead P md ops w0 D R n L f listed A a → wpAny P md ops Q (f + g) listed a w
  | 0, listed, A, a, w, hw, h => by rw [Nat.zero_add]; exact hL _ _ _ _ hw h
  | f + 1, listed, A, a, w, hw, h => by
    rw [show f + 1 + g = (f + g) + 1 by omega]
    have next : ∀ i A' a' w', Newborn w0 R A' w' → wpHead P md ops w0 D R n L f (listed.setIfInBounds i true) A' a' → wpAny P md ops Q (f + g) (listed.setIfInBounds i true) a' w' := fun i A' a' w' hw' h' => head_sound hsel hQ hk hL f _ _ _ _ hw' h'
    by_cases hall : ∀ i ∈ Region.ready md ops listed, i < n
    · refine ⟨fun h0 => absurd h0 h.1, fun i hi => ?_⟩
      have hin := hall i hi
      have h1 := ((h.2 i hi).resolve_left (fun h => by omega)).2
      obtain ⟨_, o, ho, _⟩ := mem_ready.1 hi
      unfold cOp at h1
      unfold wpOp
      rw [ho] at h1 ⊢
      exact cstep_wp hk (fun A' a' w' => next i A' a' w') hw h1
    · have ⟨i, hi, hin⟩ : ∃ i, i ∈ Region.ready md ops listed ∧ ¬ i < n := by
        refine Classical.byContradiction fun hno => hall fun i hi => Classical.byContradiction fun hin => hno ⟨i, hi, hin⟩
      rcases h.2 i hi with ⟨_, p, hpn, hp, hpure, hfree⟩ | h2
      · have h1 := ((h.2 p hp).resolve_left (fun h => by omega)).2
        obtain ⟨_, o, ho, _⟩ := mem_ready.1 hp
        unfold cOp at h1
        rw [ho] at h1
        have h3 := cstep_wp (Q := Q) hk (fun A' a' w' => next p A' a' w') hw h1
        rw [ho] at hpure
        obtain ⟨v, hy, hK⟩ := pure_yields (by simpa using hpure) h3
        exact wpAny_first ho (Region.noSelect_spec hsel) (fun c a w => hQ c _ _ a w) (f + g) listed a w (Region.free_spec ho hfree) hp hy hK
      · exact absurd h2.1 hin

def drawOk (md : Region.Mode) (ops : Array Oper) (D : List Tmp) (n : Nat) : Bool :=
  Region.noSelect ops && decide (n ≤ ops.size) && (decide (n = ops.size) || lateTail md ops n) && lexOk md ops D n n 0 (Array.replicate ops.size false)

/-- **A region that draws its order**: its first n operations read, call quietly or make new values (the slots D); the others follow in a forced order. -/
theorem wp_draw {id : Nat} {Q : Exit → Act → World → Prop} {a : Act} {w : World} {l : List Oper} (n : Nat) (D : List Tmp) (R : Tmp → Value → World → Prop) (hk : Kept R) (hQ : ∀ c d v a w, Q (.panic c) (Act.put a d v) w → Q (.panic c) a w) (hm : P.follows .mixedOrders = true) (hB : drawOk .any l.toArray D n = true)
    (h : wpCalm P l.toArray w D R (fun A a' => ∀ w', Newborn w R A w' → wpList P l.toArray Q (l.drop n) a' w') (l.take n) (fun _ => none) a) : (Code.region id l.toArray true).wp P Q a w := by
  simp only [drawOk, Bool.and_eq_true, decide_eq_true_eq, Bool.or_eq_true] at hB
  obtain ⟨⟨⟨hsel, hn⟩, hst⟩, hlex⟩ := hB
  have hn' : n ≤ l.length := by simpa using hn
  have htl : (l.take n).length = n := by simp; omega
  have hdl : (l.drop n).length = l.toArray.size - n := by simp
  have inv0 : HeadAtL .any l.toArray n (Array.replicate l.toArray.size false) := ⟨fun hlt => ⟨
    ⟨by simp, fun j oj _ hl => (by rw [getD_replicate_false] at hl; cases hl), fun t _ ht => getD_in (by simpa using ht) (getD_replicate_false _ _)⟩, by
      rcases hst with hst | hst
      · omega
      · exact hst⟩⟩
  have H := wpHead_lex (P := P) (w0 := w) (D := D) (R := R) (md := .any) hsel (l.take n) 0 _ _ a (fun j hj => by
    have hj' : j < n := by rw [htl] at hj; exact hj
    simp [hj']) (by simpa using htl) inv0 (by rw [htl]; exact hlex) h
  refine wp_region_any hm ?_
  have hnb : Newborn w R (fun _ => none) { w with drawn := w.drawn + 1 } := ⟨(Below.refl _ w).drew, fun d v hd => by (cases hd), fun d e v u b c hd => by (cases hd)⟩
  have := head_sound (Q := Q) (g := l.toArray.size - n) hsel hQ hk (fun listed A a' w' hw' hL => by
    have := wpAny_of_seqT (md := .any) (Q' := Q) hsel hQ (l.drop n) n listed a' w' (fun j => by simp [List.getElem?_drop]) (by rw [hdl]; exact hL.1) (hL.2 w' hw')
    rwa [hdl] at this) _ _ _ _ _ hnb H
  rw [htl, show n + (l.toArray.size - n) = l.toArray.size by omega] at this
  exact this

theorem calm_list {L : (Tmp → Option Value) → Act → Prop} {Q : Exit → Act → World → Prop} {tail : List Oper} (hk : Kept R) (hL : ∀ A a w, Newborn w0 R A w → L A a → wpList P ops Q tail a w) :
    ∀ (l : List Oper) (A : Tmp → Option Value) (a : Act) (w : World), Newborn w0 R A w → wpCalm P ops w0 D R L l A a → wpList P ops Q (l ++ tail) a w
  | [], A, a, w, hw, h => hL _ _ _ hw h
  | o :: l, A, a, w, hw, h => by
    have h1 : cStep P ops w0 D R o (fun A' a' => wpCalm P ops w0 D R L l A' a') A a := h
    have next : ∀ A' a' w', Newborn w0 R A' w' → wpCalm P ops w0 D R L l A' a' → wpList P ops Q (l ++ tail) a' w' := fun A' a' w' hw' h' => calm_list hk hL l A' a' w' hw' h'
    rw [List.cons_append]
    unfold wpList
    unfold cStep at h1
    split
    · rename_i hwant
      simp only [hwant, if_true] at h1
      refine .inl ?_
      have hg : past w0 ⟨w, hw.1⟩ = w := rfl
      revert h1
      cases hfo : freshOf D o with
      | some d =>
        rintro ⟨hb, hK⟩
        have hb := hb ⟨w, hw.1⟩
        rw [hg] at hb
        unfold Oper.wp
        generalize (execOp a.eval o).run P w = r at *
        cases r with
        | ok nx w' =>
          cases nx <;> simp only [bornUpon] at hb <;> simp only [Oper.upon]
          case value u => exact next _ _ _ (hw.born hk hb) (hK u)
          case enter fn args =>
            obtain ⟨rfl, hc⟩ := hb
            exact hc.mono fun e w'' ⟨v, he, hv⟩ => by subst he; exact next _ _ _ (hw.born hk hv) (hK v)
        | halt x w' => simp only [bornUpon] at hb
      | none =>
        rintro ⟨v, hb, hK⟩
        have hb := hb ⟨w, hw.1⟩
        rw [hg] at hb
        unfold Oper.wp
        generalize (execOp a.eval o).run P w = r at *
        cases r with
        | ok nx w' =>
          cases nx <;> simp only [calmUpon] at hb <;> simp only [Oper.upon]
          case value u => obtain ⟨rfl, rfl⟩ := hb; exact next _ _ _ hw hK
          case skip => obtain ⟨rfl, rfl⟩ := hb; exact next _ _ _ hw hK
          case enter fn args =>
            obtain ⟨rfl, hc⟩ := hb
            exact hc.mono fun e w'' ⟨he, hbl⟩ => by subst he; exact next _ _ _ (hw.past hk ⟨w'', hbl⟩) hK
        | halt x w' => simp only [calmUpon] at hb
    · rename_i hwant
      simp only [hwant] at h1
      exact next _ _ _ hw h1

/-- **Operations in the order of the text**, the same way, from the one on that writes the slot d: one new world behind their reads and calls. -/
theorem wp_calm {Q : Exit → Act → World → Prop} {a : Act} {w : World} (d : Tmp) {o : Op} {ty : TypeId} {pos : String} {af : Array Edge} {gd : Option (Nat × Bool)} {rest : List Oper} (n : Nat) (D : List Tmp) (R : Tmp → Value → World → Prop) (hk : Kept R)
    (h : wpCalm P ops w D R (fun A a' => ∀ w', Newborn w R A w' → wpList P ops Q ((⟨some d, o, ty, pos, af, gd⟩ :: rest : List Oper).drop n) a' w') ((⟨some d, o, ty, pos, af, gd⟩ :: rest : List Oper).take n) (fun _ => none) a) :
    wpList P ops Q (⟨some d, o, ty, pos, af, gd⟩ :: rest) a w := by
  have := calm_list (Q := Q) (tail := (⟨some d, o, ty, pos, af, gd⟩ :: rest : List Oper).drop n) hk (fun A a' w' hw' hL => hL w' hw') ((⟨some d, o, ty, pos, af, gd⟩ :: rest : List Oper).take n) _ a w ⟨Below.refl _ w, fun d v hd => (by cases hd), fun d e v u b c hd => by (cases hd)⟩ h
  rwa [List.take_append_drop] at this

theorem calm_step {L : (Tmp → Option Value) → Act → Prop} {A : Tmp → Option Value} {a : Act} {o : Oper} {rest : List Oper}
    (h : ∀ K : (Tmp → Option Value) → Act → Prop, (∀ A a, wpCalm P ops w0 D R L rest A a → K A a) → cStep P ops w0 D R o K A a) : wpCalm P ops w0 D R L (o :: rest) A a := h _ (fun _ _ h => h)
theorem calm_nil {L : (Tmp → Option Value) → Act → Prop} {A : Tmp → Option Value} {a : Act} (h : L A a) : wpCalm P ops w0 D R L [] A a := h
theorem upd_same (A : Tmp → Option Value) (d : Tmp) (v : Value) : upd A d v d = some v := by simp [upd]
theorem upd_other (A : Tmp → Option Value) (d e : Tmp) (v : Value) (h : e ≠ d) : upd A d v e = A e := by simp [upd, h]
attribute [go_sem] cStep freshOf calmUpon bornUpon

end

/-! ### New variables -/

theorem newborn_none {w wq : World} {R : Tmp → Value → World → Prop} {A : Tmp → Option Value} (h : Newborn w R A wq) : Below w.heap.size w wq := h.1

/-- A variable of type T with its zero value at v. -/
def NewVar (o : Obj) (v : Value) (w : World) : Prop := ∃ b, v = .pointer (some ⟨b, 0, none⟩) ∧ w.heap[b]? = some o
theorem newVar_kept {o : Obj} {v : Value} {w : World} (t : Grew w) (h : NewVar o v w) : NewVar o v (past w t) := by
  obtain ⟨b, hv, hb⟩ := h
  refine ⟨b, hv, ?_⟩
  rw [past_block w t b (Array.getElem?_eq_some_iff.1 hb).1]
  exact hb
theorem kept_true : Kept (fun _ _ _ => True) := fun _ _ _ _ h => h
theorem kept_new (f : Tmp → Obj) : Kept (fun d => NewVar (f d)) := fun _ _ _ t h => newVar_kept t h
theorem born_alloc {w : World} {o : Obj} : Born w (NewVar o) (.pointer (some ⟨w.heap.size, 0, none⟩)) (w.alloc o) := by
  refine ⟨⟨_, rfl, by show (w.heap.push o)[w.heap.size]? = _; simp⟩, ⟨⟨_, (Below.refl _ w).alloc (Nat.le_refl _) o⟩, rfl⟩, fun b hb => ?_⟩
  simp only [headBlock] at hb
  injection hb with hb
  subst hb
  exact ⟨Nat.le_refl _, by simp⟩

theorem block_cell {w : World} {b : Nat} {c : Array Value} {T : TypeId} (h : w.heap[b]? = some (.cells c T)) (k : Nat) : w.cell? ⟨b, k, none⟩ = c[k]? := by
  simp [World.cell?, h]
theorem block_free {w : World} {b : Nat} {c : Array Value} {T : TypeId} (h : w.heap[b]? = some (.cells c T)) (k : Nat) : w.frozen? ⟨b, k, none⟩ = false := by
  simp [World.frozen?, h]
theorem block_size {w : World} {b : Nat} {o : Obj} (h : w.heap[b]? = some o) : b < w.heap.size := (Array.getElem?_eq_some_iff.1 h).1

/-- One new variable in the slot d. -/
theorem newborn_one {w wq : World} {c : Array Value} {T : TypeId} {R : Tmp → Value → World → Prop} {d : Tmp} {v : Value} (h : Newborn w R (upd (fun _ => none) d v) wq) (hR : R d = NewVar (.cells c T)) :
    ∃ b : Nat, v = .pointer (some ⟨b, 0, none⟩) ∧ Below w.heap.size w wq ∧ (∀ k, wq.cell? ⟨b, k, none⟩ = c[k]?) ∧ (∀ k, wq.frozen? ⟨b, k, none⟩ = false) ∧ b < wq.heap.size ∧ (∀ a, a < w.heap.size → (a = b) = False) ∧ (∀ a, a < w.heap.size → (b = a) = False) ∧ w.heap.size ≤ b := by
  obtain ⟨hb, h1, _⟩ := h
  have h2 := h1 d v (upd_same _ _ _)
  rw [hR] at h2
  obtain ⟨⟨b, rfl, hbl⟩, h3⟩ := h2
  have h4 := (h3 b rfl).1
  exact ⟨b, rfl, hb, block_cell hbl, block_free hbl, block_size hbl, fun a ha => eq_false (by omega), fun a ha => eq_false (by omega), h4⟩

/-- Two. -/
theorem newborn_two {w wq : World} {c c' : Array Value} {T T' : TypeId} {R : Tmp → Value → World → Prop} {d d' : Tmp} {v v' : Value} (h : Newborn w R (upd (upd (fun _ => none) d v) d' v') wq) (hne : d ≠ d') (hR : R d = NewVar (.cells c T)) (hR' : R d' = NewVar (.cells c' T')) :
    ∃ b b' : Nat, v = .pointer (some ⟨b, 0, none⟩) ∧ v' = .pointer (some ⟨b', 0, none⟩) ∧ Below w.heap.size w wq ∧ ((∀ k, wq.cell? ⟨b, k, none⟩ = c[k]?) ∧ (∀ k, wq.frozen? ⟨b, k, none⟩ = false) ∧ b < wq.heap.size ∧ (∀ a, a < w.heap.size → (a = b) = False) ∧ (∀ a, a < w.heap.size → (b = a) = False) ∧ w.heap.size ≤ b) ∧
      ((∀ k, wq.cell? ⟨b', k, none⟩ = c'[k]?) ∧ (∀ k, wq.frozen? ⟨b', k, none⟩ = false) ∧ b' < wq.heap.size ∧ (∀ a, a < w.heap.size → (a = b') = False) ∧ (∀ a, a < w.heap.size → (b' = a) = False) ∧ w.heap.size ≤ b') ∧ (b = b') = False ∧ (b' = b) = False := by
  obtain ⟨hb, h1, hd⟩ := h
  have e1 : (upd (upd (fun _ => none) d v) d' v') d = some v := by rw [upd_other _ _ _ _ hne, upd_same]
  have e2 : (upd (upd (fun _ => none) d v) d' v') d' = some v' := upd_same _ _ _
  have h2 := h1 d v e1
  have h2' := h1 d' v' e2
  rw [hR] at h2
  rw [hR'] at h2'
  obtain ⟨⟨b, rfl, hbl⟩, h3⟩ := h2
  obtain ⟨⟨b', rfl, hbl'⟩, h3'⟩ := h2'
  have h4 := (h3 b rfl).1
  have h4' := (h3' b' rfl).1
  have h5 := hd d d' _ _ b b' e1 e2 hne rfl rfl
  exact ⟨b, b', rfl, rfl, hb, ⟨block_cell hbl, block_free hbl, block_size hbl, fun a ha => eq_false (by omega), fun a ha => eq_false (by omega), h4⟩, ⟨block_cell hbl', block_free hbl', block_size hbl', fun a ha => eq_false (by omega), fun a ha => eq_false (by omega), h4'⟩, eq_false h5, eq_false (Ne.symm h5)⟩

/-- Three. -/
theorem newborn_three {w wq : World} {c c' c'' : Array Value} {T T' T'' : TypeId} {R : Tmp → Value → World → Prop} {d d' d'' : Tmp} {v v' v'' : Value} (h : Newborn w R (upd (upd (upd (fun _ => none) d v) d' v') d'' v'') wq) (hne : d ≠ d') (hne2 : d ≠ d'') (hne3 : d' ≠ d'') (hR : R d = NewVar (.cells c T)) (hR' : R d' = NewVar (.cells c' T')) (hR'' : R d'' = NewVar (.cells c'' T'')) :
    ∃ b b' b'' : Nat, v = .pointer (some ⟨b, 0, none⟩) ∧ v' = .pointer (some ⟨b', 0, none⟩) ∧ v'' = .pointer (some ⟨b'', 0, none⟩) ∧ Below w.heap.size w wq ∧ ((∀ k, wq.cell? ⟨b, k, none⟩ = c[k]?) ∧ (∀ k, wq.frozen? ⟨b, k, none⟩ = false) ∧ b < wq.heap.size ∧ (∀ a, a < w.heap.size → (a = b) = False) ∧ (∀ a, a < w.heap.size → (b = a) = False) ∧ w.heap.size ≤ b) ∧
      ((∀ k, wq.cell? ⟨b', k, none⟩ = c'[k]?) ∧ (∀ k, wq.frozen? ⟨b', k, none⟩ = false) ∧ b' < wq.heap.size ∧ (∀ a, a < w.heap.size → (a = b') = False) ∧ (∀ a, a < w.heap.size → (b' = a) = False) ∧ w.heap.size ≤ b') ∧
      ((∀ k, wq.cell? ⟨b'', k, none⟩ = c''[k]?) ∧ (∀ k, wq.frozen? ⟨b'', k, none⟩ = false) ∧ b'' < wq.heap.size ∧ (∀ a, a < w.heap.size → (a = b'') = False) ∧ (∀ a, a < w.heap.size → (b'' = a) = False) ∧ w.heap.size ≤ b'') ∧
      ((b = b') = False ∧ (b' = b) = False ∧ (b = b'') = False ∧ (b'' = b) = False ∧ (b' = b'') = False ∧ (b'' = b') = False) := by
  obtain ⟨hb, h1, hd⟩ := h
  have e1 : (upd (upd (upd (fun _ => none) d v) d' v') d'' v'') d = some v := by rw [upd_other _ _ _ _ hne2, upd_other _ _ _ _ hne, upd_same]
  have e2 : (upd (upd (upd (fun _ => none) d v) d' v') d'' v'') d' = some v' := by rw [upd_other _ _ _ _ hne3, upd_same]
  have e3 : (upd (upd (upd (fun _ => none) d v) d' v') d'' v'') d'' = some v'' := upd_same _ _ _
  have h2 := h1 d v e1
  have h2' := h1 d' v' e2
  have h2'' := h1 d'' v'' e3
  rw [hR] at h2
  rw [hR'] at h2'
  rw [hR''] at h2''
  obtain ⟨⟨b, rfl, hbl⟩, h3⟩ := h2
  obtain ⟨⟨b', rfl, hbl'⟩, h3'⟩ := h2'
  obtain ⟨⟨b'', rfl, hbl''⟩, h3''⟩ := h2''
  have h4 := (h3 b rfl).1
  have h4' := (h3' b' rfl).1
  have h4'' := (h3'' b'' rfl).1
  have h5 := hd d d' _ _ b b' e1 e2 hne rfl rfl
  have h6 := hd d d'' _ _ b b'' e1 e3 hne2 rfl rfl
  have h7 := hd d' d'' _ _ b' b'' e2 e3 hne3 rfl rfl
  exact ⟨b, b', b'', rfl, rfl, rfl, hb, ⟨block_cell hbl, block_free hbl, block_size hbl, fun a ha => eq_false (by omega), fun a ha => eq_false (by omega), h4⟩, ⟨block_cell hbl', block_free hbl', block_size hbl', fun a ha => eq_false (by omega), fun a ha => eq_false (by omega), h4'⟩,
    ⟨block_cell hbl'', block_free hbl'', block_size hbl'', fun a ha => eq_false (by omega), fun a ha => eq_false (by omega), h4''⟩, eq_false h5, eq_false (Ne.symm h5), eq_false h6, eq_false (Ne.symm h6), eq_false h7, eq_false (Ne.symm h7)⟩

end Go.Proofs.Ytmhhigaelofbmaa
