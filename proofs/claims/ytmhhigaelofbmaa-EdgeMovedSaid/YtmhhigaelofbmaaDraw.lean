/-
  No statement is proved in this text. It holds a second theorem on a region that draws its order: besides reads, quiet calls and new variables its head may hold stores into those new variables.
-/
import Derived.Test.YtmhhigaelofbmaaBase
namespace Go.Proofs.Ytmhhigaelofbmaa
open Go.RowKit

section
variable {P : Program} {ops : Array Oper} {md : Region.Mode}

/-- A store into one of the new variables: its slot and what is stored. -/
def storeOf (D : List Tmp) (o : Oper) : Option (Tmp × Operand) :=
  match o.op, o.guard with
  | .store _ (.tmp d) x, none => if D.contains d && o.dst.isNone then some (d, x) else none
  | _, _ => none

/-- w' is w but for block b, which holds o. -/
structure SetAt (w : World) (b : Nat) (o : Obj) (w' : World) : Prop where
  os : w'.os = w.os
  tape : w'.tape = w.tape
  output : w'.output = w.output
  size : w'.heap.size = w.heap.size
  here : w'.heap[b]? = some o
  other : ∀ k, k ≠ b → w'.heap[k]? = w.heap[k]?

abbrev News := Tmp → Option (Nat × Obj)
def updN (A : News) (d : Tmp) (v : Nat × Obj) : News := fun x => if x = d then some v else A x
theorem updN_comm (A : News) {d e : Tmp} (v u : Nat × Obj) (h : d ≠ e) : updN (updN A d v) e u = updN (updN A e u) d v := by
  funext x
  unfold updN
  by_cases h1 : x = e
  · subst h1; simp [Ne.symm h]
  · simp [h1]

/-- One operation. Z: what a new variable holds at first. -/
def sStep (P : Program) (ops : Array Oper) (w0 : World) (D : List Tmp) (Z : Tmp → Obj) (o : Oper) (K : News → Act → Prop) (A : News) (a : Act) : Prop :=
  if Region.wanted o (yielded ops a.tmps) then
    match freshOf D o with
    | some d => (∀ w, Below w0.heap.size w0 w → (execOp a.eval o).run P w = .ok (.value (.pointer (some ⟨w.heap.size, 0, none⟩))) (w.alloc (Z d))) ∧ ∀ b, K (updN A d (b, Z d)) (a.put o.dst (.pointer (some ⟨b, 0, none⟩)))
    | none =>
      match storeOf D o with
      | some (d, _) => ∃ b ob ob', A d = some (b, ob) ∧ (∀ w, Below w0.heap.size w0 w → w.heap[b]? = some ob → w0.heap.size ≤ b → ∃ w', (execOp a.eval o).run P w = .ok .skip w' ∧ SetAt w b ob' w') ∧ K (updN A d (b, ob')) a
      | none => ∃ v, (∀ t : Grew w0, calmUpon P (past w0 t) v ((execOp a.eval o).run P (past w0 t))) ∧ K A (a.put o.dst v)
  else K A (a.put o.dst undef)

def sOp (P : Program) (ops : Array Oper) (w0 : World) (D : List Tmp) (Z : Tmp → Obj) (i : Nat) (K : News → Act → Prop) (A : News) (a : Act) : Prop :=
  match ops[i]? with
  | none => K A a
  | some o => sStep P ops w0 D Z o K A a
def wpCalmS (P : Program) (ops : Array Oper) (w0 : World) (D : List Tmp) (Z : Tmp → Obj) (L : News → Act → Prop) : List Oper → News → Act → Prop
  | [], A, a => L A a
  | o :: rest, A, a => sStep P ops w0 D Z o (fun A' a' => wpCalmS P ops w0 D Z L rest A' a') A a
def wpHeadS (P : Program) (md : Region.Mode) (ops : Array Oper) (w0 : World) (D : List Tmp) (Z : Tmp → Obj) (n : Nat) (L : Array Bool → News → Act → Prop) : Nat → Array Bool → News → Act → Prop
  | 0, listed, A, a => L listed A a
  | f + 1, listed, A, a => Region.ready md ops listed ≠ [] ∧ ∀ i ∈ Region.ready md ops listed, i < n ∧ sOp P ops w0 D Z i (wpHeadS P md ops w0 D Z n L f (listed.setIfInBounds i true)) A a

variable {w0 : World} {D : List Tmp} {Z : Tmp → Obj}

theorem sStep_mono {o : Oper} {A : News} {a : Act} {K K' : News → Act → Prop} (h : ∀ A a, K A a → K' A a) (hh : sStep P ops w0 D Z o K A a) : sStep P ops w0 D Z o K' A a := by
  unfold sStep at *
  split
  · rename_i hw
    simp only [hw, if_true] at hh
    revert hh
    cases freshOf D o with
    | some d => exact fun ⟨h1, h2⟩ => ⟨h1, fun v => h _ _ (h2 v)⟩
    | none =>
      cases storeOf D o with
      | some p => exact fun ⟨b, ob, ob', h1, h2, h3⟩ => ⟨b, ob, ob', h1, h2, h _ _ h3⟩
      | none => exact fun ⟨v, h1, h2⟩ => ⟨v, h1, h _ _ h2⟩
  · rename_i hw
    simp only [hw] at hh
    exact h _ _ hh

theorem calm_sstep {o : Oper} {v : Value} {A : News} {a : Act} (hf : freshOf D o = none) (hs : storeOf D o = none) (hy : Calm P ops w0 o v a) {K : News → Act → Prop} (h : K A (a.put o.dst v)) : sStep P ops w0 D Z o K A a := by
  unfold sStep
  rcases hy with ⟨hw, hv⟩ | ⟨hw, rfl⟩
  · simp only [hw, if_true, hf, hs]; exact ⟨v, hv, h⟩
  · simp only [hw, Bool.false_eq_true, if_false]; exact h

theorem calm_of_sstep {o : Oper} {A : News} {a : Act} {K : News → Act → Prop} (hf : freshOf D o = none) (hs : storeOf D o = none) (h : sStep P ops w0 D Z o K A a) : ∃ v, Calm P ops w0 o v a ∧ K A (a.put o.dst v) := by
  unfold sStep at h
  by_cases hw : Region.wanted o (yielded ops a.tmps) = true
  · simp only [hw, if_true, hf, hs] at h
    obtain ⟨v, h1, h2⟩ := h
    exact ⟨v, .inl ⟨hw, h1⟩, h2⟩
  · simp only [hw] at h
    exact ⟨undef, .inr ⟨by simpa using hw, rfl⟩, h⟩

theorem sstep_put {oi oj : Oper} {v : Value} (hap : oi.apart ops oj = true) (hsi : ∀ cs b, oi.op ≠ .select cs b) (hsj : ∀ cs b, oj.op ≠ .select cs b) {K : News → Act → Prop} {A : News} {a : Act}
    (hy : Calm P ops w0 oi v a) (h : sStep P ops w0 D Z oj K A (a.put oi.dst v)) : sStep P ops w0 D Z oj (fun A' a' => Calm P ops w0 oi v a' ∧ K A' (a'.put oi.dst v)) A a := by
  obtain ⟨h1, h2, h3⟩ := Oper.apart_spec hap
  have keep : ∀ u, Calm P ops w0 oi v (a.put oj.dst u) := fun u => by
    unfold Calm at *
    rw [execOp_put oi hsi a oj.dst u h3, wanted_put oi a oj.dst u h3]
    exact hy
  unfold sStep at *
  rw [wanted_put oj a oi.dst v h1] at h
  split
  · rename_i hw
    simp only [hw, if_true] at h
    rw [execOp_put oj hsj a oi.dst v h1] at h
    revert h
    cases freshOf D oj with
    | some d => exact fun ⟨hb, hk⟩ => ⟨hb, fun b => ⟨keep _, by rw [← Act.put_comm a v _ h2]; exact hk b⟩⟩
    | none =>
      cases storeOf D oj with
      | some p => exact fun ⟨b, ob, ob', e1, e2, e3⟩ => ⟨b, ob, ob', e1, e2, hy, e3⟩
      | none => exact fun ⟨u, hu, hk⟩ => ⟨u, hu, keep u, by rw [← Act.put_comm a v u h2]; exact hk⟩
  · rename_i hw
    simp only [hw] at h
    exact ⟨keep _, by rw [← Act.put_comm a v undef h2]; exact h⟩

theorem headS_first {n i : Nat} {oi : Oper} {v : Value} {L : Array Bool → News → Act → Prop} (hi : ops[i]? = some oi) (hsel : ∀ (j : Nat) (o : Oper) cs b, ops[j]? = some o → o.op ≠ .select cs b) (hin : i < n) (hfr : freshOf D oi = none) (hso : storeOf D oi = none)
    (hdone : ∀ listed A a, L listed A a → ∀ j ∈ Region.ready md ops listed, n ≤ j) :
    ∀ (f : Nat) (listed : Array Bool) (A : News) (a : Act), HeadAt md ops n listed →
      (∀ j oj, ops[j]? = some oj → j ≠ i → listed.getD j true = false → (∀ e ∈ oj.after, Region.binds md e = true → e.on ≠ i) → oi.apart ops oj = true) →
      i ∈ Region.ready md ops listed → Calm P ops w0 oi v a →
      wpHeadS P md ops w0 D Z n L f (listed.setIfInBounds i true) A (a.put oi.dst v) → wpHeadS P md ops w0 D Z n L (f + 1) listed A a := by
  intro f
  induction f with
  | zero =>
    intro listed A a inv _ hr hy H
    refine ⟨fun h => (by rw [h] at hr; cases hr), fun j hj => ?_⟩
    have hjn : j < n := inv.below hr hin hj
    refine ⟨hjn, ?_⟩
    by_cases hji : j = i
    · subst hji; unfold sOp; rw [hi]; exact calm_sstep hfr hso hy H
    · have := hdone _ _ _ H j (ready_mono hj hji)
      omega
  | succ f ih =>
    intro listed A a inv hfree hr hy H
    refine ⟨fun h => (by rw [h] at hr; cases hr), fun j hj => ?_⟩
    have hjn : j < n := inv.below hr hin hj
    refine ⟨hjn, ?_⟩
    by_cases hji : j = i
    · subst hji; unfold sOp; rw [hi]; exact calm_sstep hfr hso hy H
    · have h1 := (H.2 j (ready_mono hj hji)).2
      obtain ⟨hjun, oj, hoj, hall⟩ := mem_ready.1 hj
      unfold sOp at h1 ⊢
      rw [hoj] at h1 ⊢
      have h2 := sstep_put (hfree j oj hoj hji hjun (not_after hr hall)) (fun cs b => hsel i oi cs b hi) (fun cs b => hsel j oj cs b hoj) hy h1
      have hfree' : ∀ k ok, ops[k]? = some ok → k ≠ i → (listed.setIfInBounds j true).getD k true = false →
          (∀ e ∈ ok.after, Region.binds md e = true → e.on ≠ i) → oi.apart ops ok = true := fun k ok hk hki hun hno => by
        refine hfree k ok hk hki ?_ hno
        by_cases hjk : j = k
        · subst hjk; exact hjun
        · rw [getD_set_ne true hjk] at hun; exact hun
      refine sStep_mono (fun A' a' h3 => ih (listed.setIfInBounds j true) A' a' (inv.set hj hjn) hfree' (ready_mono hr (Ne.symm hji)) h3.1 ?_) h2
      rw [Array.setIfInBounds_comm _ _ hji]
      exact h3.2

/-- A new variable may be made first where all else that is left of the head is new or waits for it. -/
theorem headS_fresh {n i : Nat} {oi : Oper} {d : Tmp} {L : Array Bool → News → Act → Prop} (hi : ops[i]? = some oi) (hsel : ∀ (j : Nat) (o : Oper) cs b, ops[j]? = some o → o.op ≠ .select cs b) (hin : i < n) (hfr : freshOf D oi = some d)
    (hdone : ∀ listed A a, L listed A a → ∀ j ∈ Region.ready md ops listed, n ≤ j) :
    ∀ (f : Nat) (listed : Array Bool) (A : News) (a : Act), HeadAt md ops n listed →
      (∀ j oj, ops[j]? = some oj → j ≠ i → listed.getD j true = false → (∀ e ∈ oj.after, Region.binds md e = true → e.on ≠ i) → oi.apart ops oj = true) →
      (∀ j oj, j < n → j ≠ i → ops[j]? = some oj → listed.getD j true = false → (∀ e ∈ oj.after, Region.binds md e = true → e.on ≠ i) → ∃ e, freshOf D oj = some e) →
      i ∈ Region.ready md ops listed → (∀ w, Below w0.heap.size w0 w → (execOp a.eval oi).run P w = .ok (.value (.pointer (some ⟨w.heap.size, 0, none⟩))) (w.alloc (Z d))) →
      (∀ b, wpHeadS P md ops w0 D Z n L f (listed.setIfInBounds i true) (updN A d (b, Z d)) (a.put oi.dst (.pointer (some ⟨b, 0, none⟩)))) → wpHeadS P md ops w0 D Z n L (f + 1) listed A a := by
  intro f
  induction f with
  | zero =>
    intro listed A a inv _ _ hr hb H
    refine ⟨fun h => (by rw [h] at hr; cases hr), fun j hj => ?_⟩
    have hjn : j < n := inv.below hr hin hj
    refine ⟨hjn, ?_⟩
    by_cases hji : j = i
    · subst hji; unfold sOp sStep; rw [hi]; simp only [fresh_wanted hfr, if_true, hfr]; exact ⟨hb, H⟩
    · have := hdone _ _ _ (H 0) j (ready_mono hj hji)
      omega
  | succ f ih =>
    intro listed A a inv hfree hall' hr hb H
    refine ⟨fun h => (by rw [h] at hr; cases hr), fun j hj => ?_⟩
    have hjn : j < n := inv.below hr hin hj
    refine ⟨hjn, ?_⟩
    by_cases hji : j = i
    · subst hji; unfold sOp sStep; rw [hi]; simp only [fresh_wanted hfr, if_true, hfr]; exact ⟨hb, H⟩
    · obtain ⟨hjun, oj, hoj, hall⟩ := mem_ready.1 hj
      have hno := not_after (i := i) hr hall
      obtain ⟨e, hfe⟩ := hall' j oj hjn hji hoj hjun hno
      have hap := hfree j oj hoj hji hjun hno
      obtain ⟨h1, h2, h3⟩ := Oper.apart_spec hap
      have hsi := fun cs b => hsel i oi cs b hi
      have hsj := fun cs b => hsel j oj cs b hoj
      have hde : d ≠ e := fun he => h2 d (freshOf_dst hfr).1 (by rw [he]; exact (freshOf_dst hfe).1)
      have hH : ∀ b, (∀ w, Below w0.heap.size w0 w → (execOp a.eval oj).run P w = .ok (.value (.pointer (some ⟨w.heap.size, 0, none⟩))) (w.alloc (Z e))) ∧
          ∀ c, wpHeadS P md ops w0 D Z n L f ((listed.setIfInBounds i true).setIfInBounds j true) (updN (updN A d (b, Z d)) e (c, Z e)) ((a.put oi.dst (.pointer (some ⟨b, 0, none⟩))).put oj.dst (.pointer (some ⟨c, 0, none⟩))) := fun b => by
        have h4 := ((H b).2 j (ready_mono hj hji)).2
        unfold sOp sStep at h4
        rw [hoj] at h4
        simp only [fresh_wanted hfe, if_true, hfe] at h4
        rw [execOp_put oj hsj a oi.dst _ h1] at h4
        exact h4
      unfold sOp sStep
      rw [hoj]
      simp only [fresh_wanted hfe, if_true, hfe]
      refine ⟨(hH 0).1, fun c => ?_⟩
      refine ih (listed.setIfInBounds j true) (updN A e (c, Z e)) (a.put oj.dst _) (inv.set hj hjn) ?_ ?_ (ready_mono hr (Ne.symm hji)) ?_ ?_
      · intro k ok hk hki hun hno
        refine hfree k ok hk hki ?_ hno
        by_cases hjk : j = k
        · subst hjk; exact hjun
        · rw [getD_set_ne true hjk] at hun; exact hun
      · intro k ok hkn hki hk hun hno
        refine hall' k ok hkn hki hk ?_ hno
        by_cases hjk : j = k
        · subst hjk; exact hjun
        · rw [getD_set_ne true hjk] at hun; exact hun
      · intro w hw; rw [execOp_put oi hsi a oj.dst _ h3]; exact hb w hw
      · intro b
        rw [Array.setIfInBounds_comm _ _ hji, updN_comm A _ _ (Ne.symm hde), ← Act.put_comm a _ _ h2]
        exact (hH b).2 c

/-- A store for which all else that is left of the head waits. -/
theorem headS_store {n i f : Nat} {oi : Oper} {L : Array Bool → News → Act → Prop} (hi : ops[i]? = some oi) (hin : i < n) {listed : Array Bool} {A : News} {a : Act} (inv : HeadAt md ops n listed)
    (hwait : ∀ j oj, j < n → j ≠ i → ops[j]? = some oj → listed.getD j true = false → ¬ ∀ e ∈ oj.after, Region.binds md e = true → e.on ≠ i)
    (hr : i ∈ Region.ready md ops listed) (h : sStep P ops w0 D Z oi (wpHeadS P md ops w0 D Z n L f (listed.setIfInBounds i true)) A a) : wpHeadS P md ops w0 D Z n L (f + 1) listed A a := by
  refine ⟨fun h => (by rw [h] at hr; cases hr), fun j hj => ?_⟩
  have hjn : j < n := inv.below hr hin hj
  refine ⟨hjn, ?_⟩
  by_cases hji : j = i
  · subst hji; unfold sOp; rw [hi]; exact h
  · obtain ⟨hjun, oj, hoj, hall⟩ := mem_ready.1 hj
    exact absurd (not_after (i := i) hr hall) (hwait j oj hjn hji hoj hjun)

def othersOk (md : Region.Mode) (ops : Array Oper) (D : List Tmp) (n k : Nat) (listed : Array Bool) (new : Bool) : Bool :=
  (List.range n).all fun j => j == k || listed.getD j true || match ops[j]? with
    | some oj => (oj.after.any fun e => Region.binds md e && e.on == k) || (new && (freshOf D oj).isSome)
    | none => true
theorem othersOk_spec {n k : Nat} {listed : Array Bool} {new : Bool} (h : othersOk md ops D n k listed new = true) (j : Nat) (oj : Oper) (hj : j < n) (hne : j ≠ k) (ho : ops[j]? = some oj) (hun : listed.getD j true = false)
    (hno : ∀ e ∈ oj.after, Region.binds md e = true → e.on ≠ k) : new = true ∧ ∃ e, freshOf D oj = some e := by
  unfold othersOk at h
  rw [List.all_eq_true] at h
  have h1 := h j (List.mem_range.2 hj)
  simp only [ho, hun, Bool.or_false, Bool.or_eq_true, beq_iff_eq, hne, false_or, Bool.and_eq_true] at h1
  rcases h1 with h1 | h1
  · obtain ⟨e, he, hb⟩ := Array.any_eq_true'.1 h1
    simp only [Bool.and_eq_true, beq_iff_eq] at hb
    exact absurd hb.2 (hno e he hb.1)
  · exact ⟨h1.1, Option.isSome_iff_exists.1 h1.2⟩

def lexOkS (md : Region.Mode) (ops : Array Oper) (D : List Tmp) (n : Nat) : Nat → Nat → Array Bool → Bool
  | 0, k, listed => seqT md ops (ops.size - n) k listed
  | f + 1, k, listed => (Region.ready md ops listed).contains k && Region.free md ops listed k &&
      (match ops[k]? with
       | some o => if (freshOf D o).isSome then othersOk md ops D n k listed true else if (storeOf D o).isSome then othersOk md ops D n k listed false else true
       | none => true) && lexOkS md ops D n f (k + 1) (listed.setIfInBounds k true)

theorem wpHeadS_lex {n : Nat} {Lq : News → Act → Prop} (hsel : Region.noSelect ops = true) :
    ∀ (l : List Oper) (k : Nat) (listed : Array Bool) (A : News) (a : Act), (∀ j, j < l.length → l[j]? = ops[k + j]?) → k + l.length = n → HeadAt md ops n listed →
    lexOkS md ops D n l.length k listed = true → wpCalmS P ops w0 D Z Lq l A a →
    wpHeadS P md ops w0 D Z n (fun listed' A' a' => seqT md ops (ops.size - n) n listed' = true ∧ Lq A' a') l.length listed A a
  | [], k, listed, A, a, _, hk, _, hB, h => by
    have : k = n := by simpa using hk
    subst this
    exact ⟨by simpa [lexOkS] using hB, h⟩
  | o :: l, k, listed, A, a, hl, hk, inv, hB, h => by
    have h0 : ops[k]? = some o := by simpa using (hl 0 (by simp)).symm
    simp only [List.length_cons, lexOkS, Bool.and_eq_true, h0] at hB
    obtain ⟨⟨⟨hr, hf⟩, hkind⟩, hB'⟩ := hB
    have hkn : k < n := by simp only [List.length_cons] at hk; omega
    have hr' : k ∈ Region.ready md ops listed := by simpa using hr
    have hst : sStep P ops w0 D Z o (fun A' a' => wpCalmS P ops w0 D Z Lq l A' a') A a := h
    have next : ∀ A' a', wpCalmS P ops w0 D Z Lq l A' a' → wpHeadS P md ops w0 D Z n (fun listed' A' a' => seqT md ops (ops.size - n) n listed' = true ∧ Lq A' a') l.length (listed.setIfInBounds k true) A' a' := fun A' a' h' =>
      wpHeadS_lex hsel l (k + 1) _ A' a' (fun j hj => by have := hl (j + 1) (by simp; omega); simpa [Nat.add_assoc, Nat.add_comm 1 j] using this) (by simp only [List.length_cons] at hk; omega) (inv.set hr' hkn) hB' h'
    have hdone : ∀ listed' A' a', (seqT md ops (ops.size - n) n listed' = true ∧ Lq A' a') → ∀ j ∈ Region.ready md ops listed', n ≤ j := fun _ _ _ hL => seqT_ready hL.1
    cases hfo : freshOf D o with
    | some d =>
      unfold sStep at hst
      simp only [fresh_wanted hfo, if_true, hfo] at hst
      rw [hfo] at hkind
      simp only [Option.isSome_some, if_true] at hkind
      exact headS_fresh h0 (Region.noSelect_spec hsel) hkn hfo hdone l.length listed A a inv (Region.free_spec h0 hf) (fun j oj hj hne ho hun hno => (othersOk_spec hkind j oj hj hne ho hun hno).2) hr' hst.1 (fun b => next _ _ (hst.2 b))
    | none =>
      cases hso : storeOf D o with
      | some p =>
        rw [hfo, hso] at hkind
        simp only [Option.isSome_none, Bool.false_eq_true, if_false, Option.isSome_some, if_true] at hkind
        exact headS_store h0 hkn inv (fun j oj hj hne ho hun hno => by cases (othersOk_spec hkind j oj hj hne ho hun hno).1) hr' (sStep_mono next hst)
      | none =>
        obtain ⟨v, hy, hK⟩ := calm_of_sstep hfo hso hst
        exact headS_first h0 (Region.noSelect_spec hsel) hkn hfo hso hdone l.length listed A a inv (Region.free_spec h0 hf) hr' hy (next _ _ hK)

/-- What is known of the new variables in a world behind them. -/
structure Born2 (w0 : World) (A : News) (w : World) : Prop where
  below : Below w0.heap.size w0 w
  at_ : ∀ d b o, A d = some (b, o) → w.heap[b]? = some o ∧ w0.heap.size ≤ b
  apart : ∀ d e b c o o', A d = some (b, o) → A e = some (c, o') → d ≠ e → b ≠ c

theorem Born2.past {A : News} {w : World} (h : Born2 w0 A w) (t : Grew w) : Born2 w0 A (past w t) :=
  ⟨since_past h.below t, fun d b o hd => ⟨by rw [past_block w t b (block_size (h.at_ d b o hd).1)]; exact (h.at_ d b o hd).1, (h.at_ d b o hd).2⟩, h.apart⟩
theorem Born2.alloc {A : News} {w : World} {d : Tmp} (h : Born2 w0 A w) : Born2 w0 (updN A d (w.heap.size, Z d)) (w.alloc (Z d)) := by
  refine ⟨since_alloc h.below _, fun e b o he => ?_, fun e f b c o o' he hf hne => ?_⟩
  · unfold updN at he
    split at he
    · injection he with he; injection he with h1 h2; subst h1; subst h2
      exact ⟨by show (w.heap.push _)[w.heap.size]? = _; simp, h.below.size⟩
    · have := h.at_ e b o he
      exact ⟨by rw [Below.heap_alloc w _ b (block_size this.1)]; exact this.1, this.2⟩
  · unfold updN at he hf
    split at he <;> split at hf
    · rename_i h1 h2; exact absurd (h1.trans h2.symm) hne
    · injection he with he; injection he with h1 h2; subst h1
      have := block_size (h.at_ f c o' hf).1; omega
    · injection hf with hf; injection hf with h1 h2; subst h1
      have := block_size (h.at_ e b o he).1; omega
    · exact h.apart e f b c o o' he hf hne
theorem Born2.set {A : News} {w w' : World} {d : Tmp} {b : Nat} {o o' : Obj} (h : Born2 w0 A w) (hd : A d = some (b, o)) (hs : SetAt w b o' w') : Born2 w0 (updN A d (b, o')) w' := by
  have hb := (h.at_ d b o hd).2
  refine ⟨h.below.trans ⟨hs.os, hs.tape, hs.output, Nat.le_of_eq hs.size.symm, fun k hk => hs.other k (by omega)⟩, fun e c p he => ?_, fun e f c c' p p' he hf hne => ?_⟩
  · unfold updN at he
    split at he
    · injection he with he; injection he with h1 h2; subst h1; subst h2
      exact ⟨hs.here, hb⟩
    · rename_i hed
      have := h.at_ e c p he
      exact ⟨by rw [hs.other c (h.apart e d c b p o he hd hed)]; exact this.1, this.2⟩
  · unfold updN at he hf
    split at he <;> split at hf
    · rename_i h1 h2; exact absurd (h1.trans h2.symm) hne
    · rename_i h1 h2
      injection he with he; injection he with h3 h4; subst h3
      exact h.apart d f b c' o p' hd hf (fun e' => h2 e'.symm)
    · rename_i h1 h2
      injection hf with hf; injection hf with h3 h4; subst h3
      exact h.apart e d c b p o he hd h1
    · exact h.apart e f c c' p p' he hf hne

theorem headS_sound {n g : Nat} {L : Array Bool → News → Act → Prop} {Q : Exit → Act → World → Prop} (hL : ∀ listed A a w, Born2 w0 A w → L listed A a → wpAny P md ops Q g listed a w) :
    ∀ (f : Nat) (listed : Array Bool) (A : News) (a : Act) (w : World), Born2 w0 A w → wpHeadS P md ops w0 D Z n L f listed A a → wpAny P md ops Q (f + g) listed a w
  | 0, listed, A, a, w, hw, h => by rw [Nat.zero_add]; exact hL _ _ _ _ hw h
  | f + 1, listed, A, a, w, hw, h => by
    rw [show f + 1 + g = (f + g) + 1 by omega]
    refine ⟨fun h0 => absurd h0 h.1, fun i hi => ?_⟩
    have h1 := (h.2 i hi).2
    obtain ⟨_, o, ho, _⟩ := mem_ready.1 hi
    unfold sOp at h1
    unfold wpOp
    rw [ho] at h1 ⊢
    simp only
    unfold sStep at h1
    split
    · rename_i hwant
      simp only [hwant, if_true] at h1
      refine .inl ?_
      revert h1
      cases hfo : freshOf D o with
      | some d =>
        rintro ⟨hb, hK⟩
        unfold Oper.wp
        rw [hb w hw.below]
        exact headS_sound hL f _ _ _ _ hw.alloc (hK _)
      | none =>
        cases hso : storeOf D o with
        | some p =>
          rintro ⟨b, ob, ob', hA, hrun, hK⟩
          have hat := hw.at_ _ _ _ hA
          obtain ⟨w', hr, hset⟩ := hrun w hw.below hat.1 hat.2
          unfold Oper.wp
          rw [hr]
          have hdst : o.dst = none := by
            unfold storeOf at hso
            split at hso
            · split at hso
              · rename_i hc; simp only [Bool.and_eq_true, Option.isNone_iff_eq_none] at hc; exact hc.2
              · cases hso
            · cases hso
          show wpAny P md ops Q (f + g) _ (a.put o.dst undef) w'
          rw [hdst]
          exact headS_sound hL f _ _ _ _ (hw.set hA hset) hK
        | none =>
          rintro ⟨v, hb, hK⟩
          have hb := hb ⟨w, hw.below⟩
          rw [show past w0 ⟨w, hw.below⟩ = w from rfl] at hb
          unfold Oper.wp
          generalize (execOp a.eval o).run P w = r at *
          cases r with
          | ok nx w' =>
            cases nx <;> simp only [calmUpon] at hb <;> simp only [Oper.upon]
            case value u => obtain ⟨rfl, rfl⟩ := hb; exact headS_sound hL f _ _ _ _ hw hK
            case skip => obtain ⟨rfl, rfl⟩ := hb; exact headS_sound hL f _ _ _ _ hw hK
            case enter fn args =>
              obtain ⟨rfl, hc⟩ := hb
              exact hc.mono fun e w'' ⟨he, hbl⟩ => by subst he; exact headS_sound hL f _ _ _ _ (hw.past ⟨w'', hbl⟩) hK
          | halt x w' => simp only [calmUpon] at hb
    · rename_i hwant
      simp only [hwant] at h1
      exact headS_sound hL f _ _ _ _ hw h1

def drawOkS (md : Region.Mode) (ops : Array Oper) (D : List Tmp) (n : Nat) : Bool :=
  Region.noSelect ops && decide (n ≤ ops.size) && (decide (n = ops.size) || tailB md ops n) && lexOkS md ops D n n 0 (Array.replicate ops.size false)

/-- **A region that draws its order**: its first n operations read, call quietly, make new variables (the slots D) or fill these; the others follow in a forced order. -/
theorem wp_drawS {id : Nat} {Q : Exit → Act → World → Prop} {a : Act} {w : World} {l : List Oper} (n : Nat) (D : List Tmp) (Z : Tmp → Obj) (hQ : ∀ c d v a w, Q (.panic c) (Act.put a d v) w → Q (.panic c) a w) (hm : P.follows .mixedOrders = true) (hB : drawOkS .any l.toArray D n = true)
    (h : wpCalmS P l.toArray w D Z (fun A a' => ∀ w', Born2 w A w' → wpList P l.toArray Q (l.drop n) a' w') (l.take n) (fun _ => none) a) : (Code.region id l.toArray true).wp P Q a w := by
  simp only [drawOkS, Bool.and_eq_true, decide_eq_true_eq, Bool.or_eq_true] at hB
  obtain ⟨⟨⟨hsel, hn⟩, hst⟩, hlex⟩ := hB
  have hn' : n ≤ l.length := by simpa using hn
  have htl : (l.take n).length = n := by simp; omega
  have hdl : (l.drop n).length = l.toArray.size - n := by simp
  have inv0 : HeadAt .any l.toArray n (Array.replicate l.toArray.size false) := ⟨fun hlt => ⟨
    ⟨by simp, fun j oj _ hl => (by rw [getD_replicate_false] at hl; cases hl), fun t _ ht => getD_in (by simpa using ht) (getD_replicate_false _ _)⟩, by
      rcases hst with hst | hst
      · omega
      · exact hst⟩⟩
  have H := wpHeadS_lex (P := P) (w0 := w) (D := D) (Z := Z) (md := .any) hsel (l.take n) 0 _ _ a (fun j hj => by
    have hj' : j < n := by rw [htl] at hj; exact hj
    simp [hj']) (by simpa using htl) inv0 (by rw [htl]; exact hlex) h
  refine wp_region_any hm ?_
  have hnb : Born2 w (fun _ => none) { w with drawn := w.drawn + 1 } := ⟨(Below.refl _ w).drew, fun d b o hd => by (cases hd), fun d e b c o o' hd => by (cases hd)⟩
  have := headS_sound (Q := Q) (g := l.toArray.size - n) (fun listed A a' w' hw' hL => by
    have := wpAny_of_seqT (md := .any) (Q' := Q) hsel hQ (l.drop n) n listed a' w' (fun j => by simp [List.getElem?_drop]) (by rw [hdl]; exact hL.1) (hL.2 w' hw')
    rwa [hdl] at this) _ _ _ _ _ hnb H
  rw [htl, show n + (l.toArray.size - n) = l.toArray.size by omega] at this
  exact this

theorem calmS_step {L : News → Act → Prop} {A : News} {a : Act} {o : Oper} {rest : List Oper}
    (h : ∀ K : News → Act → Prop, (∀ A a, wpCalmS P ops w0 D Z L rest A a → K A a) → sStep P ops w0 D Z o K A a) : wpCalmS P ops w0 D Z L (o :: rest) A a := h _ (fun _ _ h => h)
theorem calmS_nil {L : News → Act → Prop} {A : News} {a : Act} (h : L A a) : wpCalmS P ops w0 D Z L [] A a := h
/-- A store into the new variable of slot d: it then holds the cells of what is stored. -/
theorem calmS_store {L : News → Act → Prop} {A : News} {a : Act} {o : Oper} {rest : List Oper} {d : Tmp} {x : Operand} {b : Nat} {c : Array Value} {T : TypeId} (hg : o.guard = none) (hf : freshOf D o = none) (hs : storeOf D o = some (d, x)) (hA : A d = some (b, .cells c T))
    (hrun : ∀ w, Below w0.heap.size w0 w → w.heap[b]? = some (.cells c T) → w0.heap.size ≤ b → ∃ w', (execOp a.eval o).run P w = .ok .skip w' ∧ SetAt w b (.cells (Value.cells (a.eval x)) T) w')
    (h : wpCalmS P ops w0 D Z L rest (updN A d (b, .cells (Value.cells (a.eval x)) T)) a) : wpCalmS P ops w0 D Z L (o :: rest) A a := by
  have hw : Region.wanted o (yielded ops a.tmps) = true := by unfold Region.wanted; rw [hg]
  show sStep P ops w0 D Z o _ A a
  unfold sStep
  simp only [hw, if_true, hf, hs]
  exact ⟨b, _, _, hA, hrun, h⟩

theorem setAt_one {w : World} {b : Nat} {c : Array Value} {T : TypeId} {f : Nat × Nat} (h : w.heap[b]? = some (.cells c T f)) (k : Nat) (v : Value) : SetAt w b (.cells (c.setIfInBounds k v) T f) (w.setCell ⟨b, k, none⟩ v) := by
  refine ⟨rfl, rfl, rfl, by simp [World.setCell], ?_, fun j hj => Below.heap_setCell _ _ _ _ (by simpa using hj)⟩
  simp only [World.setCell, Array.getElem?_modify, if_true, h, Option.map_some]
  rfl
theorem setAt_trans {a w w' : World} {b : Nat} {o o' : Obj} (h : SetAt a b o w) (k : SetAt w b o' w') : SetAt a b o' w' :=
  ⟨k.os.trans h.os, k.tape.trans h.tape, k.output.trans h.output, k.size.trans h.size, k.here, fun j hj => (k.other j hj).trans (h.other j hj)⟩
theorem setAt_single {w : World} {b : Nat} {x x' : Value} {T : TypeId} (h : w.heap[b]? = some (.cells #[x] T)) : SetAt w b (.cells #[x'] T) (w.setCell ⟨b, 0, none⟩ x') := setAt_one h 0 x'
theorem setAt_two {w : World} {b : Nat} {x y x' y' : Value} {T : TypeId} (h : w.heap[b]? = some (.cells #[x, y] T)) : SetAt w b (.cells #[x', y'] T) ((w.setCell ⟨b, 0, none⟩ x').setCell ⟨b, 1, none⟩ y') := by
  have h1 := setAt_one h 0 x'
  have h2 := setAt_one h1.here 1 y'
  exact setAt_trans h1 h2
attribute [go_sem] sStep

end
end Go.Proofs.Ytmhhigaelofbmaa
