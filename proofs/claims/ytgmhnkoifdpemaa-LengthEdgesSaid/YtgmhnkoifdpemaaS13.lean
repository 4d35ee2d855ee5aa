/-
  No statement is proved in this text. It shows that a region that draws its order ends, in whatever order, as in the order of its text, if what its operations read and write is ordered.
-/
import Derived.Test.YtgmhnkoifdpemaaS12
namespace Go.Proofs.Ytgmhnkoifdpemaa
open Go.RowKit
set_option linter.unusedSimpArgs false
set_option linter.unusedVariables false

structure Rec where
  rd : List Nat
  dst : Option Nat
  hr : List Nat
  hw : List Nat
  new : Bool
  out : Nat → Bool
def recOf (P : Program) (V : Env P) (ops : Array Oper) (o : Oper) (s s1 : AS) : Rec :=
  ⟨o.looksAt ops, o.dst, footH P V ops o s, footW P V o s, isNew P V o s, fun d => (match o.dst with | some x => (match get s1.t x with | some v => v.no d | none => true) | none => true) && (footW P V o s).all fun n => match get s1.h n with | some b => b.no d && !Nat.beq n d | none => true⟩
def recs (P : Program) (V : Env P) (N : Nat) (ops : Array Oper) : List Oper → AS → Option (List Rec)
  | [], _ => some []
  | o :: l, s => match step1 P V N ops o s with
    | some (_, s1) => (recs P V N ops l s1).map (recOf P V ops o s s1 :: ·)
    | none => none
def ancOf (acc : List Nat) (o : Oper) : Nat := o.after.toList.foldl (fun m e => bif Region.binds .any e then m ||| (1 <<< e.on) ||| acc.getD e.on 0 else m) 0
def masks : List Oper → List Nat → List Nat
  | [], acc => acc
  | o :: l, acc => masks l (acc ++ [ancOf acc o])
def memB (l : List Nat) (n : Nat) : Bool := l.any (Nat.beq n)
def conf (a b : Rec) : Bool :=
  (match a.dst with | some d => memB b.rd d || (match b.dst with | some e => Nat.beq e d | none => false) | none => false) ||
  (match b.dst with | some d => memB a.rd d | none => false) || (a.hw.any fun n => memB b.hr n || memB b.hw n) || (b.hw.any fun n => memB a.hr n)
def pairsB (A : List Nat) (R : List Rec) : Bool :=
  R.zipIdx.all fun (b, j) => R.zipIdx.all fun (a, i) =>
    (Nat.ble j i || !conf a b || (A.getD j 0).testBit i) &&
    (Nat.beq i j || !a.new || (A.getD j 0).testBit i || (match a.dst with | some d => b.out d | none => true))
def backB (l : List Oper) : Bool := l.zipIdx.all fun (o, j) => o.after.toList.all fun e => !Region.binds .any e || Nat.ble (e.on + 1) j
def drawB (P : Program) (V : Env P) (N : Nat) (l : List Oper) (s : AS) : Bool := match recs P V N l.toArray l s with
  | some R => backB l && pairsB (masks l []) R && R.all fun r => !r.new || (match r.dst with | some d => freshB s d | none => true)
  | none => false

/-! ### What comes ahead -/
theorem length_masks : ∀ (l : List Oper) (acc : List Nat), (masks l acc).length = acc.length + l.length
  | [], acc => rfl
  | o :: l, acc => by simp [masks, length_masks l]; omega
theorem masks_pre : ∀ (l : List Oper) (acc : List Nat) (i : Nat), i < acc.length → (masks l acc)[i]? = acc[i]?
  | [], acc, i, _ => rfl
  | o :: l, acc, i, h => by
    simp only [masks]
    rw [masks_pre l _ i (by simp; omega), List.getElem?_append_left h]
theorem masks_get : ∀ (l : List Oper) (acc : List Nat) (j : Nat) (o : Oper), l[j]? = some o → (masks l acc)[acc.length + j]? = some (ancOf ((masks l acc).take (acc.length + j)) o)
  | [], acc, j, o, h => by simp at h
  | o' :: l, acc, 0, o, h => by
    simp at h; subst h
    simp only [masks, Nat.add_zero]
    rw [masks_pre l _ _ (by simp)]
    have : (masks l (acc ++ [ancOf acc o'])).take acc.length = acc := by
      apply List.ext_getElem?
      intro i
      rw [List.getElem?_take]
      split
      · rename_i hi; rw [masks_pre l _ i (by simp; omega), List.getElem?_append_left hi]
      · rename_i hi; rw [List.getElem?_eq_none (by omega)]
    rw [this]
    simp
  | o' :: l, acc, j + 1, o, h => by
    simp only [masks]
    have := masks_get l (acc ++ [ancOf acc o']) j o (by simpa using h)
    simp only [List.length_append, List.length_singleton] at this
    rw [show acc.length + (j + 1) = acc.length + 1 + j by omega]
    exact this
theorem fold_bit (acc : List Nat) (i : Nat) : ∀ (es : List Edge) (m : Nat), (es.foldl (fun m e => bif Region.binds .any e then m ||| (1 <<< e.on) ||| acc.getD e.on 0 else m) m).testBit i = true → m.testBit i = true ∨ ∃ e ∈ es, Region.binds .any e = true ∧ (i = e.on ∨ (acc.getD e.on 0).testBit i = true)
  | [], m, h => .inl h
  | e :: es, m, h => by
    simp only [List.foldl_cons] at h
    rcases fold_bit acc i es _ h with h | ⟨e', he, hb⟩
    · cases hb : Region.binds .any e with
      | false => rw [hb] at h; exact .inl h
      | true =>
        rw [hb] at h
        simp only [cond_true, Nat.testBit_or, Bool.or_eq_true] at h
        rcases h with (h | h) | h
        · exact .inl h
        · refine .inr ⟨e, by simp, hb, .inl ?_⟩
          rw [Nat.testBit_shiftLeft] at h
          simp only [Bool.and_eq_true, decide_eq_true_eq] at h
          have : (1 : Nat).testBit (i - e.on) = true := h.2
          have h1 : i - e.on = 0 := by
            rcases Nat.eq_zero_or_pos (i - e.on) with h0 | h0
            · exact h0
            · rw [Nat.testBit_one_eq_true_iff_self_eq_zero] at this; exact this
          omega
        · exact .inr ⟨e, by simp, hb, .inr h⟩
    · exact .inr ⟨e', by simp [he], hb⟩
theorem memB_iff {l : List Nat} {n : Nat} : memB l n = true ↔ n ∈ l := by
  simp only [memB, List.any_eq_true, beqN, decide_eq_true_eq]
  exact ⟨fun ⟨x, hx, he⟩ => he ▸ hx, fun h => ⟨n, h, rfl⟩⟩

section
variable {P : Program} {V : Env P} {rd : Option Nat} {N : Nat} {W0 : World} {X : Nat → Option Loc} {M0 : Nat → Option Obj} {l : List Oper} {s0 : AS}

/-- A set of operations that holds what its members wait for. -/
def Closed (l : List Oper) (L : Array Bool) : Prop := ∀ j o, l[j]? = some o → L.getD j false = true → ∀ e ∈ o.after, Region.binds .any e = true → L.getD e.on false = true
theorem closed_anc (hb : backB l = true) {L : Array Bool} (hL : Closed l L) : ∀ (n j : Nat), j < n → ∀ o, l[j]? = some o → (∀ e ∈ o.after, Region.binds .any e = true → L.getD e.on false = true) → ∀ i, ((masks l []).getD j 0).testBit i = true → L.getD i false = true ∧ i < j
  | n + 1, j, hj, o, ho, hd, i, hi => by
    have hm := masks_get l [] j o ho
    simp only [List.length_nil, Nat.zero_add] at hm
    rw [List.getD_eq_getElem?_getD, hm, Option.getD_some] at hi
    have hlt : ∀ e ∈ o.after, Region.binds .any e = true → e.on < j := fun e he hbe => by
      have h1 := (List.all_eq_true.1 hb) (o, j) (List.mem_zipIdx_iff_getElem?.2 (by simpa using ho))
      have h2 := (List.all_eq_true.1 h1) e (by simpa using he)
      simp only [hbe, Bool.not_true, Bool.false_or] at h2
      exact Nat.le_of_ble_eq_true h2
    rcases fold_bit _ i _ 0 hi with h | ⟨e, he, hbe, h⟩
    · simp at h
    · have he' : e ∈ o.after := by simpa using he
      have hon := hd e he' hbe
      have helt := hlt e he' hbe
      rcases h with rfl | h
      · exact ⟨hon, helt⟩
      · have hget : ((masks l []).take j).getD e.on 0 = (masks l []).getD e.on 0 := by
          rw [List.getD_eq_getElem?_getD, List.getD_eq_getElem?_getD, List.getElem?_take_of_lt helt]
        rw [hget] at h
        cases hoo : l[e.on]? with
        | none =>
          have : (masks l []).getD e.on 0 = 0 := by
            rw [List.getD_eq_getElem?_getD, List.getElem?_eq_none (by rw [length_masks]; simp; exact List.getElem?_eq_none_iff.1 hoo)]; rfl
          rw [this] at h; simp at h
        | some o2 =>
          have := closed_anc hb hL n e.on (by omega) o2 hoo (hL e.on o2 hoo hon) i h
          exact ⟨this.1, by omega⟩

/-- The state behind the first k operations. -/
def stN (P : Program) (V : Env P) (N : Nat) (l : List Oper) (s0 : AS) : Nat → AS
  | 0 => s0
  | k + 1 => match l[k]? with
    | some o => (match step1 P V N l.toArray o (stN P V N l s0 k) with
      | some (_, s1) => s1
      | none => stN P V N l s0 k)
    | none => stN P V N l s0 k
theorem stN_of_run : ∀ (r : List Oper) (k : Nat) (s s1 : AS) (cs : List Prop), (∀ j, r[j]? = l[k + j]?) → s = stN P V N l s0 k → runL P V N l.toArray r s = some (cs, s1) → AllP cs →
    s1 = stN P V N l s0 (k + r.length) ∧ ∀ j o, r[j]? = some o → ∃ ds, step1 P V N l.toArray o (stN P V N l s0 (k + j)) = some (ds, stN P V N l s0 (k + j + 1)) ∧ AllP ds
  | [], k, s, s1, cs, _, hs, hr, _ => by
    simp only [runL, Option.some.injEq, Prod.mk.injEq] at hr
    exact ⟨by rw [← hr.2]; exact hs, fun j o h => by simp at h⟩
  | o :: r, k, s, s1, cs, hl, hs, hr, hc => by
    simp only [runL] at hr
    split at hr
    · rename_i cs1 s2 h1
      split at hr
      · rename_i ds s3 h2
        simp only [Option.some.injEq, Prod.mk.injEq] at hr
        obtain ⟨rfl, rfl⟩ := hr
        obtain ⟨hc1, hc2⟩ := hc.append
        have h0 : l[k]? = some o := by simpa using (hl 0).symm
        have hst : stN P V N l s0 (k + 1) = s2 := by
          simp only [stN, h0]
          rw [← hs, h1]
        obtain ⟨h3, h4⟩ := stN_of_run r (k + 1) s2 s3 ds (fun j => by have := hl (j + 1); simpa [Nat.add_assoc, Nat.add_comm 1 j] using this) hst.symm h2 hc2
        refine ⟨by rw [h3]; congr 1; simp; omega, fun j o' hj => ?_⟩
        cases j with
        | zero =>
          simp at hj; subst hj
          exact ⟨cs1, by rw [Nat.add_zero, ← hs, hst]; exact h1, hc1⟩
        | succ j =>
          have := h4 j o' (by simpa using hj)
          rwa [show k + 1 + j = k + (j + 1) by omega] at this
      · cases hr
    · cases hr
theorem recs_get : ∀ (r : List Oper) (k : Nat) (R : List Rec), (∀ j, r[j]? = l[k + j]?) → recs P V N l.toArray r (stN P V N l s0 k) = some R → R.length = r.length ∧ ∀ j o, r[j]? = some o → R[j]? = some (recOf P V l.toArray o (stN P V N l s0 (k + j)) (stN P V N l s0 (k + j + 1)))
  | [], k, R, _, h => by simp only [recs, Option.some.injEq] at h; subst h; exact ⟨rfl, fun j o h => by simp at h⟩
  | o :: r, k, R, hl, h => by
    simp only [recs] at h
    split at h
    · rename_i cs s1 h1
      obtain ⟨R', hR', rfl⟩ := Option.map_eq_some_iff.1 h
      have h0 : l[k]? = some o := by simpa using (hl 0).symm
      have hst : stN P V N l s0 (k + 1) = s1 := by simp only [stN, h0, h1]
      rw [← hst] at hR'
      obtain ⟨h2, h3⟩ := recs_get r (k + 1) R' (fun j => by have := hl (j + 1); simpa [Nat.add_assoc, Nat.add_comm 1 j] using this) hR'
      refine ⟨by simp [h2], fun j o' hj => ?_⟩
      cases j with
      | zero => simp at hj; subst hj; simp [hst]
      | succ j =>
        have := h3 j o' (by simpa using hj)
        rw [show k + 1 + j = k + (j + 1) by omega] at this
        simpa using this
    · cases h
end
end Go.Proofs.Ytgmhnkoifdpemaa
