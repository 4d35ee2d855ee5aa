/-
  No statement is proved in this text. It holds maps of the function's own, told by lists of keys and elements.
-/
import Derived.Test.YtgmhnkoifdpemaaS28
namespace Go.Proofs.Ytgmhnkoifdpemaa
open Go.RowKit Go.MapKept
set_option linter.unusedVariables false

section
variable {K V : Type} [Inhabited K] [Inhabited V]
def kfG (ck : K → Value) (l : List (K × V)) : Nat → Value := fun i => ck (l.getD i default).1
def vfG (c : V → List Cl) (l : List (K × V)) : Nat → Nat → Cl := fun i j => (c (l.getD i default).2).getD j default
def mhas (eq : K → K → Bool) (l : List (K × V)) (k : K) : Bool := l.any fun e => eq e.1 k
def mfind (eq : K → K → Bool) (l : List (K × V)) (k : K) : Nat := l.findIdx fun e => eq e.1 k
def mput (eq : K → K → Bool) (l : List (K × V)) (k : K) (v : V) : List (K × V) := bif mhas eq l k then l.set (mfind eq l k) (k, v) else l ++ [(k, v)]
theorem mfind_lt {eq : K → K → Bool} {l : List (K × V)} {k : K} (h : mhas eq l k = true) : mfind eq l k < l.length ∧ eq (l.getD (mfind eq l k) default).1 k = true ∧ ∀ j, j < mfind eq l k → eq (l.getD j default).1 k = false := by
  unfold mhas at h
  obtain ⟨x, hx, hxk⟩ := List.any_eq_true.1 h
  have hlt : l.findIdx (fun e => eq e.1 k) < l.length := List.findIdx_lt_length.2 ⟨x, hx, hxk⟩
  refine ⟨hlt, ?_, fun j hj => ?_⟩
  · have := List.findIdx_getElem (w := hlt)
    unfold mfind
    rw [List.getD_eq_getElem?_getD, List.getElem?_eq_getElem hlt]
    exact this
  · have := List.not_of_lt_findIdx hj
    have hj' : j < l.length := Nat.lt_trans hj hlt
    rw [List.getD_eq_getElem?_getD, List.getElem?_eq_getElem hj']
    exact this
theorem mhas_no {eq : K → K → Bool} {l : List (K × V)} {k : K} (h : mhas eq l k = false) : ∀ j, j < l.length → eq (l.getD j default).1 k = false := by
  intro j hj
  unfold mhas at h
  have := (List.any_eq_false.1 h) l[j] (List.getElem_mem hj)
  rw [List.getD_eq_getElem?_getD, List.getElem?_eq_getElem hj]
  simpa using this
theorem lookK_of {P : Program} {E : TypeId → Option (List Kd)} {kt : TypeId} {ck : K → Value} {eq : K → K → Bool} (heq : ∀ a b, eq a b = true ↔ ck a = ck b) (hfit : ∀ k, KeyFit P E kt (ck k)) (l : List (K × V)) (k : K) :
    LookK P E kt l.length (kfG ck l) (ck k) (mhas eq l k) (mfind eq l k) := by
  refine ⟨hfit k, fun j _ => hfit _, fun h => ?_, fun h j hj => ?_⟩
  · obtain ⟨h1, h2, h3⟩ := mfind_lt h
    refine ⟨h1, (heq _ _).1 h2, fun j hj e => ?_⟩
    have := (heq _ _).2 e
    rw [h3 j hj] at this
    cases this
  · intro e
    have := (heq _ _).2 e
    rw [mhas_no h j hj] at this
    cases this
omit [Inhabited K] [Inhabited V] in
theorem mput_len (eq : K → K → Bool) (l : List (K × V)) (k : K) (v : V) : (bif mhas eq l k then l.length else l.length + 1) = (mput eq l k v).length := by
  unfold mput
  cases mhas eq l k <;> simp
theorem mput_get {eq : K → K → Bool} {l : List (K × V)} {k : K} {v : V} (j : Nat) (hj : j < (mput eq l k v).length) : (mput eq l k v).getD j default = bif Nat.beq j (bif mhas eq l k then mfind eq l k else l.length) then (k, v) else l.getD j default := by
  rw [← mput_len] at hj
  unfold mput
  cases h : mhas eq l k with
  | true =>
    rw [h] at hj
    simp only [cond_true] at *
    have hlt := (mfind_lt h).1
    rw [List.getD_eq_getElem?_getD, List.getElem?_set, beqN]
    by_cases e : mfind eq l k = j
    · subst e; simp [hlt]
    · rw [if_neg e, decide_eq_false (Ne.symm e), cond_false, List.getD_eq_getElem?_getD]
  | false =>
    rw [h] at hj
    simp only [cond_false] at *
    rw [List.getD_eq_getElem?_getD, beqN]
    by_cases e : j = l.length
    · subst e
      rw [decide_eq_true rfl, cond_true, List.getElem?_append_right (Nat.le_refl _), Nat.sub_self]
      rfl
    · rw [decide_eq_false e, cond_false, List.getElem?_append_left (by omega), List.getD_eq_getElem?_getD]
/-- A map that was written, told by its list. -/
theorem bke_mput {ck : K → Value} {cv : V → List Cl} {eq : K → K → Bool} {agg : Bool} {nv : Nat} (l : List (K × V)) (k : K) (v : V) (cells : List Cl) (hc : cells = cv v) :
    BlkE (.omap agg nv (bif mhas eq l k then l.length else l.length + 1) (fun j => bif Nat.beq j (bif mhas eq l k then mfind eq l k else l.length) then ck k else kfG ck l j) (fun j c => bif Nat.beq j (bif mhas eq l k then mfind eq l k else l.length) then cells.getD c default else vfG cv l j c))
      (.omap agg nv (mput eq l k v).length (kfG ck (mput eq l k v)) (vfG cv (mput eq l k v))) := by
  subst hc
  refine .omap agg nv (mput_len eq l k v) (fun j hj => ?_) (fun j c hj _ => ?_)
  · unfold kfG
    rw [mput_get j hj]
    cases Nat.beq j (bif mhas eq l k then mfind eq l k else l.length) <;> rfl
  · have : (bif Nat.beq j (bif mhas eq l k then mfind eq l k else l.length) then (cv v).getD c default else vfG cv l j c) = vfG cv (mput eq l k v) j c := by
      unfold vfG
      rw [mput_get j hj]
      cases Nat.beq j (bif mhas eq l k then mfind eq l k else l.length) <;> rfl
    rw [this]
    exact .refl _
/-- A map that was made just now. -/
theorem bke_mnew {ck : K → Value} {cv : V → List Cl} {agg : Bool} {nv : Nat} : BlkE (.omap agg nv 0 (fun _ => undef) (fun _ _ => default)) (.omap agg nv ([] : List (K × V)).length (kfG ck ([] : List (K × V))) (vfG cv ([] : List (K × V)))) :=
  .omap agg nv rfl (fun j hj => absurd hj (Nat.not_lt_zero _)) (fun j c hj _ => absurd hj (Nat.not_lt_zero _))
end
/-- Strings as keys. -/
def eqS (a b : ByteArray) : Bool := a.toList == b.toList
theorem eqS_ok (a b : ByteArray) : eqS a b = true ↔ Value.string a = Value.string b := by
  unfold eqS
  rw [beq_iff_eq, Value.string.injEq]
  exact ⟨ba_inj, fun h => by rw [h]⟩
theorem fit_str {P : Program} {E : TypeId → Option (List Kd)} {kt : TypeId} (h : P.underlying kt = some .string) (k : ByteArray) : KeyFit P E kt (.string k) := .inl ⟨_, h, trivial⟩
end Go.Proofs.Ytgmhnkoifdpemaa
