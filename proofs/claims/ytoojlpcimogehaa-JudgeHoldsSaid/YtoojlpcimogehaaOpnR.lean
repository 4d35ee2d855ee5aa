/-
  No statement is proved in this text. It opens arguments at one depth of reading, for types that hold themselves.
-/
import Derived.Test.YtoojlpcimogehaaOpn
namespace Go.Proofs.Ytoojlpcimogehaa
open Go.ChangeShapes Go.WideShapes Go.ChangeAt Go.RowKit
set_option linter.unusedVariables false
section
variable {P : Program} {t : TypeId}
theorem opensA_of {T : Type} {c : T → List Cl} {ok : T → Prop} (h : Opens P t c ok) (fuel : Nat) : OpensA fuel P t c ok := fun enc w base spare held cs x hx => h enc w base spare held fuel cs x hx
theorem opensA_map {fuel : Nat} {T S : Type} {c : T → List Cl} {ok : T → Prop} {c' : S → List Cl} {ok' : S → Prop} (h : OpensA fuel P t c ok) (g : ∀ a, ok a → ∃ s, ok' s ∧ c' s = c a) : OpensA fuel P t c' ok' := by
  intro H enc w base spare held cs x hx
  obtain ⟨a, h1, h2⟩ := h enc w base spare held cs x hx
  obtain ⟨s, h3, h4⟩ := g a h1
  exact ⟨s, h3, by rw [h4]; exact h2⟩
/-- From all depths: the depth goes into what is opened. -/
theorem opens_depth {T : Type} {c : Nat → T → List Cl} {ok : Nat → T → Prop} (h : ∀ n, OpensA n P t (c n) (ok n)) : Opens P t (fun p : Nat × T => c p.1 p.2) (fun p => ok p.1 p.2) := by
  intro H enc w base spare held fuel cs x hx
  obtain ⟨a, h1, h2⟩ := h fuel enc w base spare held cs x hx
  exact ⟨(fuel, a), h1, h2⟩
def OpensFA (fuel : Nat) (P : Program) (off : Nat) (fs : List Field) {T : Type} (c : T → List Cl) (ok : T → Prop) : Prop :=
  ∀ {H : Type} (enc : TypeId × Value → H) (w : World) (base : Nat) (spare : Nat → Bool) (held : Bool) (cs : List Value),
    (∀ f ∈ fs, ∃ y, DataW.trod enc P w base spare held fuel f.type ((cs.drop f.offset).take (P.cellsOf f.type)) = some y) → off + total P fs = cs.length → ∃ a : T, ok a ∧ L2 (RC (MW w)) (c a) (cs.drop off)
theorem opensFA_nil {fuel off : Nat} : OpensFA fuel P off [] (fun _ : Unit => []) (fun _ => True) := by
  intro H enc w base spare held cs _ hl
  simp only [total, Nat.add_zero] at hl
  refine ⟨(), trivial, ?_⟩
  rw [List.drop_eq_nil_of_le (by omega)]
  exact .nil
theorem opensFA_cons {fuel off : Nat} {f : Field} {fs : List Field} {T S : Type} {c : T → List Cl} {ok : T → Prop} {c' : S → List Cl} {ok' : S → Prop} (n : Nat) (hn : P.cellsOf f.type = n) (ho : f.offset = off) (h : OpensA fuel P f.type c ok) (h' : OpensFA fuel P (off + n) fs c' ok') :
    OpensFA fuel P off (f :: fs) (fun p : T × S => c p.1 ++ c' p.2) (fun p => ok p.1 ∧ ok' p.2) := by
  subst hn
  intro H enc w base spare held cs hf hl
  obtain ⟨y, hy⟩ := hf f (List.mem_cons_self ..)
  obtain ⟨a, h1, h2⟩ := h enc w base spare held _ _ hy
  simp only [total] at hl
  obtain ⟨b, h3, h4⟩ := h' enc w base spare held cs (fun f' hm => hf f' (List.mem_cons_of_mem _ hm)) (by omega)
  refine ⟨(a, b), ⟨h1, h3⟩, ?_⟩
  rw [ho] at h2
  have := h2.append h4
  rwa [← List.drop_drop, List.take_append_drop] at this
theorem opensA_struct {fuel : Nat} {fs : Array Field} {T : Type} {c : T → List Cl} {ok : T → Prop} (ht : P.underlying t = some (.struct fs)) (htot : total P fs.toList = P.cellsOf t) (h : OpensFA fuel P 0 fs.toList c ok) : OpensA (fuel + 1) P t c ok := by
  intro H enc w base spare held cs x hx
  obtain ⟨xs, n, hn, _, hcs, hxs, hi⟩ := DataW.trod_struct ht hx
  obtain rfl : fuel = n := by omega
  obtain ⟨a, h1, h2⟩ := h enc w base spare held cs (fun f hm => by
    obtain ⟨i, hi', hfi⟩ := List.getElem_of_mem hm
    have h1 := hi i f (by rw [← hfi]; simp)
    have h2 : xs[i]? = some (xs[i]'(by rw [hxs]; simpa using hi')) := List.getElem?_eq_getElem _
    exact ⟨_, h1.trans h2⟩) (by omega)
  exact ⟨a, h1, by simpa using h2⟩
theorem opensA_zero {fs : Array Field} {T : Type} {c : T → List Cl} {ok : T → Prop} (ht : P.underlying t = some (.struct fs)) : OpensA 0 P t c ok := by
  intro H enc w base spare held cs x hx
  obtain ⟨xs, n, hn, _⟩ := DataW.trod_struct ht hx
  omega
end
end Go.Proofs.Ytoojlpcimogehaa
