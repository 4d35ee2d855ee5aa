/-
  No statement is proved in this text. It opens arguments at one depth of reading, for types that hold themselves.
-/
import Derived.Test.YtoojlpcimogehaaOpn
namespace Go.Proofs.Ytoojlpcimogehaa
open Go.ChangeShapes Go.WideShapes Go.ChangeAt Go.RowKit
set_option linter.unusedVariables false
section
variable {S : Bool} {P : Program} {t : TypeId}
theorem opensA_of {T : Type} {c : T → List Cl} {ok : T → Prop} (h : Opens P t c ok) (fuel : Nat) : OpensA S fuel P t c ok := fun enc w base spare held cs x hx _ => h enc w base spare held fuel cs x hx
theorem opensA_map {fuel : Nat} {T U : Type} {c : T → List Cl} {ok : T → Prop} {c' : U → List Cl} {ok' : U → Prop} (h : OpensA S fuel P t c ok) (g : ∀ a, ok a → ∃ s, ok' s ∧ c' s = c a) : OpensA S fuel P t c' ok' := by
  intro H enc w base spare held cs x hx hq
  obtain ⟨a, h1, h2⟩ := h enc w base spare held cs x hx hq
  obtain ⟨s, h3, h4⟩ := g a h1
  exact ⟨s, h3, by rw [h4]; exact h2⟩
/-- From all depths: the depth goes into what is opened. -/
theorem opens_depth {T : Type} {c : Nat → T → List Cl} {ok : Nat → T → Prop} (h : ∀ n, OpensA false n P t (c n) (ok n)) : Opens P t (fun p : Nat × T => c p.1 p.2) (fun p => ok p.1 p.2) := by
  intro H enc w base spare held fuel cs x hx
  obtain ⟨a, h1, h2⟩ := h fuel enc w base spare held cs x hx sq_no
  exact ⟨(fuel, a), h1, h2⟩
def OpensFA (S : Bool) (fuel : Nat) (P : Program) (off : Nat) (fs : List Field) {T : Type} (c : T → List Cl) (ok : T → Prop) : Prop :=
  ∀ {H : Type} (enc : TypeId × Value → H) (w : World) (base : Nat) (spare : Nat → Bool) (held : Bool) (cs : List Value),
    (∀ f ∈ fs, ∃ y : DataW H × List MemPlace, DataW.trod enc P w base spare held fuel f.type ((cs.drop f.offset).take (P.cellsOf f.type)) = some y ∧ SQ S P f.type y.1) → off + total P fs = cs.length → ∃ a : T, ok a ∧ L2 (RC (MW w)) (c a) (cs.drop off)
theorem opensFA_nil {fuel off : Nat} : OpensFA S fuel P off [] (fun _ : Unit => []) (fun _ => True) := by
  intro H enc w base spare held cs _ hl
  simp only [total, Nat.add_zero] at hl
  refine ⟨(), trivial, ?_⟩
  rw [List.drop_eq_nil_of_le (by omega)]
  exact .nil
theorem opensFA_cons {fuel off : Nat} {f : Field} {fs : List Field} {T U : Type} {c : T → List Cl} {ok : T → Prop} {c' : U → List Cl} {ok' : U → Prop} (n : Nat) (hn : P.cellsOf f.type = n) (ho : f.offset = off) (h : OpensA S fuel P f.type c ok) (h' : OpensFA S fuel P (off + n) fs c' ok') :
    OpensFA S fuel P off (f :: fs) (fun p : T × U => c p.1 ++ c' p.2) (fun p => ok p.1 ∧ ok' p.2) := by
  subst hn
  intro H enc w base spare held cs hf hl
  obtain ⟨y, hy, hyq⟩ := hf f (List.mem_cons_self ..)
  obtain ⟨a, h1, h2⟩ := h enc w base spare held _ _ hy hyq
  simp only [total] at hl
  obtain ⟨b, h3, h4⟩ := h' enc w base spare held cs (fun f' hm => hf f' (List.mem_cons_of_mem _ hm)) (by omega)
  refine ⟨(a, b), ⟨h1, h3⟩, ?_⟩
  rw [ho] at h2
  have := h2.append h4
  rwa [← List.drop_drop, List.take_append_drop] at this
theorem opensA_struct {fuel : Nat} {fs : Array Field} {T : Type} {c : T → List Cl} {ok : T → Prop} (ht : P.underlying t = some (.struct fs)) (htot : total P fs.toList = P.cellsOf t) (h : OpensFA S fuel P 0 fs.toList c ok) : OpensA S (fuel + 1) P t c ok := by
  intro H enc w base spare held cs x hx hq
  obtain ⟨xs, n, hn, hx2, hcs, hxs, hi⟩ := DataW.trod_struct ht hx
  obtain rfl : fuel = n := by omega
  obtain ⟨a, h1, h2⟩ := h enc w base spare held cs (fun f hm => by
    obtain ⟨i, hi', hfi⟩ := List.getElem_of_mem hm
    have h1 := hi i f (by rw [← hfi]; simp)
    have h2 : xs[i]? = some (xs[i]'(by rw [hxs]; simpa using hi')) := List.getElem?_eq_getElem _
    refine ⟨_, h1.trans h2, fun hs k hk => ?_⟩
    rw [hx2] at hq
    refine hq hs k ?_
    simp only [DataW.weights, ht]
    refine DataW.weights_mem_each (j := i) (t := f.type) ?_ ?_ k hk
    · rw [List.getElem?_map, List.getElem?_eq_getElem hi', hfi]; rfl
    · rw [List.getElem?_map, h2]; rfl) (by omega)
  exact ⟨a, h1, by simpa using h2⟩
theorem opensA_zero {fs : Array Field} {T : Type} {c : T → List Cl} {ok : T → Prop} (ht : P.underlying t = some (.struct fs)) : OpensA S 0 P t c ok := by
  intro H enc w base spare held cs x hx _
  obtain ⟨xs, n, hn, _⟩ := DataW.trod_struct ht hx
  omega
/-- A string that is within the reach. -/
theorem opensA_string {fuel : Nat} (ht : P.underlying t = some .string) : OpensA true fuel P t (fun b : ByteArray => [.val (.string b)]) (fun s => s.size ≤ reachBytes) := by
  intro H enc w base spare held cs x h hq
  obtain ⟨b, rfl, hx, hl⟩ := DataW.trod_string ht h
  refine ⟨b, ?_, .cons (.val _ rfl) .nil⟩
  rw [hx] at hq
  have := hq rfl b.data.toList.length (by simp [DataW.weights])
  simpa using this
end
section
variable {H : Type} {enc : TypeId × Value → H} {P : Program} {W : World} {base b0 : Nat} {spare : Nat → Bool} {held : Bool} {r : Reach} {t : TypeId} {v : Value} {d : DataW H} {ps : List MemPlace}
theorem openS_one {T : Type} {k : Nat → T → Cl} {ok : Nat → T → Prop} (ho : ∀ n, OpensA true n P t (fun a => [k n a]) (ok n)) (hs : ∃ e, P.underlying t = some (.slice e)) (hv : Value.okWide P W r b0 t v) (h : DataW.Trod enc P W base spare held t v d ps) (hq : SQ true P t d) : ∃ p : Nat × T, ok p.1 p.2 ∧ ∀ σ, RA (MW W) σ (.one (k p.1 p.2)) v := by
  have : v.cells.toList = [v] := by
    obtain ⟨e, hs⟩ := hs
    obtain ⟨p, l, c, rfl⟩ := okWide_slice hs hv; rfl
  obtain ⟨fuel, hx⟩ := h
  rw [this] at hx
  obtain ⟨a, h1, h2⟩ := ho fuel enc W base spare held _ _ hx hq
  refine ⟨(fuel, a), h1, fun σ => ?_⟩
  cases h2 with | cons h3 _ => exact RC_R h3
theorem sq_arg {ts : List TypeId} {ds : List (DataW H)} (h : (DataW.weightsEach P ts ds).all (· ≤ reachBytes) = true) (j : Nat) (ht : ts[j]? = some t) (hd : ds[j]? = some d) : SQ true P t d := fun _ n hn => by
  simpa using List.all_eq_true.1 h _ (DataW.weights_mem_each ht hd n hn)
end
end Go.Proofs.Ytoojlpcimogehaa
