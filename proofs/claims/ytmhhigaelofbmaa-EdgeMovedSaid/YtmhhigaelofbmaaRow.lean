/-
  No statement is proved in this text. It holds the step from a walk to a law's row: plain arguments opened to their leaves, and all arguments read again behind a call that only makes memory.
-/
import Derived.Test.YtmhhigaelofbmaaRows
import Derived.Test.YtmhhigaelofbmaaBase
import Derived.Test.YtmhhigaelofbmaaPlainVec
import Derived.ProofKit
import Derived.OpenShut
namespace Go.Proofs.Ytmhhigaelofbmaa
open Go.ChangeShapes Go.WideShapes Go.ChangeAt Go.RowKit

/-! ### Plain values: their leaves -/

def flatFields (P : Program) (g : TypeId → Option (List (Option IntKind))) : Nat → List Field → Option (List (Option IntKind))
  | _, [] => some []
  | off, f :: r =>
    match g f.type with
    | some l => if f.offset = off ∧ l.length = P.cellsOf f.type then (flatFields P g (off + l.length) r).map (l ++ ·) else none
    | none => none
/-- The leaves of a plain type: an integer's kind, or none for a bool. -/
def flat (P : Program) : Nat → TypeId → Option (List (Option IntKind))
  | 0, _ => none
  | n + 1, t =>
    match P.underlying t with
    | some (.int k) => some [some k]
    | some .bool => some [none]
    | some (.struct fs) => match flatFields P (flat P n) 0 fs.toList with
      | some l => if l.length = P.cellsOf t then some l else none
      | none => none
    | some (.array m e) => match flat P n e with
      | some l => if l.length = P.cellsOf e ∧ m * l.length = P.cellsOf t then some (List.replicate m l).flatten else none
      | none => none
    | _ => none

def LeafOk : List (Option IntKind) → List Value → Prop
  | [], [] => True
  | some k :: ls, c :: cs => (∃ n, c = .int k n ∧ (Lit.int k n).wf = true) ∧ LeafOk ls cs
  | none :: ls, c :: cs => (∃ b, c = .bool b) ∧ LeafOk ls cs
  | _, _ => False
theorem LeafOk.length : ∀ (ls : List (Option IntKind)) (cs : List Value), LeafOk ls cs → cs.length = ls.length
  | [], [], _ => rfl
  | [], _ :: _, h => h.elim
  | some _ :: _, [], h => h.elim
  | none :: _, [], h => h.elim
  | some _ :: ls, _ :: cs, h => by simp [LeafOk.length ls cs h.2]
  | none :: ls, _ :: cs, h => by simp [LeafOk.length ls cs h.2]
theorem LeafOk.append : ∀ (ls : List (Option IntKind)) (cs : List Value) (ms : List (Option IntKind)) (ds : List Value), LeafOk ls cs → LeafOk ms ds → LeafOk (ls ++ ms) (cs ++ ds)
  | [], [], _, _, _, k => k
  | [], _ :: _, _, _, h, _ => h.elim
  | some _ :: _, [], _, _, h, _ => h.elim
  | none :: _, [], _, _, h, _ => h.elim
  | some _ :: ls, _ :: cs, ms, ds, h, k => ⟨h.1, LeafOk.append ls cs ms ds h.2 k⟩
  | none :: ls, _ :: cs, ms, ds, h, k => ⟨h.1, LeafOk.append ls cs ms ds h.2 k⟩
theorem leaf_int {k : IntKind} {ls : List (Option IntKind)} {cs : List Value} (h : LeafOk (some k :: ls) cs) : ∃ n cs', cs = .int k n :: cs' ∧ (Lit.int k n).wf = true ∧ LeafOk ls cs' := by
  cases cs with
  | nil => exact h.elim
  | cons c cs => obtain ⟨⟨n, rfl, hw⟩, h2⟩ := h; exact ⟨n, cs, rfl, hw, h2⟩
theorem leaf_bool {ls : List (Option IntKind)} {cs : List Value} (h : LeafOk (none :: ls) cs) : ∃ b cs', cs = .bool b :: cs' ∧ LeafOk ls cs' := by
  cases cs with
  | nil => exact h.elim
  | cons c cs => obtain ⟨⟨b, rfl⟩, h2⟩ := h; exact ⟨b, cs, rfl, h2⟩
theorem leaf_nil {cs : List Value} (h : LeafOk [] cs) : cs = [] := by
  cases cs with
  | nil => rfl
  | cons c cs => exact h.elim

section
variable {H : Type} {enc : TypeId × Value → H} {P : Program} {w : World} {base : Nat} {spare : Nat → Bool} {held : Bool}

theorem fields_ok {g : TypeId → Option (List (Option IntKind))} {cs : List Value} : ∀ (fs : List Field) (off : Nat) (ls : List (Option IntKind)), flatFields P g off fs = some ls →
    (∀ f ∈ fs, ∀ l, g f.type = some l → LeafOk l ((cs.drop f.offset).take (P.cellsOf f.type))) → off + ls.length = cs.length → LeafOk ls (cs.drop off)
  | [], off, ls, h, _, hl => by
    simp only [flatFields, Option.some.injEq] at h
    subst h
    have : cs.drop off = [] := List.drop_eq_nil_of_le (by simp at hl; omega)
    rw [this]
    trivial
  | f :: r, off, ls, h, hf, hl => by
    unfold flatFields at h
    cases hg : g f.type with
    | none => rw [hg] at h; cases h
    | some l =>
      rw [hg] at h
      simp only at h
      split at h
      · rename_i hc
        obtain ⟨ho, hlen⟩ := hc
        cases hr : flatFields P g (off + l.length) r with
        | none => rw [hr] at h; cases h
        | some m =>
          rw [hr] at h
          simp only [Option.map_some, Option.some.injEq] at h
          subst h
          have h1 := hf f (List.mem_cons_self ..) l hg
          rw [ho, ← hlen] at h1
          simp only [List.length_append] at hl
          have h2 := fields_ok r (off + l.length) m hr (fun f' hm => hf f' (List.mem_cons_of_mem _ hm)) (by omega)
          have h3 := LeafOk.append _ _ _ _ h1 h2
          rwa [← List.drop_drop, List.take_append_drop] at h3
      · cases h

theorem array_ok {l : List (Option IntKind)} : ∀ (m : Nat) (cs : List Value), cs.length = m * l.length → (∀ i, i < m → LeafOk l ((cs.drop (i * l.length)).take l.length)) → LeafOk (List.replicate m l).flatten cs
  | 0, cs, hl, _ => by
    have : cs = [] := List.eq_nil_of_length_eq_zero (by omega)
    subst this
    trivial
  | m + 1, cs, hl, h => by
    have h0 := h 0 (by omega)
    simp only [Nat.zero_mul, List.drop_zero] at h0
    have h1 := array_ok (l := l) m (cs.drop l.length) (by rw [List.length_drop, hl, Nat.succ_mul]; omega) (fun i hi => by
      have := h (i + 1) (by omega)
      rw [Nat.succ_mul, Nat.add_comm, ← List.drop_drop] at this
      exact this)
    have h2 := LeafOk.append _ _ _ _ h0 h1
    rw [List.take_append_drop] at h2
    rw [List.replicate_succ, List.flatten_cons]
    exact h2

theorem trod_leaves : ∀ (m : Nat) (t : TypeId) (ls : List (Option IntKind)) (fuel : Nat) (cs : List Value) (x : DataW H × List MemPlace), flat P m t = some ls → DataW.trod enc P w base spare held fuel t cs = some x → LeafOk ls cs
  | 0, _, _, _, _, _, h, _ => by cases h
  | m + 1, t, ls, fuel, cs, x, h, hx => by
    unfold flat at h
    cases hu : P.underlying t with
    | none => rw [hu] at h; cases h
    | some u =>
      rw [hu] at h
      cases u with
      | int k =>
        simp only [Option.some.injEq] at h
        subst h
        obtain ⟨n, rfl, _, hw⟩ := DataW.trod_int hu hx
        exact ⟨⟨n, rfl, hw⟩, trivial⟩
      | bool =>
        simp only [Option.some.injEq] at h
        subst h
        obtain ⟨b, rfl, _⟩ := DataW.trod_bool hu hx
        exact ⟨⟨b, rfl⟩, trivial⟩
      | struct fs =>
        simp only at h
        cases hf : flatFields P (flat P m) 0 fs.toList with
        | none => rw [hf] at h; cases h
        | some l =>
          rw [hf] at h
          simp only at h
          split at h
          · rename_i hlen
            injection h with h
            subst h
            obtain ⟨xs, n, _, _, hcs, hxs, hi⟩ := DataW.trod_struct hu hx
            have := fields_ok (P := P) (cs := cs) fs.toList 0 l hf (fun f hm l' hl' => by
              obtain ⟨i, hi', hfi⟩ := List.getElem_of_mem hm
              have h1 := hi i f (by rw [← hfi]; simp)
              have h2 : xs[i]? = some (xs[i]'(by rw [hxs]; simpa using hi')) := List.getElem?_eq_getElem _
              rw [h2] at h1
              exact trod_leaves m f.type l' n _ _ hl' h1) (by omega)
            simpa using this
          · cases h
      | array k e =>
        simp only at h
        cases hf : flat P m e with
        | none => rw [hf] at h; cases h
        | some l =>
          rw [hf] at h
          simp only at h
          split at h
          · rename_i hlen
            injection h with h
            subst h
            obtain ⟨xs, n, _, _, hcs, hxs, hi⟩ := DataW.trod_array hu hx
            refine array_ok k cs (by omega) (fun i hik => ?_)
            have h1 := hi i hik
            have h2 : xs[i]? = some (xs[i]'(by omega)) := List.getElem?_eq_getElem _
            rw [h2, ← hlen.1] at h1
            exact trod_leaves m e l n _ _ hf h1
          · cases h
      | _ => simp at h

/-- A plain argument that is a struct or an array. -/
theorem open_plain {r : Reach} {b0 : Nat} {t : TypeId} {v : Value} {d : DataW H} {p : List MemPlace} (m : Nat) {ls : List (Option IntKind)} (hf : flat P m t = some ls) (hs : (∃ fs, P.underlying t = some (.struct fs)) ∨ ∃ n e, P.underlying t = some (.array n e))
    (hv : Value.okWide P w r b0 t v) (h : DataW.Trod enc P w base spare held t v d p) : ∃ cs, v = .agg ⟨cs⟩ ∧ LeafOk ls cs := by
  have : ∃ cs, v = .agg cs := by
    rcases hs with ⟨fs, hs⟩ | ⟨n, e, hs⟩ <;> simp only [Value.okWide, hs] at hv <;> obtain ⟨cs, h1, _⟩ := hv <;> exact ⟨cs, h1⟩
  obtain ⟨⟨cs⟩, rfl⟩ := this
  obtain ⟨fuel, hx⟩ := h
  exact ⟨cs, rfl, trod_leaves m t ls fuel cs _ hf (by simpa [Value.cells] using hx)⟩

/-! ### All arguments read again -/
theorem trodAll_kept (hl : laidOutB P = true) {W W' : World} (hb : Below W.heap.size W W') : ∀ (ts : List TypeId) (vs : List Value) (ds : List (DataW H)) (ps : List MemPlace), (∀ t ∈ ts, P.readableRec t = true ∧ t < P.types.size) →
    DataW.TrodAll enc P W 0 (fun _ => true) true ts vs ds ps → (∀ x ∈ ps, x.block < W.heap.size) → ∀ sp : Nat → Bool, (∀ x ∈ ps, sp x.block = true) → DataW.TrodAll enc P W' 0 sp true ts vs ds ps
  | [], [], [], ps, _, h, _, _, _ => h
  | [], [], _ :: _, _, _, h, _, _, _ => h.elim
  | [], _ :: _, _, _, _, h, _, _, _ => by cases h
  | _ :: _, [], _, _, _, h, _, _, _ => by cases h
  | _ :: _, _ :: _, [], _, _, h, _, _, _ => h.elim
  | t :: ts, v :: vs, d :: ds, ps, hr, h, hlt, sp, hsp => by
    obtain ⟨p, q, h1, h2, rfl⟩ := h
    have hr1 := hr t (List.mem_cons_self ..)
    exact ⟨p, q, WideElems.Trod_stays hl hr1.1 hr1.2 h1 (fun x hx => hb.same (hlt x (List.mem_append_left _ hx))) (fun x hx => hsp x (List.mem_append_left _ hx)),
      trodAll_kept hl hb ts vs ds q (fun t' ht => hr t' (List.mem_cons_of_mem _ ht)) h2 (fun x hx => hlt x (List.mem_append_right _ hx)) sp (fun x hx => hsp x (List.mem_append_right _ hx)), rfl⟩

/-- The row's last step for a law: it returns true, and has only made memory. -/
theorem law_post {f : Func} {s : ChangeSpec} {W W' : World} {args : Array Value} {ds gs : List (DataW H)} {before : List MemPlace} {tb : TypeId}
    (hW : DataW.Whole enc P f.params.toList s.vars false W args.toList ds gs before) (hvars : s.vars = []) (hspec : s.fn H (ds ++ []) = { results := [.lit (.bool true)], args := ds })
    (hl : laidOutB P = true) (hr : ∀ t ∈ f.params.toList, P.readableRec t = true ∧ t < P.types.size) (hres : f.resultTypes = #[tb]) (htb : P.underlying tb = some .bool) (hb : Below W.heap.size W W') :
    s.post enc P f false true false false W args (.bool true) W' := by
  have hlt : ∀ p ∈ before, p.block < W.heap.size := fun p hp => hW.lt p hp
  have hW' := hW
  obtain ⟨p, q, hA, hV, rfl, hz, hn⟩ := hW
  rw [hvars] at hV
  obtain ⟨rfl, rfl⟩ := trodVars_none hV
  refine ⟨ds, [], p ++ [], [], p, [], hW', ?_, ?_, ?_, World.keptBut_mono (fun x hx => ⟨hx, ?_⟩) (hb.frame (· ∈ p ++ [])), fun h => by cases h⟩
  · rw [hspec, hres]
    exact trodAll_cons_mk (shut_bool htb true) trodAll_mk0
  · rw [hspec]
    exact trodAll_kept hl hb _ _ _ _ hr hA (fun x hx => hlt x (List.mem_append_left _ hx)) _ (fun x hx => by simpa using hlt x (List.mem_append_left _ hx))
  · rw [hspec, hvars]
    exact rfl
  · rw [List.mem_append] at hx
    exact Or.inr (by simpa using hx)
end
theorem r64_of_wf {n : Int} (h : (Lit.int .i64 n).wf = true) : R64 n := bounds_i64 h
theorem own : ownKnob Try.prog.godebug = none := by kernel_rfl
theorem laidOut : laidOutB Try.prog = true := by kernel_rfl
end Go.Proofs.Ytmhhigaelofbmaa
