/-
  No statement is proved in this text. It holds the step from what functions return to a law's row: arguments of any type without pointers are opened, and read again behind a call that only makes memory.
-/
import Derived.Test.YtgmhnkoifdpemaaS15
import Derived.ProofKit
import Derived.OpenShut
import Derived.ChangeSlices
import Derived.SizedLaws
namespace Go.Proofs.Ytgmhnkoifdpemaa
open Go.ChangeShapes Go.WideShapes Go.ChangeAt Go.RowKit
set_option linter.unusedVariables false
set_option linter.unusedSimpArgs false

def MW (w : World) : Nat → Option Obj := fun b => w.heap[b]?
/-- Whatever is read as the type t stands for some a with property ok. -/
def Opens (P : Program) (t : TypeId) {T : Type} (c : T → List Cl) (ok : T → Prop) : Prop :=
  ∀ {H : Type} (enc : TypeId × Value → H) (w : World) (base : Nat) (spare : Nat → Bool) (held : Bool) (fuel : Nat) (cs : List Value) (x : DataW H × List MemPlace),
    DataW.trod enc P w base spare held fuel t cs = some x → ∃ a : T, ok a ∧ L2 (RC (MW w)) (c a) cs
def WF (k : IntKind) (n : Int) : Prop := (Lit.int k n).wf = true

section
variable {P : Program} {t : TypeId}
theorem opens_int {k : IntKind} (ht : P.underlying t = some (.int k)) : Opens P t (fun n : Int => [.val (.int k n)]) (WF k) := by
  intro H enc w base spare held fuel cs x h
  obtain ⟨n, rfl, _, hw⟩ := DataW.trod_int ht h
  exact ⟨n, hw, .cons (.val _ rfl) .nil⟩
theorem opens_bool (ht : P.underlying t = some .bool) : Opens P t (fun b : Bool => [.val (.bool b)]) (fun _ => True) := by
  intro H enc w base spare held fuel cs x h
  obtain ⟨b, rfl, _⟩ := DataW.trod_bool ht h
  exact ⟨b, trivial, .cons (.val _ rfl) .nil⟩
theorem opens_string (ht : P.underlying t = some .string) : Opens P t (fun b : ByteArray => [.val (.string b)]) (fun s => s.size ≤ maxLen) := by
  intro H enc w base spare held fuel cs x h
  obtain ⟨b, rfl, _, hl⟩ := DataW.trod_string ht h
  exact ⟨b, hl, .cons (.val _ rfl) .nil⟩
theorem opens_map {T S : Type} {c : T → List Cl} {ok : T → Prop} {c' : S → List Cl} {ok' : S → Prop} (h : Opens P t c ok) (g : ∀ a, ok a → ∃ s, ok' s ∧ c' s = c a) : Opens P t c' ok' := by
  intro H enc w base spare held fuel cs x hx
  obtain ⟨a, h1, h2⟩ := h enc w base spare held fuel cs x hx
  obtain ⟨s, h3, h4⟩ := g a h1
  exact ⟨s, h3, by rw [h4]; exact h2⟩
def total (P : Program) : List Field → Nat
  | [] => 0
  | f :: r => P.cellsOf f.type + total P r
def OpensF (P : Program) (off : Nat) (fs : List Field) {T : Type} (c : T → List Cl) (ok : T → Prop) : Prop :=
  ∀ {H : Type} (enc : TypeId × Value → H) (w : World) (base : Nat) (spare : Nat → Bool) (held : Bool) (fuel : Nat) (cs : List Value),
    (∀ f ∈ fs, ∃ y, DataW.trod enc P w base spare held fuel f.type ((cs.drop f.offset).take (P.cellsOf f.type)) = some y) → off + total P fs = cs.length → ∃ a : T, ok a ∧ L2 (RC (MW w)) (c a) (cs.drop off)
theorem opensF_nil {off : Nat} : OpensF P off [] (fun _ : Unit => []) (fun _ => True) := by
  intro H enc w base spare held fuel cs _ hl
  simp only [total, Nat.add_zero] at hl
  refine ⟨(), trivial, ?_⟩
  rw [List.drop_eq_nil_of_le (by omega)]
  exact .nil
theorem opensF_cons {off : Nat} {f : Field} {fs : List Field} {T S : Type} {c : T → List Cl} {ok : T → Prop} {c' : S → List Cl} {ok' : S → Prop} (n : Nat) (hn : P.cellsOf f.type = n) (ho : f.offset = off) (h : Opens P f.type c ok) (h' : OpensF P (off + n) fs c' ok') :
    OpensF P off (f :: fs) (fun p : T × S => c p.1 ++ c' p.2) (fun p => ok p.1 ∧ ok' p.2) := by
  subst hn
  intro H enc w base spare held fuel cs hf hl
  obtain ⟨y, hy⟩ := hf f (List.mem_cons_self ..)
  obtain ⟨a, h1, h2⟩ := h enc w base spare held fuel _ _ hy
  simp only [total] at hl
  obtain ⟨b, h3, h4⟩ := h' enc w base spare held fuel cs (fun f' hm => hf f' (List.mem_cons_of_mem _ hm)) (by omega)
  refine ⟨(a, b), ⟨h1, h3⟩, ?_⟩
  rw [ho] at h2
  have := h2.append h4
  rwa [← List.drop_drop, List.take_append_drop] at this
theorem opens_struct {fs : Array Field} {T : Type} {c : T → List Cl} {ok : T → Prop} (ht : P.underlying t = some (.struct fs)) (htot : total P fs.toList = P.cellsOf t) (h : OpensF P 0 fs.toList c ok) : Opens P t c ok := by
  intro H enc w base spare held fuel cs x hx
  obtain ⟨xs, n, _, _, hcs, hxs, hi⟩ := DataW.trod_struct ht hx
  obtain ⟨a, h1, h2⟩ := h enc w base spare held n cs (fun f hm => by
    obtain ⟨i, hi', hfi⟩ := List.getElem_of_mem hm
    have h1 := hi i f (by rw [← hfi]; simp)
    have h2 : xs[i]? = some (xs[i]'(by rw [hxs]; simpa using hi')) := List.getElem?_eq_getElem _
    exact ⟨_, h1.trans h2⟩) (by omega)
  exact ⟨a, h1, by simpa using h2⟩
theorem opens_array {n : Nat} {e : TypeId} {T : Type} {c : T → List Cl} {ok : T → Prop} (ht : P.underlying t = some (.array n e)) (htot : n * P.cellsOf e = P.cellsOf t) (h : Opens P e c ok) : Opens P t (fun xs : List T => xs.flatMap c) (fun xs => xs.length = n ∧ ∀ x ∈ xs, ok x) := by
  intro H enc w base spare held fuel cs x hx
  obtain ⟨xs, m, _, _, hcs, hxs, hi⟩ := DataW.trod_array ht hx
  have key : ∀ (k : Nat) (ds : List Value), ds.length = k * P.cellsOf e → (∀ i, i < k → ∃ y, DataW.trod enc P w base spare held m e ((ds.drop (i * P.cellsOf e)).take (P.cellsOf e)) = some y) → ∃ as : List T, (as.length = k ∧ ∀ x ∈ as, ok x) ∧ L2 (RC (MW w)) (as.flatMap c) ds := by
    intro k
    induction k with
    | zero =>
      intro ds hl _
      have : ds = [] := List.eq_nil_of_length_eq_zero (by omega)
      subst this
      exact ⟨[], ⟨rfl, fun x hx => by cases hx⟩, .nil⟩
    | succ k ih =>
      intro ds hl hd
      obtain ⟨y, hy⟩ := hd 0 (by omega)
      simp only [Nat.zero_mul, List.drop_zero] at hy
      obtain ⟨a, h1, h2⟩ := h enc w base spare held m _ _ hy
      obtain ⟨as, ⟨h3, h4⟩, h5⟩ := ih (ds.drop (P.cellsOf e)) (by rw [List.length_drop, hl, Nat.succ_mul]; omega) (fun i hi => by
        have := hd (i + 1) (by omega)
        rwa [Nat.succ_mul, Nat.add_comm, ← List.drop_drop] at this)
      refine ⟨a :: as, ⟨by simp [h3], fun x hx => ?_⟩, ?_⟩
      · rcases List.mem_cons.1 hx with rfl | hx
        · exact h1
        · exact h4 x hx
      · have := h2.append h5
        rwa [List.take_append_drop] at this
  exact key n cs (by omega) (fun i hi' => by
    have h1 := hi i hi'
    have h2 : xs[i]? = some (xs[i]'(by omega)) := List.getElem?_eq_getElem _
    exact ⟨_, h1.trans h2⟩)
theorem cells_get {w : World} {base : Nat} {a : Addr} {n : Nat} {ci : List Value} (h : w.cells? base a n = some ci) : ci.length = n ∧ ∀ j, j < n → w.cell? (a.add j) = ci[j]? := by
  unfold World.cells? at h
  split at h
  · exact ⟨by simpa using mapM_some_length h, fun j hj => mapM_some_get h j j (by simp [hj])⟩
  · cases h
theorem cell_spot {w : World} {a : Addr} {v : Value} (h : w.cell? a = some v) : a.spot = none ∧ cellM (MW w) a.block a.off = some v := by
  unfold World.cell? at h
  unfold cellM MW
  split at h
  · rename_i c t f hh
    rw [hh]
    split at h
    · cases h
    · rename_i hs; exact ⟨by simpa using hs, h⟩
  · cases h
/-- Where S is told, no string and no slice that was read is greater than the reach. -/
def SQ (S : Bool) (P : Program) (t : TypeId) {H : Type} (d : DataW H) : Prop := S = true → ∀ n ∈ d.weights P t, n ≤ reachBytes
theorem sq_no {P : Program} {t : TypeId} {H : Type} {d : DataW H} : SQ false P t d := fun h => by cases h
theorem weights_all {P : Program} {e : TypeId} {H : Type} {d : DataW H} : ∀ {l : List (DataW H)}, d ∈ l → ∀ n ∈ d.weights P e, n ∈ DataW.weightsAll P e l
  | [], h, _, _ => by cases h
  | x :: l, h, n, hn => by
    simp only [DataW.weightsAll, List.mem_append]
    rcases List.mem_cons.1 h with rfl | h
    · exact .inl hn
    · exact .inr (weights_all h n hn)
theorem sq_elem {S : Bool} {P : Program} {t e : TypeId} {H : Type} {elems spare : List (DataW H)} {d : DataW H} (ht : P.underlying t = some (.slice e)) (h : SQ S P t (.slice elems spare)) (hd : d ∈ elems) : SQ S P e d := fun hs n hn =>
  h hs n (by simp only [DataW.weights, ht, List.mem_cons, List.mem_append]; exact .inr (.inl (weights_all hd n hn)))
/-- The same at one depth of reading. -/
def OpensA (S : Bool) (fuel : Nat) (P : Program) (t : TypeId) {T : Type} (c : T → List Cl) (ok : T → Prop) : Prop :=
  ∀ {H : Type} (enc : TypeId × Value → H) (w : World) (base : Nat) (spare : Nat → Bool) (held : Bool) (cs : List Value) (x : DataW H × List MemPlace),
    DataW.trod enc P w base spare held fuel t cs = some x → SQ S P t x.1 → ∃ a : T, ok a ∧ L2 (RC (MW w)) (c a) cs
theorem opens_slice_at {S : Bool} {e : TypeId} {T : Type} [Inhabited T] {c : T → List Cl} {ok : T → Prop} (sz : Nat) (ht : P.underlying t = some (.slice e)) (hsz : P.cellsOf e = sz) (hpos : 0 < sz) (fuel : Nat) (h : ∀ n, fuel = n + 1 → OpensA S n P e c ok) : OpensA S fuel P t (fun xs : List T => [lst sz c xs]) (fun xs => xs.length ≤ maxLen ∧ ∀ x ∈ xs, ok x) := by
  subst hsz
  intro H enc w base spare held cs x hx hq
  rcases DataW.trod_slice ht hx with ⟨rfl, _⟩ | ⟨a, len, cap, elems, rest, n, hfu, rfl, hx2, _, hlc, hcm, hel, hi, _, _⟩
  · exact ⟨[], ⟨Nat.zero_le _, fun x hx => by cases hx⟩, .cons (show RC _ (.list false _ 0 _) _ from .nil _ _ _ rfl) .nil⟩
  · have hex : ∀ i, ∃ a' : T, i < len → ok a' ∧ ∃ ci, w.cells? base (a.add (i * P.cellsOf e)) (P.cellsOf e) = some ci ∧ L2 (RC (MW w)) (c a') ci := fun i => by
      by_cases hil : i < len
      · have h1 := hi i hil
        have h2 : elems[i]? = some (elems[i]'(by omega)) := List.getElem?_eq_getElem _
        rw [h2] at h1
        cases hci : w.cells? base (a.add (i * P.cellsOf e)) (P.cellsOf e) with
        | none => rw [hci] at h1; cases h1
        | some ci =>
          rw [hci] at h1
          obtain ⟨a', h3, h4⟩ := h n hfu enc w base spare held ci _ h1 (sq_elem ht (by rw [hx2] at hq; exact hq) (List.mem_map.2 ⟨_, List.getElem_mem _, rfl⟩))
          exact ⟨a', fun _ => ⟨h3, ci, rfl, h4⟩⟩
      · exact ⟨default, fun k => absurd k hil⟩
    let A : Nat → T := fun i => Classical.choose (hex i)
    have hA : ∀ i, i < len → ok (A i) ∧ ∃ ci, w.cells? base (a.add (i * P.cellsOf e)) (P.cellsOf e) = some ci ∧ L2 (RC (MW w)) (c (A i)) ci := fun i => Classical.choose_spec (hex i)
    refine ⟨(List.range len).map A, ⟨by simp; omega, fun x hx => ?_⟩, .cons ?_ .nil⟩
    · obtain ⟨i, hi, rfl⟩ := List.mem_map.1 hx
      exact (hA i (List.mem_range.1 hi)).1
    · unfold lst
      rw [List.length_map, List.length_range]
      by_cases hl0 : len = 0
      · subst hl0
        exact .mt _ _ _ _ _
      · have hsp : a.spot = none := by
          obtain ⟨_, ci, h1, _⟩ := hA 0 (by omega)
          obtain ⟨h2, h3⟩ := cells_get h1
          have h4 := h3 0 hpos
          have h5 : ci[0]? = some (ci[0]'(by omega)) := List.getElem?_eq_getElem _
          rw [h5] at h4
          have := (cell_spot h4).1
          simpa [Addr.add] using this
        obtain ⟨b, off, sp⟩ := a
        simp only at hsp
        subst hsp
        refine .list false _ _ _ b off cap (fun i j => ((w.cells? base (Addr.add ⟨b, off, none⟩ (i * P.cellsOf e)) (P.cellsOf e)).getD []).getD j undef) (fun i j hil hj => ?_) (fun i j hil hj => ?_) hlc
        · obtain ⟨_, ci, h1, _⟩ := hA i hil
          obtain ⟨h2, h3⟩ := cells_get h1
          have h4 := h3 j hj
          have h5 : ci[j]? = some (ci[j]'(by omega)) := List.getElem?_eq_getElem _
          rw [h5] at h4
          have h6 := (cell_spot h4).2
          rw [Addr.add_lit, Addr.add_lit] at h6
          rw [h1]
          simp only [Option.getD_some, List.getD_eq_getElem?_getD, h5]
          simpa [Nat.add_assoc] using h6
        · obtain ⟨_, ci, h1, h7⟩ := hA i hil
          obtain ⟨h2, _⟩ := cells_get h1
          have h5 : ci[j]? = some (ci[j]'(by omega)) := List.getElem?_eq_getElem _
          obtain ⟨k, h8, h9⟩ := h7.get' j _ h5
          have e1 : ((List.range len).map A).getD i default = A i := by
            rw [List.getD_eq_getElem?_getD]
            simp [hil]
          rw [e1, h1]
          simp only [Option.getD_some, List.getD_eq_getElem?_getD, h5, h8]
          exact h9
theorem opens_slice {e : TypeId} {T : Type} [Inhabited T] {c : T → List Cl} {ok : T → Prop} (sz : Nat) (ht : P.underlying t = some (.slice e)) (hsz : P.cellsOf e = sz) (hpos : 0 < sz) (h : Opens P e c ok) : Opens P t (fun xs : List T => [lst sz c xs]) (fun xs => xs.length ≤ maxLen ∧ ∀ x ∈ xs, ok x) :=
  fun enc w base spare held fuel cs x hx => opens_slice_at (S := false) sz ht hsz hpos fuel (fun n _ => fun enc w base spare held cs x hx _ => h enc w base spare held n cs x hx) enc w base spare held cs x hx sq_no
end

/-! ### Arguments -/
theorem L2_RC {M : Nat → Option Obj} {σ : Nat → Loc} {l : List Cl} {cs : List Value} (h : L2 (RC M) l cs) : L2 (R M σ) l cs := h.mono fun _ _ _ hc => RC_R hc
section
variable {H : Type} {enc : TypeId × Value → H} {P : Program} {W : World} {base b0 : Nat} {spare : Nat → Bool} {held : Bool} {r : Reach} {t : TypeId} {v : Value} {d : DataW H} {ps : List MemPlace}
theorem open_agg {T : Type} {c : T → List Cl} {ok : T → Prop} (ho : Opens P t c ok) (hs : (∃ fs, P.underlying t = some (.struct fs)) ∨ ∃ n e, P.underlying t = some (.array n e)) (hv : Value.okWide P W r b0 t v) (h : DataW.Trod enc P W base spare held t v d ps) : ∃ a : T, ok a ∧ ∀ σ, RA (MW W) σ (.agg (c a)) v := by
  have : ∃ cs, v = .agg cs := by
    rcases hs with ⟨fs, hs⟩ | ⟨n, e, hs⟩ <;> simp only [Value.okWide, hs] at hv <;> obtain ⟨cs, h1, _⟩ := hv <;> exact ⟨cs, h1⟩
  obtain ⟨⟨cs⟩, rfl⟩ := this
  obtain ⟨fuel, hx⟩ := h
  obtain ⟨a, h1, h2⟩ := ho enc W base spare held fuel cs _ hx
  exact ⟨a, h1, fun σ => ⟨cs, rfl, L2_RC h2⟩⟩
theorem open_one {T : Type} {k : T → Cl} {ok : T → Prop} (ho : Opens P t (fun a => [k a]) ok) (hs : (∃ e, P.underlying t = some (.slice e)) ∨ (∃ e, P.underlying t = some (.int e)) ∨ P.underlying t = some .bool ∨ P.underlying t = some .string) (hv : Value.okWide P W r b0 t v) (h : DataW.Trod enc P W base spare held t v d ps) : ∃ a : T, ok a ∧ ∀ σ, RA (MW W) σ (.one (k a)) v := by
  have : v.cells.toList = [v] := by
    rcases hs with ⟨e, hs⟩ | ⟨e, hs⟩ | hs | hs
    · obtain ⟨p, l, c, rfl⟩ := okWide_slice hs hv; rfl
    · obtain ⟨n, rfl⟩ := okWide_int hs hv; rfl
    · obtain ⟨n, rfl⟩ := okWide_bool hs hv; rfl
    · obtain ⟨n, rfl⟩ := okWide_string hs hv; rfl
  obtain ⟨fuel, hx⟩ := h
  rw [this] at hx
  obtain ⟨a, h1, h2⟩ := ho enc W base spare held fuel _ _ hx
  refine ⟨a, h1, fun σ => ?_⟩
  cases h2 with | cons h3 _ => exact RC_R h3
theorem trodAll_kept (hl : laidOutB P = true) {W W' : World} (hb : Below W.heap.size W W') : ∀ (ts : List TypeId) (vs : List Value) (ds : List (DataW H)) (ps : List MemPlace), (∀ t ∈ ts, P.readableRec t = true ∧ t < P.types.size) →
    DataW.TrodAll enc P W 0 (fun _ => true) true ts vs ds ps → (∀ x ∈ ps, x.block < W.heap.size) → ∀ sp : Nat → Bool, (∀ x ∈ ps, sp x.block = true) → DataW.TrodAll enc P W' 0 sp true ts vs ds ps
  | [], [], [], ps, _, h, _, _, _ => h
  | [], [], _ :: _, _, _, h, _, _, _ => h.elim
  | [], _ :: _, _, _, _, h, _, _, _ => by cases h
  | _ :: _, [], _, _, _, h, _, _, _ => by cases h
  | _ :: _, _ :: _, [], _, _, h, _, _, _ => h.elim
  | t :: ts, v :: vs, d :: ds, ps, hr, h, hlt, sp, hsp => by
    obtain ⟨p, q, h1, h2, rfl⟩ := h
    have hr1 := hr t (List.mem_cons_self ..)
    exact ⟨p, q, WideElems.Trod_stays hl hr1.1 hr1.2 h1 (fun x hx => hb.same (hlt x (List.mem_append_left _ hx))) (fun x hx => hsp x (List.mem_append_left _ hx)),
      trodAll_kept hl hb ts vs ds q (fun t' ht => hr t' (List.mem_cons_of_mem _ ht)) h2 (fun x hx => hlt x (List.mem_append_right _ hx)) sp (fun x hx => hsp x (List.mem_append_right _ hx)), rfl⟩
/-- The row's last step for a law: it returns true, and has only made memory. -/
theorem law_post {f : Func} {s : ChangeSpec} {W W' : World} {args : Array Value} {ds gs : List (DataW H)} {before : List MemPlace} {tb : TypeId}
    (hW : DataW.Whole enc P f.params.toList s.vars false W args.toList ds gs before) (hvars : s.vars = []) (hspec : s.fn H (ds ++ []) = { results := [.lit (.bool true)], args := ds })
    (hl : laidOutB P = true) (hr : ∀ t ∈ f.params.toList, P.readableRec t = true ∧ t < P.types.size) (hres : f.resultTypes = #[tb]) (htb : P.underlying tb = some .bool) (hb : Below W.heap.size W W') :
    s.post enc P f false true false false W args (.bool true) W' := by
  have hlt : ∀ p ∈ before, p.block < W.heap.size := fun p hp => hW.lt p hp
  have hW' := hW
  obtain ⟨p, q, hA, hV, rfl, hz, hn⟩ := hW
  rw [hvars] at hV
  obtain ⟨rfl, rfl⟩ := trodVars_none hV
  refine ⟨ds, [], p ++ [], [], p, [], hW', ?_, ?_, ?_, World.keptBut_mono (fun x hx => ⟨hx, ?_⟩) (hb.frame (· ∈ p ++ [])), fun h => by cases h⟩
  · rw [hspec, hres]
    exact trodAll_cons_mk (shut_bool htb true) trodAll_mk0
  · rw [hspec]
    exact trodAll_kept hl hb _ _ _ _ hr hA (fun x hx => hlt x (List.mem_append_left _ hx)) _ (fun x hx => by simpa using hlt x (List.mem_append_left _ hx))
  · rw [hspec, hvars]
    exact rfl
  · rw [List.mem_append] at hx
    exact Or.inr (by simpa using hx)
theorem law_of_pure {f : FuncId} {xs : List Av} {args : List Value} {ans : Bool} (h : Pure P f xs (.av (.one (.b ans)))) (ha : ans = true) (hx : L2 (fun x v => ∀ σ, RA (MW W) σ x v) xs args) : Calls P f args.toArray W fun e W' => e = .returned (.bool true) ∧ Below W.heap.size W W' := by
  subst ha
  refine (h (MW W) (fun _ => ⟨0, 0, false⟩) W args (fun _ _ h => h) (hx.mono fun _ _ _ h => h _)).mono ?_
  rintro en w' ⟨U, rfl, M', hk, hR⟩
  have : U = .bool true := (hR (fun _ => ⟨0, 0, false⟩)).1
  subst this
  exact ⟨rfl, hk.os, hk.tape, hk.output, hk.size, fun b hb => hk.old b hb (fun h => h)⟩
theorem wf64 {n : Int} (h : WF .i64 n) : -9223372036854775808 ≤ n ∧ n ≤ 9223372036854775807 := bounds_i64 h
theorem maxLen_i {n : Nat} (h : n ≤ maxLen) : (n : Int) ≤ 9223372036854775807 := by
  have : maxLen ≤ 9223372036854775807 := by decide
  omega
end
end Go.Proofs.Ytgmhnkoifdpemaa
