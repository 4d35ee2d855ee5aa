/-
  No statement is proved in this text. It holds the rule for a region that draws its order.
-/
import Derived.Test.YtgmhnkoifdpemaaS13
namespace Go.Proofs.Ytgmhnkoifdpemaa
open Go.RowKit
set_option linter.unusedSimpArgs false
set_option linter.unusedVariables false

section
variable {P : Program} {V : Env P} {rd : Option Nat} {N : Nat} {W0 : World} {X : Nat → Option Loc} {M0 : Nat → Option Obj} {l : List Oper} {s0 : AS}

def AgT (l : List Oper) (L : Array Bool) (x k : Nat) : Prop := ∀ j o, l[j]? = some o → o.dst = some x → (L.getD j false = true ↔ j < k)
def AgH (P : Program) (V : Env P) (N : Nat) (l : List Oper) (s0 : AS) (L : Array Bool) (m k : Nat) : Prop := ∀ j o, l[j]? = some o → m ∈ footW P V o (stN P V N l s0 j) → (L.getD j false = true ↔ j < k)

/-- All steps of the text's order go well. -/
def RunsOk (P : Program) (V : Env P) (N : Nat) (l : List Oper) (s0 : AS) : Prop := ∀ (j : Nat) o, l[j]? = some o → ∃ ds, step1 P V N l.toArray o (stN P V N l s0 j) = some (ds, stN P V N l s0 (j + 1)) ∧ AllP ds
theorem stay_t (h : RunsOk P V N l s0) {x : Nat} : ∀ (d i k : Nat), k = i + d → k ≤ l.length → (∀ (j : Nat) o, i ≤ j → j < k → l[j]? = some o → o.dst ≠ some x) → get (stN P V N l s0 k).t x = get (stN P V N l s0 i).t x
  | 0, i, k, hk, _, _ => by subst hk; rfl
  | d + 1, i, k, hk, hkl, hno => by
    subst hk
    have hlt : i + d < l.length := by omega
    obtain ⟨ds, hst, _⟩ := h (i + d) _ (List.getElem?_eq_getElem hlt)
    have hf := congrFun (step_frame hst).1 x
    rw [show i + (d + 1) = i + d + 1 by omega, hf, if_neg (hno (i + d) _ (by omega) (by omega) (List.getElem?_eq_getElem hlt))]
    exact stay_t h d i (i + d) rfl (by omega) fun j o h1 h2 h3 => hno j o h1 (by omega) h3
theorem stay_h (h : RunsOk P V N l s0) {m : Nat} : ∀ (d i k : Nat), k = i + d → k ≤ l.length → (∀ (j : Nat) o, i ≤ j → j < k → l[j]? = some o → m ∉ footW P V o (stN P V N l s0 j)) → get (stN P V N l s0 k).h m = get (stN P V N l s0 i).h m
  | 0, i, k, hk, _, _ => by subst hk; rfl
  | d + 1, i, k, hk, hkl, hno => by
    subst hk
    have hlt : i + d < l.length := by omega
    obtain ⟨ds, hst, _⟩ := h (i + d) _ (List.getElem?_eq_getElem hlt)
    have hf := congrFun (step_frame hst).2 m
    rw [show i + (d + 1) = i + d + 1 by omega, hf, if_neg (hno (i + d) _ (by omega) (by omega) (List.getElem?_eq_getElem hlt))]
    exact stay_h h d i (i + d) rfl (by omega) fun j o h1 h2 h3 => hno j o h1 (by omega) h3
theorem same_t (h : RunsOk P V N l s0) {L : Array Bool} {x k i : Nat} (hk : k ≤ l.length) (hi : i ≤ l.length) (h1 : AgT l L x k) (h2 : AgT l L x i) : get (stN P V N l s0 k).t x = get (stN P V N l s0 i).t x := by
  rcases Nat.le_total k i with hle | hle
  · exact (stay_t h (i - k) k i (by omega) hi fun j o a b c d => by have := (h1 j o c d).symm.trans (h2 j o c d); omega).symm
  · exact stay_t h (k - i) i k (by omega) hk fun j o a b c d => by have := (h1 j o c d).symm.trans (h2 j o c d); omega
theorem same_h (h : RunsOk P V N l s0) {L : Array Bool} {m k i : Nat} (hk : k ≤ l.length) (hi : i ≤ l.length) (h1 : AgH P V N l s0 L m k) (h2 : AgH P V N l s0 L m i) : get (stN P V N l s0 k).h m = get (stN P V N l s0 i).h m := by
  rcases Nat.le_total k i with hle | hle
  · exact (stay_h h (i - k) k i (by omega) hi fun j o a b c d => by have := (h1 j o c d).symm.trans (h2 j o c d); omega).symm
  · exact stay_h h (k - i) i k (by omega) hk fun j o a b c d => by have := (h1 j o c d).symm.trans (h2 j o c d); omega
/-- Where a slot's value comes from. -/
theorem from_t (h : RunsOk P V N l s0) {x : Nat} {v : Tv} : ∀ k, k ≤ l.length → get (stN P V N l s0 k).t x = some v → get s0.t x = some v ∨ ∃ (j : Nat) (o : Oper), j < k ∧ l[j]? = some o ∧ o.dst = some x ∧ get (stN P V N l s0 (j + 1)).t x = some v
  | 0, _, hv => .inl hv
  | k + 1, hk, hv => by
    have hlt : k < l.length := by omega
    obtain ⟨ds, hst, _⟩ := h k _ (List.getElem?_eq_getElem hlt)
    have hf := congrFun (step_frame hst).1 x
    by_cases hd : l[k].dst = some x
    · exact .inr ⟨k, _, by omega, List.getElem?_eq_getElem hlt, hd, hv⟩
    · rw [hf, if_neg hd] at hv
      rcases from_t h k (by omega) hv with h' | ⟨j, o, h1, h2⟩
      · exact .inl h'
      · exact .inr ⟨j, o, by omega, h2⟩
theorem from_h (h : RunsOk P V N l s0) {m : Nat} {b : Blk} : ∀ k, k ≤ l.length → get (stN P V N l s0 k).h m = some b → get s0.h m = some b ∨ ∃ (j : Nat) (o : Oper), j < k ∧ l[j]? = some o ∧ m ∈ footW P V o (stN P V N l s0 j) ∧ get (stN P V N l s0 (j + 1)).h m = some b
  | 0, _, hv => .inl hv
  | k + 1, hk, hv => by
    have hlt : k < l.length := by omega
    obtain ⟨ds, hst, _⟩ := h k _ (List.getElem?_eq_getElem hlt)
    have hf := congrFun (step_frame hst).2 m
    by_cases hd : m ∈ footW P V l[k] (stN P V N l s0 k)
    · exact .inr ⟨k, _, by omega, List.getElem?_eq_getElem hlt, hd, hv⟩
    · rw [hf, if_neg hd] at hv
      rcases from_h h k (by omega) hv with h' | ⟨j, o, h1, h2⟩
      · exact .inl h'
      · exact .inr ⟨j, o, by omega, h2⟩

/-- What the check says. -/
structure Ordered (P : Program) (V : Env P) (N : Nat) (l : List Oper) (s0 : AS) (A : Nat → Nat → Prop) : Prop where
  tt : ∀ (i j : Nat) oi oj, l[i]? = some oi → l[j]? = some oj → i < j → ∀ d, oi.dst = some d → d ∈ oj.looksAt l.toArray ∨ oj.dst = some d → A j i
  tr : ∀ (i j : Nat) oi oj, l[i]? = some oi → l[j]? = some oj → i < j → ∀ d, oj.dst = some d → d ∈ oi.looksAt l.toArray → A j i
  hh : ∀ (i j : Nat) oi oj, l[i]? = some oi → l[j]? = some oj → i < j → ∀ n, n ∈ footW P V oi (stN P V N l s0 i) → n ∈ footH P V l.toArray oj (stN P V N l s0 j) ∨ n ∈ footW P V oj (stN P V N l s0 j) → A j i
  hr : ∀ (i j : Nat) oi oj, l[i]? = some oi → l[j]? = some oj → i < j → ∀ n, n ∈ footW P V oj (stN P V N l s0 j) → n ∈ footH P V l.toArray oi (stN P V N l s0 i) → A j i
  new0 : ∀ (i : Nat) oi, l[i]? = some oi → isNew P V oi (stN P V N l s0 i) = true → ∀ d, oi.dst = some d → Fresh (get s0.t) (get s0.h) d
  newT : ∀ (i j : Nat) oi oj, l[i]? = some oi → l[j]? = some oj → i ≠ j → isNew P V oi (stN P V N l s0 i) = true → ∀ d, oi.dst = some d → A j i ∨ ((∀ x v, oj.dst = some x → get (stN P V N l s0 (j + 1)).t x = some v → v.no d = true) ∧ ∀ n b, n ∈ footW P V oj (stN P V N l s0 j) → get (stN P V N l s0 (j + 1)).h n = some b → n ≠ d ∧ b.no d = true)

theorem ordered_of (hb : drawB P V N l s0 = true) : backB l = true ∧ Ordered P V N l s0 (fun j i => ((masks l []).getD j 0).testBit i = true) := by
  unfold drawB at hb
  split at hb
  · rename_i R hR
    simp only [Bool.and_eq_true] at hb
    obtain ⟨⟨hback, hp⟩, hn⟩ := hb
    obtain ⟨hlen, hget⟩ := recs_get (V := V) (s0 := s0) l 0 R (fun j => by rw [Nat.zero_add]) hR
    simp only [Nat.zero_add] at hget
    have pair : ∀ (i j : Nat) oi oj, l[i]? = some oi → l[j]? = some oj → ((Nat.ble j i || !conf (recOf P V l.toArray oi (stN P V N l s0 i) (stN P V N l s0 (i + 1))) (recOf P V l.toArray oj (stN P V N l s0 j) (stN P V N l s0 (j + 1))) || ((masks l []).getD j 0).testBit i) = true ∧
        (Nat.beq i j || !isNew P V oi (stN P V N l s0 i) || ((masks l []).getD j 0).testBit i || (match oi.dst with | some d => (recOf P V l.toArray oj (stN P V N l s0 j) (stN P V N l s0 (j + 1))).out d | none => true)) = true) := fun i j oi oj hi hj => by
      have h1 := (List.all_eq_true.1 hp) (_, j) (List.mem_zipIdx_iff_getElem?.2 (by simpa using hget j oj hj))
      have h2 := (List.all_eq_true.1 h1) (_, i) (List.mem_zipIdx_iff_getElem?.2 (by simpa using hget i oi hi))
      simp only [Bool.and_eq_true] at h2
      exact h2
    have nle : ∀ {i j : Nat}, i < j → Nat.ble j i = false := fun {i j} h => by
      cases hq : Nat.ble j i with
      | false => rfl
      | true => have := Nat.le_of_ble_eq_true hq; omega
    have cf : ∀ (i j : Nat) oi oj, l[i]? = some oi → l[j]? = some oj → i < j → conf (recOf P V l.toArray oi (stN P V N l s0 i) (stN P V N l s0 (i + 1))) (recOf P V l.toArray oj (stN P V N l s0 j) (stN P V N l s0 (j + 1))) = true → ((masks l []).getD j 0).testBit i = true := fun i j oi oj hi hj hlt hc => by
      have := (pair i j oi oj hi hj).1
      rw [nle hlt, hc] at this
      simpa using this
    refine ⟨hback, ⟨fun i j oi oj hi hj hlt d hd hor => cf i j oi oj hi hj hlt ?_, fun i j oi oj hi hj hlt d hd hor => cf i j oi oj hi hj hlt ?_, fun i j oi oj hi hj hlt n hn hor => cf i j oi oj hi hj hlt ?_, fun i j oi oj hi hj hlt n hn hor => cf i j oi oj hi hj hlt ?_, fun i oi hi hnew d hd => ?_, fun i j oi oj hi hj hne hnew d hd => ?_⟩⟩
    · simp only [conf, recOf, hd]
      rcases hor with h | h
      · simp [memB_iff.2 h]
      · simp [h, Nat.beq_refl]
    · simp only [conf, recOf, hd]
      simp [memB_iff.2 hor]
    · have : ((footW P V oi (stN P V N l s0 i)).any fun n => memB (footH P V l.toArray oj (stN P V N l s0 j)) n || memB (footW P V oj (stN P V N l s0 j)) n) = true := by
        rw [List.any_eq_true]
        refine ⟨n, hn, ?_⟩
        rcases hor with h | h
        · simp [memB_iff.2 h]
        · simp [memB_iff.2 h]
      simp only [conf, recOf, this]
      simp
    · have : ((footW P V oj (stN P V N l s0 j)).any fun n => memB (footH P V l.toArray oi (stN P V N l s0 i)) n) = true := by
        rw [List.any_eq_true]
        exact ⟨n, hn, memB_iff.2 hor⟩
      simp only [conf, recOf, this]
      simp
    · have h1 := (List.all_eq_true.1 hn) _ (List.mem_of_getElem? (hget i oi hi))
      simp only [recOf, hnew, Bool.not_true, Bool.false_or, hd] at h1
      exact fresh_of h1
    · have h1 := (pair i j oi oj hi hj).2
      have hbn : Nat.beq i j = false := by rw [beqN]; simp [hne]
      simp only [hbn, hnew, hd, Bool.not_true, Bool.false_or, Bool.or_eq_true] at h1
      rcases h1 with h1 | h1
      · exact .inl h1
      · refine .inr ?_
        simp only [recOf, Bool.and_eq_true] at h1
        refine ⟨fun x v hx hv => ?_, fun n b hn hv => ?_⟩
        · have := h1.1
          simp only [hx, hv] at this
          exact this
        · have := (List.all_eq_true.1 h1.2) n hn
          simp only [hv, Bool.and_eq_true] at this
          exact ⟨beq_ne this.2, this.1⟩
  · cases hb

theorem countP_lt {α : Type} {p q : α → Bool} : ∀ {l : List α}, (∀ x ∈ l, p x = true → q x = true) → ∀ {y : α}, y ∈ l → q y = true → p y = false → l.countP p < l.countP q
  | [], _, _, hy, _, _ => by cases hy
  | x :: l, h, y, hy, hq, hp => by
    have hle : l.countP p ≤ l.countP q := List.countP_mono_left fun z hz => h z (by simp [hz])
    rw [List.countP_cons, List.countP_cons]
    rcases List.mem_cons.1 hy with rfl | hy
    · simp [hq, hp]; omega
    · have := countP_lt (fun z hz => h z (by simp [hz])) hy hq hp
      have hx : (if p x = true then 1 else 0) ≤ (if q x = true then 1 else 0) := by
        by_cases hpx : p x = true
        · simp [hpx, h x (by simp) hpx]
        · simp [hpx]
      omega
/-- The run stands as the set L of done operations says. -/
def InvL (P : Program) (V : Env P) (N : Nat) (W0 : World) (X : Nat → Option Loc) (M0 : Nat → Option Obj) (l : List Oper) (s0 : AS) (L : Array Bool) (a : Act) (w : World) : Prop :=
  ∃ M σ T H, Sim N W0 X M0 M σ T H a w ∧ (∀ x, ∃ k, k ≤ l.length ∧ AgT l L x k ∧ T x = get (stN P V N l s0 k).t x) ∧ ∀ m, ∃ k, k ≤ l.length ∧ AgH P V N l s0 L m k ∧ H m = get (stN P V N l s0 k).h m

theorem draw_step (hV : EnvOk P V) (hrun : RunsOk P V N l s0) (hback : backB l = true) (hord : Ordered P V N l s0 (fun j i => ((masks l []).getD j 0).testBit i = true)) {L : Array Bool} (hsz : l.length ≤ L.size) (hcl : Closed l L) {a : Act} {w : World} (hinv : InvL P V N W0 X M0 l s0 L a w) {i : Nat} {o : Oper} (ho : l[i]? = some o) (hun : L.getD i false = false) (hpre : ∀ e ∈ o.after, Region.binds .any e = true → L.getD e.on false = true)
    {K : Act → World → Prop} {Q : Exit → Act → World → Prop} (hK : ∀ a' w', InvL P V N W0 X M0 l s0 (L.setIfInBounds i true) a' w' → K a' w') : if Region.wanted o (yielded l.toArray a.tmps) then o.wpIn (FW rd) 0 P a w K Q else (∀ f, o.about P w a.eval = some f → (FW rd).fn f) ∧ K (a.put o.dst undef) w := by
  obtain ⟨M, σ, T, H, hs, hT, hH⟩ := hinv
  have hil : i < l.length := (List.getElem?_eq_some_iff.1 ho).1
  obtain ⟨ds, hst, hds⟩ := hrun i o ho
  have anc : ∀ j, ((masks l []).getD i 0).testBit j = true → L.getD j false = true ∧ j < i := fun j hj => closed_anc hback hcl (i + 1) i (by omega) o ho hpre j hj
  -- an operation that is done, or that comes behind
  have notdone : ∀ j oj, l[j]? = some oj → ((masks l []).getD j 0).testBit i = true → L.getD j false = false := fun j oj hj hbit => by
    cases hd : L.getD j false with
    | false => rfl
    | true =>
      have := closed_anc hback hcl (j + 1) j (by omega) oj hj (hcl j oj hj hd) i hbit
      rw [hun] at this; cases this.1
  have set_get : ∀ j, (L.setIfInBounds i true).getD j false = true ↔ (j = i ∨ L.getD j false = true) := fun j => by
    by_cases hji : i = j
    · subst hji; simp [show i < L.size by omega]
    · rw [getD_set_ne false hji]; simp [Ne.symm hji]
  -- the reads
  have agT : ∀ x, (∀ j oj, l[j]? = some oj → oj.dst = some x → j < i → ((masks l []).getD i 0).testBit j = true) → (∀ j oj, l[j]? = some oj → oj.dst = some x → i < j → ((masks l []).getD j 0).testBit i = true) → AgT l L x i := fun x h1 h2 j oj hj hd => by
    constructor
    · intro hdone
      rcases Nat.lt_trichotomy j i with h | h | h
      · exact h
      · subst h; rw [hun] at hdone; cases hdone
      · have := notdone j oj hj (h2 j oj hj hd h); rw [hdone] at this; cases this
    · intro hlt; exact (anc j (h1 j oj hj hd hlt)).1
  have agH : ∀ m, (∀ j oj, l[j]? = some oj → m ∈ footW P V oj (stN P V N l s0 j) → j < i → ((masks l []).getD i 0).testBit j = true) → (∀ j oj, l[j]? = some oj → m ∈ footW P V oj (stN P V N l s0 j) → i < j → ((masks l []).getD j 0).testBit i = true) → AgH P V N l s0 L m i := fun x h1 h2 j oj hj hd => by
    constructor
    · intro hdone
      rcases Nat.lt_trichotomy j i with h | h | h
      · exact h
      · subst h; rw [hun] at hdone; cases hdone
      · have := notdone j oj hj (h2 j oj hj hd h); rw [hdone] at this; cases this
    · intro hlt; exact (anc j (h1 j oj hj hd hlt)).1
  have readT : ∀ x ∈ o.looksAt l.toArray, T x = get (stN P V N l s0 i).t x := fun x hx => by
    obtain ⟨k, hk, hag, he⟩ := hT x
    rw [he]
    exact same_t hrun hk (by omega) hag (agT x (fun j oj hj hd hlt => hord.tt j i oj o hj ho hlt x hd (.inl hx)) (fun j oj hj hd hlt => hord.tr i j o oj ho hj hlt x hd hx))
  have readH : ∀ m ∈ footH P V l.toArray o (stN P V N l s0 i), H m = get (stN P V N l s0 i).h m := fun m hm => by
    obtain ⟨k, hk, hag, he⟩ := hH m
    rw [he]
    exact same_h hrun hk (by omega) hag (agH m (fun j oj hj hd hlt => hord.hh j i oj o hj ho hlt m hd (.inl hm)) (fun j oj hj hd hlt => hord.hr i j o oj ho hj hlt m hd hm))
  have hfresh : isNew P V o (stN P V N l s0 i) = true → ∀ d, o.dst = some d → Fresh T H d := fun hn d hd => by
    have h0 := hord.new0 i o ho hn d hd
    have notA : ∀ j, L.getD j false = true → ∀ oj, l[j]? = some oj → ¬ ((masks l []).getD j 0).testBit i = true := fun j hj oj hoj hb => by
      have := notdone j oj hoj hb; rw [hj] at this; cases this
    refine ⟨fun x v hv => ?_, fun m b hb => ?_⟩
    · obtain ⟨k, hk, hag, he⟩ := hT x
      rw [he] at hv
      rcases from_t hrun k hk hv with h | ⟨j, oj, hjk, hj, hjd, hjv⟩
      · exact h0.1 x v h
      · have hdone := (hag j oj hj hjd).2 hjk
        have hne : i ≠ j := fun e => by subst e; rw [hun] at hdone; cases hdone
        rcases hord.newT i j o oj ho hj hne hn d hd with h | h
        · exact absurd h (notA j hdone oj hj)
        · exact h.1 x v hjd hjv
    · obtain ⟨k, hk, hag, he⟩ := hH m
      rw [he] at hb
      rcases from_h hrun k hk hb with h | ⟨j, oj, hjk, hj, hjd, hjv⟩
      · exact h0.2 m b h
      · have hdone := (hag j oj hj hjd).2 hjk
        have hne : i ≠ j := fun e => by subst e; rw [hun] at hdone; cases hdone
        rcases hord.newT i j o oj ho hj hne hn d hd with h | h
        · exact absurd h (notA j hdone oj hj)
        · exact h.2 m b hjd hjv
  refine step_any hV hst hds hs readT readH hfresh fun M' σ' a' w' hs' => hK a' w' ⟨M', σ', _, _, hs', fun x => ?_, fun m => ?_⟩
  · by_cases hx : o.dst = some x
    · simp only [hx, if_true]
      refine ⟨i + 1, by omega, fun j oj hj hd => ?_, rfl⟩
      rw [set_get]
      rcases Nat.lt_trichotomy j i with h | h | h
      · have := (anc j (hord.tt j i oj o hj ho h x hd (.inr hx))).1
        exact ⟨fun _ => by omega, fun _ => .inr this⟩
      · exact ⟨fun _ => by omega, fun _ => .inl h⟩
      · have := notdone j oj hj (hord.tt i j o oj ho hj h x hx (.inr hd))
        refine ⟨fun hh => ?_, fun hh => by omega⟩
        rcases hh with hh | hh
        · omega
        · rw [this] at hh; cases hh
    · simp only [hx, if_false]
      obtain ⟨k, hk, hag, he⟩ := hT x
      refine ⟨k, hk, fun j oj hj hd => ?_, he⟩
      rw [set_get]
      have hji : j ≠ i := fun e => by subst e; rw [ho] at hj; injection hj with hj; subst hj; exact hx hd
      simpa [hji] using hag j oj hj hd
  · by_cases hm : m ∈ footW P V o (stN P V N l s0 i)
    · simp only [hm, if_true]
      refine ⟨i + 1, by omega, fun j oj hj hd => ?_, rfl⟩
      rw [set_get]
      rcases Nat.lt_trichotomy j i with h | h | h
      · have := (anc j (hord.hh j i oj o hj ho h m hd (.inr hm))).1
        exact ⟨fun _ => by omega, fun _ => .inr this⟩
      · exact ⟨fun _ => by omega, fun _ => .inl h⟩
      · have := notdone j oj hj (hord.hh i j o oj ho hj h m hm (.inr hd))
        refine ⟨fun hh => ?_, fun hh => by omega⟩
        rcases hh with hh | hh
        · omega
        · rw [this] at hh; cases hh
    · simp only [hm, if_false]
      obtain ⟨k, hk, hag, he⟩ := hH m
      refine ⟨k, hk, fun j oj hj hd => ?_, he⟩
      rw [set_get]
      have hji : j ≠ i := fun e => by subst e; rw [ho] at hj; injection hj with hj; subst hj; exact hm hd
      simpa [hji] using hag j oj hj hd

theorem draw_any (hV : EnvOk P V) (hrun : RunsOk P V N l s0) (hback : backB l = true) (hord : Ordered P V N l s0 (fun j i => ((masks l []).getD j 0).testBit i = true)) {Q : Exit → Act → World → Prop} (hQ : ∀ M' σ' a' w', Sim N W0 X M0 M' σ' (get (stN P V N l s0 l.length).t) (get (stN P V N l s0 l.length).h) a' w' → Q .normal a' w') :
    ∀ (f : Nat) (L : Array Bool) (a : Act) (w : World), L.size = l.length → Closed l L → (List.range l.length).countP (fun j => !L.getD j false) ≤ f → InvL P V N W0 X M0 l s0 L a w → wpAnyIn (FW rd) 0 P .any l.toArray Q f L a w := by
  have hdone : ∀ (L : Array Bool) (a : Act) (w : World), L.size = l.length → Closed l L → Region.ready .any l.toArray L = [] → InvL P V N W0 X M0 l s0 L a w → Q .normal a w := by
    intro L a w hsz hcl hr hinv
    have all : ∀ n j, j < n → j < l.length → L.getD j false = true := by
      intro n
      induction n with
      | zero => intro j h; omega
      | succ n ih =>
        intro j hj hjl
        cases hd : L.getD j false with
        | true => rfl
        | false =>
          have ho := List.getElem?_eq_getElem hjl
          have : j ∈ Region.ready .any l.toArray L := by
            rw [mem_ready]
            refine ⟨?_, l[j], by simp, fun e he hb => ?_⟩
            · have hj' : j < L.size := by omega
              simp [hj'] at hd ⊢; exact hd
            · have h1 := (List.all_eq_true.1 hback) (l[j], j) (List.mem_zipIdx_iff_getElem?.2 (by simp))
              have h2 := (List.all_eq_true.1 h1) e (by simpa using he)
              simp only [hb, Bool.not_true, Bool.false_or] at h2
              have hlt := Nat.le_of_ble_eq_true h2
              exact ih e.on (by omega) (by omega)
          rw [hr] at this; cases this
    obtain ⟨M, σ, T, H, hs, hT, hH⟩ := hinv
    have eT : T = get (stN P V N l s0 l.length).t := by
      funext x
      obtain ⟨k, hk, hag, he⟩ := hT x
      rw [he]
      refine same_t hrun hk (Nat.le_refl _) hag fun j oj hj hd => ?_
      have hjl : j < l.length := (List.getElem?_eq_some_iff.1 hj).1
      exact ⟨fun _ => hjl, fun _ => all (j + 1) j (by omega) hjl⟩
    have eH : H = get (stN P V N l s0 l.length).h := by
      funext x
      obtain ⟨k, hk, hag, he⟩ := hH x
      rw [he]
      refine same_h hrun hk (Nat.le_refl _) hag fun j oj hj hd => ?_
      have hjl : j < l.length := (List.getElem?_eq_some_iff.1 hj).1
      exact ⟨fun _ => hjl, fun _ => all (j + 1) j (by omega) hjl⟩
    rw [eT, eH] at hs
    exact hQ M σ a w hs
  intro f
  induction f with
  | zero =>
    intro L a w hsz hcl hcnt hinv
    have hr : Region.ready .any l.toArray L = [] := by
      rw [List.eq_nil_iff_forall_not_mem]
      intro j hj
      rw [mem_ready] at hj
      obtain ⟨h1, o, ho, _⟩ := hj
      have hjl : j < l.length := by have := (List.getElem?_eq_some_iff.1 (by simpa using ho : l[j]? = some o)).1; exact this
      have h0 : (List.range l.length).countP (fun j => !L.getD j false) = 0 := by omega
      rw [List.countP_eq_zero] at h0
      have := h0 j (List.mem_range.2 hjl)
      have hj' : j < L.size := by omega
      simp [hj'] at h1 this
      rw [h1] at this; cases this
    exact ⟨hr, hdone L a w hsz hcl hr hinv⟩
  | succ f ih =>
    intro L a w hsz hcl hcnt hinv
    refine ⟨fun hr => hdone L a w hsz hcl hr hinv, fun i hi => ?_⟩
    rw [mem_ready] at hi
    obtain ⟨h1, o, ho, hpre⟩ := hi
    have ho' : l[i]? = some o := by simpa using ho
    have hil : i < l.length := (List.getElem?_eq_some_iff.1 ho').1
    have hun : L.getD i false = false := by
      have hi' : i < L.size := by omega
      simp [hi'] at h1 ⊢; exact h1
    unfold wpOpIn
    rw [ho]
    have hfin := draw_step (rd := rd) (a := a) (w := w) (Q := Q) (K := wpAnyIn (FW rd) 0 P .any l.toArray Q f (L.setIfInBounds i true)) hV hrun hback hord (Nat.le_of_eq hsz.symm) hcl hinv ho' hun hpre fun a' w' hinv' => by
      refine ih _ a' w' (by simp [hsz]) ?_ ?_ hinv'
      · intro j oj hj hd e he hb
        by_cases hji : j = i
        · subst hji
          rw [ho'] at hj; injection hj with hj; subst hj
          exact getD_set_true (hpre e he hb)
        · rw [getD_set_ne false (Ne.symm hji)] at hd
          exact getD_set_true (hcl j oj hj hd e he hb)
      · have hlt : (List.range l.length).countP (fun j => !(L.setIfInBounds i true).getD j false) < (List.range l.length).countP (fun j => !L.getD j false) := by
          refine countP_lt ?_ (List.mem_range.2 hil) ?_ ?_
          · intro j _ hj
            by_cases hji : i = j
            · subst hji; simp [show i < L.size by omega] at hj
            · rwa [getD_set_ne false hji] at hj
          · rw [hun]; rfl
          · simp [show i < L.size by omega]
        omega
    by_cases hw : Region.wanted o (yielded l.toArray a.tmps) = true
    · simp only [hw, if_true] at hfin ⊢
      exact hfin
    · simp only [hw] at hfin ⊢
      exact hfin
end

section
variable {P : Program} {V : Env P} {rd : Option Nat} {N : Nat} {W0 : World} {X : Nat → Option Loc} {M0 M : Nat → Option Obj} {σ : Nat → Loc} {w : World} {a : Act} {Q : Exit → AS → Prop} {s : AS}
theorem aw_draw (hm : P.follows .mixedOrders = true) {E : TypeId → Option (List Kd)} (hE : EqOk P ⟨fun _ => none, E, fun _ => false, fun _ => none⟩) {id : Nat} {l : List Oper} (ow : List Nat) (qs : List (Nat × (Bool × Nat))) (tbl : List (Nat × FuncId × List Av × Ef)) (ts ns : List Nat) (cs : List Prop) (S : AS) (htbl : TblOk P tbl) (hr : runK P ⟨getO tbl, E, memO ow, get qs⟩ N l ts ns s = some (cs, S)) (hd : drawB P ⟨getO tbl, E, memO ow, get qs⟩ N l s = true) (hc : AllP cs) (h : Q .normal S) : AWp P rd N W0 X M0 (.region id l.toArray true) Q s := by
  have hV := htbl.env (O := memO ow) (q := get qs) hE
  intro M σ a w hs
  unfold runK at hr
  split at hr
  · rename_i cs1 s1 h1
    simp only [Option.some.injEq, Prod.mk.injEq] at hr
    obtain ⟨rfl, rfl⟩ := hr
    obtain ⟨e1, hruns⟩ := stN_of_run (s0 := s) l 0 s s1 cs1 (fun j => by rw [Nat.zero_add]) rfl h1 hc
    simp only [Nat.zero_add] at e1 hruns
    obtain ⟨hback, hord⟩ := ordered_of hd
    have hrep : ∀ j, ¬ ((Array.replicate l.toArray.size false).getD j false = true) := fun j hh => by
      by_cases hj' : j < l.length
      · simp [hj'] at hh
      · simp [hj'] at hh
    have hs0 : Sim N W0 X M0 M σ (get s.t) (get s.h) a { w with drawn := w.drawn + 1 } := ⟨hs.os, hs.tape, hs.output, hs.size, hs.old, hs.sub, hs.new, hs.pin, hs.defers, hs.room, hs.tmps, hs.imm, fun n b hb => (hs.blk n b hb).mono (fun _ _ h => h) (fun _ _ => rfl) (fun _ => rfl), hs.loc, hs.inj⟩
    have hinv : InvL P ⟨getO tbl, E, memO ow, get qs⟩ N W0 X M0 l s (Array.replicate l.toArray.size false) a { w with drawn := w.drawn + 1 } :=
      ⟨M, σ, get s.t, get s.h, hs0, fun x => ⟨0, Nat.zero_le _, fun j o hj hd => ⟨fun hh => absurd hh (hrep j), fun hh => absurd hh (by omega)⟩, rfl⟩, fun m => ⟨0, Nat.zero_le _, fun j o hj hd => ⟨fun hh => absurd hh (hrep j), fun hh => absurd hh (by omega)⟩, rfl⟩⟩
    have hfin : ∀ M' σ' a' w', Sim N W0 X M0 M' σ' (get (stN P ⟨getO tbl, E, memO ow, get qs⟩ N l s l.length).t) (get (stN P ⟨getO tbl, E, memO ow, get qs⟩ N l s l.length).h) a' w' → ∃ s' M'' σ'', Q .normal s' ∧ Sim N W0 X M0 M'' σ'' (get s'.t) (get s'.h) a' w' := fun M' σ' a' w' hs' => by
      rw [← e1] at hs'
      exact ⟨_, M', σ', h, sim_keep hs' ts ns⟩
    refine wpIn_region_any hm ?_
    exact draw_any hV hruns hback hord (Q := fun e a' w' => ∃ s' M' σ', Q e s' ∧ Sim N W0 X M0 M' σ' (get s'.t) (get s'.h) a' w') hfin _ _ _ _ (by simp) (fun j o hj hd => absurd hd (hrep j)) (Nat.le_trans List.countP_le_length (by simp)) hinv
  · cases hr
end
end Go.Proofs.Ytgmhnkoifdpemaa
