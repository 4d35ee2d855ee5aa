/-
  No statement is proved in this text. It shows that both checks of shapes answer alike.
-/
import Derived.Test.YtgmhnkoifdpemaaGeo25
namespace Go.Proofs.Ytgmhnkoifdpemaa
open Go.RowKit
set_option linter.unusedVariables false
set_option linter.unusedSimpArgs false

theorem drop_cons' {α : Type} [Inhabited α] {l : List α} {k : Nat} (h : k < l.length) : l.drop k = l.getD k default :: l.drop (k + 1) := by
  rw [List.drop_eq_getElem_cons h, List.getD_eq_getElem?_getD, List.getElem?_eq_getElem h]
  rfl
theorem getD_mem' {α : Type} [Inhabited α] {l : List α} {k : Nat} (h : k < l.length) : l.getD k default ∈ l := by
  rw [List.getD_eq_getElem?_getD, List.getElem?_eq_getElem h]
  exact List.getElem_mem h
theorem mem_getD' {α : Type} [Inhabited α] {l : List α} {x : α} (h : x ∈ l) : ∃ k, k < l.length ∧ l.getD k default = x := by
  obtain ⟨k, hk, rfl⟩ := List.mem_iff_getElem.1 h
  exact ⟨k, hk, by rw [List.getD_eq_getElem?_getD, List.getElem?_eq_getElem hk]; rfl⟩

/-! ### Check -/
/-- The first fault of some edges. -/
def chk1 : List TEdge → Int
  | [] => 0
  | e :: l => if CheckM e = 0 then chk1 l else CheckM e
/-- Edges that follow each other meet; with the area's, also the last and the first one. -/
def Joined (s : TShape) : Prop := (∀ i, i + 1 < s.Edges.length → (s.Edges.getD i default).B = (s.Edges.getD (i + 1) default).A) ∧ (s.Kind = 2 → (s.Edges.getD (s.Edges.length - 1) default).B = (s.Edges.getD 0 default).A)
open Classical in
noncomputable def CheckMS (s : TShape) : Int :=
  if ¬ (s.Kind = 1 ∨ s.Kind = 2) ∨ s.Edges.length = 0 ∨ (s.Kind = 2 ∧ s.Edges.length < 2) then 12
  else if 40 < s.Edges.length then 2
  else if chk1 s.Edges ≠ 0 then chk1 s.Edges
  else if ¬ Joined s then 12
  else if (s.Kind = 2 ∧ s.R ≠ 0) ∨ s.R < 0 ∨ 4194304 < s.R then 3 else 0
theorem checkM_zero (e : TEdge) : CheckM e = 0 ↔ OkE e := by
  unfold CheckM
  by_cases h : OkE e
  · simp [h]
  · simp only [h, if_false, iff_false]; split <;> decide
theorem chk1_zero : ∀ (l : List TEdge), chk1 l = 0 ↔ ∀ e ∈ l, OkE e
  | [] => by simp [chk1]
  | e :: l => by
    unfold chk1
    by_cases h : CheckM e = 0
    · simp only [h, if_true, chk1_zero l, List.mem_cons, forall_eq_or_imp, (checkM_zero e).1 h, true_and]
    · simp only [h, if_false, List.mem_cons, forall_eq_or_imp, false_iff]
      exact fun hh => h ((checkM_zero e).2 hh.1)
def badJ (s : TShape) (x : Nat) : Bool := !(decide (((jnA s.Edges x).B).X = ((jnB s.Edges x).A).X) && (decide (((jnA s.Edges x).B).Y = ((jnB s.Edges x).A).Y) && true))
theorem badJ_eq (s : TShape) (x : Nat) : badJ s x = false ↔ (jnA s.Edges x).B = (jnB s.Edges x).A := by
  unfold badJ
  generalize (jnA s.Edges x).B = a
  generalize (jnB s.Edges x).A = b
  obtain ⟨a1, a2⟩ := a
  obtain ⟨b1, b2⟩ := b
  simp
def lastS (s : TShape) : Int := bif bif bif bif decide ((s.Kind : Int) = 2) then !decide ((s.R : Int) = 0) else false then true else decide ((s.R : Int) < 0) then true else decide ((4194304 : Int) < s.R) then (3) else (0)
theorem lastS_eq (s : TShape) : lastS s = if (s.Kind = 2 ∧ s.R ≠ 0) ∨ s.R < 0 ∨ 4194304 < s.R then 3 else 0 := by
  unfold lastS
  simp only [cnd_and, cnd_or]
  simp only [cnd_if, Bool.or_eq_true, Bool.and_eq_true, decide_eq_true_eq, Bool.not_eq_true', decide_eq_false_iff_not, or_assoc]
theorem r1_eq (s : TShape) (v : Int) (K : Int → Int) : ∀ m x, FCheckS_r1 s v K m x = if (List.range' x m).any (badJ s) then 12 else lastS s
  | 0, x => rfl
  | m + 1, x => by
    show (bif badJ s x then (12 : Int) else FCheckS_r1 s v K m (x + 1)) = _
    rw [r1_eq s v K m (x + 1), List.range'_succ, List.any_cons]
    cases badJ s x
    · simp only [Bool.false_or, cond_false]
    · simp only [Bool.true_or, cond_true, if_true]
theorem joined_any (s : TShape) (h : 1 ≤ s.Edges.length) : ((List.range' 0 (jnN s.Edges (decide (s.Kind = 2)))).any (badJ s) = false) ↔ Joined s := by
  rw [List.any_eq_false]
  have key : (∀ x ∈ List.range' 0 (jnN s.Edges (decide (s.Kind = 2))), ¬ badJ s x = true) ↔ ∀ x, x < jnN s.Edges (decide (s.Kind = 2)) → (jnA s.Edges x).B = (jnB s.Edges x).A := by
    constructor
    · intro hh x hx
      have := hh x (by simp; omega)
      exact (badJ_eq s x).1 (by simpa using this)
    · intro hh x hx
      have hx' : x < jnN s.Edges (decide (s.Kind = 2)) := by simpa using hx
      have := (badJ_eq s x).2 (hh x hx')
      simp [this]
  rw [key]
  unfold Joined jnN jnA jnB
  constructor
  · intro hh
    refine ⟨fun i hi => ?_, fun hk => ?_⟩
    · have := hh i (by omega)
      simpa only [hi, if_true] using this
    · have := hh (s.Edges.length - 1) (by simp [hk])
      simpa only [show ¬ s.Edges.length - 1 + 1 < s.Edges.length by omega, if_false] using this
  · rintro ⟨h1, h2⟩ x hx
    by_cases hi : x + 1 < s.Edges.length
    · simpa only [hi, if_true] using h1 x hi
    · have hk : s.Kind = 2 := by
        cases hd : decide (s.Kind = 2) with
        | true => exact of_decide_eq_true hd
        | false => rw [hd] at hx; simp only [cond_false] at hx; omega
      simpa only [hi, if_false] using h2 hk
open Classical in
theorem l0_eq (s : TShape) (h1 : 1 ≤ s.Edges.length) : ∀ n k : Nat, k ≤ s.Edges.length → s.Edges.length - k < n → FCheckS_l0 s n (k : Int) = if chk1 (s.Edges.drop k) ≠ 0 then chk1 (s.Edges.drop k) else if ¬ Joined s then 12 else lastS s
  | 0, k, hk, hn => by omega
  | n + 1, k, hk, hn => by
    unfold FCheckS_l0
    by_cases hlt : k < s.Edges.length
    · rw [decide_eq_true (show (k : Int) < (s.Edges.length : Int) by omega)]
      simp only [cond_true, Int.toNat_natCast]
      rw [drop_cons' hlt]
      simp only [chk1, check_eq]
      have ih := l0_eq s h1 n (k + 1) (by omega) (by omega)
      by_cases h0 : CheckM (s.Edges.getD k default) = 0
      · simp only [h0, if_true, decide_true, Bool.not_true, cond_false]
        rw [show ((k : Int) + 1) = ((k + 1 : Nat) : Int) by omega, ih]
      · simp only [h0, if_false, decide_false, Bool.not_false, cond_true, ne_eq, not_false_eq_true, if_true]
    · rw [decide_eq_false (show ¬ (k : Int) < (s.Edges.length : Int) by omega)]
      simp only [cond_false]
      rw [List.drop_of_length_le (by omega), chk1, r1_eq]
      have := joined_any s h1
      by_cases hj : Joined s
      · rw [this.2 hj]; simp [hj]
      · have hb : (List.range' 0 (jnN s.Edges (decide (s.Kind = 2)))).any (badJ s) = true := by
          cases hh : (List.range' 0 (jnN s.Edges (decide (s.Kind = 2)))).any (badJ s) with
          | true => rfl
          | false => exact absurd (this.1 hh) hj
        rw [hb]; simp [hj]
theorem checkS_eq (s : TShape) : FCheckS s = CheckMS s := by
  unfold FCheckS CheckMS
  by_cases hk1 : s.Kind = 1
  · simp only [hk1, decide_true, Bool.not_true, cond_false, true_or, not_true, false_or, show ¬ ((1 : Int) = 2) by decide, decide_false, false_and, or_false]
    by_cases h0 : s.Edges.length = 0
    · simp [h0]
    · simp only [show ¬ (s.Edges.length : Int) = 0 by omega, h0, decide_false, cond_false, if_false]
      by_cases h40 : 40 < s.Edges.length
      · simp only [show (40 : Int) < (s.Edges.length : Int) by omega, h40, decide_true, cond_true, if_true]
      · simp only [show ¬ (40 : Int) < (s.Edges.length : Int) by omega, h40, decide_false, cond_false, if_false]
        have := l0_eq s (by omega) (((s.Edges.length : Int) - 0).toNat + 1) 0 (by omega) (by omega)
        rw [show ((0 : Nat) : Int) = 0 from rfl] at this
        rw [this, List.drop_zero, lastS_eq]
        simp only [hk1, show ¬ ((1 : Int) = 2) by decide, false_and, false_or]
  · by_cases hk2 : s.Kind = 2
    · simp only [hk2, decide_true, Bool.not_true, cond_false, cond_true, or_true, not_true, false_or, true_and, show ¬ ((2 : Int) = 1) by decide, decide_false, Bool.not_false]
      by_cases h0 : s.Edges.length = 0
      · simp [h0]
      · simp only [show ¬ (s.Edges.length : Int) = 0 by omega, h0, decide_false, cond_false, if_false, false_or]
        by_cases h2 : s.Edges.length < 2
        · simp only [show (s.Edges.length : Int) < 2 by omega, h2, decide_true, cond_true, if_true]
        · simp only [show ¬ (s.Edges.length : Int) < 2 by omega, h2, decide_false, cond_false, if_false]
          by_cases h40 : 40 < s.Edges.length
          · simp only [show (40 : Int) < (s.Edges.length : Int) by omega, h40, decide_true, cond_true, if_true]
          · simp only [show ¬ (40 : Int) < (s.Edges.length : Int) by omega, h40, decide_false, cond_false, if_false]
            have := l0_eq s (by omega) (((s.Edges.length : Int) - 0).toNat + 1) 0 (by omega) (by omega)
            rw [show ((0 : Nat) : Int) = 0 from rfl] at this
            rw [this, List.drop_zero, lastS_eq]
            simp only [hk2, true_and]
    · simp [hk1, hk2]
/-- A valid shape. -/
def OkS (s : TShape) : Prop := ((s.Kind = 1 ∨ s.Kind = 2) ∧ (1 ≤ s.Edges.length ∧ s.Edges.length ≤ 40) ∧ (s.Kind = 2 → 2 ≤ s.Edges.length)) ∧ (∀ e ∈ s.Edges, OkE e) ∧ Joined s ∧ (0 ≤ s.R ∧ s.R ≤ 4194304) ∧ (s.Kind = 2 → s.R = 0)
theorem checkMS_zero (s : TShape) : CheckMS s = 0 ↔ OkS s := by
  unfold CheckMS OkS
  constructor
  · intro h
    split at h
    · cases h
    rename_i h1
    split at h
    · cases h
    rename_i h2
    split at h
    · rename_i h3; exact absurd h h3
    rename_i h3
    split at h
    · cases h
    rename_i h4
    split at h
    · cases h
    rename_i h5
    have hE := (chk1_zero _).1 (Decidable.not_not.1 h3)
    have hJ := Classical.not_not.1 h4
    refine ⟨⟨?_, ?_, ?_⟩, hE, hJ, ?_, ?_⟩ <;> omega
  · rintro ⟨⟨h1, h2, h3⟩, h4, h5, h6, h7⟩
    rw [if_neg (by omega), if_neg (by omega), if_neg (by have := (chk1_zero _).2 h4; omega), if_neg (fun h => h h5), if_neg (by omega)]

theorem chain_l0 (l : List TEdge) (hl : l.length ≤ 1000000) : ∀ n k : Nat, 1 ≤ k → l.length - k < n → (FchainR_l0 l n (k : Int) = true ↔ ∀ i, k ≤ i + 1 → i + 1 < l.length → (l.getD i default).B = (l.getD (i + 1) default).A)
  | 0, k, hk, hn => by omega
  | n + 1, k, hk, hn => by
    unfold FchainR_l0
    by_cases hlt : k < l.length
    · rw [decide_eq_true (show (k : Int) < (l.length : Int) by omega)]
      have e1 : (W64 ((k : Int) - 1)).toNat = k - 1 := by rw [W64_id (by omega) (by omega)]; omega
      simp only [cond_true, Int.toNat_natCast]
      rw [e1, show ((k : Int) + 1) = ((k + 1 : Nat) : Int) by omega]
      have ih := chain_l0 l hl n (k + 1) (by omega) (by omega)
      have eq : (decide (((l.getD k default).A).X = ((l.getD (k - 1) default).B).X) && (decide (((l.getD k default).A).Y = ((l.getD (k - 1) default).B).Y) && true)) = true ↔ (l.getD (k - 1) default).B = (l.getD k default).A := by
        rw [Bool.and_eq_true, Bool.and_eq_true, decide_eq_true_eq, decide_eq_true_eq]
        constructor
        · intro h
          generalize (l.getD (k - 1) default).B = u at *; generalize (l.getD k default).A = v at *
          cases u; cases v; simp only at h; rw [h.1, h.2.1]
        · intro h; rw [h]; exact ⟨rfl, rfl, rfl⟩
      cases hb : (decide (((l.getD k default).A).X = ((l.getD (k - 1) default).B).X) && (decide (((l.getD k default).A).Y = ((l.getD (k - 1) default).B).Y) && true)) with
      | true =>
        rw [hb] at eq
        simp only [Bool.not_true, cond_false]
        rw [ih]
        constructor
        · intro h i h1 h2
          by_cases q : i + 1 = k
          · have := eq.1 rfl
            rw [show k - 1 = i by omega] at this
            rw [q]; exact this
          · exact h i (by omega) h2
        · exact fun h i h1 h2 => h i (by omega) h2
      | false =>
        rw [hb] at eq
        simp only [Bool.not_false, cond_true, Bool.false_eq_true, false_iff]
        intro h
        have := h (k - 1) (by omega) (by omega)
        rw [show k - 1 + 1 = k by omega] at this
        exact absurd (eq.2 this) (by decide)
    · rw [decide_eq_false (show ¬ (k : Int) < (l.length : Int) by omega)]
      simp only [cond_false, true_iff]
      intro i h1 h2; omega
theorem chain_eq (l : List TEdge) (hl : l.length ≤ 1000000) : FchainR l = true ↔ ∀ i, i + 1 < l.length → (l.getD i default).B = (l.getD (i + 1) default).A := by
  unfold FchainR
  have := chain_l0 l hl ((((l.length : Int)) - 1).toNat + 1) 1 (Nat.le_refl _) (by omega)
  rw [show ((1 : Nat) : Int) = 1 from rfl] at this
  rw [this]
  exact ⟨fun h i h2 => h i (by omega) h2, fun h i _ h2 => h i h2⟩
open Classical in
theorem checkR_l0 (s : TShape) (hl : 1 ≤ s.Edges.length ∧ s.Edges.length ≤ 40) : ∀ n k : Nat, k ≤ s.Edges.length → s.Edges.length - k < n → FCheckR_l0 s n (k : Int) = if chk1 (s.Edges.drop k) ≠ 0 then chk1 (s.Edges.drop k) else if ¬ Joined s then 12 else lastS s
  | 0, k, hk, hn => by omega
  | n + 1, k, hk, hn => by
    unfold FCheckR_l0
    by_cases hlt : k < s.Edges.length
    · rw [decide_eq_true (show (k : Int) < (s.Edges.length : Int) by omega)]
      simp only [cond_true, Int.toNat_natCast]
      rw [drop_cons' hlt]
      simp only [chk1, check6_eq]
      have ih := checkR_l0 s hl n (k + 1) (by omega) (by omega)
      by_cases h0 : CheckM (s.Edges.getD k default) = 0
      · simp only [h0, if_true, decide_true, Bool.not_true, cond_false]
        rw [show ((k : Int) + 1) = ((k + 1 : Nat) : Int) by omega, ih]
      · simp only [h0, if_false, decide_false, Bool.not_false, cond_true, ne_eq, not_false_eq_true, if_true]
    · rw [decide_eq_false (show ¬ (k : Int) < (s.Edges.length : Int) by omega)]
      simp only [cond_false]
      rw [List.drop_of_length_le (by omega), chk1]
      have e1 : (W64 ((s.Edges.length : Int) - 1)).toNat = s.Edges.length - 1 := by rw [W64_id (by omega) (by omega)]; omega
      have hJ : (bif !(FchainR s.Edges) then true else bif decide ((s.Kind : Int) = 2) then !((decide ((((s.Edges.getD 0 default).A).X) = ((wCheckR_0 s).X)) && (decide ((((s.Edges.getD 0 default).A).Y) = ((wCheckR_0 s).Y)) && true))) else false) = false ↔ Joined s := by
        unfold wCheckR_0 Joined
        rw [e1, ← chain_eq s.Edges (by omega)]
        have eq : (decide (((s.Edges.getD 0 default).A).X = ((s.Edges.getD (s.Edges.length - 1) default).B).X) && (decide (((s.Edges.getD 0 default).A).Y = ((s.Edges.getD (s.Edges.length - 1) default).B).Y) && true)) = true ↔ (s.Edges.getD (s.Edges.length - 1) default).B = (s.Edges.getD 0 default).A := by
          rw [Bool.and_eq_true, Bool.and_eq_true, decide_eq_true_eq, decide_eq_true_eq]
          constructor
          · intro h
            generalize (s.Edges.getD (s.Edges.length - 1) default).B = u at *; generalize (s.Edges.getD 0 default).A = v at *
            cases u; cases v; simp only at h; rw [h.1, h.2.1]
          · intro h; rw [h]; exact ⟨rfl, rfl, rfl⟩
        rw [← eq]
        generalize (decide (((s.Edges.getD 0 default).A).X = ((s.Edges.getD (s.Edges.length - 1) default).B).X) && (decide (((s.Edges.getD 0 default).A).Y = ((s.Edges.getD (s.Edges.length - 1) default).B).Y) && true)) = g
        by_cases hk2 : s.Kind = 2
        · rw [decide_eq_true hk2]; simp only [hk2, true_implies]
          cases FchainR s.Edges <;> cases g <;> simp
        · rw [decide_eq_false hk2]; simp only [hk2, false_implies]
          cases FchainR s.Edges <;> cases g <;> simp
      by_cases hj : Joined s
      · rw [hJ.2 hj]; simp only [hj, cond_false, not_true, if_false, ne_eq]; rfl
      · cases hb : (bif !(FchainR s.Edges) then true else bif decide ((s.Kind : Int) = 2) then !((decide ((((s.Edges.getD 0 default).A).X) = ((wCheckR_0 s).X)) && (decide ((((s.Edges.getD 0 default).A).Y) = ((wCheckR_0 s).Y)) && true))) else false) with
        | false => exact absurd (hJ.1 hb) hj
        | true => simp only [hj, cond_true, not_false_eq_true, if_true, ne_eq, not_true, if_false]
theorem checkR_eq (s : TShape) : FCheckR s = FCheckS s := by
  rw [checkS_eq]
  unfold FCheckR CheckMS
  by_cases hk1 : s.Kind = 1
  · simp only [hk1, decide_true, cond_true, true_or, not_true, false_or, show ¬ ((1 : Int) = 2) by decide, decide_false, false_and, or_false]
    by_cases h0 : s.Edges.length = 0
    · simp [h0]
    · simp only [show ¬ (s.Edges.length : Int) < 1 by omega, h0, decide_false, cond_false, if_false]
      by_cases h40 : 40 < s.Edges.length
      · simp only [show (40 : Int) < (s.Edges.length : Int) by omega, h40, decide_true, cond_true, if_true]
      · simp only [show ¬ (40 : Int) < (s.Edges.length : Int) by omega, h40, decide_false, cond_false, if_false]
        have := checkR_l0 s (by omega) (((s.Edges.length : Int) - 0).toNat + 1) 0 (by omega) (by omega)
        rw [show ((0 : Nat) : Int) = 0 from rfl] at this
        rw [this, List.drop_zero, lastS_eq]
        simp only [hk1, show ¬ ((1 : Int) = 2) by decide, false_and, false_or]
  · by_cases hk2 : s.Kind = 2
    · simp only [hk2, decide_true, cond_true, or_true, not_true, false_or, true_and, show ¬ ((2 : Int) = 1) by decide, decide_false, cond_false]
      by_cases h2 : s.Edges.length < 2
      · simp only [show (s.Edges.length : Int) < 2 by omega, h2, decide_true, cond_true, if_true, or_true]
      · simp only [show ¬ (s.Edges.length : Int) < 2 by omega, show ¬ s.Edges.length = 0 by omega, h2, decide_false, cond_false, if_false, or_self]
        by_cases h40 : 40 < s.Edges.length
        · simp only [show (40 : Int) < (s.Edges.length : Int) by omega, h40, decide_true, cond_true, if_true]
        · simp only [show ¬ (40 : Int) < (s.Edges.length : Int) by omega, h40, decide_false, cond_false, if_false]
          have := checkR_l0 s (by omega) (((s.Edges.length : Int) - 0).toNat + 1) 0 (by omega) (by omega)
          rw [show ((0 : Nat) : Int) = 0 from rfl] at this
          rw [this, List.drop_zero, lastS_eq]
          simp only [hk2, true_and]
    · simp [hk1, hk2]

end Go.Proofs.Ytgmhnkoifdpemaa
