/-
  No statement is proved in this text. It holds what Check, Box and Inside of shapes say in plain words.
-/
import Derived.Test.YtpnlegfdkkcnlaaSha
namespace Go.Proofs.Ytpnlegfdkkcnlaa
open Go.RowKit
set_option linter.unusedVariables false
set_option linter.unusedSimpArgs false

/-! ### Lists by their numbers -/
theorem drop_cons' {α : Type} [Inhabited α] {l : List α} {k : Nat} (h : k < l.length) : l.drop k = l.getD k default :: l.drop (k + 1) := by
  rw [List.drop_eq_getElem_cons h, List.getD_eq_getElem?_getD, List.getElem?_eq_getElem h]
  rfl
theorem getD_mem' {α : Type} [Inhabited α] {l : List α} {k : Nat} (h : k < l.length) : l.getD k default ∈ l := by
  rw [List.getD_eq_getElem?_getD, List.getElem?_eq_getElem h]
  exact List.getElem_mem h
theorem mem_getD' {α : Type} [Inhabited α] {l : List α} {x : α} (h : x ∈ l) : ∃ k, k < l.length ∧ l.getD k default = x := by
  obtain ⟨k, hk, rfl⟩ := List.mem_iff_getElem.1 h
  exact ⟨k, hk, by rw [List.getD_eq_getElem?_getD, List.getElem?_eq_getElem hk]; rfl⟩

/-! ### Check -/
/-- The first fault of some edges. -/
def chk1 : List TEdge → Int
  | [] => 0
  | e :: l => if CheckM e = 0 then chk1 l else CheckM e
/-- Edges that follow each other meet; with the area's, also the last and the first one. -/
def Joined (s : TShape) : Prop := (∀ i, i + 1 < s.Edges.length → (s.Edges.getD i default).B = (s.Edges.getD (i + 1) default).A) ∧ (s.Kind = 2 → (s.Edges.getD (s.Edges.length - 1) default).B = (s.Edges.getD 0 default).A)
open Classical in
noncomputable def CheckMS (s : TShape) : Int :=
  if ¬ (s.Kind = 1 ∨ s.Kind = 2) ∨ s.Edges.length = 0 ∨ (s.Kind = 2 ∧ s.Edges.length < 2) then 12
  else if 40 < s.Edges.length then 2
  else if chk1 s.Edges ≠ 0 then chk1 s.Edges
  else if ¬ Joined s then 12
  else if (s.Kind = 2 ∧ s.R ≠ 0) ∨ s.R < 0 ∨ 4194304 < s.R then 3 else 0
theorem checkM_zero (e : TEdge) : CheckM e = 0 ↔ OkE e := by
  unfold CheckM
  by_cases h : OkE e
  · simp [h]
  · simp only [h, if_false, iff_false]; split <;> decide
theorem chk1_zero : ∀ (l : List TEdge), chk1 l = 0 ↔ ∀ e ∈ l, OkE e
  | [] => by simp [chk1]
  | e :: l => by
    unfold chk1
    by_cases h : CheckM e = 0
    · simp only [h, if_true, chk1_zero l, List.mem_cons, forall_eq_or_imp, (checkM_zero e).1 h, true_and]
    · simp only [h, if_false, List.mem_cons, forall_eq_or_imp, false_iff]
      exact fun hh => h ((checkM_zero e).2 hh.1)
def badJ (s : TShape) (x : Nat) : Bool := !(decide (((jnA s.Edges x).B).X = ((jnB s.Edges x).A).X) && (decide (((jnA s.Edges x).B).Y = ((jnB s.Edges x).A).Y) && true))
theorem badJ_eq (s : TShape) (x : Nat) : badJ s x = false ↔ (jnA s.Edges x).B = (jnB s.Edges x).A := by
  unfold badJ
  generalize (jnA s.Edges x).B = a
  generalize (jnB s.Edges x).A = b
  obtain ⟨a1, a2⟩ := a
  obtain ⟨b1, b2⟩ := b
  simp
def lastS (s : TShape) : Int := bif bif bif bif decide ((s.Kind : Int) = 2) then !decide ((s.R : Int) = 0) else false then true else decide ((s.R : Int) < 0) then true else decide ((4194304 : Int) < s.R) then (3) else (0)
theorem lastS_eq (s : TShape) : lastS s = if (s.Kind = 2 ∧ s.R ≠ 0) ∨ s.R < 0 ∨ 4194304 < s.R then 3 else 0 := by
  unfold lastS
  simp only [cnd_and, cnd_or]
  simp only [cnd_if, Bool.or_eq_true, Bool.and_eq_true, decide_eq_true_eq, Bool.not_eq_true', decide_eq_false_iff_not, or_assoc]
theorem r1_eq (s : TShape) (v : Int) (K : Int → Int) : ∀ m x, FCheckS_r1 s v K m x = if (List.range' x m).any (badJ s) then 12 else lastS s
  | 0, x => rfl
  | m + 1, x => by
    show (bif badJ s x then (12 : Int) else FCheckS_r1 s v K m (x + 1)) = _
    rw [r1_eq s v K m (x + 1), List.range'_succ, List.any_cons]
    cases badJ s x
    · simp only [Bool.false_or, cond_false]
    · simp only [Bool.true_or, cond_true, if_true]
theorem joined_any (s : TShape) (h : 1 ≤ s.Edges.length) : ((List.range' 0 (jnN s.Edges (decide (s.Kind = 2)))).any (badJ s) = false) ↔ Joined s := by
  rw [List.any_eq_false]
  have key : (∀ x ∈ List.range' 0 (jnN s.Edges (decide (s.Kind = 2))), ¬ badJ s x = true) ↔ ∀ x, x < jnN s.Edges (decide (s.Kind = 2)) → (jnA s.Edges x).B = (jnB s.Edges x).A := by
    constructor
    · intro hh x hx
      have := hh x (by simp; omega)
      exact (badJ_eq s x).1 (by simpa using this)
    · intro hh x hx
      have hx' : x < jnN s.Edges (decide (s.Kind = 2)) := by simpa using hx
      have := (badJ_eq s x).2 (hh x hx')
      simp [this]
  rw [key]
  unfold Joined jnN jnA jnB
  constructor
  · intro hh
    refine ⟨fun i hi => ?_, fun hk => ?_⟩
    · have := hh i (by omega)
      simpa only [hi, if_true] using this
    · have := hh (s.Edges.length - 1) (by simp [hk])
      simpa only [show ¬ s.Edges.length - 1 + 1 < s.Edges.length by omega, if_false] using this
  · rintro ⟨h1, h2⟩ x hx
    by_cases hi : x + 1 < s.Edges.length
    · simpa only [hi, if_true] using h1 x hi
    · have hk : s.Kind = 2 := by
        cases hd : decide (s.Kind = 2) with
        | true => exact of_decide_eq_true hd
        | false => rw [hd] at hx; simp only [cond_false] at hx; omega
      simpa only [hi, if_false] using h2 hk
open Classical in
theorem l0_eq (s : TShape) (h1 : 1 ≤ s.Edges.length) : ∀ n k : Nat, k ≤ s.Edges.length → s.Edges.length - k < n → FCheckS_l0 s n (k : Int) = if chk1 (s.Edges.drop k) ≠ 0 then chk1 (s.Edges.drop k) else if ¬ Joined s then 12 else lastS s
  | 0, k, hk, hn => by omega
  | n + 1, k, hk, hn => by
    unfold FCheckS_l0
    by_cases hlt : k < s.Edges.length
    · rw [decide_eq_true (show (k : Int) < (s.Edges.length : Int) by omega)]
      simp only [cond_true, Int.toNat_natCast]
      rw [drop_cons' hlt]
      simp only [chk1, check_eq]
      have ih := l0_eq s h1 n (k + 1) (by omega) (by omega)
      by_cases h0 : CheckM (s.Edges.getD k default) = 0
      · simp only [h0, if_true, decide_true, Bool.not_true, cond_false]
        rw [show ((k : Int) + 1) = ((k + 1 : Nat) : Int) by omega, ih]
      · simp only [h0, if_false, decide_false, Bool.not_false, cond_true, ne_eq, not_false_eq_true, if_true]
    · rw [decide_eq_false (show ¬ (k : Int) < (s.Edges.length : Int) by omega)]
      simp only [cond_false]
      rw [List.drop_of_length_le (by omega), chk1, r1_eq]
      have := joined_any s h1
      by_cases hj : Joined s
      · rw [this.2 hj]; simp [hj]
      · have hb : (List.range' 0 (jnN s.Edges (decide (s.Kind = 2)))).any (badJ s) = true := by
          cases hh : (List.range' 0 (jnN s.Edges (decide (s.Kind = 2)))).any (badJ s) with
          | true => rfl
          | false => exact absurd (this.1 hh) hj
        rw [hb]; simp [hj]
theorem checkS_eq (s : TShape) : FCheckS s = CheckMS s := by
  unfold FCheckS CheckMS
  by_cases hk1 : s.Kind = 1
  · simp only [hk1, decide_true, Bool.not_true, cond_false, true_or, not_true, false_or, show ¬ ((1 : Int) = 2) by decide, decide_false, false_and, or_false]
    by_cases h0 : s.Edges.length = 0
    · simp [h0]
    · simp only [show ¬ (s.Edges.length : Int) = 0 by omega, h0, decide_false, cond_false, if_false]
      by_cases h40 : 40 < s.Edges.length
      · simp only [show (40 : Int) < (s.Edges.length : Int) by omega, h40, decide_true, cond_true, if_true]
      · simp only [show ¬ (40 : Int) < (s.Edges.length : Int) by omega, h40, decide_false, cond_false, if_false]
        have := l0_eq s (by omega) (((s.Edges.length : Int) - 0).toNat + 1) 0 (by omega) (by omega)
        rw [show ((0 : Nat) : Int) = 0 from rfl] at this
        rw [this, List.drop_zero, lastS_eq]
        simp only [hk1, show ¬ ((1 : Int) = 2) by decide, false_and, false_or]
  · by_cases hk2 : s.Kind = 2
    · simp only [hk2, decide_true, Bool.not_true, cond_false, cond_true, or_true, not_true, false_or, true_and, show ¬ ((2 : Int) = 1) by decide, decide_false, Bool.not_false]
      by_cases h0 : s.Edges.length = 0
      · simp [h0]
      · simp only [show ¬ (s.Edges.length : Int) = 0 by omega, h0, decide_false, cond_false, if_false, false_or]
        by_cases h2 : s.Edges.length < 2
        · simp only [show (s.Edges.length : Int) < 2 by omega, h2, decide_true, cond_true, if_true]
        · simp only [show ¬ (s.Edges.length : Int) < 2 by omega, h2, decide_false, cond_false, if_false]
          by_cases h40 : 40 < s.Edges.length
          · simp only [show (40 : Int) < (s.Edges.length : Int) by omega, h40, decide_true, cond_true, if_true]
          · simp only [show ¬ (40 : Int) < (s.Edges.length : Int) by omega, h40, decide_false, cond_false, if_false]
            have := l0_eq s (by omega) (((s.Edges.length : Int) - 0).toNat + 1) 0 (by omega) (by omega)
            rw [show ((0 : Nat) : Int) = 0 from rfl] at this
            rw [this, List.drop_zero, lastS_eq]
            simp only [hk2, true_and]
    · simp [hk1, hk2]
/-- A valid shape. -/
def OkS (s : TShape) : Prop := ((s.Kind = 1 ∨ s.Kind = 2) ∧ (1 ≤ s.Edges.length ∧ s.Edges.length ≤ 40) ∧ (s.Kind = 2 → 2 ≤ s.Edges.length)) ∧ (∀ e ∈ s.Edges, OkE e) ∧ Joined s ∧ (0 ≤ s.R ∧ s.R ≤ 4194304) ∧ (s.Kind = 2 → s.R = 0)
theorem checkMS_zero (s : TShape) : CheckMS s = 0 ↔ OkS s := by
  unfold CheckMS OkS
  constructor
  · intro h
    split at h
    · cases h
    rename_i h1
    split at h
    · cases h
    rename_i h2
    split at h
    · rename_i h3; exact absurd h h3
    rename_i h3
    split at h
    · cases h
    rename_i h4
    split at h
    · cases h
    rename_i h5
    have hE := (chk1_zero _).1 (Decidable.not_not.1 h3)
    have hJ := Classical.not_not.1 h4
    refine ⟨⟨?_, ?_, ?_⟩, hE, hJ, ?_, ?_⟩ <;> omega
  · rintro ⟨⟨h1, h2, h3⟩, h4, h5, h6, h7⟩
    rw [if_neg (by omega), if_neg (by omega), if_neg (by have := (chk1_zero _).2 h4; omega), if_neg (fun h => h h5), if_neg (by omega)]

/-! ### Box -/
def joinB (b x : TRect) : TRect := ⟨min b.X0 x.X0, min b.Y0 x.Y0, max b.X1 x.X1, max b.Y1 x.Y1⟩
def boxF : TRect → List TEdge → TRect
  | b, [] => b
  | b, e :: l => boxF (joinB b (FedgeBox e)) l
def widen (b : TRect) (r : Int) : TRect := ⟨W64 (b.X0 - r), W64 (b.Y0 - r), W64 (b.X1 + r), W64 (b.Y1 + r)⟩
theorem box_l0 (s : TShape) : ∀ (n k : Nat) (b : TRect), k ≤ s.Edges.length - 1 → s.Edges.length - 1 - k < n → FBox_l0 s n b (k : Int) = widen (boxF b ((s.Edges.drop 1).drop k)) s.R
  | 0, k, b, hk, hn => by omega
  | n + 1, k, b, hk, hn => by
    unfold FBox_l0
    have hdl : (s.Edges.drop 1).length = s.Edges.length - 1 := List.length_drop ..
    by_cases hlt : k < s.Edges.length - 1
    · rw [decide_eq_true (show (k : Int) < (((((s.Edges.length : Nat) : Int) : Int).toNat - (1 : Int).toNat : Nat) : Int) by omega)]
      rw [drop_cons' (k := k) (l := s.Edges.drop 1) (by omega), boxF]
      have ih := fun b => box_l0 s n (k + 1) b (by omega) (by omega)
      simp only [cond_true]
      rw [show ((k : Int) + 1) = ((k + 1 : Nat) : Int) by omega, ih]
      rfl
    · rw [decide_eq_false (show ¬ (k : Int) < (((((s.Edges.length : Nat) : Int) : Int).toNat - (1 : Int).toNat : Nat) : Int) by omega)]
      rw [List.drop_of_length_le (by omega)]
      rfl
def boxL : List TEdge → TRect
  | [] => ⟨0, 0, 0, 0⟩
  | e :: l => boxF (FedgeBox e) l
theorem box_eq (s : TShape) (h : s.Edges ≠ []) : FBox s = widen (boxL s.Edges) s.R := by
  unfold FBox
  have hp : 0 < s.Edges.length := List.length_pos_iff.2 h
  rw [decide_eq_false (show ¬ (s.Edges.length : Int) = 0 by omega)]
  simp only [cond_false]
  have := box_l0 s ((((((((s.Edges.length : Nat) : Int) : Int).toNat - (1 : Int).toNat : Nat) : Int)) - 0).toNat + 1) 0 (FedgeBox (s.Edges.getD 0 default)) (by omega) (by omega)
  rw [show ((0 : Nat) : Int) = 0 from rfl] at this
  rw [this]
  cases hs : s.Edges with
  | nil => exact absurd hs h
  | cons e l => rfl
theorem boxF_iff : ∀ (l : List TEdge) (b : TRect) (c : Int),
    (((boxF b l).X0 ≤ c ↔ b.X0 ≤ c ∨ ∃ e ∈ l, min e.A.X e.B.X ≤ c) ∧ ((boxF b l).Y0 ≤ c ↔ b.Y0 ≤ c ∨ ∃ e ∈ l, min e.A.Y e.B.Y ≤ c)) ∧
    ((c ≤ (boxF b l).X1 ↔ c ≤ b.X1 ∨ ∃ e ∈ l, c ≤ max e.A.X e.B.X) ∧ (c ≤ (boxF b l).Y1 ↔ c ≤ b.Y1 ∨ ∃ e ∈ l, c ≤ max e.A.Y e.B.Y))
  | [], b, c => by simp [boxF]
  | e :: l, b, c => by
    obtain ⟨⟨h1, h2⟩, h3, h4⟩ := boxF_iff l (joinB b (FedgeBox e)) c
    unfold boxF
    rw [h1, h2, h3, h4]
    have q1 : (joinB b (FedgeBox e)).X0 ≤ c ↔ b.X0 ≤ c ∨ min e.A.X e.B.X ≤ c := by show min b.X0 (min e.A.X e.B.X) ≤ c ↔ _; omega
    have q2 : (joinB b (FedgeBox e)).Y0 ≤ c ↔ b.Y0 ≤ c ∨ min e.A.Y e.B.Y ≤ c := by show min b.Y0 (min e.A.Y e.B.Y) ≤ c ↔ _; omega
    have q3 : c ≤ (joinB b (FedgeBox e)).X1 ↔ c ≤ b.X1 ∨ c ≤ max e.A.X e.B.X := by show c ≤ max b.X1 (max e.A.X e.B.X) ↔ _; omega
    have q4 : c ≤ (joinB b (FedgeBox e)).Y1 ↔ c ≤ b.Y1 ∨ c ≤ max e.A.Y e.B.Y := by show c ≤ max b.Y1 (max e.A.Y e.B.Y) ↔ _; omega
    rw [q1, q2, q3, q4]
    simp only [List.mem_cons, exists_eq_or_imp, or_assoc, and_self]
theorem boxL_iff {l : List TEdge} (h : l ≠ []) (c : Int) :
    (((boxL l).X0 ≤ c ↔ ∃ e ∈ l, min e.A.X e.B.X ≤ c) ∧ ((boxL l).Y0 ≤ c ↔ ∃ e ∈ l, min e.A.Y e.B.Y ≤ c)) ∧
    ((c ≤ (boxL l).X1 ↔ ∃ e ∈ l, c ≤ max e.A.X e.B.X) ∧ (c ≤ (boxL l).Y1 ↔ ∃ e ∈ l, c ≤ max e.A.Y e.B.Y)) := by
  cases l with
  | nil => exact absurd rfl h
  | cons e l =>
    obtain ⟨⟨h1, h2⟩, h3, h4⟩ := boxF_iff l (FedgeBox e) c
    unfold boxL
    rw [h1, h2, h3, h4]
    simp only [List.mem_cons, exists_eq_or_imp]
    exact ⟨⟨Iff.rfl, Iff.rfl⟩, Iff.rfl, Iff.rfl⟩
theorem boxL_b {l : List TEdge} (h : l ≠ []) (ho : ∀ e ∈ l, OkE e) : (C27 (boxL l).X0 ∧ C27 (boxL l).Y0) ∧ C27 (boxL l).X1 ∧ C27 (boxL l).Y1 := by
  have lo : ∀ e ∈ l, (-67108864 ≤ min e.A.X e.B.X ∧ min e.A.X e.B.X ≤ 67108864) ∧ (-67108864 ≤ min e.A.Y e.B.Y ∧ min e.A.Y e.B.Y ≤ 67108864) ∧ (-67108864 ≤ max e.A.X e.B.X ∧ max e.A.X e.B.X ≤ 67108864) ∧ (-67108864 ≤ max e.A.Y e.B.Y ∧ max e.A.Y e.B.Y ≤ 67108864) := fun e he => by
    have := (ho e he).1
    unfold Rights RP C27 at this
    omega
  refine ⟨⟨?_, ?_⟩, ?_, ?_⟩
  · obtain ⟨e, m, k⟩ := (boxL_iff h (boxL l).X0).1.1.1 (Int.le_refl _)
    have k2 := (boxL_iff h _).1.1.2 ⟨e, m, Int.le_refl _⟩
    have := lo e m
    unfold C27; omega
  · obtain ⟨e, m, k⟩ := (boxL_iff h (boxL l).Y0).1.2.1 (Int.le_refl _)
    have k2 := (boxL_iff h _).1.2.2 ⟨e, m, Int.le_refl _⟩
    have := lo e m
    unfold C27; omega
  · obtain ⟨e, m, k⟩ := (boxL_iff h (boxL l).X1).2.1.1 (Int.le_refl _)
    have k2 := (boxL_iff h _).2.1.2 ⟨e, m, Int.le_refl _⟩
    have := lo e m
    unfold C27; omega
  · obtain ⟨e, m, k⟩ := (boxL_iff h (boxL l).Y1).2.2.1 (Int.le_refl _)
    have k2 := (boxL_iff h _).2.2.2 ⟨e, m, Int.le_refl _⟩
    have := lo e m
    unfold C27; omega
/-- The point lies in the box of some edges, which is r greater on each side. -/
def InBx (l : List TEdge) (r : Int) (p : TPoint) : Prop := ((∃ e ∈ l, min e.A.X e.B.X ≤ p.X + r) ∧ ∃ e ∈ l, p.X - r ≤ max e.A.X e.B.X) ∧ (∃ e ∈ l, min e.A.Y e.B.Y ≤ p.Y + r) ∧ ∃ e ∈ l, p.Y - r ≤ max e.A.Y e.B.Y
theorem inbx_eq {s : TShape} (h : OkS s) (p : TPoint) : (((¬ p.X < (FBox s).X0) ∧ ¬ (FBox s).X1 < p.X) ∧ (¬ p.Y < (FBox s).Y0) ∧ ¬ (FBox s).Y1 < p.Y) ↔ InBx s.Edges s.R p := by
  obtain ⟨⟨_, ⟨h1, _⟩, _⟩, hE, _, hr, _⟩ := h
  have hne : s.Edges ≠ [] := fun e => by rw [e] at h1; simp at h1
  rw [box_eq s hne]
  obtain ⟨⟨b1, b2⟩, b3, b4⟩ := boxL_b hne hE
  unfold C27 at *
  unfold InBx
  rw [← (boxL_iff hne _).1.1, ← (boxL_iff hne _).1.2, ← (boxL_iff hne _).2.1, ← (boxL_iff hne _).2.2]
  unfold widen
  rw [W64_id (by omega) (by omega), W64_id (by omega) (by omega), W64_id (by omega) (by omega), W64_id (by omega) (by omega)]
  simp only
  omega
theorem inbx_pb {s : TShape} (h : OkS s) {p : TPoint} (hp : InBx s.Edges s.R p) : PB p := by
  obtain ⟨_, hE, _, hr, _⟩ := h
  obtain ⟨⟨⟨e1, m1, k1⟩, e2, m2, k2⟩, ⟨e3, m3, k3⟩, e4, m4, k4⟩ := hp
  have r1 := (hE e1 m1).1; have r2 := (hE e2 m2).1; have r3 := (hE e3 m3).1; have r4 := (hE e4 m4).1
  unfold Rights RP C27 at *
  unfold PB
  omega

/-! ### Inside -/
theorem ixI_ge (xs : List TEdge) (p : TPoint) (s : TShape) : ∀ n k : Nat, k ≤ xs.length → xs.length - k < n → (decide ((0 : Int) ≤ FixI_l0 xs p s n (k : Int)) = (xs.drop k).any fun e => FnearS e p s.R)
  | 0, k, hk, hn => by omega
  | n + 1, k, hk, hn => by
    unfold FixI_l0
    by_cases hlt : k < xs.length
    · rw [decide_eq_true (show (k : Int) < (xs.length : Int) by omega)]
      simp only [cond_true, Int.toNat_natCast]
      rw [drop_cons' hlt, List.any_cons]
      have ih := ixI_ge xs p s n (k + 1) (by omega) (by omega)
      show decide ((0 : Int) ≤ bif FnearS (xs.getD k default) p s.R then _ else _) = _
      cases FnearS (xs.getD k default) p s.R with
      | true => simp
      | false =>
        simp only [cond_false, Bool.false_or]
        rw [show ((k : Int) + 1) = ((k + 1 : Nat) : Int) by omega, ih]
    · rw [decide_eq_false (show ¬ (k : Int) < (xs.length : Int) by omega)]
      rw [List.drop_of_length_le (by omega)]
      rfl
theorem coI_eq (xs : List TEdge) (p : TPoint) (s : TShape) : FcoI xs p s = xs.any fun e => FnearS e p s.R := by
  unfold FcoI FixI
  have := ixI_ge xs p s (((xs.length : Int) - 0).toNat + 1) 0 (by omega) (by omega)
  rw [List.drop_zero] at this
  exact this
/-- The sum of the crossings to the right. -/
def wind : List TEdge → TPoint → Int
  | [], _ => 0
  | e :: l, p => RayM e p + wind l p
theorem up_b (e : TEdge) : -1 ≤ up e ∧ up e ≤ 1 := by unfold up; (repeat' split) <;> omega
theorem ray_b (e : TEdge) (p : TPoint) : -1 ≤ RayM e p ∧ RayM e p ≤ 1 := by
  have := up_b e
  unfold RayM
  split <;> omega
theorem wind_l0 (s : TShape) (p : TPoint) : ∀ (n k : Nat) (v : Int), k ≤ s.Edges.length → s.Edges.length - k < n → (-(k : Int) ≤ v ∧ v ≤ k) → s.Edges.length ≤ 1000 → FInsideS_l0 s p n v (k : Int) = (decide (s.Kind = 2) && !decide (v + wind (s.Edges.drop k) p = 0))
  | 0, k, v, hk, hn, _, _ => by omega
  | n + 1, k, v, hk, hn, hv, hl => by
    unfold FInsideS_l0
    by_cases hlt : k < s.Edges.length
    · rw [decide_eq_true (show (k : Int) < (s.Edges.length : Int) by omega)]
      simp only [cond_true, Int.toNat_natCast]
      rw [drop_cons' hlt, wind, ray_eq]
      have hb := ray_b (s.Edges.getD k default) p
      rw [W64_id (by omega) (by omega)]
      have ih := wind_l0 s p n (k + 1) (v + RayM (s.Edges.getD k default) p) (by omega) (by omega) (by omega) hl
      rw [show ((k : Int) + 1) = ((k + 1 : Nat) : Int) by omega, ih, Int.add_assoc]
    · rw [decide_eq_false (show ¬ (k : Int) < (s.Edges.length : Int) by omega)]
      rw [List.drop_of_length_le (by omega), wind, Int.add_zero]
      simp only [cond_false]
      cases decide (s.Kind = 2) <;> rfl
/-- The point belongs to the shape. -/
def InsM (s : TShape) (p : TPoint) : Prop := OkS s ∧ InBx s.Edges s.R p ∧ ((∃ e ∈ s.Edges, NearM e p s.R) ∨ s.Kind = 2 ∧ wind s.Edges p ≠ 0)
theorem inside_eqS (s : TShape) (p : TPoint) : FInsideS s p = true ↔ InsM s p := by
  unfold FInsideS
  rw [checkS_eq]
  by_cases hs : OkS s
  · have h0 := (checkMS_zero s).2 hs
    rw [h0]
    have hb := inbx_eq hs p
    simp only [decide_true, Bool.not_true, cond_false]
    by_cases hB : InBx s.Edges s.R p
    · obtain ⟨⟨g1, g2⟩, g3, g4⟩ := hb.2 hB
      rw [decide_eq_false g1, decide_eq_false g2, decide_eq_false g3, decide_eq_false g4]
      simp only [cond_false]
      rw [coI_eq]
      have hnear : (s.Edges.any fun e => FnearS e p s.R) = true ↔ ∃ e ∈ s.Edges, NearM e p s.R := by
        rw [List.any_eq_true]
        constructor
        · rintro ⟨e, he, hn⟩; exact ⟨e, he, (near_eq (hs.2.1 e he) (inbx_pb hs hB) hs.2.2.2.1).1 hn⟩
        · rintro ⟨e, he, hn⟩; exact ⟨e, he, (near_eq (hs.2.1 e he) (inbx_pb hs hB) hs.2.2.2.1).2 hn⟩
      unfold InsM
      have hw := wind_l0 s p (((s.Edges.length : Int) - 0).toNat + 1) 0 0 (by omega) (by omega) (by omega) (by have := hs.1.2.1; omega)
      rw [List.drop_zero, Int.zero_add] at hw
      rw [show ((0 : Nat) : Int) = 0 from rfl] at hw
      rw [hw]
      cases hc : (s.Edges.any fun e => FnearS e p s.R) with
      | true => simp only [cond_true, true_iff]; exact ⟨hs, hB, .inl (hnear.1 hc)⟩
      | false =>
        simp only [cond_false, Bool.and_eq_true, decide_eq_true_eq, Bool.not_eq_true', decide_eq_false_iff_not]
        constructor
        · intro h; exact ⟨hs, hB, .inr h⟩
        · rintro ⟨_, _, h | h⟩
          · rw [hnear.2 h] at hc; cases hc
          · exact h
    · have : ¬ (((¬ p.X < (FBox s).X0) ∧ ¬ (FBox s).X1 < p.X) ∧ (¬ p.Y < (FBox s).Y0) ∧ ¬ (FBox s).Y1 < p.Y) := fun h => hB (hb.1 h)
      simp only [cnd_or]
      have hor : ((decide (p.X < (FBox s).X0) || decide ((FBox s).X1 < p.X)) || decide (p.Y < (FBox s).Y0) || decide ((FBox s).Y1 < p.Y)) = true := by
        simp only [Bool.or_eq_true, decide_eq_true_eq]
        omega
      rw [hor]
      simp only [cond_true, Bool.false_eq_true, false_iff]
      exact fun h => hB h.2.1
  · have h0 : ¬ CheckMS s = 0 := fun h => hs ((checkMS_zero s).1 h)
    rw [decide_eq_false h0]
    simp only [Bool.not_false, cond_true, Bool.false_eq_true, false_iff]
    exact fun h => hs h.1
end Go.Proofs.Ytpnlegfdkkcnlaa
