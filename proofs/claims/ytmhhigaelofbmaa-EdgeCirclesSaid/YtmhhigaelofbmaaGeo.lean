/-
  No statement is proved in this text. It holds what the functions on edges say in plain numbers.
-/
import Derived.Test.YtmhhigaelofbmaaBk3
namespace Go.Proofs.Ytmhhigaelofbmaa
open Go.RowKit
set_option linter.unusedVariables false
set_option linter.unusedSimpArgs false

theorem cnd_and (a b : Bool) : (bif a then b else false) = (a && b) := by cases a <;> rfl
theorem cnd_or (a b : Bool) : (bif a then true else b) = (a || b) := by cases a <;> rfl
theorem cnd_if {α : Type} (a : Bool) (x y : α) : (bif a then x else y) = if a = true then x else y := by cases a <;> rfl
theorem cnd_nt (a : Bool) : (bif a then false else true) = !a := by cases a <;> rfl
theorem cnd_na (a b : Bool) : (bif a then false else b) = (!a && b) := by cases a <;> rfl

/-! ### Numbers -/
def C27 (x : Int) : Prop := -67108864 ≤ x ∧ x ≤ 67108864
def RP (p : TPoint) : Prop := C27 p.X ∧ C27 p.Y
def R28 (p : TPoint) : Prop := (-134217728 ≤ p.X ∧ p.X ≤ 134217728) ∧ -134217728 ≤ p.Y ∧ p.Y ≤ 134217728
instance (x : Int) : Decidable (C27 x) := by unfold C27; infer_instance
instance (p : TPoint) : Decidable (RP p) := by unfold RP; infer_instance
theorem mul_b (x y A B : Int) (hx : -A ≤ x ∧ x ≤ A) (hy : -B ≤ y ∧ y ≤ B) : -(A * B) ≤ x * y ∧ x * y ≤ A * B := by
  have hA : 0 ≤ A := by omega
  have h1 : 0 ≤ (A - x) * (B + y) := Int.mul_nonneg (by omega) (by omega)
  have h2 : 0 ≤ (A + x) * (B - y) := Int.mul_nonneg (by omega) (by omega)
  have h3 : 0 ≤ (A - x) * (B - y) := Int.mul_nonneg (by omega) (by omega)
  have h4 : 0 ≤ (A + x) * (B + y) := Int.mul_nonneg (by omega) (by omega)
  have e1 : (A - x) * (B + y) = A * B + A * y - x * B - x * y := by grind
  have e2 : (A + x) * (B - y) = A * B - A * y + x * B - x * y := by grind
  have e3 : (A - x) * (B - y) = A * B - A * y - x * B + x * y := by grind
  have e4 : (A + x) * (B + y) = A * B + A * y + x * B + x * y := by grind
  omega
theorem b54 {x y : Int} (hx : -134217728 ≤ x ∧ x ≤ 134217728) (hy : -134217728 ≤ y ∧ y ≤ 134217728) : -18014398509481984 ≤ x * y ∧ x * y ≤ 18014398509481984 := by
  have := mul_b x y 134217728 134217728 hx hy
  omega
theorem sq_nn (x : Int) : 0 ≤ x * x := by
  rcases Int.le_total 0 x with h | h
  · exact Int.mul_nonneg h h
  · have := Int.mul_nonneg (show 0 ≤ -x by omega) (show 0 ≤ -x by omega)
    rwa [Int.neg_mul_neg] at this
theorem sub_eq {p q : TPoint} (hp : RP p) (hq : RP q) : FvecSub p q = ⟨p.X - q.X, p.Y - q.Y⟩ := by
  unfold RP C27 at *
  unfold FvecSub
  rw [W64_id (by omega) (by omega), W64_id (by omega) (by omega)]
theorem sub_r {p q : TPoint} (hp : RP p) (hq : RP q) : R28 ⟨p.X - q.X, p.Y - q.Y⟩ := by
  unfold RP C27 at *
  unfold R28
  simp only
  omega
theorem dot_eq {u v : TPoint} (hu : R28 u) (hv : R28 v) : FvecDot u v = u.X * v.X + u.Y * v.Y := by
  obtain ⟨h1, h2⟩ := hu; obtain ⟨h3, h4⟩ := hv
  have b1 := b54 h1 h3; have b2 := b54 h2 h4
  unfold FvecDot
  rw [W64_id (x := u.X * v.X) (by omega) (by omega), W64_id (x := u.Y * v.Y) (by omega) (by omega), W64_id (by omega) (by omega)]
theorem cross_eq {u v : TPoint} (hu : R28 u) (hv : R28 v) : FvecCross u v = u.X * v.Y - u.Y * v.X := by
  obtain ⟨h1, h2⟩ := hu; obtain ⟨h3, h4⟩ := hv
  have b1 := b54 h1 h4; have b2 := b54 h2 h3
  unfold FvecCross
  rw [W64_id (x := u.X * v.Y) (by omega) (by omega), W64_id (x := u.Y * v.X) (by omega) (by omega), W64_id (by omega) (by omega)]
theorem right_eq (p : TPoint) : FvecRight p = decide (RP p) := by
  rw [Bool.eq_iff_iff, decide_eq_true_eq]
  unfold FvecRight RP C27
  simp only [cnd_and, Bool.and_eq_true, decide_eq_true_eq]
  omega
theorem right5_eq (p : TPoint) : Fref05Right p = decide (RP p) := by
  rw [Bool.eq_iff_iff, decide_eq_true_eq]
  unfold Fref05Right RP C27
  simp only [cnd_and, Bool.and_eq_true, decide_eq_true_eq]
  omega

/-! ### Edges -/
def Odd (e : TEdge) : Prop := ¬ (e.A.X - e.C.X = 0 ↔ e.A.Y - e.C.Y = 0)
def QL (e : TEdge) : Prop := Odd e ∧ e.B.X - e.C.X = -(e.A.Y - e.C.Y) ∧ e.B.Y - e.C.Y = e.A.X - e.C.X
def QR (e : TEdge) : Prop := Odd e ∧ e.B.X - e.C.X = e.A.Y - e.C.Y ∧ e.B.Y - e.C.Y = -(e.A.X - e.C.X)
def Rights (e : TEdge) : Prop := RP e.A ∧ RP e.B ∧ RP e.C
def Form (e : TEdge) : Prop := (e.Kind = 1 ∧ e.C.X = 0 ∧ e.C.Y = 0) ∨ (e.Kind = 2 ∧ QL e) ∨ (e.Kind = 3 ∧ QR e)
def OkE (e : TEdge) : Prop := Rights e ∧ Form e
instance (e : TEdge) : Decidable (QL e) := by unfold QL Odd; infer_instance
instance (e : TEdge) : Decidable (QR e) := by unfold QR Odd; infer_instance
instance (e : TEdge) : Decidable (Rights e) := by unfold Rights; infer_instance
instance (e : TEdge) : Decidable (Form e) := by unfold Form; infer_instance
instance (e : TEdge) : Decidable (OkE e) := by unfold OkE; infer_instance
def CheckM (e : TEdge) : Int := if OkE e then 0 else if (1 ≤ e.Kind ∧ e.Kind ≤ 3) ∧ ¬ Rights e then 10 else 11

theorem apply1 (p : TPoint) : FvecApply ⟨⟨0, 0⟩, 1, false⟩ p = ⟨W64 (W64 (0 - p.Y) + 0), W64 (p.X + 0)⟩ := by
  have ht : FvecTurns ⟨⟨0, 0⟩, 1, false⟩ = 1 := by decide +kernel
  unfold FvecApply
  rw [ht]
  rfl
theorem apply3 (p : TPoint) : FvecApply ⟨⟨0, 0⟩, 3, false⟩ p = ⟨W64 (W64 (0 - W64 (0 - p.Y)) + 0), W64 (W64 (0 - p.X) + 0)⟩ := by
  have ht : FvecTurns ⟨⟨0, 0⟩, 3, false⟩ = 3 := by decide +kernel
  unfold FvecApply
  rw [ht]
  rfl
theorem left_eq (e : TEdge) (h : Rights e) : Fedgeleftwards e = decide (QL e) := by
  obtain ⟨ha, hb, hc⟩ := h
  rw [Bool.eq_iff_iff, decide_eq_true_eq]
  unfold Fedgeleftwards Fedgequarter QL Odd
  rw [apply1, sub_eq ha hc, sub_eq hb hc]
  unfold RP C27 at *
  simp only [cnd_and, Bool.and_eq_true, decide_eq_true_eq, Bool.not_eq_true', and_true, W64_def, beq_eq_false_iff_ne, ne_eq, decide_eq_decide]
  omega
theorem right3_eq (e : TEdge) (h : Rights e) : Fedgerightwards e = decide (QR e) := by
  obtain ⟨ha, hb, hc⟩ := h
  rw [Bool.eq_iff_iff, decide_eq_true_eq]
  unfold Fedgerightwards Fedgequarter QR Odd
  rw [apply3, sub_eq ha hc, sub_eq hb hc]
  unfold RP C27 at *
  simp only [cnd_and, Bool.and_eq_true, decide_eq_true_eq, Bool.not_eq_true', and_true, W64_def, beq_eq_false_iff_ne, ne_eq, decide_eq_decide]
  omega
theorem lone_eq (e : TEdge) : Fedgelone e = decide (e.C.X = 0 ∧ e.C.Y = 0) := by
  rw [Bool.eq_iff_iff, decide_eq_true_eq]
  unfold Fedgelone
  simp only [Bool.and_eq_true, decide_eq_true_eq, and_true]
theorem rights_b (a0 a1 a2 : TPoint) (k : Int) : (bif bif FvecRight a0 then FvecRight a1 else false then FvecRight a2 else false) = decide (Rights ⟨k, a0, a1, a2⟩) := by
  rw [Bool.eq_iff_iff, decide_eq_true_eq]
  unfold Rights
  simp only [cnd_and, Bool.and_eq_true, right_eq, decide_eq_true_eq, and_assoc]
theorem ok_b1 (a0 a1 a2 : TPoint) : (bif decide (Rights ⟨1, a0, a1, a2⟩) then Fedgelone ⟨1, a0, a1, a2⟩ else false) = decide (OkE ⟨1, a0, a1, a2⟩) := by
  rw [Bool.eq_iff_iff, decide_eq_true_eq]
  unfold OkE Form
  rw [lone_eq]
  simp [cnd_and]
theorem ok_b2 (a0 a1 a2 : TPoint) : (bif decide (Rights ⟨2, a0, a1, a2⟩) then Fedgeleftwards ⟨2, a0, a1, a2⟩ else false) = decide (OkE ⟨2, a0, a1, a2⟩) := by
  rw [Bool.eq_iff_iff, decide_eq_true_eq]
  unfold OkE Form
  by_cases h : Rights ⟨2, a0, a1, a2⟩
  · rw [left_eq _ h]; simp [cnd_and, h]
  · simp [h]
theorem ok_b3 (a0 a1 a2 : TPoint) : (bif decide (Rights ⟨3, a0, a1, a2⟩) then Fedgerightwards ⟨3, a0, a1, a2⟩ else false) = decide (OkE ⟨3, a0, a1, a2⟩) := by
  rw [Bool.eq_iff_iff, decide_eq_true_eq]
  unfold OkE Form
  by_cases h : Rights ⟨3, a0, a1, a2⟩
  · rw [right3_eq _ h]; simp [cnd_and, h]
  · simp [h]
theorem ok_kind {e : TEdge} (h : OkE e) : e.Kind = 1 ∨ e.Kind = 2 ∨ e.Kind = 3 := by
  obtain ⟨_, h⟩ := h
  rcases h with ⟨h, _⟩ | ⟨h, _⟩ | ⟨h, _⟩ <;> simp [h]
theorem check_eq (e : TEdge) : FCheck e = CheckM e := by
  obtain ⟨k, a0, a1, a2⟩ := e
  unfold FCheck
  by_cases k1 : k = 1
  · subst k1
    simp only [if_true, FCheck1]
    rw [rights_b a0 a1 a2 1, ok_b1]
    unfold CheckM
    simp [cnd_if]
  by_cases k2 : k = 2
  · subst k2
    simp only [k1, if_false, if_true, FCheck2]
    rw [rights_b a0 a1 a2 2, ok_b2]
    unfold CheckM
    simp [cnd_if]
  by_cases k3 : k = 3
  · subst k3
    simp only [k1, k2, if_false, if_true, FCheck3]
    rw [rights_b a0 a1 a2 3, ok_b3]
    unfold CheckM
    simp [cnd_if]
  · simp only [k1, k2, k3, if_false, FCheckN]
    rw [rights_b a0 a1 a2 k]
    unfold CheckM
    rw [if_neg (fun h => by have := ok_kind h; simp only at this; omega)]
    simp only [cnd_and]
    simp only [cnd_if, Bool.and_eq_true, decide_eq_true_eq, Bool.not_eq_true', decide_eq_false_iff_not]
theorem check6_eq (e : TEdge) : Fref06Check e = CheckM e := by
  obtain ⟨k, a0, a1, a2⟩ := e
  unfold Fref06Check CheckM
  by_cases hk : 1 ≤ k ∧ k ≤ 3
  · by_cases hr : Rights ⟨k, a0, a1, a2⟩
    · obtain ⟨ha, hb, hc⟩ := id hr
      have hs : ∀ p q, Fref05Sub p q = FvecSub p q := fun _ _ => rfl
      simp only [hs, right5_eq]
      simp only at ha hb hc
      simp only [sub_eq ha hc, sub_eq hb hc, ha, hb, hc]
      unfold RP C27 at ha hb hc
      have hd : decide (k < 1) = false := by simp; omega
      have hd' : decide (3 < k) = false := by simp; omega
      rw [hd, hd']
      simp only [decide_true, Bool.not_true, cond_false, hr, not_true, and_false, if_false]
      have k3 : k = 1 ∨ k = 2 ∨ k = 3 := by omega
      rcases k3 with rfl | rfl | rfl
      · simp only [OkE, Form, hr, true_and, decide_true, cond_true, QL, QR]
        by_cases h1 : a2.X = 0 <;> by_cases h2 : a2.Y = 0 <;> simp [h1, h2, hr]
      · simp only [OkE, Form, hr, true_and, QL, QR, Odd, W64_def]
        simp only [cnd_or, Bool.and_true]
        simp only [cnd_if, Bool.or_eq_true, Bool.not_eq_true', Bool.and_eq_false_iff, decide_eq_true_eq, decide_eq_false_iff_not, beq_iff_eq, decide_eq_decide]
        simp only [Int.reduceEq, if_false, and_false, false_and, false_or, or_false, if_true, and_true, Bool.and_eq_false_iff, decide_eq_false_iff_not, Bool.and_true]
        by_cases h1 : a0.X - a2.X = 0 <;> by_cases h2 : a0.Y - a2.Y = 0 <;> simp only [h1, h2, true_or, if_true, iff_self, iff_true, iff_false, true_iff, false_iff, not_true, not_false_eq_true, false_and, true_and, if_false, false_or, or_false, true_and] <;> (try rfl) <;> split <;> split <;> first | rfl | (exfalso; omega)
      · simp only [OkE, Form, hr, true_and, QL, QR, Odd, W64_def]
        simp only [cnd_or, Bool.and_true]
        simp only [cnd_if, Bool.or_eq_true, Bool.not_eq_true', Bool.and_eq_false_iff, decide_eq_true_eq, decide_eq_false_iff_not, beq_iff_eq, decide_eq_decide]
        simp only [Int.reduceEq, if_false, and_false, false_and, false_or, or_false, if_true, and_true, Bool.and_eq_false_iff, decide_eq_false_iff_not, Bool.and_true]
        by_cases h1 : a0.X - a2.X = 0 <;> by_cases h2 : a0.Y - a2.Y = 0 <;> simp only [h1, h2, true_or, if_true, iff_self, iff_true, iff_false, true_iff, false_iff, not_true, not_false_eq_true, false_and, true_and, if_false, false_or, or_false, true_and] <;> (try rfl) <;> split <;> split <;> first | rfl | (exfalso; omega)
    · rw [if_neg (fun h => hr h.1), if_pos ⟨hk, hr⟩]
      have hd : decide (k < 1) = false := by simp; omega
      have hd' : decide (3 < k) = false := by simp; omega
      rw [hd, hd']
      simp only [right5_eq, cond_false]
      have : (bif bif !decide (RP a0) then true else !decide (RP a1) then true else !decide (RP a2)) = true := by
        simp only [cnd_or, Bool.or_eq_true, Bool.not_eq_true', decide_eq_false_iff_not]
        unfold Rights at hr
        simp only at hr
        by_cases h0 : RP a0 <;> by_cases h1 : RP a1 <;> by_cases h2 : RP a2 <;> simp_all
      rw [this]
      rfl
  · rw [if_neg (fun h => by have := ok_kind h; simp only at this; omega), if_neg (fun h => hk h.1)]
    have : (bif decide (k < 1) then true else decide (3 < k)) = true := by
      simp only [cnd_or, Bool.or_eq_true, decide_eq_true_eq]; omega
    rw [this]
    rfl
end Go.Proofs.Ytmhhigaelofbmaa
