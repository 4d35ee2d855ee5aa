/-
  No statement is proved in this text. It holds what the functions on edges and shapes say in plain numbers.
-/
import Derived.Test.YtgmhnkoifdpemaaL25
namespace Go.Proofs.Ytgmhnkoifdpemaa
open Go.RowKit
set_option linter.unusedVariables false
set_option linter.unusedSimpArgs false



theorem cnd_and (a b : Bool) : (bif a then b else false) = (a && b) := by cases a <;> rfl
theorem cnd_or (a b : Bool) : (bif a then true else b) = (a || b) := by cases a <;> rfl
theorem cnd_if {α : Type} (a : Bool) (x y : α) : (bif a then x else y) = if a = true then x else y := by cases a <;> rfl
theorem cnd_nt (a : Bool) : (bif a then false else true) = !a := by cases a <;> rfl
theorem cnd_na (a b : Bool) : (bif a then false else b) = (!a && b) := by cases a <;> rfl

def C27 (x : Int) : Prop := -67108864 ≤ x ∧ x ≤ 67108864
def RP (p : TPoint) : Prop := C27 p.X ∧ C27 p.Y
def R28 (p : TPoint) : Prop := (-134217728 ≤ p.X ∧ p.X ≤ 134217728) ∧ -134217728 ≤ p.Y ∧ p.Y ≤ 134217728
instance (x : Int) : Decidable (C27 x) := by unfold C27; infer_instance
instance (p : TPoint) : Decidable (RP p) := by unfold RP; infer_instance
theorem mul_b (x y A B : Int) (hx : -A ≤ x ∧ x ≤ A) (hy : -B ≤ y ∧ y ≤ B) : -(A * B) ≤ x * y ∧ x * y ≤ A * B := by
  have hA : 0 ≤ A := by omega
  have h1 : 0 ≤ (A - x) * (B + y) := Int.mul_nonneg (by omega) (by omega)
  have h2 : 0 ≤ (A + x) * (B - y) := Int.mul_nonneg (by omega) (by omega)
  have h3 : 0 ≤ (A - x) * (B - y) := Int.mul_nonneg (by omega) (by omega)
  have h4 : 0 ≤ (A + x) * (B + y) := Int.mul_nonneg (by omega) (by omega)
  have e1 : (A - x) * (B + y) = A * B + A * y - x * B - x * y := by grind
  have e2 : (A + x) * (B - y) = A * B - A * y + x * B - x * y := by grind
  have e3 : (A - x) * (B - y) = A * B - A * y - x * B + x * y := by grind
  have e4 : (A + x) * (B + y) = A * B + A * y + x * B + x * y := by grind
  omega
theorem b54 {x y : Int} (hx : -134217728 ≤ x ∧ x ≤ 134217728) (hy : -134217728 ≤ y ∧ y ≤ 134217728) : -18014398509481984 ≤ x * y ∧ x * y ≤ 18014398509481984 := by
  have := mul_b x y 134217728 134217728 hx hy
  omega
theorem sq_nn (x : Int) : 0 ≤ x * x := by
  rcases Int.le_total 0 x with h | h
  · exact Int.mul_nonneg h h
  · have := Int.mul_nonneg (show 0 ≤ -x by omega) (show 0 ≤ -x by omega)
    rwa [Int.neg_mul_neg] at this
theorem sub_eq {p q : TPoint} (hp : RP p) (hq : RP q) : FvecSub p q = ⟨p.X - q.X, p.Y - q.Y⟩ := by
  unfold RP C27 at *
  unfold FvecSub
  rw [W64_id (by omega) (by omega), W64_id (by omega) (by omega)]
theorem sub_r {p q : TPoint} (hp : RP p) (hq : RP q) : R28 ⟨p.X - q.X, p.Y - q.Y⟩ := by
  unfold RP C27 at *
  unfold R28
  simp only
  omega
theorem dot_eq {u v : TPoint} (hu : R28 u) (hv : R28 v) : FvecDot u v = u.X * v.X + u.Y * v.Y := by
  obtain ⟨h1, h2⟩ := hu; obtain ⟨h3, h4⟩ := hv
  have b1 := b54 h1 h3; have b2 := b54 h2 h4
  unfold FvecDot
  rw [W64_id (x := u.X * v.X) (by omega) (by omega), W64_id (x := u.Y * v.Y) (by omega) (by omega), W64_id (by omega) (by omega)]
theorem cross_eq {u v : TPoint} (hu : R28 u) (hv : R28 v) : FvecCross u v = u.X * v.Y - u.Y * v.X := by
  obtain ⟨h1, h2⟩ := hu; obtain ⟨h3, h4⟩ := hv
  have b1 := b54 h1 h4; have b2 := b54 h2 h3
  unfold FvecCross
  rw [W64_id (x := u.X * v.Y) (by omega) (by omega), W64_id (x := u.Y * v.X) (by omega) (by omega), W64_id (by omega) (by omega)]
theorem right_eq (p : TPoint) : FvecRight p = decide (RP p) := by
  rw [Bool.eq_iff_iff, decide_eq_true_eq]
  unfold FvecRight RP C27
  simp only [cnd_and, Bool.and_eq_true, decide_eq_true_eq]
  omega
theorem right5_eq (p : TPoint) : Fref05Right p = decide (RP p) := by
  rw [Bool.eq_iff_iff, decide_eq_true_eq]
  unfold Fref05Right RP C27
  simp only [cnd_and, Bool.and_eq_true, decide_eq_true_eq]
  omega

def Odd (e : TEdge) : Prop := ¬ (e.A.X - e.C.X = 0 ↔ e.A.Y - e.C.Y = 0)
def QL (e : TEdge) : Prop := Odd e ∧ e.B.X - e.C.X = -(e.A.Y - e.C.Y) ∧ e.B.Y - e.C.Y = e.A.X - e.C.X
def QR (e : TEdge) : Prop := Odd e ∧ e.B.X - e.C.X = e.A.Y - e.C.Y ∧ e.B.Y - e.C.Y = -(e.A.X - e.C.X)
def Rights (e : TEdge) : Prop := RP e.A ∧ RP e.B ∧ RP e.C
def Form (e : TEdge) : Prop := (e.Kind = 1 ∧ e.C.X = 0 ∧ e.C.Y = 0) ∨ (e.Kind = 2 ∧ QL e) ∨ (e.Kind = 3 ∧ QR e)
def OkE (e : TEdge) : Prop := Rights e ∧ Form e
instance (e : TEdge) : Decidable (QL e) := by unfold QL Odd; infer_instance
instance (e : TEdge) : Decidable (QR e) := by unfold QR Odd; infer_instance
instance (e : TEdge) : Decidable (Rights e) := by unfold Rights; infer_instance
instance (e : TEdge) : Decidable (Form e) := by unfold Form; infer_instance
instance (e : TEdge) : Decidable (OkE e) := by unfold OkE; infer_instance
def CheckM (e : TEdge) : Int := if OkE e then 0 else if (1 ≤ e.Kind ∧ e.Kind ≤ 3) ∧ ¬ Rights e then 10 else 11

theorem apply1 (p : TPoint) : FvecApply ⟨⟨0, 0⟩, 1, false⟩ p = ⟨W64 (W64 (0 - p.Y) + 0), W64 (p.X + 0)⟩ := by
  have ht : FvecTurns ⟨⟨0, 0⟩, 1, false⟩ = 1 := by decide +kernel
  unfold FvecApply
  rw [ht]
  rfl
theorem apply3 (p : TPoint) : FvecApply ⟨⟨0, 0⟩, 3, false⟩ p = ⟨W64 (W64 (0 - W64 (0 - p.Y)) + 0), W64 (W64 (0 - p.X) + 0)⟩ := by
  have ht : FvecTurns ⟨⟨0, 0⟩, 3, false⟩ = 3 := by decide +kernel
  unfold FvecApply
  rw [ht]
  rfl
theorem left_eq (e : TEdge) (h : Rights e) : Fedgeleftwards e = decide (QL e) := by
  obtain ⟨ha, hb, hc⟩ := h
  rw [Bool.eq_iff_iff, decide_eq_true_eq]
  unfold Fedgeleftwards Fedgequarter QL Odd
  rw [apply1, sub_eq ha hc, sub_eq hb hc]
  unfold RP C27 at *
  simp only [cnd_and, Bool.and_eq_true, decide_eq_true_eq, Bool.not_eq_true', and_true, W64_def, beq_eq_false_iff_ne, ne_eq, decide_eq_decide]
  omega
theorem right3_eq (e : TEdge) (h : Rights e) : Fedgerightwards e = decide (QR e) := by
  obtain ⟨ha, hb, hc⟩ := h
  rw [Bool.eq_iff_iff, decide_eq_true_eq]
  unfold Fedgerightwards Fedgequarter QR Odd
  rw [apply3, sub_eq ha hc, sub_eq hb hc]
  unfold RP C27 at *
  simp only [cnd_and, Bool.and_eq_true, decide_eq_true_eq, Bool.not_eq_true', and_true, W64_def, beq_eq_false_iff_ne, ne_eq, decide_eq_decide]
  omega
theorem lone_eq (e : TEdge) : Fedgelone e = decide (e.C.X = 0 ∧ e.C.Y = 0) := by
  rw [Bool.eq_iff_iff, decide_eq_true_eq]
  unfold Fedgelone
  simp only [Bool.and_eq_true, decide_eq_true_eq, and_true]
theorem rights_b (a0 a1 a2 : TPoint) (k : Int) : (bif bif FvecRight a0 then FvecRight a1 else false then FvecRight a2 else false) = decide (Rights ⟨k, a0, a1, a2⟩) := by
  rw [Bool.eq_iff_iff, decide_eq_true_eq]
  unfold Rights
  simp only [cnd_and, Bool.and_eq_true, right_eq, decide_eq_true_eq, and_assoc]
theorem ok_b1 (a0 a1 a2 : TPoint) : (bif decide (Rights ⟨1, a0, a1, a2⟩) then Fedgelone ⟨1, a0, a1, a2⟩ else false) = decide (OkE ⟨1, a0, a1, a2⟩) := by
  rw [Bool.eq_iff_iff, decide_eq_true_eq]
  unfold OkE Form
  rw [lone_eq]
  simp [cnd_and]
theorem ok_b2 (a0 a1 a2 : TPoint) : (bif decide (Rights ⟨2, a0, a1, a2⟩) then Fedgeleftwards ⟨2, a0, a1, a2⟩ else false) = decide (OkE ⟨2, a0, a1, a2⟩) := by
  rw [Bool.eq_iff_iff, decide_eq_true_eq]
  unfold OkE Form
  by_cases h : Rights ⟨2, a0, a1, a2⟩
  · rw [left_eq _ h]; simp [cnd_and, h]
  · simp [h]
theorem ok_b3 (a0 a1 a2 : TPoint) : (bif decide (Rights ⟨3, a0, a1, a2⟩) then Fedgerightwards ⟨3, a0, a1, a2⟩ else false) = decide (OkE ⟨3, a0, a1, a2⟩) := by
  rw [Bool.eq_iff_iff, decide_eq_true_eq]
  unfold OkE Form
  by_cases h : Rights ⟨3, a0, a1, a2⟩
  · rw [right3_eq _ h]; simp [cnd_and, h]
  · simp [h]
theorem ok_kind {e : TEdge} (h : OkE e) : e.Kind = 1 ∨ e.Kind = 2 ∨ e.Kind = 3 := by
  obtain ⟨_, h⟩ := h
  rcases h with ⟨h, _⟩ | ⟨h, _⟩ | ⟨h, _⟩ <;> simp [h]
theorem check_eq (e : TEdge) : FCheck e = CheckM e := by
  obtain ⟨k, a0, a1, a2⟩ := e
  unfold FCheck
  by_cases k1 : k = 1
  · subst k1
    simp only [if_true, FCheck1, wCheck1_0, wof1_2, wof1_1, wof1_0]
    rw [rights_b a0 a1 a2 1, ok_b1]
    unfold CheckM
    simp [cnd_if]
  by_cases k2 : k = 2
  · subst k2
    simp only [k1, if_false, if_true, FCheck2, wCheck2_0, wof2_2, wof2_1, wof2_0]
    rw [rights_b a0 a1 a2 2, ok_b2]
    unfold CheckM
    simp [cnd_if]
  by_cases k3 : k = 3
  · subst k3
    simp only [k1, k2, if_false, if_true, FCheck3, wCheck3_0, wof3_2, wof3_1, wof3_0]
    rw [rights_b a0 a1 a2 3, ok_b3]
    unfold CheckM
    simp [cnd_if]
  · simp only [k1, k2, k3, if_false, FCheckN]
    rw [rights_b a0 a1 a2 k]
    unfold CheckM
    rw [if_neg (fun h => by have := ok_kind h; simp only at this; omega)]
    simp only [cnd_and]
    simp only [cnd_if, Bool.and_eq_true, decide_eq_true_eq, Bool.not_eq_true', decide_eq_false_iff_not]
theorem check6_eq (e : TEdge) : Fref06Check e = CheckM e := by
  obtain ⟨k, a0, a1, a2⟩ := e
  unfold Fref06Check wref06Check_1 wref06Check_0 CheckM
  by_cases hk : 1 ≤ k ∧ k ≤ 3
  · by_cases hr : Rights ⟨k, a0, a1, a2⟩
    · obtain ⟨ha, hb, hc⟩ := id hr
      have hs : ∀ p q, Fref05Sub p q = FvecSub p q := fun _ _ => rfl
      simp only [hs, right5_eq]
      simp only at ha hb hc
      simp only [sub_eq ha hc, sub_eq hb hc, ha, hb, hc]
      unfold RP C27 at ha hb hc
      have hd : decide (k < 1) = false := by simp; omega
      have hd' : decide (3 < k) = false := by simp; omega
      rw [hd, hd']
      simp only [decide_true, Bool.not_true, cond_false, hr, not_true, and_false, if_false]
      have k3 : k = 1 ∨ k = 2 ∨ k = 3 := by omega
      rcases k3 with rfl | rfl | rfl
      · simp only [OkE, Form, hr, true_and, decide_true, cond_true, QL, QR]
        by_cases h1 : a2.X = 0 <;> by_cases h2 : a2.Y = 0 <;> simp [h1, h2, hr]
      · simp only [OkE, Form, hr, true_and, QL, QR, Odd, W64_def]
        simp only [cnd_or, Bool.and_true]
        simp only [cnd_if, Bool.or_eq_true, Bool.not_eq_true', Bool.and_eq_false_iff, decide_eq_true_eq, decide_eq_false_iff_not, beq_iff_eq, decide_eq_decide]
        simp only [Int.reduceEq, if_false, and_false, false_and, false_or, or_false, if_true, and_true, Bool.and_eq_false_iff, decide_eq_false_iff_not, Bool.and_true]
        by_cases h1 : a0.X - a2.X = 0 <;> by_cases h2 : a0.Y - a2.Y = 0 <;> simp only [h1, h2, true_or, if_true, iff_self, iff_true, iff_false, true_iff, false_iff, not_true, not_false_eq_true, false_and, true_and, if_false, false_or, or_false, true_and] <;> (try rfl) <;> split <;> split <;> first | rfl | (exfalso; omega)
      · simp only [OkE, Form, hr, true_and, QL, QR, Odd, W64_def]
        simp only [cnd_or, Bool.and_true]
        simp only [cnd_if, Bool.or_eq_true, Bool.not_eq_true', Bool.and_eq_false_iff, decide_eq_true_eq, decide_eq_false_iff_not, beq_iff_eq, decide_eq_decide]
        simp only [Int.reduceEq, if_false, and_false, false_and, false_or, or_false, if_true, and_true, Bool.and_eq_false_iff, decide_eq_false_iff_not, Bool.and_true]
        by_cases h1 : a0.X - a2.X = 0 <;> by_cases h2 : a0.Y - a2.Y = 0 <;> simp only [h1, h2, true_or, if_true, iff_self, iff_true, iff_false, true_iff, false_iff, not_true, not_false_eq_true, false_and, true_and, if_false, false_or, or_false, true_and] <;> (try rfl) <;> split <;> split <;> first | rfl | (exfalso; omega)
    · rw [if_neg (fun h => hr h.1), if_pos ⟨hk, hr⟩]
      have hd : decide (k < 1) = false := by simp; omega
      have hd' : decide (3 < k) = false := by simp; omega
      rw [hd, hd']
      simp only [right5_eq, cond_false]
      have : (bif bif !decide (RP a0) then true else !decide (RP a1) then true else !decide (RP a2)) = true := by
        simp only [cnd_or, Bool.or_eq_true, Bool.not_eq_true', decide_eq_false_iff_not]
        unfold Rights at hr
        simp only at hr
        by_cases h0 : RP a0 <;> by_cases h1 : RP a1 <;> by_cases h2 : RP a2 <;> simp_all
      rw [this]
      rfl
  · rw [if_neg (fun h => by have := ok_kind h; simp only at this; omega), if_neg (fun h => hk h.1)]
    have : (bif decide (k < 1) then true else decide (3 < k)) = true := by
      simp only [cnd_or, Bool.or_eq_true, decide_eq_true_eq]; omega
    rw [this]
    rfl

def cr (a b p : TPoint) : Int := (b.X - a.X) * (p.Y - a.Y) - (b.Y - a.Y) * (p.X - a.X)
def d2 (p c : TPoint) : Int := (p.X - c.X) * (p.X - c.X) + (p.Y - c.Y) * (p.Y - c.Y)
def InB (e : TEdge) (p : TPoint) : Prop := (min e.A.X e.B.X ≤ p.X ∧ p.X ≤ max e.A.X e.B.X) ∧ min e.A.Y e.B.Y ≤ p.Y ∧ p.Y ≤ max e.A.Y e.B.Y
instance (e : TEdge) (p : TPoint) : Decidable (InB e p) := by unfold InB; infer_instance
def up (e : TEdge) : Int := if e.A.Y < e.B.Y then 1 else if e.B.Y < e.A.Y then -1 else 0
def RightHalf (e : TEdge) : Prop := e.C.X < e.A.X ∨ e.C.X < e.B.X
instance (e : TEdge) : Decidable (RightHalf e) := by unfold RightHalf; infer_instance
def Bey (e : TEdge) (p : TPoint) : Prop := if e.Kind = 1 then (if e.A.Y < e.B.Y then 0 < cr e.A e.B p else cr e.A e.B p < 0) else if RightHalf e then d2 p e.C < d2 e.A e.C else d2 e.A e.C < d2 p e.C
instance (e : TEdge) (p : TPoint) : Decidable (Bey e p) := by unfold Bey; infer_instance
def InR (e : TEdge) (p : TPoint) : Prop := (min e.A.Y e.B.Y ≤ p.Y ∧ p.Y < max e.A.Y e.B.Y) ∧ p.X < max e.A.X e.B.X
instance (e : TEdge) (p : TPoint) : Decidable (InR e p) := by unfold InR; infer_instance
def RayM (e : TEdge) (p : TPoint) : Int := if OkE e ∧ InR e p ∧ (p.X < min e.A.X e.B.X ∨ Bey e p) then up e else 0

theorem arc_odd {e : TEdge} (h : OkE e) (hk : e.Kind ≠ 1) : Odd e ∧ ((e.B.X - e.C.X = -(e.A.Y - e.C.Y) ∧ e.B.Y - e.C.Y = e.A.X - e.C.X) ∨ (e.B.X - e.C.X = e.A.Y - e.C.Y ∧ e.B.Y - e.C.Y = -(e.A.X - e.C.X))) := by
  obtain ⟨_, h⟩ := h
  rcases h with ⟨h, _⟩ | ⟨h, h1, h2⟩ | ⟨h, h1, h2⟩
  · exact absurd h hk
  · exact ⟨h1, .inl h2⟩
  · exact ⟨h1, .inr h2⟩
theorem odd_cases {e : TEdge} (h : Odd e) : (e.A.X - e.C.X = 0 ∧ e.A.Y - e.C.Y ≠ 0) ∨ (e.A.X - e.C.X ≠ 0 ∧ e.A.Y - e.C.Y = 0) := by
  unfold Odd at h
  by_cases h1 : e.A.X - e.C.X = 0 <;> by_cases h2 : e.A.Y - e.C.Y = 0 <;> simp_all

theorem inb_rp {e : TEdge} {p : TPoint} (h : Rights e) (hp : InB e p) : RP p := by
  obtain ⟨ha, hb, hc⟩ := h
  unfold InB at hp
  unfold RP C27 at *
  omega
theorem side_eq {e : TEdge} {p : TPoint} (h : Rights e) (hp : RP p) : FvecSide e.A e.B p = if 0 < cr e.A e.B p then 1 else if cr e.A e.B p < 0 then -1 else 0 := by
  obtain ⟨ha, hb, hc⟩ := h
  have : FvecCross (FvecSub e.B e.A) (FvecSub p e.A) = cr e.A e.B p := by
    rw [sub_eq hb ha, sub_eq hp ha, cross_eq (sub_r hb ha) (sub_r hp ha)]
    rfl
  unfold FvecSide
  rw [this]
  simp only [cnd_if, decide_eq_true_eq]
theorem power_eq {e : TEdge} {p : TPoint} (h : Rights e) (hp : RP p) : Fedgepower e p = d2 p e.C - d2 e.A e.C := by
  obtain ⟨ha, hb, hc⟩ := h
  unfold Fedgepower
  rw [sub_eq hp hc, sub_eq ha hc, dot_eq (sub_r hp hc) (sub_r hp hc), dot_eq (sub_r ha hc) (sub_r ha hc)]
  have h1 := sub_r hp hc
  have h2 := sub_r ha hc
  unfold R28 at h1 h2
  have b1 := b54 h1.1 h1.1
  have b2 := b54 h1.2 h1.2
  have b3 := b54 h2.1 h2.1
  have b4 := b54 h2.2 h2.2
  rw [W64_id (by simp only at *; omega) (by simp only at *; omega)]
  rfl
def RadM (e : TEdge) : Int := if OkE e ∧ e.Kind ≠ 1 then max (e.A.X - e.C.X) (-(e.A.X - e.C.X)) + max (e.A.Y - e.C.Y) (-(e.A.Y - e.C.Y)) else 0
theorem rad_arc {k : Int} {a0 a1 a2 : TPoint} (h : OkE ⟨k, a0, a1, a2⟩) (hk : k ≠ 1) : max (max (max ((FvecSub a0 a2).X) (W64 (0 - ((FvecSub a0 a2).X)))) ((FvecSub a0 a2).Y)) (W64 (0 - ((FvecSub a0 a2).Y))) = max (a0.X - a2.X) (-(a0.X - a2.X)) + max (a0.Y - a2.Y) (-(a0.Y - a2.Y)) := by
  have ho := odd_cases (arc_odd h hk).1
  obtain ⟨ha, hb, hc⟩ := h.1
  simp only at ha hb hc ho
  rw [sub_eq ha hc]
  unfold RP C27 at *
  simp only [W64_def]
  omega
theorem rad_eq (e : TEdge) : FRadius e = RadM e := by
  obtain ⟨k, a0, a1, a2⟩ := e
  unfold FRadius RadM
  by_cases k1 : k = 1
  · subst k1
    simp [FRadius1, wRadius1_0, wof1_2, wof1_1, wof1_0]
  by_cases k2 : k = 2
  · subst k2
    simp only [k1, if_false, if_true, FRadius2, wRadius2_0, wof2_2, wof2_1, wof2_0]
    rw [rights_b a0 a1 a2 2, ok_b2]
    by_cases h : OkE ⟨2, a0, a1, a2⟩
    · simp only [h, decide_true, Bool.not_true, cond_false, rad_arc h (by decide)]; simp
    · simp [h]
  by_cases k3 : k = 3
  · subst k3
    simp only [k1, k2, if_false, if_true, FRadius3, wRadius3_0, wof3_2, wof3_1, wof3_0]
    rw [rights_b a0 a1 a2 3, ok_b3]
    by_cases h : OkE ⟨3, a0, a1, a2⟩
    · simp only [h, decide_true, Bool.not_true, cond_false, rad_arc h (by decide)]; simp
    · simp [h]
  · simp only [k1, k2, k3, if_false, FRadiusN]
    rw [if_neg]
    intro h
    have := ok_kind h.1
    simp only at this
    omega
theorem check0 (e : TEdge) : decide (CheckM e = 0) = decide (OkE e) := by
  unfold CheckM
  by_cases h : OkE e
  · simp [h]
  · simp only [h, if_false, decide_false, decide_eq_false_iff_not]
    split <;> omega
theorem rad6_eq (e : TEdge) : Fref06Radius e = RadM e := by
  unfold Fref06Radius RadM
  rw [check6_eq, check0]
  have hs : ∀ p q, Fref05Sub p q = FvecSub p q := fun _ _ => rfl
  by_cases k1 : e.Kind = 1
  · simp [k1]
  by_cases h : OkE e
  · have ho := odd_cases (arc_odd h k1).1
    obtain ⟨ha, hb, hc⟩ := h.1
    simp only [k1, h, decide_true, decide_false, cond_false, Bool.not_true, Fref06size, hs, sub_eq ha hc, ne_eq, not_false_eq_true, and_self, if_true]
    unfold RP C27 at *
    simp only [W64_def]
    omega
  · simp [h]
theorem rad_sq {e : TEdge} (h : OkE e) (hk : e.Kind ≠ 1) : RadM e * RadM e = d2 e.A e.C := by
  have ho := odd_cases (arc_odd h hk).1
  unfold RadM d2
  rw [if_pos ⟨h, hk⟩]
  have sq : ∀ x : Int, (max x (-x)) * (max x (-x)) = x * x := fun x => by
    rcases Int.le_total 0 x with h | h
    · rw [Int.max_eq_left (by omega)]
    · rw [Int.max_eq_right (by omega), Int.neg_mul_neg]
  rcases ho with ⟨h1, _⟩ | ⟨_, h1⟩
  · rw [h1]; simp [sq]
  · rw [h1]; simp [sq]
theorem rad_b (e : TEdge) : 0 ≤ RadM e ∧ RadM e ≤ 268435456 := by
  unfold RadM
  split
  · rename_i h
    obtain ⟨ha, hb, hc⟩ := h.1.1
    unfold RP C27 at *
    omega
  · omega
theorem radsq_w {e : TEdge} (h : OkE e) (hk : e.Kind ≠ 1) : W64 (RadM e * RadM e) = d2 e.A e.C := by
  have hb := rad_b e
  have := mul_b (RadM e) (RadM e) 268435456 268435456 (by omega) (by omega)
  rw [W64_id (by omega) (by omega), rad_sq h hk]


theorem up_eq (e : TEdge) : Fedgeupward e = up e := by
  unfold Fedgeupward up
  simp only [cnd_if, decide_eq_true_eq]
theorem inr_b {e : TEdge} {p : TPoint} (h : InR e p) (hx : ¬ p.X < min e.A.X e.B.X) : InB e p := by
  unfold InR at h
  unfold InB
  omega
theorem above_eq {e : TEdge} {p : TPoint} (h : OkE e) (hk : e.Kind = 1) (hr : InR e p) (hx : ¬ p.X < min e.A.X e.B.X) : Fedgeabove e p = true ↔ Bey e p := by
  unfold Fedgeabove
  rw [side_eq h.1 (inb_rp h.1 (inr_b hr hx)), up_eq, decide_eq_true_eq]
  unfold Bey up InR at *
  rw [if_pos hk]
  by_cases hu : e.A.Y < e.B.Y
  · rw [if_pos hu, if_pos hu]
    split
    · omega
    · split <;> omega
  · have : e.B.Y < e.A.Y := by omega
    rw [if_neg hu, if_neg hu, if_pos this]
    split
    · omega
    · split <;> omega
theorem half {e : TEdge} (h : OkE e) (hk : e.Kind ≠ 1) : (RightHalf e ∧ min e.A.X e.B.X = e.C.X ∧ e.C.X < max e.A.X e.B.X) ∨ (¬ RightHalf e ∧ max e.A.X e.B.X = e.C.X ∧ min e.A.X e.B.X < e.C.X) := by
  obtain ⟨ho, h2⟩ := arc_odd h hk
  have h1 := odd_cases ho
  unfold RightHalf
  omega
theorem beside_eq {e : TEdge} {p : TPoint} (h : OkE e) (hk : e.Kind ≠ 1) (hr : InR e p) (hx : ¬ p.X < min e.A.X e.B.X) : Fedgebeside e p = true ↔ Bey e p := by
  unfold Fedgebeside
  rw [power_eq h.1 (inb_rp h.1 (inr_b hr hx))]
  unfold Bey
  rw [if_neg hk]
  simp only [cnd_or, cnd_and]
  simp only [cnd_if]
  unfold InR at hr
  rcases half h hk with ⟨h1, h2, h3⟩ | ⟨h1, h2, h3⟩
  · have e1 : (decide (e.C.X < e.A.X) || decide (e.C.X < e.B.X)) = true := by simpa [RightHalf] using h1
    rw [e1, if_pos rfl, if_pos h1]
    simp only [Bool.or_eq_true, decide_eq_true_eq]
    omega
  · have e1 : (decide (e.C.X < e.A.X) || decide (e.C.X < e.B.X)) = false := by simpa [RightHalf] using h1
    rw [e1, if_neg (by decide), if_neg h1]
    simp only [Bool.and_eq_true, decide_eq_true_eq]
    omega
theorem arc_ok (c : TPoint) (r t k : Int) (hc : (-1000 ≤ c.X ∧ c.X ≤ 1000) ∧ -1000 ≤ c.Y ∧ c.Y ≤ 1000) (hr : 1 ≤ r ∧ r ≤ 1000) (ht : 0 ≤ t ∧ t ≤ 3) (hk : k = 2 ∨ k = 3) : OkE (Fref06Arc c r t k) := by
  have t4 : t = 0 ∨ t = 1 ∨ t = 2 ∨ t = 3 := by omega
  have e0 : Fref05Turns 0 = 0 := by decide +kernel
  have e1 : Fref05Turns 1 = 1 := by decide +kernel
  have e2 : Fref05Turns 2 = 2 := by decide +kernel
  have e3 : Fref05Turns 3 = 3 := by decide +kernel
  have e4 : Fref05Turns 4 = 0 := by decide +kernel
  have e5 : Fref05Turns 5 = 1 := by decide +kernel
  have e6 : Fref05Turns 6 = 2 := by decide +kernel
  have w1 : W64 (0 + 1) = 1 := by decide +kernel
  have w2 : W64 (1 + 1) = 2 := by decide +kernel
  have w3 : W64 (2 + 1) = 3 := by decide +kernel
  have w4 : W64 (3 + 1) = 4 := by decide +kernel
  have w5 : W64 (0 + 3) = 3 := by decide +kernel
  have w6 : W64 (1 + 3) = 4 := by decide +kernel
  have w7 : W64 (2 + 3) = 5 := by decide +kernel
  have w8 : W64 (3 + 3) = 6 := by decide +kernel
  unfold Fref06Arc wref06Arc_0 wref06Arc_1 Fref05Apply wref05Apply_0 Fref05Add Fref05mirrored
  rcases t4 with rfl | rfl | rfl | rfl <;> rcases hk with rfl | rfl <;>
    simp only [Int.reduceEq, decide_true, decide_false, cond_true, cond_false, w1, w2, w3, w4, w5, w6, w7, w8, Fref05turned, e0, e1, e2, e3, e4, e5, e6, OkE, Rights, Form, RP, C27, QL, QR, Odd, W64_def, false_and, false_or, or_false, true_and] <;> omega
theorem arc_ab (c : TPoint) (r : Int) (hc : (-1000 ≤ c.X ∧ c.X ≤ 1000) ∧ -1000 ≤ c.Y ∧ c.Y ≤ 1000) (hr : 1 ≤ r ∧ r ≤ 1000) :
    Fref06Arc c r 0 2 = ⟨2, ⟨c.X + r, c.Y⟩, ⟨c.X, c.Y + r⟩, c⟩ ∧ Fref06Arc c r 1 2 = ⟨2, ⟨c.X, c.Y + r⟩, ⟨c.X - r, c.Y⟩, c⟩ ∧ Fref06Arc c r 2 2 = ⟨2, ⟨c.X - r, c.Y⟩, ⟨c.X, c.Y - r⟩, c⟩ ∧ Fref06Arc c r 3 2 = ⟨2, ⟨c.X, c.Y - r⟩, ⟨c.X + r, c.Y⟩, c⟩ := by
  have e0 : Fref05Turns 0 = 0 := by decide +kernel
  have e1 : Fref05Turns 1 = 1 := by decide +kernel
  have e2 : Fref05Turns 2 = 2 := by decide +kernel
  have e3 : Fref05Turns 3 = 3 := by decide +kernel
  have e4 : Fref05Turns 4 = 0 := by decide +kernel
  have w1 : W64 (0 + 1) = 1 := by decide +kernel
  have w2 : W64 (1 + 1) = 2 := by decide +kernel
  have w3 : W64 (2 + 1) = 3 := by decide +kernel
  have w4 : W64 (3 + 1) = 4 := by decide +kernel
  unfold Fref06Arc wref06Arc_0 wref06Arc_1 Fref05Apply wref05Apply_0 Fref05Add Fref05mirrored
  simp only [Int.reduceEq, decide_true, decide_false, cond_true, cond_false, w1, w2, w3, w4, Fref05turned, e0, e1, e2, e3, e4, W64_def, TEdge.mk.injEq, TPoint.mk.injEq, and_true, true_and]
  omega
theorem getD_b {l : List Int} {a b : Int} (h : ∀ x ∈ l, a ≤ x ∧ x ≤ b) {k : Int} (hk : 0 ≤ k ∧ k < l.length) : a ≤ l.getD k.toNat 0 ∧ l.getD k.toNat 0 ≤ b := by
  have hlt : k.toNat < l.length := by omega
  rw [List.getD_eq_getElem?_getD, List.getElem?_eq_getElem hlt]
  exact h _ (List.getElem_mem _)
/-- A made edge is valid, and small. -/
def Small (e : TEdge) : Prop := ((-300 ≤ e.A.X ∧ e.A.X ≤ 300) ∧ -300 ≤ e.A.Y ∧ e.A.Y ≤ 300) ∧ ((-300 ≤ e.B.X ∧ e.B.X ≤ 300) ∧ -300 ≤ e.B.Y ∧ e.B.Y ≤ 300) ∧ (-300 ≤ e.C.X ∧ e.C.X ≤ 300) ∧ -300 ≤ e.C.Y ∧ e.C.Y ≤ 300
theorem arc_small (c : TPoint) (r t k : Int) (hc : (-100 ≤ c.X ∧ c.X ≤ 100) ∧ -100 ≤ c.Y ∧ c.Y ≤ 100) (hr : 1 ≤ r ∧ r ≤ 100) (ht : 0 ≤ t ∧ t ≤ 3) (hk : k = 2 ∨ k = 3) : Small (Fref06Arc c r t k) := by
  have t4 : t = 0 ∨ t = 1 ∨ t = 2 ∨ t = 3 := by omega
  have e0 : Fref05Turns 0 = 0 := by decide +kernel
  have e1 : Fref05Turns 1 = 1 := by decide +kernel
  have e2 : Fref05Turns 2 = 2 := by decide +kernel
  have e3 : Fref05Turns 3 = 3 := by decide +kernel
  have e4 : Fref05Turns 4 = 0 := by decide +kernel
  have e5 : Fref05Turns 5 = 1 := by decide +kernel
  have e6 : Fref05Turns 6 = 2 := by decide +kernel
  have w1 : W64 (0 + 1) = 1 := by decide +kernel
  have w2 : W64 (1 + 1) = 2 := by decide +kernel
  have w3 : W64 (2 + 1) = 3 := by decide +kernel
  have w4 : W64 (3 + 1) = 4 := by decide +kernel
  have w5 : W64 (0 + 3) = 3 := by decide +kernel
  have w6 : W64 (1 + 3) = 4 := by decide +kernel
  have w7 : W64 (2 + 3) = 5 := by decide +kernel
  have w8 : W64 (3 + 3) = 6 := by decide +kernel
  unfold Fref06Arc wref06Arc_0 wref06Arc_1 Fref05Apply wref05Apply_0 Fref05Add Fref05mirrored
  rcases t4 with rfl | rfl | rfl | rfl <;> rcases hk with rfl | rfl <;>
    simp only [Int.reduceEq, decide_true, decide_false, cond_true, cond_false, w1, w2, w3, w4, w5, w6, w7, w8, Fref05turned, e0, e1, e2, e3, e4, e5, e6, Small, W64_def] <;> omega
def RevM (e : TEdge) : TEdge := ⟨if e.Kind = 2 then 3 else if e.Kind = 3 then 2 else e.Kind, e.B, e.A, e.C⟩
theorem rev_eq (e : TEdge) : FReverse e = RevM e := by
  obtain ⟨k, a0, a1, a2⟩ := e
  unfold FReverse RevM
  by_cases k1 : k = 1
  · subst k1; rfl
  by_cases k2 : k = 2
  · subst k2; rfl
  by_cases k3 : k = 3
  · subst k3; rfl
  · simp only [k1, k2, k3, if_false]; rfl
theorem rev_rev (e : TEdge) : RevM (RevM e) = e := by
  obtain ⟨k, a0, a1, a2⟩ := e
  unfold RevM
  simp only [TEdge.mk.injEq, and_true]
  split
  · omega
  · split <;> omega
theorem rev_ok1 {e : TEdge} (h : OkE e) : OkE (RevM e) := by
  obtain ⟨⟨h1, h2, h3⟩, h4⟩ := h
  refine ⟨⟨h2, h1, h3⟩, ?_⟩
  unfold Form at *
  rcases h4 with ⟨h, h5⟩ | ⟨h, h5, h6⟩ | ⟨h, h5, h6⟩
  · exact .inl ⟨by unfold RevM; simp only [h]; decide, h5⟩
  · have := odd_cases h5
    refine .inr (.inr ⟨by unfold RevM; simp only [h]; decide, ?_⟩)
    unfold QR Odd RevM
    simp only
    omega
  · have := odd_cases h5
    refine .inr (.inl ⟨by unfold RevM; simp only [h]; decide, ?_⟩)
    unfold QL Odd RevM
    simp only
    omega
theorem rev_ok (e : TEdge) : OkE (RevM e) ↔ OkE e := ⟨fun h => by have := rev_ok1 h; rwa [rev_rev] at this, rev_ok1⟩
theorem rev_kind (e : TEdge) : (RevM e).Kind = 1 ↔ e.Kind = 1 := by
  unfold RevM
  simp only
  split
  · omega
  · split <;> omega
theorem rev_rights (e : TEdge) : Rights (RevM e) ↔ Rights e := ⟨fun ⟨h1, h2, h3⟩ => ⟨h2, h1, h3⟩, fun ⟨h1, h2, h3⟩ => ⟨h2, h1, h3⟩⟩
theorem rev_check (e : TEdge) : CheckM (RevM e) = CheckM e := by
  unfold CheckM
  simp only [rev_ok, rev_rights]
  have : (1 ≤ (RevM e).Kind ∧ (RevM e).Kind ≤ 3) ↔ (1 ≤ e.Kind ∧ e.Kind ≤ 3) := by
    unfold RevM
    simp only
    split
    · omega
    · split <;> omega
  simp only [this]
theorem rev_rad (e : TEdge) : RadM (RevM e) = RadM e := by
  unfold RadM
  simp only [rev_ok, ne_eq, rev_kind]
  split
  · rename_i h
    obtain ⟨ho, h2⟩ := arc_odd h.1 h.2
    have h1 := odd_cases ho
    unfold RevM
    simp only
    omega
  · rfl
theorem d2_ends {e : TEdge} (h : OkE e) (hk : e.Kind ≠ 1) : d2 e.B e.C = d2 e.A e.C := by
  obtain ⟨ho, h2⟩ := arc_odd h hk
  unfold d2
  rcases h2 with ⟨h3, h4⟩ | ⟨h3, h4⟩ <;> rw [h3, h4] <;> grind
theorem cr_swap (a b p : TPoint) : cr b a p = - cr a b p := by unfold cr; grind
theorem rev_ray (e : TEdge) (p : TPoint) : RayM (RevM e) p = - RayM e p := by
  unfold RayM
  by_cases h : OkE e
  · have h1 : InR (RevM e) p ↔ InR e p := by unfold InR RevM; simp only; omega
    have h2 : min (RevM e).A.X (RevM e).B.X = min e.A.X e.B.X := by unfold RevM; simp only; omega
    have h3 : up (RevM e) = - up e := by
      unfold up RevM
      simp only
      split
      · rw [if_neg (by omega)]; rfl
      · split <;> omega
    rw [h2, h3]
    by_cases hr : InR e p
    · have h4 : Bey (RevM e) p ↔ Bey e p := by
        unfold Bey
        by_cases hk : e.Kind = 1
        · rw [if_pos ((rev_kind e).2 hk), if_pos hk]
          show (if e.B.Y < e.A.Y then 0 < cr e.B e.A p else cr e.B e.A p < 0) ↔ _
          rw [cr_swap]
          unfold InR at hr
          by_cases hu : e.A.Y < e.B.Y
          · rw [if_neg (by omega), if_pos hu]; omega
          · rw [if_pos (by omega), if_neg hu]; omega
        · rw [if_neg (fun h => hk ((rev_kind e).1 h)), if_neg hk]
          have h5 : RightHalf (RevM e) ↔ RightHalf e := by unfold RightHalf RevM; simp only; omega
          have h6 : d2 (RevM e).A (RevM e).C = d2 e.A e.C := d2_ends h hk
          have h7 : (RevM e).C = e.C := rfl
          rw [h7] at h6
          simp only [h5, h6, h7]
      simp only [rev_ok, h, h1, h4, true_and]
      split <;> rfl
    · simp only [h1, hr, false_and, and_false, if_false]; rfl
  · simp [rev_ok, h]

theorem tdiv_b (a b B : Int) (h : -B ≤ a ∧ a ≤ B) : -B ≤ Int.tdiv a b ∧ Int.tdiv a b ≤ B := by
  have h1 : (a.tdiv b).natAbs ≤ a.natAbs := by
    rw [Int.natAbs_tdiv]
    exact Nat.div_le_self _ _
  omega
theorem rad_small {e : TEdge} (h : Small e) : 0 ≤ RadM e ∧ RadM e ≤ 1200 := by
  unfold RadM
  unfold Small at h
  split <;> omega
theorem mem_b {l : List Int} (B : Int) (h : ∀ x ∈ l, -B ≤ x ∧ x ≤ B) (hB : 0 ≤ B) (k : Nat) : -B ≤ l.getD k 0 ∧ l.getD k 0 ≤ B := by
  rw [List.getD_eq_getElem?_getD]
  by_cases hk : k < l.length
  · rw [List.getElem?_eq_getElem hk]; exact h _ (List.getElem_mem _)
  · rw [List.getElem?_eq_none (by omega)]; simp only [Option.getD_none]; omega
def Near10 (p : TPoint) : Prop := (-40000 ≤ p.X ∧ p.X ≤ 40000) ∧ -40000 ≤ p.Y ∧ p.Y ≤ 40000
theorem sgn_mul (x c : Int) (hx : 0 ≤ x) : (0 < x * c ↔ 0 < x ∧ 0 < c) ∧ (x * c < 0 ↔ 0 < x ∧ c < 0) := by
  by_cases h0 : x = 0
  · subst h0; simp
  have hp : 0 < x := by omega
  rcases Int.lt_trichotomy c 0 with h | h | h
  · have := Int.mul_neg_of_pos_of_neg hp h
    omega
  · subst h; simp
  · have := Int.mul_pos hp h
    omega
theorem line_ray (a b c p : TPoint) (h : OkE ⟨1, a, b, c⟩) : RayM ⟨1, a, b, c⟩ p = if (a.Y ≤ p.Y ∧ p.Y < b.Y) ∧ 0 < cr a b p then 1 else if (b.Y ≤ p.Y ∧ p.Y < a.Y) ∧ cr a b p < 0 then -1 else 0 := by
  have e1 : cr a b p = (b.Y - p.Y) * (a.X - p.X) + (p.Y - a.Y) * (b.X - p.X) := by unfold cr; grind
  have e2 : cr a b p = -((p.Y - b.Y) * (a.X - p.X) + (a.Y - p.Y) * (b.X - p.X)) := by unfold cr; grind
  unfold RayM
  by_cases h1 : a.Y ≤ p.Y ∧ p.Y < b.Y
  · have hu : up ⟨1, a, b, c⟩ = 1 := by unfold up; rw [if_pos (by simp only; omega)]
    have hu2 : a.Y < b.Y := by omega
    have h2 : ¬ (b.Y ≤ p.Y ∧ p.Y < a.Y) := by omega
    rw [hu]
    simp only [h, h1, h2, InR, Bey, hu2, if_true, true_and, false_and, if_false, and_true]
    have m1 := sgn_mul (b.Y - p.Y) (a.X - p.X) (by omega)
    have m2 := sgn_mul (p.Y - a.Y) (b.X - p.X) (by omega)
    generalize (b.Y - p.Y) * (a.X - p.X) = u at *
    generalize (p.Y - a.Y) * (b.X - p.X) = v at *
    split <;> split <;> first | rfl | (exfalso; omega)
  · by_cases h2 : b.Y ≤ p.Y ∧ p.Y < a.Y
    · have hu : up ⟨1, a, b, c⟩ = -1 := by unfold up; rw [if_neg (by simp only; omega), if_pos (by simp only; omega)]
      have hu2 : ¬ a.Y < b.Y := by omega
      rw [hu]
      simp only [h, h1, h2, InR, Bey, hu2, if_true, true_and, false_and, if_false, and_true]
      have m1 := sgn_mul (p.Y - b.Y) (a.X - p.X) (by omega)
      have m2 := sgn_mul (a.Y - p.Y) (b.X - p.X) (by omega)
      generalize (p.Y - b.Y) * (a.X - p.X) = u at *
      generalize (a.Y - p.Y) * (b.X - p.X) = v at *
      split <;> split <;> first | rfl | (exfalso; omega)
    · rw [if_neg, if_neg (fun h => h1 h.1), if_neg (fun h => h2 h.1)]
      rintro ⟨_, ⟨h3, _⟩, _⟩
      simp only at h3
      omega
end Go.Proofs.Ytgmhnkoifdpemaa
