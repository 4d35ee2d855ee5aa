/-
  Proved: the statement of ShapeRaw; the parts before it hold what its proof needs.
-/
import Derived.Test.YtpnlegfdkkcnlaaShapeRawQe
namespace Go.Proofs.Ytpnlegfdkkcnlaa
set_option maxRecDepth 100000
open Go.RowKit
set_option linter.unusedVariables false
set_option linter.unusedSimpArgs false
theorem cnd_and (a b : Bool) : (bif a then b else false) = (a && b) := by cases a <;> rfl
theorem cnd_or (a b : Bool) : (bif a then true else b) = (a || b) := by cases a <;> rfl
theorem cnd_if {α : Type} (a : Bool) (x y : α) : (bif a then x else y) = if a = true then x else y := by cases a <;> rfl
def C27 (x : Int) : Prop := -67108864 ≤ x ∧ x ≤ 67108864
def RP (p : TPoint) : Prop := C27 p.X ∧ C27 p.Y
def R28 (p : TPoint) : Prop := (-134217728 ≤ p.X ∧ p.X ≤ 134217728) ∧ -134217728 ≤ p.Y ∧ p.Y ≤ 134217728
instance (x : Int) : Decidable (C27 x) := by unfold C27; infer_instance
instance (p : TPoint) : Decidable (RP p) := by unfold RP; infer_instance
theorem mul_b (x y A B : Int) (hx : -A ≤ x ∧ x ≤ A) (hy : -B ≤ y ∧ y ≤ B) : -(A * B) ≤ x * y ∧ x * y ≤ A * B := by
  have hA : 0 ≤ A := by omega
  have h1 : 0 ≤ (A - x) * (B + y) := Int.mul_nonneg (by omega) (by omega)
  have h2 : 0 ≤ (A + x) * (B - y) := Int.mul_nonneg (by omega) (by omega)
  have h3 : 0 ≤ (A - x) * (B - y) := Int.mul_nonneg (by omega) (by omega)
  have h4 : 0 ≤ (A + x) * (B + y) := Int.mul_nonneg (by omega) (by omega)
  have e1 : (A - x) * (B + y) = A * B + A * y - x * B - x * y := by grind
  have e2 : (A + x) * (B - y) = A * B - A * y + x * B - x * y := by grind
  have e3 : (A - x) * (B - y) = A * B - A * y - x * B + x * y := by grind
  have e4 : (A + x) * (B + y) = A * B + A * y + x * B + x * y := by grind
  omega
theorem b54 {x y : Int} (hx : -134217728 ≤ x ∧ x ≤ 134217728) (hy : -134217728 ≤ y ∧ y ≤ 134217728) : -18014398509481984 ≤ x * y ∧ x * y ≤ 18014398509481984 := by
  have := mul_b x y 134217728 134217728 hx hy
  omega
theorem sq_nn (x : Int) : 0 ≤ x * x := by
  rcases Int.le_total 0 x with h | h
  · exact Int.mul_nonneg h h
  · have := Int.mul_nonneg (show 0 ≤ -x by omega) (show 0 ≤ -x by omega)
    rwa [Int.neg_mul_neg] at this
theorem sub_eq {p q : TPoint} (hp : RP p) (hq : RP q) : FvecSub p q = ⟨p.X - q.X, p.Y - q.Y⟩ := by
  unfold RP C27 at *
  unfold FvecSub
  rw [W64_id (by omega) (by omega), W64_id (by omega) (by omega)]
theorem sub_r {p q : TPoint} (hp : RP p) (hq : RP q) : R28 ⟨p.X - q.X, p.Y - q.Y⟩ := by
  unfold RP C27 at *
  unfold R28
  simp only
  omega
theorem dot_eq {u v : TPoint} (hu : R28 u) (hv : R28 v) : FvecDot u v = u.X * v.X + u.Y * v.Y := by
  obtain ⟨h1, h2⟩ := hu; obtain ⟨h3, h4⟩ := hv
  have b1 := b54 h1 h3; have b2 := b54 h2 h4
  unfold FvecDot
  rw [W64_id (x := u.X * v.X) (by omega) (by omega), W64_id (x := u.Y * v.Y) (by omega) (by omega), W64_id (by omega) (by omega)]
theorem cross_eq {u v : TPoint} (hu : R28 u) (hv : R28 v) : FvecCross u v = u.X * v.Y - u.Y * v.X := by
  obtain ⟨h1, h2⟩ := hu; obtain ⟨h3, h4⟩ := hv
  have b1 := b54 h1 h4; have b2 := b54 h2 h3
  unfold FvecCross
  rw [W64_id (x := u.X * v.Y) (by omega) (by omega), W64_id (x := u.Y * v.X) (by omega) (by omega), W64_id (by omega) (by omega)]
theorem right_eq (p : TPoint) : FvecRight p = decide (RP p) := by
  rw [Bool.eq_iff_iff, decide_eq_true_eq]
  unfold FvecRight RP C27
  simp only [cnd_and, Bool.and_eq_true, decide_eq_true_eq]
  omega
theorem right5_eq (p : TPoint) : Fref05Right p = decide (RP p) := by
  rw [Bool.eq_iff_iff, decide_eq_true_eq]
  unfold Fref05Right RP C27
  simp only [cnd_and, Bool.and_eq_true, decide_eq_true_eq]
  omega
def Odd (e : TEdge) : Prop := ¬ (e.A.X - e.C.X = 0 ↔ e.A.Y - e.C.Y = 0)
def QL (e : TEdge) : Prop := Odd e ∧ e.B.X - e.C.X = -(e.A.Y - e.C.Y) ∧ e.B.Y - e.C.Y = e.A.X - e.C.X
def QR (e : TEdge) : Prop := Odd e ∧ e.B.X - e.C.X = e.A.Y - e.C.Y ∧ e.B.Y - e.C.Y = -(e.A.X - e.C.X)
def Rights (e : TEdge) : Prop := RP e.A ∧ RP e.B ∧ RP e.C
def Form (e : TEdge) : Prop := (e.Kind = 1 ∧ e.C.X = 0 ∧ e.C.Y = 0) ∨ (e.Kind = 2 ∧ QL e) ∨ (e.Kind = 3 ∧ QR e)
def OkE (e : TEdge) : Prop := Rights e ∧ Form e
instance (e : TEdge) : Decidable (QL e) := by unfold QL Odd; infer_instance
instance (e : TEdge) : Decidable (QR e) := by unfold QR Odd; infer_instance
instance (e : TEdge) : Decidable (Rights e) := by unfold Rights; infer_instance
instance (e : TEdge) : Decidable (Form e) := by unfold Form; infer_instance
instance (e : TEdge) : Decidable (OkE e) := by unfold OkE; infer_instance
def CheckM (e : TEdge) : Int := if OkE e then 0 else if (1 ≤ e.Kind ∧ e.Kind ≤ 3) ∧ ¬ Rights e then 10 else 11
theorem apply1 (p : TPoint) : FvecApply ⟨⟨0, 0⟩, 1, false⟩ p = ⟨W64 (W64 (0 - p.Y) + 0), W64 (p.X + 0)⟩ := by
  have ht : FvecTurns ⟨⟨0, 0⟩, 1, false⟩ = 1 := by decide +kernel
  unfold FvecApply
  rw [ht]
  rfl
theorem apply3 (p : TPoint) : FvecApply ⟨⟨0, 0⟩, 3, false⟩ p = ⟨W64 (W64 (0 - W64 (0 - p.Y)) + 0), W64 (W64 (0 - p.X) + 0)⟩ := by
  have ht : FvecTurns ⟨⟨0, 0⟩, 3, false⟩ = 3 := by decide +kernel
  unfold FvecApply
  rw [ht]
  rfl
theorem left_eq (e : TEdge) (h : Rights e) : Fedgeleftwards e = decide (QL e) := by
  obtain ⟨ha, hb, hc⟩ := h
  rw [Bool.eq_iff_iff, decide_eq_true_eq]
  unfold Fedgeleftwards Fedgequarter QL Odd
  rw [apply1, sub_eq ha hc, sub_eq hb hc]
  unfold RP C27 at *
  simp only [cnd_and, Bool.and_eq_true, decide_eq_true_eq, Bool.not_eq_true', and_true, W64_def, beq_eq_false_iff_ne, ne_eq, decide_eq_decide]
  omega
theorem right3_eq (e : TEdge) (h : Rights e) : Fedgerightwards e = decide (QR e) := by
  obtain ⟨ha, hb, hc⟩ := h
  rw [Bool.eq_iff_iff, decide_eq_true_eq]
  unfold Fedgerightwards Fedgequarter QR Odd
  rw [apply3, sub_eq ha hc, sub_eq hb hc]
  unfold RP C27 at *
  simp only [cnd_and, Bool.and_eq_true, decide_eq_true_eq, Bool.not_eq_true', and_true, W64_def, beq_eq_false_iff_ne, ne_eq, decide_eq_decide]
  omega
theorem lone_eq (e : TEdge) : Fedgelone e = decide (e.C.X = 0 ∧ e.C.Y = 0) := by
  rw [Bool.eq_iff_iff, decide_eq_true_eq]
  unfold Fedgelone
  simp only [Bool.and_eq_true, decide_eq_true_eq, and_true]
theorem rights_b (a0 a1 a2 : TPoint) (k : Int) : (bif bif FvecRight a0 then FvecRight a1 else false then FvecRight a2 else false) = decide (Rights ⟨k, a0, a1, a2⟩) := by
  rw [Bool.eq_iff_iff, decide_eq_true_eq]
  unfold Rights
  simp only [cnd_and, Bool.and_eq_true, right_eq, decide_eq_true_eq, and_assoc]
theorem ok_b1 (a0 a1 a2 : TPoint) : (bif decide (Rights ⟨1, a0, a1, a2⟩) then Fedgelone ⟨1, a0, a1, a2⟩ else false) = decide (OkE ⟨1, a0, a1, a2⟩) := by
  rw [Bool.eq_iff_iff, decide_eq_true_eq]
  unfold OkE Form
  rw [lone_eq]
  simp [cnd_and]
theorem ok_b2 (a0 a1 a2 : TPoint) : (bif decide (Rights ⟨2, a0, a1, a2⟩) then Fedgeleftwards ⟨2, a0, a1, a2⟩ else false) = decide (OkE ⟨2, a0, a1, a2⟩) := by
  rw [Bool.eq_iff_iff, decide_eq_true_eq]
  unfold OkE Form
  by_cases h : Rights ⟨2, a0, a1, a2⟩
  · rw [left_eq _ h]; simp [cnd_and, h]
  · simp [h]
theorem ok_b3 (a0 a1 a2 : TPoint) : (bif decide (Rights ⟨3, a0, a1, a2⟩) then Fedgerightwards ⟨3, a0, a1, a2⟩ else false) = decide (OkE ⟨3, a0, a1, a2⟩) := by
  rw [Bool.eq_iff_iff, decide_eq_true_eq]
  unfold OkE Form
  by_cases h : Rights ⟨3, a0, a1, a2⟩
  · rw [right3_eq _ h]; simp [cnd_and, h]
  · simp [h]
theorem ok_kind {e : TEdge} (h : OkE e) : e.Kind = 1 ∨ e.Kind = 2 ∨ e.Kind = 3 := by
  obtain ⟨_, h⟩ := h
  rcases h with ⟨h, _⟩ | ⟨h, _⟩ | ⟨h, _⟩ <;> simp [h]
theorem check_eq (e : TEdge) : FCheck e = CheckM e := by
  obtain ⟨k, a0, a1, a2⟩ := e
  unfold FCheck
  by_cases k1 : k = 1
  · subst k1
    simp only [if_true, FCheck1, wCheck1_0, wof1_2, wof1_1, wof1_0]
    rw [rights_b a0 a1 a2 1, ok_b1]
    unfold CheckM
    simp [cnd_if]
  by_cases k2 : k = 2
  · subst k2
    simp only [k1, if_false, if_true, FCheck2, wCheck2_0, wof2_2, wof2_1, wof2_0]
    rw [rights_b a0 a1 a2 2, ok_b2]
    unfold CheckM
    simp [cnd_if]
  by_cases k3 : k = 3
  · subst k3
    simp only [k1, k2, if_false, if_true, FCheck3, wCheck3_0, wof3_2, wof3_1, wof3_0]
    rw [rights_b a0 a1 a2 3, ok_b3]
    unfold CheckM
    simp [cnd_if]
  · simp only [k1, k2, k3, if_false, FCheckN]
    rw [rights_b a0 a1 a2 k]
    unfold CheckM
    rw [if_neg (fun h => by have := ok_kind h; simp only at this; omega)]
    simp only [cnd_and]
    simp only [cnd_if, Bool.and_eq_true, decide_eq_true_eq, Bool.not_eq_true', decide_eq_false_iff_not]
theorem check6_eq (e : TEdge) : Fref06Check e = CheckM e := by
  obtain ⟨k, a0, a1, a2⟩ := e
  unfold Fref06Check wref06Check_1 wref06Check_0 CheckM
  by_cases hk : 1 ≤ k ∧ k ≤ 3
  · by_cases hr : Rights ⟨k, a0, a1, a2⟩
    · obtain ⟨ha, hb, hc⟩ := id hr
      have hs : ∀ p q, Fref05Sub p q = FvecSub p q := fun _ _ => rfl
      simp only [hs, right5_eq]
      simp only at ha hb hc
      simp only [sub_eq ha hc, sub_eq hb hc, ha, hb, hc]
      unfold RP C27 at ha hb hc
      have hd : decide (k < 1) = false := by simp; omega
      have hd' : decide (3 < k) = false := by simp; omega
      rw [hd, hd']
      simp only [decide_true, Bool.not_true, cond_false, hr, not_true, and_false, if_false]
      have k3 : k = 1 ∨ k = 2 ∨ k = 3 := by omega
      rcases k3 with rfl | rfl | rfl
      · simp only [OkE, Form, hr, true_and, decide_true, cond_true, QL, QR]
        by_cases h1 : a2.X = 0 <;> by_cases h2 : a2.Y = 0 <;> simp [h1, h2, hr]
      · simp only [OkE, Form, hr, true_and, QL, QR, Odd, W64_def]
        simp only [cnd_or, Bool.and_true]
        simp only [cnd_if, Bool.or_eq_true, Bool.not_eq_true', Bool.and_eq_false_iff, decide_eq_true_eq, decide_eq_false_iff_not, beq_iff_eq, decide_eq_decide]
        simp only [Int.reduceEq, if_false, and_false, false_and, false_or, or_false, if_true, and_true, Bool.and_eq_false_iff, decide_eq_false_iff_not, Bool.and_true]
        by_cases h1 : a0.X - a2.X = 0 <;> by_cases h2 : a0.Y - a2.Y = 0 <;> simp only [h1, h2, true_or, if_true, iff_self, iff_true, iff_false, true_iff, false_iff, not_true, not_false_eq_true, false_and, true_and, if_false, false_or, or_false, true_and] <;> (try rfl) <;> split <;> split <;> first | rfl | (exfalso; omega)
      · simp only [OkE, Form, hr, true_and, QL, QR, Odd, W64_def]
        simp only [cnd_or, Bool.and_true]
        simp only [cnd_if, Bool.or_eq_true, Bool.not_eq_true', Bool.and_eq_false_iff, decide_eq_true_eq, decide_eq_false_iff_not, beq_iff_eq, decide_eq_decide]
        simp only [Int.reduceEq, if_false, and_false, false_and, false_or, or_false, if_true, and_true, Bool.and_eq_false_iff, decide_eq_false_iff_not, Bool.and_true]
        by_cases h1 : a0.X - a2.X = 0 <;> by_cases h2 : a0.Y - a2.Y = 0 <;> simp only [h1, h2, true_or, if_true, iff_self, iff_true, iff_false, true_iff, false_iff, not_true, not_false_eq_true, false_and, true_and, if_false, false_or, or_false, true_and] <;> (try rfl) <;> split <;> split <;> first | rfl | (exfalso; omega)
    · rw [if_neg (fun h => hr h.1), if_pos ⟨hk, hr⟩]
      have hd : decide (k < 1) = false := by simp; omega
      have hd' : decide (3 < k) = false := by simp; omega
      rw [hd, hd']
      simp only [right5_eq, cond_false]
      have : (bif bif !decide (RP a0) then true else !decide (RP a1) then true else !decide (RP a2)) = true := by
        simp only [cnd_or, Bool.or_eq_true, Bool.not_eq_true', decide_eq_false_iff_not]
        unfold Rights at hr
        simp only at hr
        by_cases h0 : RP a0 <;> by_cases h1 : RP a1 <;> by_cases h2 : RP a2 <;> simp_all
      rw [this]
      rfl
  · rw [if_neg (fun h => by have := ok_kind h; simp only at this; omega), if_neg (fun h => hk h.1)]
    have : (bif decide (k < 1) then true else decide (3 < k)) = true := by
      simp only [cnd_or, Bool.or_eq_true, decide_eq_true_eq]; omega
    rw [this]
    rfl
def cr (a b p : TPoint) : Int := (b.X - a.X) * (p.Y - a.Y) - (b.Y - a.Y) * (p.X - a.X)
def d2 (p c : TPoint) : Int := (p.X - c.X) * (p.X - c.X) + (p.Y - c.Y) * (p.Y - c.Y)
def InB (e : TEdge) (p : TPoint) : Prop := (min e.A.X e.B.X ≤ p.X ∧ p.X ≤ max e.A.X e.B.X) ∧ min e.A.Y e.B.Y ≤ p.Y ∧ p.Y ≤ max e.A.Y e.B.Y
instance (e : TEdge) (p : TPoint) : Decidable (InB e p) := by unfold InB; infer_instance
def up (e : TEdge) : Int := if e.A.Y < e.B.Y then 1 else if e.B.Y < e.A.Y then -1 else 0
def RightHalf (e : TEdge) : Prop := e.C.X < e.A.X ∨ e.C.X < e.B.X
instance (e : TEdge) : Decidable (RightHalf e) := by unfold RightHalf; infer_instance
def Bey (e : TEdge) (p : TPoint) : Prop := if e.Kind = 1 then (if e.A.Y < e.B.Y then 0 < cr e.A e.B p else cr e.A e.B p < 0) else if RightHalf e then d2 p e.C < d2 e.A e.C else d2 e.A e.C < d2 p e.C
instance (e : TEdge) (p : TPoint) : Decidable (Bey e p) := by unfold Bey; infer_instance
def InR (e : TEdge) (p : TPoint) : Prop := (min e.A.Y e.B.Y ≤ p.Y ∧ p.Y < max e.A.Y e.B.Y) ∧ p.X < max e.A.X e.B.X
instance (e : TEdge) (p : TPoint) : Decidable (InR e p) := by unfold InR; infer_instance
def RayM (e : TEdge) (p : TPoint) : Int := if OkE e ∧ InR e p ∧ (p.X < min e.A.X e.B.X ∨ Bey e p) then up e else 0
theorem arc_odd {e : TEdge} (h : OkE e) (hk : e.Kind ≠ 1) : Odd e ∧ ((e.B.X - e.C.X = -(e.A.Y - e.C.Y) ∧ e.B.Y - e.C.Y = e.A.X - e.C.X) ∨ (e.B.X - e.C.X = e.A.Y - e.C.Y ∧ e.B.Y - e.C.Y = -(e.A.X - e.C.X))) := by
  obtain ⟨_, h⟩ := h
  rcases h with ⟨h, _⟩ | ⟨h, h1, h2⟩ | ⟨h, h1, h2⟩
  · exact absurd h hk
  · exact ⟨h1, .inl h2⟩
  · exact ⟨h1, .inr h2⟩
theorem odd_cases {e : TEdge} (h : Odd e) : (e.A.X - e.C.X = 0 ∧ e.A.Y - e.C.Y ≠ 0) ∨ (e.A.X - e.C.X ≠ 0 ∧ e.A.Y - e.C.Y = 0) := by
  unfold Odd at h
  by_cases h1 : e.A.X - e.C.X = 0 <;> by_cases h2 : e.A.Y - e.C.Y = 0 <;> simp_all
theorem inb_rp {e : TEdge} {p : TPoint} (h : Rights e) (hp : InB e p) : RP p := by
  obtain ⟨ha, hb, hc⟩ := h
  unfold InB at hp
  unfold RP C27 at *
  omega
theorem side_eq {e : TEdge} {p : TPoint} (h : Rights e) (hp : RP p) : FvecSide e.A e.B p = if 0 < cr e.A e.B p then 1 else if cr e.A e.B p < 0 then -1 else 0 := by
  obtain ⟨ha, hb, hc⟩ := h
  have : FvecCross (FvecSub e.B e.A) (FvecSub p e.A) = cr e.A e.B p := by
    rw [sub_eq hb ha, sub_eq hp ha, cross_eq (sub_r hb ha) (sub_r hp ha)]
    rfl
  unfold FvecSide
  rw [this]
  simp only [cnd_if, decide_eq_true_eq]
theorem power_eq {e : TEdge} {p : TPoint} (h : Rights e) (hp : RP p) : Fedgepower e p = d2 p e.C - d2 e.A e.C := by
  obtain ⟨ha, hb, hc⟩ := h
  unfold Fedgepower
  rw [sub_eq hp hc, sub_eq ha hc, dot_eq (sub_r hp hc) (sub_r hp hc), dot_eq (sub_r ha hc) (sub_r ha hc)]
  have h1 := sub_r hp hc
  have h2 := sub_r ha hc
  unfold R28 at h1 h2
  have b1 := b54 h1.1 h1.1
  have b2 := b54 h1.2 h1.2
  have b3 := b54 h2.1 h2.1
  have b4 := b54 h2.2 h2.2
  rw [W64_id (by simp only at *; omega) (by simp only at *; omega)]
  rfl
def RadM (e : TEdge) : Int := if OkE e ∧ e.Kind ≠ 1 then max (e.A.X - e.C.X) (-(e.A.X - e.C.X)) + max (e.A.Y - e.C.Y) (-(e.A.Y - e.C.Y)) else 0
theorem rad_arc {k : Int} {a0 a1 a2 : TPoint} (h : OkE ⟨k, a0, a1, a2⟩) (hk : k ≠ 1) : max (max (max ((FvecSub a0 a2).X) (W64 (0 - ((FvecSub a0 a2).X)))) ((FvecSub a0 a2).Y)) (W64 (0 - ((FvecSub a0 a2).Y))) = max (a0.X - a2.X) (-(a0.X - a2.X)) + max (a0.Y - a2.Y) (-(a0.Y - a2.Y)) := by
  have ho := odd_cases (arc_odd h hk).1
  obtain ⟨ha, hb, hc⟩ := h.1
  simp only at ha hb hc ho
  rw [sub_eq ha hc]
  unfold RP C27 at *
  simp only [W64_def]
  omega
theorem rad_eq (e : TEdge) : FRadius e = RadM e := by
  obtain ⟨k, a0, a1, a2⟩ := e
  unfold FRadius RadM
  by_cases k1 : k = 1
  · subst k1
    simp [FRadius1, wRadius1_0, wof1_2, wof1_1, wof1_0]
  by_cases k2 : k = 2
  · subst k2
    simp only [k1, if_false, if_true, FRadius2, wRadius2_0, wof2_2, wof2_1, wof2_0]
    rw [rights_b a0 a1 a2 2, ok_b2]
    by_cases h : OkE ⟨2, a0, a1, a2⟩
    · simp only [h, decide_true, Bool.not_true, cond_false, rad_arc h (by decide)]; simp
    · simp [h]
  by_cases k3 : k = 3
  · subst k3
    simp only [k1, k2, if_false, if_true, FRadius3, wRadius3_0, wof3_2, wof3_1, wof3_0]
    rw [rights_b a0 a1 a2 3, ok_b3]
    by_cases h : OkE ⟨3, a0, a1, a2⟩
    · simp only [h, decide_true, Bool.not_true, cond_false, rad_arc h (by decide)]; simp
    · simp [h]
  · simp only [k1, k2, k3, if_false, FRadiusN]
    rw [if_neg]
    intro h
    have := ok_kind h.1
    simp only at this
    omega
theorem check0 (e : TEdge) : decide (CheckM e = 0) = decide (OkE e) := by
  unfold CheckM
  by_cases h : OkE e
  · simp [h]
  · simp only [h, if_false, decide_false, decide_eq_false_iff_not]
    split <;> omega
theorem rad6_eq (e : TEdge) : Fref06Radius e = RadM e := by
  unfold Fref06Radius RadM
  rw [check6_eq, check0]
  have hs : ∀ p q, Fref05Sub p q = FvecSub p q := fun _ _ => rfl
  by_cases k1 : e.Kind = 1
  · simp [k1]
  by_cases h : OkE e
  · have ho := odd_cases (arc_odd h k1).1
    obtain ⟨ha, hb, hc⟩ := h.1
    simp only [k1, h, decide_true, decide_false, cond_false, Bool.not_true, Fref06size, hs, sub_eq ha hc, ne_eq, not_false_eq_true, and_self, if_true]
    unfold RP C27 at *
    simp only [W64_def]
    omega
  · simp [h]
theorem rad_sq {e : TEdge} (h : OkE e) (hk : e.Kind ≠ 1) : RadM e * RadM e = d2 e.A e.C := by
  have ho := odd_cases (arc_odd h hk).1
  unfold RadM d2
  rw [if_pos ⟨h, hk⟩]
  have sq : ∀ x : Int, (max x (-x)) * (max x (-x)) = x * x := fun x => by
    rcases Int.le_total 0 x with h | h
    · rw [Int.max_eq_left (by omega)]
    · rw [Int.max_eq_right (by omega), Int.neg_mul_neg]
  rcases ho with ⟨h1, _⟩ | ⟨_, h1⟩
  · rw [h1]; simp [sq]
  · rw [h1]; simp [sq]
theorem rad_b (e : TEdge) : 0 ≤ RadM e ∧ RadM e ≤ 268435456 := by
  unfold RadM
  split
  · rename_i h
    obtain ⟨ha, hb, hc⟩ := h.1.1
    unfold RP C27 at *
    omega
  · omega
theorem radsq_w {e : TEdge} (h : OkE e) (hk : e.Kind ≠ 1) : W64 (RadM e * RadM e) = d2 e.A e.C := by
  have hb := rad_b e
  have := mul_b (RadM e) (RadM e) 268435456 268435456 (by omega) (by omega)
  rw [W64_id (by omega) (by omega), rad_sq h hk]
theorem up_eq (e : TEdge) : Fedgeupward e = up e := by
  unfold Fedgeupward up
  simp only [cnd_if, decide_eq_true_eq]
theorem inr_b {e : TEdge} {p : TPoint} (h : InR e p) (hx : ¬ p.X < min e.A.X e.B.X) : InB e p := by
  unfold InR at h
  unfold InB
  omega
theorem ray_form (e : TEdge) (p : TPoint) (g : Bool) (hg : OkE e → InR e p → ¬ p.X < min e.A.X e.B.X → (g = true ↔ Bey e p)) :
    (bif bif bif bif !decide (OkE e) then true else decide ((p.Y : Int) < ((FedgeBox e).Y0)) then true else decide ((((FedgeBox e).Y1) : Int) ≤ p.Y) then true else decide ((((FedgeBox e).X1) : Int) ≤ p.X) then (0) else (bif bif decide ((p.X : Int) < ((FedgeBox e).X0)) then true else g then (Fedgeupward e) else (0))) = RayM e p := by
  unfold RayM
  rw [up_eq]
  unfold FedgeBox
  simp only [cnd_or]
  simp only [cnd_if, Bool.or_eq_true, Bool.not_eq_true', decide_eq_true_eq, decide_eq_false_iff_not]
  by_cases h : OkE e
  · by_cases hr : InR e p
    · have h1 : ¬ (((¬ OkE e ∨ p.Y < min e.A.Y e.B.Y) ∨ max e.A.Y e.B.Y ≤ p.Y) ∨ max e.A.X e.B.X ≤ p.X) := by
        unfold InR at hr
        rintro (((h1 | h1) | h1) | h1)
        · exact h1 h
        all_goals omega
      rw [if_neg h1]
      by_cases hx : p.X < min e.A.X e.B.X
      · rw [if_pos (.inl hx), if_pos ⟨h, hr, .inl hx⟩]
      · have := hg h hr hx
        by_cases hb : Bey e p
        · rw [if_pos (.inr (this.2 hb)), if_pos ⟨h, hr, .inr hb⟩]
        · rw [if_neg, if_neg]
          · rintro ⟨_, _, h3 | h3⟩
            · exact hx h3
            · exact hb h3
          · rintro (h3 | h3)
            · exact hx h3
            · exact hb (this.1 h3)
    · rw [if_pos, if_neg (fun h => hr h.2.1)]
      unfold InR at hr
      by_cases h2 : p.Y < min e.A.Y e.B.Y
      · exact .inl (.inl (.inr h2))
      by_cases h3 : max e.A.Y e.B.Y ≤ p.Y
      · exact .inl (.inr h3)
      · refine .inr ?_
        omega
  · rw [if_pos (.inl (.inl (.inl h))), if_neg (fun k => h k.1)]
theorem above_eq {e : TEdge} {p : TPoint} (h : OkE e) (hk : e.Kind = 1) (hr : InR e p) (hx : ¬ p.X < min e.A.X e.B.X) : Fedgeabove e p = true ↔ Bey e p := by
  unfold Fedgeabove
  rw [side_eq h.1 (inb_rp h.1 (inr_b hr hx)), up_eq, decide_eq_true_eq]
  unfold Bey up InR at *
  rw [if_pos hk]
  by_cases hu : e.A.Y < e.B.Y
  · rw [if_pos hu, if_pos hu]
    split
    · omega
    · split <;> omega
  · have : e.B.Y < e.A.Y := by omega
    rw [if_neg hu, if_neg hu, if_pos this]
    split
    · omega
    · split <;> omega
theorem half {e : TEdge} (h : OkE e) (hk : e.Kind ≠ 1) : (RightHalf e ∧ min e.A.X e.B.X = e.C.X ∧ e.C.X < max e.A.X e.B.X) ∨ (¬ RightHalf e ∧ max e.A.X e.B.X = e.C.X ∧ min e.A.X e.B.X < e.C.X) := by
  obtain ⟨ho, h2⟩ := arc_odd h hk
  have h1 := odd_cases ho
  unfold RightHalf
  omega
theorem beside_eq {e : TEdge} {p : TPoint} (h : OkE e) (hk : e.Kind ≠ 1) (hr : InR e p) (hx : ¬ p.X < min e.A.X e.B.X) : Fedgebeside e p = true ↔ Bey e p := by
  unfold Fedgebeside
  rw [power_eq h.1 (inb_rp h.1 (inr_b hr hx))]
  unfold Bey
  rw [if_neg hk]
  simp only [cnd_or, cnd_and]
  simp only [cnd_if]
  unfold InR at hr
  rcases half h hk with ⟨h1, h2, h3⟩ | ⟨h1, h2, h3⟩
  · have e1 : (decide (e.C.X < e.A.X) || decide (e.C.X < e.B.X)) = true := by simpa [RightHalf] using h1
    rw [e1, if_pos rfl, if_pos h1]
    simp only [Bool.or_eq_true, decide_eq_true_eq]
    omega
  · have e1 : (decide (e.C.X < e.A.X) || decide (e.C.X < e.B.X)) = false := by simpa [RightHalf] using h1
    rw [e1, if_neg (by decide), if_neg h1]
    simp only [Bool.and_eq_true, decide_eq_true_eq]
    omega
theorem ray_eq (e : TEdge) (p : TPoint) : FRay e p = RayM e p := by
  obtain ⟨k, a0, a1, a2⟩ := e
  unfold FRay
  by_cases k1 : k = 1
  · subst k1
    simp only [if_true, FRay1, wof1_2, wof1_1, wof1_0]
    rw [rights_b a0 a1 a2 1, ok_b1]
    exact ray_form _ _ _ fun h1 h2 h3 => above_eq h1 rfl h2 h3
  by_cases k2 : k = 2
  · subst k2
    simp only [k1, if_false, if_true, FRay2, wof2_2, wof2_1, wof2_0]
    rw [rights_b a0 a1 a2 2, ok_b2]
    exact ray_form _ _ _ fun h1 h2 h3 => beside_eq h1 (by show ¬ (_ : Int) = _; simp only; decide) h2 h3
  by_cases k3 : k = 3
  · subst k3
    simp only [k1, k2, if_false, if_true, FRay3, wof3_2, wof3_1, wof3_0]
    rw [rights_b a0 a1 a2 3, ok_b3]
    exact ray_form _ _ _ fun h1 h2 h3 => beside_eq h1 (by show ¬ (_ : Int) = _; simp only; decide) h2 h3
  · simp only [k1, k2, k3, if_false, FRayN]
    unfold RayM
    rw [if_neg]
    intro h
    have := ok_kind h.1
    simp only at this
    omega
theorem beyond_eq {e : TEdge} {p : TPoint} (h : OkE e) (hr : InR e p) : Fref06beyond e p = true ↔ (p.X < min e.A.X e.B.X ∨ Bey e p) := by
  have hs : ∀ p q, Fref05Sub p q = FvecSub p q := fun _ _ => rfl
  have hd : ∀ p q, Fref05Dot p q = FvecDot p q := fun _ _ => rfl
  unfold Fref06beyond
  have e1 : (Fref06Box e).X0 = min e.A.X e.B.X := rfl
  have e2 : (Fref06Box e).X1 = max e.A.X e.B.X := rfl
  rw [e1, e2]
  by_cases hx : p.X < min e.A.X e.B.X
  · simp [hx]
  have hx2 : ¬ max e.A.X e.B.X ≤ p.X := by unfold InR at hr; omega
  have hrp := inb_rp h.1 (inr_b hr hx)
  obtain ⟨ha, hb, hc⟩ := h.1
  simp only [hx, hx2, decide_false, cond_false, false_or, hs, hd, rad6_eq, sub_eq hrp hc, dot_eq (sub_r hrp hc) (sub_r hrp hc)]
  unfold Bey
  by_cases hk : e.Kind = 1
  · simp only [hk, decide_true, cond_true, if_true]
    have r1 := sub_r hrp ha
    have r2 := sub_r hrp hb
    have r3 := sub_r hb ha
    unfold R28 at r1 r2 r3
    have b1 := b54 r1.1 r3.2
    have b2 := b54 r1.2 r3.1
    unfold RP C27 at ha hb hc hrp
    by_cases hu : e.B.Y < e.A.Y
    · have hu' : ¬ e.A.Y < e.B.Y := by omega
      simp only [hu, hu', decide_true, cond_true, if_false]
      have b3 := b54 r2.1 (show -134217728 ≤ e.A.Y - e.B.Y ∧ e.A.Y - e.B.Y ≤ 134217728 by omega)
      have b4 := b54 r2.2 (show -134217728 ≤ e.A.X - e.B.X ∧ e.A.X - e.B.X ≤ 134217728 by omega)
      simp only at b1 b2 b3 b4
      rw [W64_id (x := p.X - e.B.X) (by omega) (by omega), W64_id (x := e.A.Y - e.B.Y) (by omega) (by omega), W64_id (x := p.Y - e.B.Y) (by omega) (by omega), W64_id (x := e.A.X - e.B.X) (by omega) (by omega), W64_id (by omega) (by omega), W64_id (by omega) (by omega), decide_eq_true_eq]
      have : cr e.A e.B p = (p.X - e.B.X) * (e.A.Y - e.B.Y) - (p.Y - e.B.Y) * (e.A.X - e.B.X) := by unfold cr; grind
      omega
    · have hu' : e.A.Y < e.B.Y := by unfold InR at hr; omega
      simp only [hu, hu', decide_false, cond_false, if_true]
      simp only at b1 b2
      rw [W64_id (x := p.X - e.A.X) (by omega) (by omega), W64_id (x := e.B.Y - e.A.Y) (by omega) (by omega), W64_id (x := p.Y - e.A.Y) (by omega) (by omega), W64_id (x := e.B.X - e.A.X) (by omega) (by omega), W64_id (by omega) (by omega), W64_id (by omega) (by omega), decide_eq_true_eq]
      have : cr e.A e.B p = (p.Y - e.A.Y) * (e.B.X - e.A.X) - (p.X - e.A.X) * (e.B.Y - e.A.Y) := by unfold cr; grind
      omega
  · simp only [hk, decide_false, cond_false, if_false, radsq_w h hk]
    have e3 : (p.X - e.C.X) * (p.X - e.C.X) + (p.Y - e.C.Y) * (p.Y - e.C.Y) = d2 p e.C := rfl
    rw [e3]
    obtain ⟨ho, ho2⟩ := arc_odd h hk
    have ho1 := odd_cases ho
    unfold RP C27 at ha hb hc hrp
    rw [W64_id (x := 2 * e.C.X) (by omega) (by omega), W64_id (x := e.A.X + e.B.X) (by omega) (by omega)]
    unfold InR at hr
    rcases half h hk with ⟨h1, h2, h3⟩ | ⟨h1, h2, h3⟩
    · have h4 : 2 * e.C.X < e.A.X + e.B.X := by omega
      simp only [h1, h4, decide_true, cond_true, if_true, decide_eq_true_eq]
    · have h4 : ¬ 2 * e.C.X < e.A.X + e.B.X := by omega
      simp only [h1, h4, decide_false, cond_false, if_false, cnd_and, Bool.and_eq_true, decide_eq_true_eq]
      omega
theorem ray6_eq (e : TEdge) (p : TPoint) : Fref06Ray e p = RayM e p := by
  unfold Fref06Ray
  rw [check6_eq, check0]
  unfold RayM
  by_cases h : OkE e
  · simp only [h, decide_true, Bool.not_true, cond_false, true_and, cnd_and]
    simp only [cnd_if, Bool.and_eq_true, decide_eq_true_eq]
    by_cases h1 : e.A.Y ≤ p.Y ∧ p.Y < e.B.Y
    · have h2 : ¬ (e.B.Y ≤ p.Y ∧ p.Y < e.A.Y) := by omega
      by_cases hx : p.X < max e.A.X e.B.X
      · have hr : InR e p := by unfold InR; omega
        have := beyond_eq h hr
        have hu : up e = 1 := by unfold up; rw [if_pos (by omega)]
        simp only [h1, h2, hr, hu, true_and, false_and, if_false, this]
      · have hr : ¬ InR e p := by unfold InR; omega
        have hb : ¬ (Fref06beyond e p = true) := by
          unfold Fref06beyond
          have e1 : (Fref06Box e).X0 = min e.A.X e.B.X := rfl
          have e2 : (Fref06Box e).X1 = max e.A.X e.B.X := rfl
          rw [e1, e2]
          have h3 : ¬ p.X < min e.A.X e.B.X := by omega
          have h4 : max e.A.X e.B.X ≤ p.X := by omega
          simp [h3, h4]
        simp only [h1, h2, hr, hb, true_and, false_and, and_false, if_false, Bool.false_eq_true]
    · by_cases h2 : e.B.Y ≤ p.Y ∧ p.Y < e.A.Y
      · by_cases hx : p.X < max e.A.X e.B.X
        · have hr : InR e p := by unfold InR; omega
          have := beyond_eq h hr
          have hu : up e = -1 := by unfold up; rw [if_neg (by omega), if_pos (by omega)]
          simp only [h1, h2, hr, hu, true_and, false_and, if_false, this]
        · have hr : ¬ InR e p := by unfold InR; omega
          have hb : ¬ (Fref06beyond e p = true) := by
            unfold Fref06beyond
            have e1 : (Fref06Box e).X0 = min e.A.X e.B.X := rfl
            have e2 : (Fref06Box e).X1 = max e.A.X e.B.X := rfl
            rw [e1, e2]
            have h3 : ¬ p.X < min e.A.X e.B.X := by omega
            have h4 : max e.A.X e.B.X ≤ p.X := by omega
            simp [h3, h4]
          simp only [h1, h2, hr, hb, true_and, false_and, and_false, if_false, Bool.false_eq_true]
      · have hr : ¬ InR e p := by unfold InR; omega
        simp only [h1, h2, hr, false_and, if_false]
  · simp [h]
end Go.Proofs.Ytpnlegfdkkcnlaa
namespace Go.Proofs.Ytpnlegfdkkcnlaa
set_option maxRecDepth 100000
open Go.RowKit
set_option linter.unusedVariables false
set_option linter.unusedSimpArgs false
theorem andK_mask {x : Int} (h0 : 0 ≤ x) (h1 : x < 18446744073709551616) : andK .u64 x 4294967295 = x % 4294967296 := by
  unfold andK
  obtain ⟨n, rfl⟩ := Int.eq_ofNat_of_zero_le h0
  have hn : n < 18446744073709551616 := by omega
  have e1 : (BitVec.ofInt IntKind.u64.bits (n : Int)).toNat = n := by
    rw [BitVec.toNat_ofInt]
    show ((n : Int) % ((2 ^ 64 : Nat) : Int)).toNat = n
    have : ((2 ^ 64 : Nat) : Int) = 18446744073709551616 := by decide
    rw [this]; omega
  have e2 : (BitVec.ofInt IntKind.u64.bits 4294967295).toNat = 2 ^ 32 - 1 := by decide +kernel
  rw [BitVec.toNat_and, e1, e2, Nat.and_two_pow_sub_one_eq_mod, IntKind.wrap_u64]
  have : (2 : Nat) ^ 32 = 4294967296 := by decide
  rw [this]
  omega
theorem mul_up {a b A B : Int} (ha : 0 ≤ a ∧ a ≤ A) (hb : 0 ≤ b ∧ b ≤ B) : 0 ≤ a * b ∧ a * b ≤ A * B :=
  ⟨Int.mul_nonneg ha.1 hb.1, Int.mul_le_mul ha.2 hb.2 hb.1 (by omega)⟩
theorem mul64_eq {x y : Int} (hx : 0 ≤ x ∧ x < 18446744073709551616) (hy : 0 ≤ y ∧ y < 18446744073709551616) : (FMul64 x y).1 * 18446744073709551616 + (FMul64 x y).2 = x * y ∧ 0 ≤ (FMul64 x y).2 ∧ (FMul64 x y).2 < 18446744073709551616 := by
  have fd : ∀ z : Int, Int.fdiv z 4294967296 = z / 4294967296 := fun z => Int.fdiv_eq_ediv_of_nonneg z (by decide)
  unfold FMul64
  simp only [fd, andK_mask hx.1 hx.2, andK_mask hy.1 hy.2, IntKind.wrap_u64]
  have hx1 : 0 ≤ x / 4294967296 ∧ x / 4294967296 ≤ 4294967295 := by omega
  have hx0 : 0 ≤ x % 4294967296 ∧ x % 4294967296 ≤ 4294967295 := by omega
  have hy1 : 0 ≤ y / 4294967296 ∧ y / 4294967296 ≤ 4294967295 := by omega
  have hy0 : 0 ≤ y % 4294967296 ∧ y % 4294967296 ≤ 4294967295 := by omega
  have ex : x = x / 4294967296 * 4294967296 + x % 4294967296 := by omega
  have ey : y = y / 4294967296 * 4294967296 + y % 4294967296 := by omega
  generalize x / 4294967296 = x1 at *
  generalize x % 4294967296 = x0 at *
  generalize y / 4294967296 = y1 at *
  generalize y % 4294967296 = y0 at *
  have b00 := mul_up hx0 hy0
  have b10 := mul_up hx1 hy0
  have b01 := mul_up hx0 hy1
  have b11 := mul_up hx1 hy1
  have e : x * y = x1 * y1 * 18446744073709551616 + (x1 * y0 + x0 * y1) * 4294967296 + x0 * y0 := by rw [ex, ey]; grind
  rw [e]
  generalize x1 * y1 = p11 at *
  generalize x1 * y0 = p10 at *
  generalize x0 * y1 = p01 at *
  generalize x0 * y0 = p00 at *
  clear ex ey e
  have t0 : (p10 % 18446744073709551616 + p00 % 18446744073709551616 / 4294967296) % 18446744073709551616 = p10 + p00 / 4294967296 := by omega
  rw [t0]
  have b3 : 0 ≤ p00 / 4294967296 ∧ p00 / 4294967296 ≤ 4294967295 := by omega
  have t1 : andK .u64 (p10 + p00 / 4294967296) 4294967295 = (p10 + p00 / 4294967296) % 4294967296 := andK_mask (by omega) (by omega)
  rw [t1]
  refine ⟨?_, ?_, ?_⟩ <;> omega
theorem atMost_eq {a b c d : Int} (hb : 0 ≤ b ∧ b < 18446744073709551616) (hd : 0 ≤ d ∧ d < 18446744073709551616) : FatMost ⟨a, b⟩ ⟨c, d⟩ = decide (a * 18446744073709551616 + b ≤ c * 18446744073709551616 + d) := by
  rw [Bool.eq_iff_iff, decide_eq_true_eq]
  unfold FatMost
  simp only [cnd_and, cnd_or, Bool.and_eq_true, Bool.or_eq_true, decide_eq_true_eq, and_true]
  omega
theorem prod_le {a b : Int} (ha : 0 ≤ a ∧ a ≤ 9223372036854775807) (c d : Int) (hc : 0 ≤ c ∧ c ≤ 9223372036854775807) (hd : 0 ≤ d ∧ d ≤ 9223372036854775807) : FatMost (FproductS a a) (FproductS c d) = decide (a * a ≤ c * d) := by
  have w : ∀ z : Int, 0 ≤ z ∧ z ≤ 9223372036854775807 → IntKind.u64.wrap z = z := fun z hz => by rw [IntKind.wrap_u64]; omega
  unfold FproductS
  rw [w a ha, w c hc, w d hd]
  obtain ⟨h1, h2, h3⟩ := mul64_eq (x := a) (y := a) (by omega) (by omega)
  obtain ⟨k1, k2, k3⟩ := mul64_eq (x := c) (y := d) (by omega) (by omega)
  rw [atMost_eq ⟨h2, h3⟩ ⟨k2, k3⟩, h1, k1]
def B28 (x : Int) : Prop := -142606336 ≤ x ∧ x ≤ 142606336
def PB (p : TPoint) : Prop := (-75497472 ≤ p.X ∧ p.X ≤ 75497472) ∧ -75497472 ≤ p.Y ∧ p.Y ≤ 75497472
def PD (p : TPoint) : Prop := B28 p.X ∧ B28 p.Y
theorem rp_pb {p : TPoint} (h : RP p) : PB p := by unfold RP C27 at h; unfold PB; omega
theorem sub_pb {p q : TPoint} (hp : PB p) (hq : RP q) : FvecSub p q = ⟨p.X - q.X, p.Y - q.Y⟩ := by
  unfold RP C27 PB at *
  unfold FvecSub
  rw [W64_id (by omega) (by omega), W64_id (by omega) (by omega)]
theorem sub_pd {p q : TPoint} (hp : PB p) (hq : RP q) : PD ⟨p.X - q.X, p.Y - q.Y⟩ := by
  unfold RP C27 PB at *
  unfold PD B28
  simp only
  omega
theorem b56 {x y : Int} (hx : B28 x) (hy : B28 y) : -20336567067344896 ≤ x * y ∧ x * y ≤ 20336567067344896 := by
  have := mul_b x y 142606336 142606336 hx hy
  omega
theorem dot_pd {u v : TPoint} (hu : PD u) (hv : PD v) : FvecDot u v = u.X * v.X + u.Y * v.Y := by
  obtain ⟨h1, h2⟩ := hu; obtain ⟨h3, h4⟩ := hv
  have b1 := b56 h1 h3; have b2 := b56 h2 h4
  unfold FvecDot
  rw [W64_id (x := u.X * v.X) (by omega) (by omega), W64_id (x := u.Y * v.Y) (by omega) (by omega), W64_id (by omega) (by omega)]
theorem cross_pd {u v : TPoint} (hu : PD u) (hv : PD v) : FvecCross u v = u.X * v.Y - u.Y * v.X := by
  obtain ⟨h1, h2⟩ := hu; obtain ⟨h3, h4⟩ := hv
  have b1 := b56 h1 h4; have b2 := b56 h2 h3
  unfold FvecCross
  rw [W64_id (x := u.X * v.Y) (by omega) (by omega), W64_id (x := u.Y * v.X) (by omega) (by omega), W64_id (by omega) (by omega)]
theorem d2_b {p c : TPoint} (hp : PB p) (hc : RP c) : 0 ≤ d2 p c ∧ d2 p c ≤ 40673134134689792 := by
  obtain ⟨h1, h2⟩ := sub_pd hp hc
  have b1 := b56 h1 h1; have b2 := b56 h2 h2
  have n1 := sq_nn (p.X - c.X); have n2 := sq_nn (p.Y - c.Y)
  unfold d2
  simp only at *
  omega
theorem sq_eq {p c : TPoint} (hp : PB p) (hc : RP c) : FsqS p c = d2 p c := by
  unfold FsqS
  rw [sub_pb hp hc, dot_pd (sub_pd hp hc) (sub_pd hp hc)]
  rfl
def al (a b p : TPoint) : Int := (p.X - a.X) * (b.X - a.X) + (p.Y - a.Y) * (b.Y - a.Y)
def Fac (e : TEdge) (p : TPoint) : Prop := if e.Kind = 3 then 0 ≤ (e.B.X - e.C.X) * (p.Y - e.C.Y) - (e.B.Y - e.C.Y) * (p.X - e.C.X) ∧ 0 ≤ (p.X - e.C.X) * (e.A.Y - e.C.Y) - (p.Y - e.C.Y) * (e.A.X - e.C.X) else
  0 ≤ (e.A.X - e.C.X) * (p.Y - e.C.Y) - (e.A.Y - e.C.Y) * (p.X - e.C.X) ∧ 0 ≤ (p.X - e.C.X) * (e.B.Y - e.C.Y) - (p.Y - e.C.Y) * (e.B.X - e.C.X)
def NearM (e : TEdge) (p : TPoint) (r : Int) : Prop := d2 p e.A ≤ r * r ∨ d2 p e.B ≤ r * r ∨ if e.Kind = 1 then (0 < al e.A e.B p ∧ al e.A e.B p < d2 e.B e.A) ∧ cr e.A e.B p * cr e.A e.B p ≤ r * r * d2 e.B e.A
  else Fac e p ∧ d2 p e.C ≤ (RadM e + r) * (RadM e + r) ∧ max (RadM e - r) 0 * max (RadM e - r) 0 ≤ d2 p e.C
theorem within_pd {d f t : TPoint} (hd : PD d) (hf : PD f) (ht : PD t) : FvecWithin d f t = true ↔ 0 ≤ f.X * d.Y - f.Y * d.X ∧ 0 ≤ d.X * t.Y - d.Y * t.X := by
  unfold FvecWithin
  rw [cross_pd hf hd, cross_pd hd ht, decide_eq_true_eq]
  omega
theorem near_eq {e : TEdge} {p : TPoint} {r : Int} (he : OkE e) (hp : PB p) (hr : 0 ≤ r ∧ r ≤ 4194304) : FnearS e p r = true ↔ NearM e p r := by
  obtain ⟨⟨ha, hb, hc⟩, hform⟩ := he
  have hrr := mul_up hr hr
  have hrad := rad_b e
  have er : W64 (r * r) = r * r := W64_id (by omega) (by omega)
  have e1 : W64 (FRadius e + r) = RadM e + r := by rw [rad_eq]; exact W64_id (by omega) (by omega)
  have e2 : W64 (FRadius e - r) = RadM e - r := by rw [rad_eq]; exact W64_id (by omega) (by omega)
  have m1 := mul_up (a := RadM e + r) (b := RadM e + r) (A := 272629760) (B := 272629760) (by omega) (by omega)
  have m2 := mul_up (a := max (RadM e - r) 0) (b := max (RadM e - r) 0) (A := 268435456) (B := 268435456) (by omega) (by omega)
  have e3 : W64 ((RadM e + r) * (RadM e + r)) = (RadM e + r) * (RadM e + r) := W64_id (by omega) (by omega)
  have e4 : W64 (max (RadM e - r) 0 * max (RadM e - r) 0) = max (RadM e - r) 0 * max (RadM e - r) 0 := W64_id (by omega) (by omega)
  have dA := sub_pd hp ha; have dC := sub_pd hp hc
  have dAC := sub_pd (rp_pb ha) hc; have dBC := sub_pd (rp_pb hb) hc; have dBA := sub_pd (rp_pb hb) ha
  unfold FnearS NearM wnearS_2 wnearS_1 wnearS_0 wnearS_5 wnearS_3 wnearS_4
  rw [sq_eq hp ha, sq_eq hp hb, sq_eq hp hc, er, e1, e2, e3, e4, sub_pb hp ha, sub_pb hp hc, sub_pb (rp_pb ha) hc, sub_pb (rp_pb hb) hc, sub_pb (rp_pb hb) ha, dot_pd dA dBA, dot_pd dBA dBA, cross_pd dBA dA]
  have hcr : -40673134134689792 ≤ cr e.A e.B p ∧ cr e.A e.B p ≤ 40673134134689792 := by
    have b1 := b56 dBA.1 dA.2; have b2 := b56 dBA.2 dA.1
    unfold cr
    simp only at *
    omega
  have hlen := d2_b (rp_pb hb) ha
  have ecr : (e.B.X - e.A.X) * (p.Y - e.A.Y) - (e.B.Y - e.A.Y) * (p.X - e.A.X) = cr e.A e.B p := rfl
  have eal : (p.X - e.A.X) * (e.B.X - e.A.X) + (p.Y - e.A.Y) * (e.B.Y - e.A.Y) = al e.A e.B p := rfl
  have elen : (e.B.X - e.A.X) * (e.B.X - e.A.X) + (e.B.Y - e.A.Y) * (e.B.Y - e.A.Y) = d2 e.B e.A := rfl
  simp only [ecr, eal, elen]
  have en : W64 (0 - cr e.A e.B p) = - cr e.A e.B p := by rw [W64_id (by omega) (by omega)]; omega
  rw [en]
  have hmax : max (cr e.A e.B p) (-cr e.A e.B p) * max (cr e.A e.B p) (-cr e.A e.B p) = cr e.A e.B p * cr e.A e.B p := by
    rcases Int.le_total 0 (cr e.A e.B p) with h | h
    · rw [Int.max_eq_left (by omega)]
    · rw [Int.max_eq_right (by omega), Int.neg_mul_neg]
  rw [prod_le (b := 0) (by omega) _ _ (by omega) (by omega), hmax]
  simp only [cnd_or, cnd_and]
  simp only [cnd_if, Bool.or_eq_true, Bool.and_eq_true, decide_eq_true_eq, Bool.not_eq_true']
  by_cases hA : d2 p e.A ≤ r * r
  · simp [hA]
  by_cases hB : d2 p e.B ≤ r * r
  · simp [hA, hB]
  simp only [hA, hB, or_self, if_false, false_or]
  by_cases hk : e.Kind = 1
  · simp only [hk, decide_true, Bool.true_eq_false, if_false, if_true]
    by_cases h1 : al e.A e.B p ≤ 0
    · simp [h1]; omega
    by_cases h2 : d2 e.B e.A ≤ al e.A e.B p
    · simp [h2]; omega
    simp only [h1, h2, or_self, if_false, decide_eq_true_eq]
    constructor
    · intro h; exact ⟨⟨by omega, by omega⟩, h⟩
    · exact fun h => h.2
  · simp only [hk, decide_false, Bool.false_eq_true, if_true, if_false]
    unfold Fac
    by_cases h3 : e.Kind = 3
    · simp only [h3, decide_true, if_true]
      rw [Bool.and_eq_true, Bool.and_eq_true, within_pd dC dBC dAC, decide_eq_true_eq, decide_eq_true_eq, and_assoc]
    · simp only [h3, decide_false, if_false, Bool.false_eq_true]
      rw [Bool.and_eq_true, Bool.and_eq_true, within_pd dC dAC dBC, decide_eq_true_eq, decide_eq_true_eq, and_assoc]
end Go.Proofs.Ytpnlegfdkkcnlaa
namespace Go.Proofs.Ytpnlegfdkkcnlaa
set_option maxRecDepth 100000
open Go.RowKit
set_option linter.unusedVariables false
set_option linter.unusedSimpArgs false
theorem drop_cons' {α : Type} [Inhabited α] {l : List α} {k : Nat} (h : k < l.length) : l.drop k = l.getD k default :: l.drop (k + 1) := by
  rw [List.drop_eq_getElem_cons h, List.getD_eq_getElem?_getD, List.getElem?_eq_getElem h]
  rfl
theorem getD_mem' {α : Type} [Inhabited α] {l : List α} {k : Nat} (h : k < l.length) : l.getD k default ∈ l := by
  rw [List.getD_eq_getElem?_getD, List.getElem?_eq_getElem h]
  exact List.getElem_mem h
def chk1 : List TEdge → Int
  | [] => 0
  | e :: l => if CheckM e = 0 then chk1 l else CheckM e
def Joined (s : TShape) : Prop := (∀ i, i + 1 < s.Edges.length → (s.Edges.getD i default).B = (s.Edges.getD (i + 1) default).A) ∧ (s.Kind = 2 → (s.Edges.getD (s.Edges.length - 1) default).B = (s.Edges.getD 0 default).A)
open Classical in
noncomputable def CheckMS (s : TShape) : Int :=
  if ¬ (s.Kind = 1 ∨ s.Kind = 2) ∨ s.Edges.length = 0 ∨ (s.Kind = 2 ∧ s.Edges.length < 2) then 12
  else if 40 < s.Edges.length then 2
  else if chk1 s.Edges ≠ 0 then chk1 s.Edges
  else if ¬ Joined s then 12
  else if (s.Kind = 2 ∧ s.R ≠ 0) ∨ s.R < 0 ∨ 4194304 < s.R then 3 else 0
theorem checkM_zero (e : TEdge) : CheckM e = 0 ↔ OkE e := by
  unfold CheckM
  by_cases h : OkE e
  · simp [h]
  · simp only [h, if_false, iff_false]; split <;> decide
theorem chk1_zero : ∀ (l : List TEdge), chk1 l = 0 ↔ ∀ e ∈ l, OkE e
  | [] => by simp [chk1]
  | e :: l => by
    unfold chk1
    by_cases h : CheckM e = 0
    · simp only [h, if_true, chk1_zero l, List.mem_cons, forall_eq_or_imp, (checkM_zero e).1 h, true_and]
    · simp only [h, if_false, List.mem_cons, forall_eq_or_imp, false_iff]
      exact fun hh => h ((checkM_zero e).2 hh.1)
def badJ (s : TShape) (x : Nat) : Bool := !(decide (((jnA s.Edges x).B).X = ((jnB s.Edges x).A).X) && (decide (((jnA s.Edges x).B).Y = ((jnB s.Edges x).A).Y) && true))
theorem badJ_eq (s : TShape) (x : Nat) : badJ s x = false ↔ (jnA s.Edges x).B = (jnB s.Edges x).A := by
  unfold badJ
  generalize (jnA s.Edges x).B = a
  generalize (jnB s.Edges x).A = b
  obtain ⟨a1, a2⟩ := a
  obtain ⟨b1, b2⟩ := b
  simp
def lastS (s : TShape) : Int := bif bif bif bif decide ((s.Kind : Int) = 2) then !decide ((s.R : Int) = 0) else false then true else decide ((s.R : Int) < 0) then true else decide ((4194304 : Int) < s.R) then (3) else (0)
theorem lastS_eq (s : TShape) : lastS s = if (s.Kind = 2 ∧ s.R ≠ 0) ∨ s.R < 0 ∨ 4194304 < s.R then 3 else 0 := by
  unfold lastS
  simp only [cnd_and, cnd_or]
  simp only [cnd_if, Bool.or_eq_true, Bool.and_eq_true, decide_eq_true_eq, Bool.not_eq_true', decide_eq_false_iff_not, or_assoc]
theorem r1_eq (s : TShape) (v : Int) (K : Int → Int) : ∀ m x, FCheckS_r1 s v K m x = if (List.range' x m).any (badJ s) then 12 else lastS s
  | 0, x => rfl
  | m + 1, x => by
    show (bif badJ s x then (12 : Int) else FCheckS_r1 s v K m (x + 1)) = _
    rw [r1_eq s v K m (x + 1), List.range'_succ, List.any_cons]
    cases badJ s x
    · simp only [Bool.false_or, cond_false]
    · simp only [Bool.true_or, cond_true, if_true]
theorem joined_any (s : TShape) (h : 1 ≤ s.Edges.length) : ((List.range' 0 (jnN s.Edges (decide (s.Kind = 2)))).any (badJ s) = false) ↔ Joined s := by
  rw [List.any_eq_false]
  have key : (∀ x ∈ List.range' 0 (jnN s.Edges (decide (s.Kind = 2))), ¬ badJ s x = true) ↔ ∀ x, x < jnN s.Edges (decide (s.Kind = 2)) → (jnA s.Edges x).B = (jnB s.Edges x).A := by
    constructor
    · intro hh x hx
      have := hh x (by simp; omega)
      exact (badJ_eq s x).1 (by simpa using this)
    · intro hh x hx
      have hx' : x < jnN s.Edges (decide (s.Kind = 2)) := by simpa using hx
      have := (badJ_eq s x).2 (hh x hx')
      simp [this]
  rw [key]
  unfold Joined jnN jnA jnB
  constructor
  · intro hh
    refine ⟨fun i hi => ?_, fun hk => ?_⟩
    · have := hh i (by omega)
      simpa only [hi, if_true] using this
    · have := hh (s.Edges.length - 1) (by simp [hk])
      simpa only [show ¬ s.Edges.length - 1 + 1 < s.Edges.length by omega, if_false] using this
  · rintro ⟨h1, h2⟩ x hx
    by_cases hi : x + 1 < s.Edges.length
    · simpa only [hi, if_true] using h1 x hi
    · have hk : s.Kind = 2 := by
        cases hd : decide (s.Kind = 2) with
        | true => exact of_decide_eq_true hd
        | false => rw [hd] at hx; simp only [cond_false] at hx; omega
      simpa only [hi, if_false] using h2 hk
open Classical in
theorem l0_eq (s : TShape) (h1 : 1 ≤ s.Edges.length) : ∀ n k : Nat, k ≤ s.Edges.length → s.Edges.length - k < n → FCheckS_l0 s n (k : Int) = if chk1 (s.Edges.drop k) ≠ 0 then chk1 (s.Edges.drop k) else if ¬ Joined s then 12 else lastS s
  | 0, k, hk, hn => by omega
  | n + 1, k, hk, hn => by
    unfold FCheckS_l0
    by_cases hlt : k < s.Edges.length
    · rw [decide_eq_true (show (k : Int) < (s.Edges.length : Int) by omega)]
      simp only [cond_true, Int.toNat_natCast]
      rw [drop_cons' hlt]
      simp only [chk1, check_eq]
      have ih := l0_eq s h1 n (k + 1) (by omega) (by omega)
      by_cases h0 : CheckM (s.Edges.getD k default) = 0
      · simp only [h0, if_true, decide_true, Bool.not_true, cond_false]
        rw [show ((k : Int) + 1) = ((k + 1 : Nat) : Int) by omega, ih]
      · simp only [h0, if_false, decide_false, Bool.not_false, cond_true, ne_eq, not_false_eq_true, if_true]
    · rw [decide_eq_false (show ¬ (k : Int) < (s.Edges.length : Int) by omega)]
      simp only [cond_false]
      rw [List.drop_of_length_le (by omega), chk1, r1_eq]
      have := joined_any s h1
      by_cases hj : Joined s
      · rw [this.2 hj]; simp [hj]
      · have hb : (List.range' 0 (jnN s.Edges (decide (s.Kind = 2)))).any (badJ s) = true := by
          cases hh : (List.range' 0 (jnN s.Edges (decide (s.Kind = 2)))).any (badJ s) with
          | true => rfl
          | false => exact absurd (this.1 hh) hj
        rw [hb]; simp [hj]
theorem checkS_eq (s : TShape) : FCheckS s = CheckMS s := by
  unfold FCheckS CheckMS
  by_cases hk1 : s.Kind = 1
  · simp only [hk1, decide_true, Bool.not_true, cond_false, true_or, not_true, false_or, show ¬ ((1 : Int) = 2) by decide, decide_false, false_and, or_false]
    by_cases h0 : s.Edges.length = 0
    · simp [h0]
    · simp only [show ¬ (s.Edges.length : Int) = 0 by omega, h0, decide_false, cond_false, if_false]
      by_cases h40 : 40 < s.Edges.length
      · simp only [show (40 : Int) < (s.Edges.length : Int) by omega, h40, decide_true, cond_true, if_true]
      · simp only [show ¬ (40 : Int) < (s.Edges.length : Int) by omega, h40, decide_false, cond_false, if_false]
        have := l0_eq s (by omega) (((s.Edges.length : Int) - 0).toNat + 1) 0 (by omega) (by omega)
        rw [show ((0 : Nat) : Int) = 0 from rfl] at this
        rw [this, List.drop_zero, lastS_eq]
        simp only [hk1, show ¬ ((1 : Int) = 2) by decide, false_and, false_or]
  · by_cases hk2 : s.Kind = 2
    · simp only [hk2, decide_true, Bool.not_true, cond_false, cond_true, or_true, not_true, false_or, true_and, show ¬ ((2 : Int) = 1) by decide, decide_false, Bool.not_false]
      by_cases h0 : s.Edges.length = 0
      · simp [h0]
      · simp only [show ¬ (s.Edges.length : Int) = 0 by omega, h0, decide_false, cond_false, if_false, false_or]
        by_cases h2 : s.Edges.length < 2
        · simp only [show (s.Edges.length : Int) < 2 by omega, h2, decide_true, cond_true, if_true]
        · simp only [show ¬ (s.Edges.length : Int) < 2 by omega, h2, decide_false, cond_false, if_false]
          by_cases h40 : 40 < s.Edges.length
          · simp only [show (40 : Int) < (s.Edges.length : Int) by omega, h40, decide_true, cond_true, if_true]
          · simp only [show ¬ (40 : Int) < (s.Edges.length : Int) by omega, h40, decide_false, cond_false, if_false]
            have := l0_eq s (by omega) (((s.Edges.length : Int) - 0).toNat + 1) 0 (by omega) (by omega)
            rw [show ((0 : Nat) : Int) = 0 from rfl] at this
            rw [this, List.drop_zero, lastS_eq]
            simp only [hk2, true_and]
    · simp [hk1, hk2]
def OkS (s : TShape) : Prop := ((s.Kind = 1 ∨ s.Kind = 2) ∧ (1 ≤ s.Edges.length ∧ s.Edges.length ≤ 40) ∧ (s.Kind = 2 → 2 ≤ s.Edges.length)) ∧ (∀ e ∈ s.Edges, OkE e) ∧ Joined s ∧ (0 ≤ s.R ∧ s.R ≤ 4194304) ∧ (s.Kind = 2 → s.R = 0)
theorem checkMS_zero (s : TShape) : CheckMS s = 0 ↔ OkS s := by
  unfold CheckMS OkS
  constructor
  · intro h
    split at h
    · cases h
    rename_i h1
    split at h
    · cases h
    rename_i h2
    split at h
    · rename_i h3; exact absurd h h3
    rename_i h3
    split at h
    · cases h
    rename_i h4
    split at h
    · cases h
    rename_i h5
    have hE := (chk1_zero _).1 (Decidable.not_not.1 h3)
    have hJ := Classical.not_not.1 h4
    refine ⟨⟨?_, ?_, ?_⟩, hE, hJ, ?_, ?_⟩ <;> omega
  · rintro ⟨⟨h1, h2, h3⟩, h4, h5, h6, h7⟩
    rw [if_neg (by omega), if_neg (by omega), if_neg (by have := (chk1_zero _).2 h4; omega), if_neg (fun h => h h5), if_neg (by omega)]
def joinB (b x : TRect) : TRect := ⟨min b.X0 x.X0, min b.Y0 x.Y0, max b.X1 x.X1, max b.Y1 x.Y1⟩
def boxF : TRect → List TEdge → TRect
  | b, [] => b
  | b, e :: l => boxF (joinB b (FedgeBox e)) l
def widen (b : TRect) (r : Int) : TRect := ⟨W64 (b.X0 - r), W64 (b.Y0 - r), W64 (b.X1 + r), W64 (b.Y1 + r)⟩
theorem box_l0 (s : TShape) : ∀ (n k : Nat) (b : TRect), k ≤ s.Edges.length - 1 → s.Edges.length - 1 - k < n → FBox_l0 s n b (k : Int) = widen (boxF b ((s.Edges.drop 1).drop k)) s.R
  | 0, k, b, hk, hn => by omega
  | n + 1, k, b, hk, hn => by
    unfold FBox_l0
    have hdl : (s.Edges.drop 1).length = s.Edges.length - 1 := List.length_drop ..
    by_cases hlt : k < s.Edges.length - 1
    · rw [decide_eq_true (show (k : Int) < (((((s.Edges.length : Nat) : Int) : Int).toNat - (1 : Int).toNat : Nat) : Int) by omega)]
      rw [drop_cons' (k := k) (l := s.Edges.drop 1) (by omega), boxF]
      have ih := fun b => box_l0 s n (k + 1) b (by omega) (by omega)
      simp only [cond_true]
      rw [show ((k : Int) + 1) = ((k + 1 : Nat) : Int) by omega, ih]
      rfl
    · rw [decide_eq_false (show ¬ (k : Int) < (((((s.Edges.length : Nat) : Int) : Int).toNat - (1 : Int).toNat : Nat) : Int) by omega)]
      rw [List.drop_of_length_le (by omega)]
      rfl
def boxL : List TEdge → TRect
  | [] => ⟨0, 0, 0, 0⟩
  | e :: l => boxF (FedgeBox e) l
theorem box_eq (s : TShape) (h : s.Edges ≠ []) : FBox s = widen (boxL s.Edges) s.R := by
  unfold FBox
  have hp : 0 < s.Edges.length := List.length_pos_iff.2 h
  rw [decide_eq_false (show ¬ (s.Edges.length : Int) = 0 by omega)]
  simp only [cond_false]
  have := box_l0 s ((((((((s.Edges.length : Nat) : Int) : Int).toNat - (1 : Int).toNat : Nat) : Int)) - 0).toNat + 1) 0 (FedgeBox (s.Edges.getD 0 default)) (by omega) (by omega)
  rw [show ((0 : Nat) : Int) = 0 from rfl] at this
  rw [this]
  cases hs : s.Edges with
  | nil => exact absurd hs h
  | cons e l => rfl
theorem boxF_iff : ∀ (l : List TEdge) (b : TRect) (c : Int),
    (((boxF b l).X0 ≤ c ↔ b.X0 ≤ c ∨ ∃ e ∈ l, min e.A.X e.B.X ≤ c) ∧ ((boxF b l).Y0 ≤ c ↔ b.Y0 ≤ c ∨ ∃ e ∈ l, min e.A.Y e.B.Y ≤ c)) ∧
    ((c ≤ (boxF b l).X1 ↔ c ≤ b.X1 ∨ ∃ e ∈ l, c ≤ max e.A.X e.B.X) ∧ (c ≤ (boxF b l).Y1 ↔ c ≤ b.Y1 ∨ ∃ e ∈ l, c ≤ max e.A.Y e.B.Y))
  | [], b, c => by simp [boxF]
  | e :: l, b, c => by
    obtain ⟨⟨h1, h2⟩, h3, h4⟩ := boxF_iff l (joinB b (FedgeBox e)) c
    unfold boxF
    rw [h1, h2, h3, h4]
    have q1 : (joinB b (FedgeBox e)).X0 ≤ c ↔ b.X0 ≤ c ∨ min e.A.X e.B.X ≤ c := by show min b.X0 (min e.A.X e.B.X) ≤ c ↔ _; omega
    have q2 : (joinB b (FedgeBox e)).Y0 ≤ c ↔ b.Y0 ≤ c ∨ min e.A.Y e.B.Y ≤ c := by show min b.Y0 (min e.A.Y e.B.Y) ≤ c ↔ _; omega
    have q3 : c ≤ (joinB b (FedgeBox e)).X1 ↔ c ≤ b.X1 ∨ c ≤ max e.A.X e.B.X := by show c ≤ max b.X1 (max e.A.X e.B.X) ↔ _; omega
    have q4 : c ≤ (joinB b (FedgeBox e)).Y1 ↔ c ≤ b.Y1 ∨ c ≤ max e.A.Y e.B.Y := by show c ≤ max b.Y1 (max e.A.Y e.B.Y) ↔ _; omega
    rw [q1, q2, q3, q4]
    simp only [List.mem_cons, exists_eq_or_imp, or_assoc, and_self]
theorem boxL_iff {l : List TEdge} (h : l ≠ []) (c : Int) :
    (((boxL l).X0 ≤ c ↔ ∃ e ∈ l, min e.A.X e.B.X ≤ c) ∧ ((boxL l).Y0 ≤ c ↔ ∃ e ∈ l, min e.A.Y e.B.Y ≤ c)) ∧
    ((c ≤ (boxL l).X1 ↔ ∃ e ∈ l, c ≤ max e.A.X e.B.X) ∧ (c ≤ (boxL l).Y1 ↔ ∃ e ∈ l, c ≤ max e.A.Y e.B.Y)) := by
  cases l with
  | nil => exact absurd rfl h
  | cons e l =>
    obtain ⟨⟨h1, h2⟩, h3, h4⟩ := boxF_iff l (FedgeBox e) c
    unfold boxL
    rw [h1, h2, h3, h4]
    simp only [List.mem_cons, exists_eq_or_imp]
    exact ⟨⟨Iff.rfl, Iff.rfl⟩, Iff.rfl, Iff.rfl⟩
theorem boxL_b {l : List TEdge} (h : l ≠ []) (ho : ∀ e ∈ l, OkE e) : (C27 (boxL l).X0 ∧ C27 (boxL l).Y0) ∧ C27 (boxL l).X1 ∧ C27 (boxL l).Y1 := by
  have lo : ∀ e ∈ l, (-67108864 ≤ min e.A.X e.B.X ∧ min e.A.X e.B.X ≤ 67108864) ∧ (-67108864 ≤ min e.A.Y e.B.Y ∧ min e.A.Y e.B.Y ≤ 67108864) ∧ (-67108864 ≤ max e.A.X e.B.X ∧ max e.A.X e.B.X ≤ 67108864) ∧ (-67108864 ≤ max e.A.Y e.B.Y ∧ max e.A.Y e.B.Y ≤ 67108864) := fun e he => by
    have := (ho e he).1
    unfold Rights RP C27 at this
    omega
  refine ⟨⟨?_, ?_⟩, ?_, ?_⟩
  · obtain ⟨e, m, k⟩ := (boxL_iff h (boxL l).X0).1.1.1 (Int.le_refl _)
    have k2 := (boxL_iff h _).1.1.2 ⟨e, m, Int.le_refl _⟩
    have := lo e m
    unfold C27; omega
  · obtain ⟨e, m, k⟩ := (boxL_iff h (boxL l).Y0).1.2.1 (Int.le_refl _)
    have k2 := (boxL_iff h _).1.2.2 ⟨e, m, Int.le_refl _⟩
    have := lo e m
    unfold C27; omega
  · obtain ⟨e, m, k⟩ := (boxL_iff h (boxL l).X1).2.1.1 (Int.le_refl _)
    have k2 := (boxL_iff h _).2.1.2 ⟨e, m, Int.le_refl _⟩
    have := lo e m
    unfold C27; omega
  · obtain ⟨e, m, k⟩ := (boxL_iff h (boxL l).Y1).2.2.1 (Int.le_refl _)
    have k2 := (boxL_iff h _).2.2.2 ⟨e, m, Int.le_refl _⟩
    have := lo e m
    unfold C27; omega
def InBx (l : List TEdge) (r : Int) (p : TPoint) : Prop := ((∃ e ∈ l, min e.A.X e.B.X ≤ p.X + r) ∧ ∃ e ∈ l, p.X - r ≤ max e.A.X e.B.X) ∧ (∃ e ∈ l, min e.A.Y e.B.Y ≤ p.Y + r) ∧ ∃ e ∈ l, p.Y - r ≤ max e.A.Y e.B.Y
theorem inbx_eq {s : TShape} (h : OkS s) (p : TPoint) : (((¬ p.X < (FBox s).X0) ∧ ¬ (FBox s).X1 < p.X) ∧ (¬ p.Y < (FBox s).Y0) ∧ ¬ (FBox s).Y1 < p.Y) ↔ InBx s.Edges s.R p := by
  obtain ⟨⟨_, ⟨h1, _⟩, _⟩, hE, _, hr, _⟩ := h
  have hne : s.Edges ≠ [] := fun e => by rw [e] at h1; simp at h1
  rw [box_eq s hne]
  obtain ⟨⟨b1, b2⟩, b3, b4⟩ := boxL_b hne hE
  unfold C27 at *
  unfold InBx
  rw [← (boxL_iff hne _).1.1, ← (boxL_iff hne _).1.2, ← (boxL_iff hne _).2.1, ← (boxL_iff hne _).2.2]
  unfold widen
  rw [W64_id (by omega) (by omega), W64_id (by omega) (by omega), W64_id (by omega) (by omega), W64_id (by omega) (by omega)]
  simp only
  omega
theorem inbx_pb {s : TShape} (h : OkS s) {p : TPoint} (hp : InBx s.Edges s.R p) : PB p := by
  obtain ⟨_, hE, _, hr, _⟩ := h
  obtain ⟨⟨⟨e1, m1, k1⟩, e2, m2, k2⟩, ⟨e3, m3, k3⟩, e4, m4, k4⟩ := hp
  have r1 := (hE e1 m1).1; have r2 := (hE e2 m2).1; have r3 := (hE e3 m3).1; have r4 := (hE e4 m4).1
  unfold Rights RP C27 at *
  unfold PB
  omega
theorem ixI_ge (xs : List TEdge) (p : TPoint) (s : TShape) : ∀ n k : Nat, k ≤ xs.length → xs.length - k < n → (decide ((0 : Int) ≤ FixI_l0 xs p s n (k : Int)) = (xs.drop k).any fun e => FnearS e p s.R)
  | 0, k, hk, hn => by omega
  | n + 1, k, hk, hn => by
    unfold FixI_l0
    by_cases hlt : k < xs.length
    · rw [decide_eq_true (show (k : Int) < (xs.length : Int) by omega)]
      simp only [cond_true, Int.toNat_natCast]
      rw [drop_cons' hlt, List.any_cons]
      have ih := ixI_ge xs p s n (k + 1) (by omega) (by omega)
      show decide ((0 : Int) ≤ bif FnearS (xs.getD k default) p s.R then _ else _) = _
      cases FnearS (xs.getD k default) p s.R with
      | true => simp
      | false =>
        simp only [cond_false, Bool.false_or]
        rw [show ((k : Int) + 1) = ((k + 1 : Nat) : Int) by omega, ih]
    · rw [decide_eq_false (show ¬ (k : Int) < (xs.length : Int) by omega)]
      rw [List.drop_of_length_le (by omega)]
      rfl
theorem coI_eq (xs : List TEdge) (p : TPoint) (s : TShape) : FcoI xs p s = xs.any fun e => FnearS e p s.R := by
  unfold FcoI FixI
  have := ixI_ge xs p s (((xs.length : Int) - 0).toNat + 1) 0 (by omega) (by omega)
  rw [List.drop_zero] at this
  exact this
def wind : List TEdge → TPoint → Int
  | [], _ => 0
  | e :: l, p => RayM e p + wind l p
theorem up_b (e : TEdge) : -1 ≤ up e ∧ up e ≤ 1 := by unfold up; (repeat' split) <;> omega
theorem ray_b (e : TEdge) (p : TPoint) : -1 ≤ RayM e p ∧ RayM e p ≤ 1 := by
  have := up_b e
  unfold RayM
  split <;> omega
theorem wind_l0 (s : TShape) (p : TPoint) : ∀ (n k : Nat) (v : Int), k ≤ s.Edges.length → s.Edges.length - k < n → (-(k : Int) ≤ v ∧ v ≤ k) → s.Edges.length ≤ 1000 → FInsideS_l0 s p n v (k : Int) = (decide (s.Kind = 2) && !decide (v + wind (s.Edges.drop k) p = 0))
  | 0, k, v, hk, hn, _, _ => by omega
  | n + 1, k, v, hk, hn, hv, hl => by
    unfold FInsideS_l0
    by_cases hlt : k < s.Edges.length
    · rw [decide_eq_true (show (k : Int) < (s.Edges.length : Int) by omega)]
      simp only [cond_true, Int.toNat_natCast]
      rw [drop_cons' hlt, wind, ray_eq]
      have hb := ray_b (s.Edges.getD k default) p
      rw [W64_id (by omega) (by omega)]
      have ih := wind_l0 s p n (k + 1) (v + RayM (s.Edges.getD k default) p) (by omega) (by omega) (by omega) hl
      rw [show ((k : Int) + 1) = ((k + 1 : Nat) : Int) by omega, ih, Int.add_assoc]
    · rw [decide_eq_false (show ¬ (k : Int) < (s.Edges.length : Int) by omega)]
      rw [List.drop_of_length_le (by omega), wind, Int.add_zero]
      simp only [cond_false]
      cases decide (s.Kind = 2) <;> rfl
def InsM (s : TShape) (p : TPoint) : Prop := OkS s ∧ InBx s.Edges s.R p ∧ ((∃ e ∈ s.Edges, NearM e p s.R) ∨ s.Kind = 2 ∧ wind s.Edges p ≠ 0)
theorem inside_eqS (s : TShape) (p : TPoint) : FInsideS s p = true ↔ InsM s p := by
  unfold FInsideS
  rw [checkS_eq]
  by_cases hs : OkS s
  · have h0 := (checkMS_zero s).2 hs
    rw [h0]
    have hb := inbx_eq hs p
    simp only [decide_true, Bool.not_true, cond_false]
    by_cases hB : InBx s.Edges s.R p
    · obtain ⟨⟨g1, g2⟩, g3, g4⟩ := hb.2 hB
      rw [decide_eq_false g1, decide_eq_false g2, decide_eq_false g3, decide_eq_false g4]
      simp only [cond_false]
      rw [coI_eq]
      have hnear : (s.Edges.any fun e => FnearS e p s.R) = true ↔ ∃ e ∈ s.Edges, NearM e p s.R := by
        rw [List.any_eq_true]
        constructor
        · rintro ⟨e, he, hn⟩; exact ⟨e, he, (near_eq (hs.2.1 e he) (inbx_pb hs hB) hs.2.2.2.1).1 hn⟩
        · rintro ⟨e, he, hn⟩; exact ⟨e, he, (near_eq (hs.2.1 e he) (inbx_pb hs hB) hs.2.2.2.1).2 hn⟩
      unfold InsM
      have hw := wind_l0 s p (((s.Edges.length : Int) - 0).toNat + 1) 0 0 (by omega) (by omega) (by omega) (by have := hs.1.2.1; omega)
      rw [List.drop_zero, Int.zero_add] at hw
      rw [show ((0 : Nat) : Int) = 0 from rfl] at hw
      rw [hw]
      cases hc : (s.Edges.any fun e => FnearS e p s.R) with
      | true => simp only [cond_true, true_iff]; exact ⟨hs, hB, .inl (hnear.1 hc)⟩
      | false =>
        simp only [cond_false, Bool.and_eq_true, decide_eq_true_eq, Bool.not_eq_true', decide_eq_false_iff_not]
        constructor
        · intro h; exact ⟨hs, hB, .inr h⟩
        · rintro ⟨_, _, h | h⟩
          · rw [hnear.2 h] at hc; cases hc
          · exact h
    · have : ¬ (((¬ p.X < (FBox s).X0) ∧ ¬ (FBox s).X1 < p.X) ∧ (¬ p.Y < (FBox s).Y0) ∧ ¬ (FBox s).Y1 < p.Y) := fun h => hB (hb.1 h)
      simp only [cnd_or]
      have hor : ((decide (p.X < (FBox s).X0) || decide ((FBox s).X1 < p.X)) || decide (p.Y < (FBox s).Y0) || decide ((FBox s).Y1 < p.Y)) = true := by
        simp only [Bool.or_eq_true, decide_eq_true_eq]
        omega
      rw [hor]
      simp only [cond_true, Bool.false_eq_true, false_iff]
      exact fun h => hB h.2.1
  · have h0 : ¬ CheckMS s = 0 := fun h => hs ((checkMS_zero s).1 h)
    rw [decide_eq_false h0]
    simp only [Bool.not_false, cond_true, Bool.false_eq_true, false_iff]
    exact fun h => hs h.1
end Go.Proofs.Ytpnlegfdkkcnlaa
namespace Go.Proofs.Ytpnlegfdkkcnlaa
set_option maxRecDepth 100000
open Go.RowKit
set_option linter.unusedVariables false
set_option linter.unusedSimpArgs false
def nx (k : Int) : Int := if k = 3 then 3 else 1
end Go.Proofs.Ytpnlegfdkkcnlaa
namespace Go.Proofs.Ytpnlegfdkkcnlaa
set_option maxRecDepth 100000
open Go.RowKit
set_option linter.unusedVariables false
set_option linter.unusedSimpArgs false
theorem A64_mod (t : Int) : A64 t 3 = t % 4 := by
  unfold A64
  have h3 : (BitVec.ofInt 64 3).toNat = 2 ^ 2 - 1 := by decide
  rw [BitVec.toNat_and, h3, Nat.and_two_pow_sub_one_eq_mod, BitVec.toNat_ofInt, IntKind.wrap_i64]
  omega
theorem turns5_mod (t : Int) : Fref05Turns t = t % 4 := by
  unfold Fref05Turns
  rcases Int.lt_or_le t 0 with h | h
  · have b1 := Int.emod_nonneg (-t) (show (4 : Int) ≠ 0 by omega)
    rw [show t.tmod 4 = -((-t) % 4) by rw [← Int.tmod_eq_emod_of_nonneg (by omega), Int.neg_tmod, Int.neg_neg]]
    rw [W64_id (by omega) (by omega), Int.tmod_eq_emod_of_nonneg (by omega)]
    omega
  · rw [Int.tmod_eq_emod_of_nonneg h, W64_id (by omega) (by omega), Int.tmod_eq_emod_of_nonneg (by omega)]
    omega
structure Mat where
  a : Int
  b : Int
  c : Int
  d : Int
def Mat.ok (M : Mat) (s : Int) : Prop := (M.a = 0 ∧ M.d = 0 ∧ (M.b = 1 ∨ M.b = -1) ∧ M.c = -s * M.b) ∨ (M.b = 0 ∧ M.c = 0 ∧ (M.a = 1 ∨ M.a = -1) ∧ M.d = s * M.a)
end Go.Proofs.Ytpnlegfdkkcnlaa
namespace Go.Proofs.Ytpnlegfdkkcnlaa
set_option maxRecDepth 100000
open Go.RowKit
set_option linter.unusedVariables false
set_option linter.unusedSimpArgs false
theorem apply_raw (m : TMotion) (p : TPoint) : FvecApply m p = Fref05Apply m p := by
  have ht : FvecTurns m = m.Turn % 4 := A64_mod m.Turn
  unfold Fref05Apply wref05Apply_0 Fref05mirrored Fref05turned FvecApply
  rw [turns5_mod]
  generalize (bif m.Mirror then (W64 (0 - p.X)) else p.X) = x at *
  have h4 : m.Turn % 4 = 0 ∨ m.Turn % 4 = 1 ∨ m.Turn % 4 = 2 ∨ m.Turn % 4 = 3 := by omega
  rcases h4 with h | h | h | h <;> rw [h] at ht ⊢ <;> rw [ht]
  · show FvecApply_l0 m p 1 ⟨x, p.Y⟩ 0 = _
    simp only [FvecApply_l0, ht, Int.reduceLT, decide_false, cond_false, FvecAdd, Fref05Add, Int.reduceEq, if_true]
  · show FvecApply_l0 m p 2 ⟨x, p.Y⟩ 0 = _
    simp only [FvecApply_l0, ht, Int.reduceLT, Int.reduceAdd, decide_true, cond_true, decide_false, cond_false, FvecAdd, Fref05Add, Int.reduceEq, if_true, if_false]
  · show FvecApply_l0 m p 3 ⟨x, p.Y⟩ 0 = _
    simp only [FvecApply_l0, ht, Int.reduceLT, Int.reduceAdd, decide_true, cond_true, decide_false, cond_false, FvecAdd, Fref05Add, Int.reduceEq, if_true, if_false]
  · show FvecApply_l0 m p 4 ⟨x, p.Y⟩ 0 = _
    have e : ∀ u v : Int, W64 (W64 (0 - W64 (0 - u)) + v) = W64 (u + v) := fun u v => by simp only [W64_def]; omega
    simp only [FvecApply_l0, ht, Int.reduceLT, Int.reduceAdd, decide_true, cond_true, decide_false, cond_false, FvecAdd, Fref05Add, Int.reduceEq, if_false, e]
theorem move_raw (e : TEdge) (m : TMotion) : FMove e m = Fref06Move e m := by
  obtain ⟨k, a, b, c⟩ := e
  unfold FMove Fref06Move
  simp only
  by_cases h1 : k = 1
  · subst h1
    rw [if_pos rfl]
    unfold FMove1 Fref06turn
    rw [apply_raw, apply_raw]
    cases m.Mirror <;> rfl
  · rw [if_neg h1]
    by_cases h2 : k = 2
    · subst h2
      rw [if_pos rfl]
      unfold FMove2 Fref06turn
      rw [apply_raw, apply_raw, apply_raw]
      cases m.Mirror <;> rfl
    · rw [if_neg h2]
      by_cases h3 : k = 3
      · subst h3
        rw [if_pos rfl]
        unfold FMove3 Fref06turn
        rw [apply_raw, apply_raw, apply_raw]
        cases m.Mirror <;> rfl
      · rw [if_neg h3]
        unfold FMoveN Fref06turn
        simp only
        rw [apply_raw, apply_raw, apply_raw, decide_eq_false h2, decide_eq_false h3]
        cases m.Mirror <;> rfl
theorem moveR_l0 (s : TShape) (m : TMotion) : ∀ (n k : Nat) (l : List TEdge), k ≤ s.Edges.length → s.Edges.length - k < n → FMoveR9_l0 s m n l (k : Int) = ⟨s.Kind, l ++ (s.Edges.drop k).map (fun e => FMove e m), s.R⟩
  | 0, k, l, hk, hn => by omega
  | n + 1, k, l, hk, hn => by
    unfold FMoveR9_l0
    by_cases hlt : k < s.Edges.length
    · rw [decide_eq_true (show (k : Int) < ((s.Edges.length : Nat) : Int) by omega)]
      simp only [cond_true]
      rw [show ((k : Int) + 1) = ((k + 1 : Nat) : Int) by omega, moveR_l0 s m n (k + 1) _ (by omega) (by omega), drop_cons' hlt]
      unfold wMoveR9_0
      rw [Int.toNat_natCast, ← move_raw]
      simp
    · rw [decide_eq_false (show ¬ (k : Int) < ((s.Edges.length : Nat) : Int) by omega)]
      rw [List.drop_of_length_le (by omega)]
      simp
theorem moveR_eq (s : TShape) (m : TMotion) : FMoveR9 s m = FMoveS s m := by
  rw [moveS_eq]
  unfold FMoveR9
  have := moveR_l0 s m ((((((s.Edges.length : Nat) : Int))) - 0).toNat + 1) 0 [] (by omega) (by omega)
  exact this
theorem rect_eq (r : TRect) : FRectR r = FRectS r := by
  unfold FRectR wRectR_0
  kernel_rfl
theorem disc_eq (p : TPoint) (r : Int) : FDiscR p r = FDiscS p r := rfl
theorem disc_lens (p : TPoint) (r : Int) : (((FDiscS p r).Edges.length : Int) ≤ 1000000) ∧ ((FDiscR p r).Edges.length : Int) ≤ 1000000 := ⟨(by decide : ((1 : Nat) : Int) ≤ 1000000), (by decide : ((1 : Nat) : Int) ≤ 1000000)⟩
theorem rectS_len (r : TRect) : ((FRectS r).Edges.length : Int) ≤ 1000000 := (by decide : ((4 : Nat) : Int) ≤ 1000000)
theorem rectR_len (r : TRect) : ((FRectR r).Edges.length : Int) ≤ 1000000 := by rw [rect_eq]; exact rectS_len r
theorem moveR9_len (s : TShape) (m : TMotion) (h : (s.Edges.length : Int) ≤ 45) : ((FMoveR9 s m).Edges.length : Int) ≤ 1000000 := by rw [moveR_eq, moveS_len]; omega
theorem equal_l0 (a b : TShape) : ∀ (n : Nat) (k : Int), FequalE_l0 a.Edges b.Edges n k = FSameR_l0 a b n k
  | 0, k => rfl
  | n + 1, k => by
    unfold FequalE_l0 FSameR_l0
    rw [equal_l0 a b n]
theorem same_eq (a b : TShape) : FSameS a b = FSameR a b := by
  unfold FSameS FSameR FequalE
  rw [equal_l0]
  cases decide (a.Kind = b.Kind) <;> cases decide (a.R = b.R) <;> cases decide (((a.Edges.length : Int)) = (b.Edges.length : Int)) <;> rfl
theorem same_l0 (a : TShape) : ∀ (n : Nat) (k : Int), ((a.Edges.length : Int) - k).toNat < n → FSameR_l0 a a n k = true
  | 0, k, h => by omega
  | n + 1, k, h => by
    unfold FSameR_l0
    by_cases q : k < (a.Edges.length : Int)
    · rw [decide_eq_true q]
      simp only [decide_true, Bool.and_true, Bool.not_true, cond_true, cond_false]
      exact same_l0 a n (k + 1) (by omega)
    · rw [decide_eq_false q]; rfl
theorem same_refl (a : TShape) : FSameR a a = true := by
  unfold FSameR
  simp only [decide_true, Bool.not_true, cond_false]
  exact same_l0 a _ _ (by omega)
end Go.Proofs.Ytpnlegfdkkcnlaa
namespace Go.Proofs.Ytpnlegfdkkcnlaa
set_option maxRecDepth 100000
open Go.RowKit
set_option linter.unusedVariables false
set_option linter.unusedSimpArgs false
def FcutS (s : TShape) : TShape := TShape.mk s.Kind (s.Edges.take (min ((s.Edges.length : Int)) 45 : Int).toNat) s.R
def ccutS (s : TShape) : FuncId × List Av × Ef := (33, [.agg (TShape.c s)], .val [] (.av (.agg (TShape.c (FcutS s)))))
theorem pcutS (s : TShape) (h0 : (s.Edges.length : Int) ≤ 9223372036854775807) : Pure Try.prog 33 (ccutS s).2.1 (.av (.agg (TShape.c (FcutS s)))) := by
  refine pure_of_awF Try.func33 rfl (by kernel_rfl) (by kernel_rfl) fun W0 M0 => ?_
  refine aw_seq ?_
  refine aw_region eqok [] [] [] [1, 2] [1, 2] [] ⟨[(1, tP 1 0), (2, tP 2 0)], [(1, .cells (TShape.c s) 26), (2, .cells [.i 0, .val (.slice none 0 0), .i 0] 26)]⟩ .nil (by kernel_rfl) .nil <| ath_n <| aw_seq ?_
  refine aw_region eqok [] [] [] [1, 2] [1, 2] [0 ≤ (0 : Int) ∧ (0 : Int) ≤ (min ((s.Edges.length : Int)) 45 : Int) ∧ (min ((s.Edges.length : Int)) 45 : Int) ≤ ((s.Edges.length : Nat) : Int)] ⟨[(1, tP 1 0), (2, tP 2 0)], [(1, .cells [.i s.Kind, .list false 7 ((min ((s.Edges.length : Int)) 45 : Int).toNat - (0 : Int).toNat) (fun i j => (rowF TEdge.c s.Edges) (i + (0 : Int).toNat) j), .i s.R] 26), (2, .cells [.i 0, .val (.slice none 0 0), .i 0] 26)]⟩ .nil (by kernel_rfl) (.cons au1 .nil) <| ath_n ?_
  refine aw_cv (Cv.trans (cv_ce (⟨[(1, tP 1 0), (2, tP 2 0)], [(1, .cells [.i s.Kind, lst 7 TEdge.c (s.Edges.take (min ((s.Edges.length : Int)) 45 : Int).toNat), .i s.R] 26), (2, .cells [.i 0, .val (.slice none 0 0), .i 0] 26)]⟩) (.cons ⟨rfl, .refl _⟩ (.cons ⟨rfl, .refl _⟩ .nil)) (.cons ⟨rfl, .cells _ (.cons (.refl _) (.cons (cle_told false (told_take (b := min ((s.Edges.length : Int)) 45) (told_rfl 7 TEdge.c s.Edges) (by have hc := (show 0 ≤ (0 : Int) ∧ (0 : Int) ≤ (min ((s.Edges.length : Int)) 45 : Int) ∧ (min ((s.Edges.length : Int)) 45 : Int) ≤ ((s.Edges.length : Nat) : Int) from au1); exact hc.2.1) (by have hc := (show 0 ≤ (0 : Int) ∧ (0 : Int) ≤ (min ((s.Edges.length : Int)) 45 : Int) ∧ (min ((s.Edges.length : Int)) 45 : Int) ≤ ((s.Edges.length : Nat) : Int) from au1); exact hc.2.2))) (.cons (.refl _) .nil)))⟩ (.cons ⟨rfl, .refl _⟩ .nil))) (Cv.refl _)) <| aw_seq ?_
  refine aw_region eqok [] [] [] [2] [2] [] ⟨[(2, tP 2 0)], [(2, .cells [.i s.Kind, lst 7 TEdge.c (s.Edges.take (min ((s.Edges.length : Int)) 45 : Int).toNat), .i s.R] 26)]⟩ .nil (by kernel_rfl) .nil <| ath_n <| aw_ret ?_
  exact ⟨_, Cv.refl _, .inl rfl, .av (.agg [.i s.Kind, lst 7 TEdge.c (s.Edges.take (min ((s.Edges.length : Int)) 45 : Int).toNat), .i s.R]), by kernel_rfl, tve_eq (by rfl)⟩
theorem okcutS (s : TShape) (h0 : (s.Edges.length : Int) ≤ 9223372036854775807) : CallOk Try.prog (ccutS s).1 (ccutS s).2.1 (ccutS s).2.2 := callOk_pure (fun _ _ => by kernel_rfl) fun _ => pcutS s h0
theorem cut_len (s : TShape) : ((FcutS s).Edges.length : Int) ≤ 45 := by
  unfold FcutS
  simp only [List.length_take]
  omega
theorem cut_len' (s : TShape) : ((FcutS s).Edges.length : Int) ≤ 1000000 := Int.le_trans (cut_len s) (by decide)
theorem cut_lenm (s : TShape) (m : TMotion) : ((FMoveS (FcutS s) m).Edges.length : Int) ≤ 1000000 := by rw [moveS_len]; exact cut_len' s
def wShapeRaw_0 (a : TShape) (m : TMotion) : Bool := FSameR (FMoveS (FcutS a) m) (FMoveR9 (FcutS a) m)
def wShapeRaw_1 (a : TShape) (m : TMotion) (p : TPoint) : Bool := bif wShapeRaw_0 a m then FSameR (FDiscS p ((FcutS a).R)) (FDiscR p ((FcutS a).R)) else false
def wShapeRaw_2 (a : TShape) (m : TMotion) (p : TPoint) : Bool := bif wShapeRaw_1 a m p then FSameR (FRectS (TRect.mk p.X m.At.X m.At.Y ((FcutS a).R))) (FRectR (TRect.mk p.X m.At.X m.At.Y ((FcutS a).R))) else false
def FShapeRaw (a : TShape) (b_ : TShape) (m : TMotion) (p : TPoint) : Bool := bif bif Fsanity9 then bif bif bif bif decide (((FCheckS (FcutS a)) : Int) = (FCheckR (FcutS a))) then (decide (((FBox (FcutS a)).X0) = ((FBoxR (FcutS a)).X0)) && (decide (((FBox (FcutS a)).Y0) = ((FBoxR (FcutS a)).Y0)) && (decide (((FBox (FcutS a)).X1) = ((FBoxR (FcutS a)).X1)) && (decide (((FBox (FcutS a)).Y1) = ((FBoxR (FcutS a)).Y1)) && true)))) else false then ((FInsideS (FcutS a) p) == (FInsideR (FcutS a) p)) else false then ((FSameS (FcutS a) (FcutS b_)) == (FSameR (FcutS a) (FcutS b_))) else false then FSameS (FcutS a) (FcutS a) else false else false then wShapeRaw_2 a m p else false
def cShapeRaw (a : TShape) (b_ : TShape) (m : TMotion) (p : TPoint) : FuncId × List Av × Ef := (10, [.agg (TShape.c a), .agg (TShape.c b_), .agg (TMotion.c m), .agg (TPoint.c p)], .val [] (.av (.one (.b (FShapeRaw a b_ m p)))))
theorem pShapeRaw (a : TShape) (b_ : TShape) (m : TMotion) (p : TPoint) (ha : (a.Edges.length : Int) ≤ 9223372036854775807) (hb : (b_.Edges.length : Int) ≤ 9223372036854775807) : Pure Try.prog 10 (cShapeRaw a b_ m p).2.1 (.av (.one (.b (FShapeRaw a b_ m p)))) := by
  refine pure_of_awF Try.func10 rfl (by kernel_rfl) (by kernel_rfl) fun W0 M0 => ?_
  have ca := cut_len' a
  have cb := cut_len' b_
  have cm := cut_lenm a m
  have cr := moveR9_len (FcutS a) m (cut_len a)
  have dd := disc_lens p (FcutS a).R
  have rs := rectS_len (TRect.mk p.X m.At.X m.At.Y ((FcutS a).R))
  have rr := rectR_len (TRect.mk p.X m.At.X m.At.Y ((FcutS a).R))
  refine aw_seq ?_
  refine aw_region eqok [] [] [] [4, 5, 6, 7] [4, 5, 6, 7] [] ⟨[(4, tP 4 0), (5, tP 5 0), (6, tP 6 0), (7, tP 7 0)], [(4, .cells (TShape.c a) 26), (5, .cells (TShape.c b_) 26), (6, .cells (TMotion.c m) 39), (7, .cells (TPoint.c p) 29)]⟩ .nil (by kernel_rfl) .nil <| ath_n <| aw_seq ?_
  refine aw_region eqok [] [] [(13, csanity9)] [4, 5, 6, 7, 9] [4, 5, 6, 7] [Same (csanity9).2.1] ⟨[(4, tP 4 0), (5, tP 5 0), (6, tP 6 0), (7, tP 7 0), (9, tB Fsanity9)], [(4, .cells (TShape.c a) 26), (5, .cells (TShape.c b_) 26), (6, .cells (TMotion.c m) 39), (7, .cells (TPoint.c p) 29)]⟩ (.cons (oksanity9) .nil) (by kernel_rfl) (.cons rfl .nil) <| ath_n <| aw_seq ?_
  refine aw_draw mixed eqok [] [] [(15, ccutS a), (17, ccutS b_)] [4, 5, 6, 7, 9] [4, 5, 6, 7] [Same (ccutS a).2.1, Same (ccutS b_).2.1] ⟨[(4, tP 4 0), (5, tP 5 0), (6, tP 6 0), (7, tP 7 0), (9, tB Fsanity9)], [(4, .cells (TShape.c (FcutS a)) 26), (5, .cells (TShape.c (FcutS b_)) 26), (6, .cells (TMotion.c m) 39), (7, .cells (TPoint.c p) 29)]⟩ (.cons (okcutS a au0) (.cons (okcutS b_ au0) .nil)) (by kernel_rfl) (by kernel_rfl) (.cons rfl (.cons rfl .nil)) <| ath_n <| aw_seq ?_
  refine aw_draw mixed eqok [] [] [(19, cCheckS (FcutS a)), (21, cCheckR (FcutS a)), (25, cBox (FcutS a)), (27, cBoxR (FcutS a)), (33, cInsideS (FcutS a) p), (36, cInsideR (FcutS a) p), (42, cSameS (FcutS a) (FcutS b_)), (45, cSameR (FcutS a) (FcutS b_)), (51, cSameS (FcutS a) (FcutS a))] [4, 6, 7, 9, 10] [4, 6, 7] [Same (cCheckS (FcutS a)).2.1, Same (cCheckR (FcutS a)).2.1, ((decide (((FCheckS (FcutS a)) : Int) = (FCheckR (FcutS a)))) = true) → ((decide (((FCheckS (FcutS a)) : Int) = (FCheckR (FcutS a)))) = true), ((decide (((FCheckS (FcutS a)) : Int) = (FCheckR (FcutS a)))) = true) → (Same (cBox (FcutS a)).2.1), ((decide (((FCheckS (FcutS a)) : Int) = (FCheckR (FcutS a)))) = true) → ((decide (((FCheckS (FcutS a)) : Int) = (FCheckR (FcutS a)))) = true), ((decide (((FCheckS (FcutS a)) : Int) = (FCheckR (FcutS a)))) = true) → (Same (cBoxR (FcutS a)).2.1), ((decide (((FCheckS (FcutS a)) : Int) = (FCheckR (FcutS a)))) = true) → ((decide (((FCheckS (FcutS a)) : Int) = (FCheckR (FcutS a)))) = true), ((decide (((FCheckS (FcutS a)) : Int) = (FCheckR (FcutS a)))) = true) → ((decide (((FCheckS (FcutS a)) : Int) = (FCheckR (FcutS a)))) = true), (decide (((FCheckS (FcutS a)) : Int) = (FCheckR (FcutS a)))) = true → ((decide (((FCheckS (FcutS a)) : Int) = (FCheckR (FcutS a)))) = true), ((bif decide (((FCheckS (FcutS a)) : Int) = (FCheckR (FcutS a))) then (decide (((FBox (FcutS a)).X0) = ((FBoxR (FcutS a)).X0)) && (decide (((FBox (FcutS a)).Y0) = ((FBoxR (FcutS a)).Y0)) && (decide (((FBox (FcutS a)).X1) = ((FBoxR (FcutS a)).X1)) && (decide (((FBox (FcutS a)).Y1) = ((FBoxR (FcutS a)).Y1)) && true)))) else false) = true) → ((bif decide (((FCheckS (FcutS a)) : Int) = (FCheckR (FcutS a))) then (decide (((FBox (FcutS a)).X0) = ((FBoxR (FcutS a)).X0)) && (decide (((FBox (FcutS a)).Y0) = ((FBoxR (FcutS a)).Y0)) && (decide (((FBox (FcutS a)).X1) = ((FBoxR (FcutS a)).X1)) && (decide (((FBox (FcutS a)).Y1) = ((FBoxR (FcutS a)).Y1)) && true)))) else false) = true), ((bif decide (((FCheckS (FcutS a)) : Int) = (FCheckR (FcutS a))) then (decide (((FBox (FcutS a)).X0) = ((FBoxR (FcutS a)).X0)) && (decide (((FBox (FcutS a)).Y0) = ((FBoxR (FcutS a)).Y0)) && (decide (((FBox (FcutS a)).X1) = ((FBoxR (FcutS a)).X1)) && (decide (((FBox (FcutS a)).Y1) = ((FBoxR (FcutS a)).Y1)) && true)))) else false) = true) → ((bif decide (((FCheckS (FcutS a)) : Int) = (FCheckR (FcutS a))) then (decide (((FBox (FcutS a)).X0) = ((FBoxR (FcutS a)).X0)) && (decide (((FBox (FcutS a)).Y0) = ((FBoxR (FcutS a)).Y0)) && (decide (((FBox (FcutS a)).X1) = ((FBoxR (FcutS a)).X1)) && (decide (((FBox (FcutS a)).Y1) = ((FBoxR (FcutS a)).Y1)) && true)))) else false) = true), ((bif decide (((FCheckS (FcutS a)) : Int) = (FCheckR (FcutS a))) then (decide (((FBox (FcutS a)).X0) = ((FBoxR (FcutS a)).X0)) && (decide (((FBox (FcutS a)).Y0) = ((FBoxR (FcutS a)).Y0)) && (decide (((FBox (FcutS a)).X1) = ((FBoxR (FcutS a)).X1)) && (decide (((FBox (FcutS a)).Y1) = ((FBoxR (FcutS a)).Y1)) && true)))) else false) = true) → (Same (cInsideS (FcutS a) p).2.1), ((bif decide (((FCheckS (FcutS a)) : Int) = (FCheckR (FcutS a))) then (decide (((FBox (FcutS a)).X0) = ((FBoxR (FcutS a)).X0)) && (decide (((FBox (FcutS a)).Y0) = ((FBoxR (FcutS a)).Y0)) && (decide (((FBox (FcutS a)).X1) = ((FBoxR (FcutS a)).X1)) && (decide (((FBox (FcutS a)).Y1) = ((FBoxR (FcutS a)).Y1)) && true)))) else false) = true) → ((bif decide (((FCheckS (FcutS a)) : Int) = (FCheckR (FcutS a))) then (decide (((FBox (FcutS a)).X0) = ((FBoxR (FcutS a)).X0)) && (decide (((FBox (FcutS a)).Y0) = ((FBoxR (FcutS a)).Y0)) && (decide (((FBox (FcutS a)).X1) = ((FBoxR (FcutS a)).X1)) && (decide (((FBox (FcutS a)).Y1) = ((FBoxR (FcutS a)).Y1)) && true)))) else false) = true), ((bif decide (((FCheckS (FcutS a)) : Int) = (FCheckR (FcutS a))) then (decide (((FBox (FcutS a)).X0) = ((FBoxR (FcutS a)).X0)) && (decide (((FBox (FcutS a)).Y0) = ((FBoxR (FcutS a)).Y0)) && (decide (((FBox (FcutS a)).X1) = ((FBoxR (FcutS a)).X1)) && (decide (((FBox (FcutS a)).Y1) = ((FBoxR (FcutS a)).Y1)) && true)))) else false) = true) → ((bif decide (((FCheckS (FcutS a)) : Int) = (FCheckR (FcutS a))) then (decide (((FBox (FcutS a)).X0) = ((FBoxR (FcutS a)).X0)) && (decide (((FBox (FcutS a)).Y0) = ((FBoxR (FcutS a)).Y0)) && (decide (((FBox (FcutS a)).X1) = ((FBoxR (FcutS a)).X1)) && (decide (((FBox (FcutS a)).Y1) = ((FBoxR (FcutS a)).Y1)) && true)))) else false) = true), ((bif decide (((FCheckS (FcutS a)) : Int) = (FCheckR (FcutS a))) then (decide (((FBox (FcutS a)).X0) = ((FBoxR (FcutS a)).X0)) && (decide (((FBox (FcutS a)).Y0) = ((FBoxR (FcutS a)).Y0)) && (decide (((FBox (FcutS a)).X1) = ((FBoxR (FcutS a)).X1)) && (decide (((FBox (FcutS a)).Y1) = ((FBoxR (FcutS a)).Y1)) && true)))) else false) = true) → (Same (cInsideR (FcutS a) p).2.1), ((bif decide (((FCheckS (FcutS a)) : Int) = (FCheckR (FcutS a))) then (decide (((FBox (FcutS a)).X0) = ((FBoxR (FcutS a)).X0)) && (decide (((FBox (FcutS a)).Y0) = ((FBoxR (FcutS a)).Y0)) && (decide (((FBox (FcutS a)).X1) = ((FBoxR (FcutS a)).X1)) && (decide (((FBox (FcutS a)).Y1) = ((FBoxR (FcutS a)).Y1)) && true)))) else false) = true) → ((bif decide (((FCheckS (FcutS a)) : Int) = (FCheckR (FcutS a))) then (decide (((FBox (FcutS a)).X0) = ((FBoxR (FcutS a)).X0)) && (decide (((FBox (FcutS a)).Y0) = ((FBoxR (FcutS a)).Y0)) && (decide (((FBox (FcutS a)).X1) = ((FBoxR (FcutS a)).X1)) && (decide (((FBox (FcutS a)).Y1) = ((FBoxR (FcutS a)).Y1)) && true)))) else false) = true), ((bif decide (((FCheckS (FcutS a)) : Int) = (FCheckR (FcutS a))) then (decide (((FBox (FcutS a)).X0) = ((FBoxR (FcutS a)).X0)) && (decide (((FBox (FcutS a)).Y0) = ((FBoxR (FcutS a)).Y0)) && (decide (((FBox (FcutS a)).X1) = ((FBoxR (FcutS a)).X1)) && (decide (((FBox (FcutS a)).Y1) = ((FBoxR (FcutS a)).Y1)) && true)))) else false) = true) → ((bif decide (((FCheckS (FcutS a)) : Int) = (FCheckR (FcutS a))) then (decide (((FBox (FcutS a)).X0) = ((FBoxR (FcutS a)).X0)) && (decide (((FBox (FcutS a)).Y0) = ((FBoxR (FcutS a)).Y0)) && (decide (((FBox (FcutS a)).X1) = ((FBoxR (FcutS a)).X1)) && (decide (((FBox (FcutS a)).Y1) = ((FBoxR (FcutS a)).Y1)) && true)))) else false) = true), (bif decide (((FCheckS (FcutS a)) : Int) = (FCheckR (FcutS a))) then (decide (((FBox (FcutS a)).X0) = ((FBoxR (FcutS a)).X0)) && (decide (((FBox (FcutS a)).Y0) = ((FBoxR (FcutS a)).Y0)) && (decide (((FBox (FcutS a)).X1) = ((FBoxR (FcutS a)).X1)) && (decide (((FBox (FcutS a)).Y1) = ((FBoxR (FcutS a)).Y1)) && true)))) else false) = true → ((bif decide (((FCheckS (FcutS a)) : Int) = (FCheckR (FcutS a))) then (decide (((FBox (FcutS a)).X0) = ((FBoxR (FcutS a)).X0)) && (decide (((FBox (FcutS a)).Y0) = ((FBoxR (FcutS a)).Y0)) && (decide (((FBox (FcutS a)).X1) = ((FBoxR (FcutS a)).X1)) && (decide (((FBox (FcutS a)).Y1) = ((FBoxR (FcutS a)).Y1)) && true)))) else false) = true), ((bif bif decide (((FCheckS (FcutS a)) : Int) = (FCheckR (FcutS a))) then (decide (((FBox (FcutS a)).X0) = ((FBoxR (FcutS a)).X0)) && (decide (((FBox (FcutS a)).Y0) = ((FBoxR (FcutS a)).Y0)) && (decide (((FBox (FcutS a)).X1) = ((FBoxR (FcutS a)).X1)) && (decide (((FBox (FcutS a)).Y1) = ((FBoxR (FcutS a)).Y1)) && true)))) else false then ((FInsideS (FcutS a) p) == (FInsideR (FcutS a) p)) else false) = true) → ((bif bif decide (((FCheckS (FcutS a)) : Int) = (FCheckR (FcutS a))) then (decide (((FBox (FcutS a)).X0) = ((FBoxR (FcutS a)).X0)) && (decide (((FBox (FcutS a)).Y0) = ((FBoxR (FcutS a)).Y0)) && (decide (((FBox (FcutS a)).X1) = ((FBoxR (FcutS a)).X1)) && (decide (((FBox (FcutS a)).Y1) = ((FBoxR (FcutS a)).Y1)) && true)))) else false then ((FInsideS (FcutS a) p) == (FInsideR (FcutS a) p)) else false) = true), ((bif bif decide (((FCheckS (FcutS a)) : Int) = (FCheckR (FcutS a))) then (decide (((FBox (FcutS a)).X0) = ((FBoxR (FcutS a)).X0)) && (decide (((FBox (FcutS a)).Y0) = ((FBoxR (FcutS a)).Y0)) && (decide (((FBox (FcutS a)).X1) = ((FBoxR (FcutS a)).X1)) && (decide (((FBox (FcutS a)).Y1) = ((FBoxR (FcutS a)).Y1)) && true)))) else false then ((FInsideS (FcutS a) p) == (FInsideR (FcutS a) p)) else false) = true) → ((bif bif decide (((FCheckS (FcutS a)) : Int) = (FCheckR (FcutS a))) then (decide (((FBox (FcutS a)).X0) = ((FBoxR (FcutS a)).X0)) && (decide (((FBox (FcutS a)).Y0) = ((FBoxR (FcutS a)).Y0)) && (decide (((FBox (FcutS a)).X1) = ((FBoxR (FcutS a)).X1)) && (decide (((FBox (FcutS a)).Y1) = ((FBoxR (FcutS a)).Y1)) && true)))) else false then ((FInsideS (FcutS a) p) == (FInsideR (FcutS a) p)) else false) = true), ((bif bif decide (((FCheckS (FcutS a)) : Int) = (FCheckR (FcutS a))) then (decide (((FBox (FcutS a)).X0) = ((FBoxR (FcutS a)).X0)) && (decide (((FBox (FcutS a)).Y0) = ((FBoxR (FcutS a)).Y0)) && (decide (((FBox (FcutS a)).X1) = ((FBoxR (FcutS a)).X1)) && (decide (((FBox (FcutS a)).Y1) = ((FBoxR (FcutS a)).Y1)) && true)))) else false then ((FInsideS (FcutS a) p) == (FInsideR (FcutS a) p)) else false) = true) → (Same (cSameS (FcutS a) (FcutS b_)).2.1), ((bif bif decide (((FCheckS (FcutS a)) : Int) = (FCheckR (FcutS a))) then (decide (((FBox (FcutS a)).X0) = ((FBoxR (FcutS a)).X0)) && (decide (((FBox (FcutS a)).Y0) = ((FBoxR (FcutS a)).Y0)) && (decide (((FBox (FcutS a)).X1) = ((FBoxR (FcutS a)).X1)) && (decide (((FBox (FcutS a)).Y1) = ((FBoxR (FcutS a)).Y1)) && true)))) else false then ((FInsideS (FcutS a) p) == (FInsideR (FcutS a) p)) else false) = true) → ((bif bif decide (((FCheckS (FcutS a)) : Int) = (FCheckR (FcutS a))) then (decide (((FBox (FcutS a)).X0) = ((FBoxR (FcutS a)).X0)) && (decide (((FBox (FcutS a)).Y0) = ((FBoxR (FcutS a)).Y0)) && (decide (((FBox (FcutS a)).X1) = ((FBoxR (FcutS a)).X1)) && (decide (((FBox (FcutS a)).Y1) = ((FBoxR (FcutS a)).Y1)) && true)))) else false then ((FInsideS (FcutS a) p) == (FInsideR (FcutS a) p)) else false) = true), ((bif bif decide (((FCheckS (FcutS a)) : Int) = (FCheckR (FcutS a))) then (decide (((FBox (FcutS a)).X0) = ((FBoxR (FcutS a)).X0)) && (decide (((FBox (FcutS a)).Y0) = ((FBoxR (FcutS a)).Y0)) && (decide (((FBox (FcutS a)).X1) = ((FBoxR (FcutS a)).X1)) && (decide (((FBox (FcutS a)).Y1) = ((FBoxR (FcutS a)).Y1)) && true)))) else false then ((FInsideS (FcutS a) p) == (FInsideR (FcutS a) p)) else false) = true) → ((bif bif decide (((FCheckS (FcutS a)) : Int) = (FCheckR (FcutS a))) then (decide (((FBox (FcutS a)).X0) = ((FBoxR (FcutS a)).X0)) && (decide (((FBox (FcutS a)).Y0) = ((FBoxR (FcutS a)).Y0)) && (decide (((FBox (FcutS a)).X1) = ((FBoxR (FcutS a)).X1)) && (decide (((FBox (FcutS a)).Y1) = ((FBoxR (FcutS a)).Y1)) && true)))) else false then ((FInsideS (FcutS a) p) == (FInsideR (FcutS a) p)) else false) = true), ((bif bif decide (((FCheckS (FcutS a)) : Int) = (FCheckR (FcutS a))) then (decide (((FBox (FcutS a)).X0) = ((FBoxR (FcutS a)).X0)) && (decide (((FBox (FcutS a)).Y0) = ((FBoxR (FcutS a)).Y0)) && (decide (((FBox (FcutS a)).X1) = ((FBoxR (FcutS a)).X1)) && (decide (((FBox (FcutS a)).Y1) = ((FBoxR (FcutS a)).Y1)) && true)))) else false then ((FInsideS (FcutS a) p) == (FInsideR (FcutS a) p)) else false) = true) → (Same (cSameR (FcutS a) (FcutS b_)).2.1), ((bif bif decide (((FCheckS (FcutS a)) : Int) = (FCheckR (FcutS a))) then (decide (((FBox (FcutS a)).X0) = ((FBoxR (FcutS a)).X0)) && (decide (((FBox (FcutS a)).Y0) = ((FBoxR (FcutS a)).Y0)) && (decide (((FBox (FcutS a)).X1) = ((FBoxR (FcutS a)).X1)) && (decide (((FBox (FcutS a)).Y1) = ((FBoxR (FcutS a)).Y1)) && true)))) else false then ((FInsideS (FcutS a) p) == (FInsideR (FcutS a) p)) else false) = true) → ((bif bif decide (((FCheckS (FcutS a)) : Int) = (FCheckR (FcutS a))) then (decide (((FBox (FcutS a)).X0) = ((FBoxR (FcutS a)).X0)) && (decide (((FBox (FcutS a)).Y0) = ((FBoxR (FcutS a)).Y0)) && (decide (((FBox (FcutS a)).X1) = ((FBoxR (FcutS a)).X1)) && (decide (((FBox (FcutS a)).Y1) = ((FBoxR (FcutS a)).Y1)) && true)))) else false then ((FInsideS (FcutS a) p) == (FInsideR (FcutS a) p)) else false) = true), ((bif bif decide (((FCheckS (FcutS a)) : Int) = (FCheckR (FcutS a))) then (decide (((FBox (FcutS a)).X0) = ((FBoxR (FcutS a)).X0)) && (decide (((FBox (FcutS a)).Y0) = ((FBoxR (FcutS a)).Y0)) && (decide (((FBox (FcutS a)).X1) = ((FBoxR (FcutS a)).X1)) && (decide (((FBox (FcutS a)).Y1) = ((FBoxR (FcutS a)).Y1)) && true)))) else false then ((FInsideS (FcutS a) p) == (FInsideR (FcutS a) p)) else false) = true) → ((bif bif decide (((FCheckS (FcutS a)) : Int) = (FCheckR (FcutS a))) then (decide (((FBox (FcutS a)).X0) = ((FBoxR (FcutS a)).X0)) && (decide (((FBox (FcutS a)).Y0) = ((FBoxR (FcutS a)).Y0)) && (decide (((FBox (FcutS a)).X1) = ((FBoxR (FcutS a)).X1)) && (decide (((FBox (FcutS a)).Y1) = ((FBoxR (FcutS a)).Y1)) && true)))) else false then ((FInsideS (FcutS a) p) == (FInsideR (FcutS a) p)) else false) = true), (bif bif decide (((FCheckS (FcutS a)) : Int) = (FCheckR (FcutS a))) then (decide (((FBox (FcutS a)).X0) = ((FBoxR (FcutS a)).X0)) && (decide (((FBox (FcutS a)).Y0) = ((FBoxR (FcutS a)).Y0)) && (decide (((FBox (FcutS a)).X1) = ((FBoxR (FcutS a)).X1)) && (decide (((FBox (FcutS a)).Y1) = ((FBoxR (FcutS a)).Y1)) && true)))) else false then ((FInsideS (FcutS a) p) == (FInsideR (FcutS a) p)) else false) = true → ((bif bif decide (((FCheckS (FcutS a)) : Int) = (FCheckR (FcutS a))) then (decide (((FBox (FcutS a)).X0) = ((FBoxR (FcutS a)).X0)) && (decide (((FBox (FcutS a)).Y0) = ((FBoxR (FcutS a)).Y0)) && (decide (((FBox (FcutS a)).X1) = ((FBoxR (FcutS a)).X1)) && (decide (((FBox (FcutS a)).Y1) = ((FBoxR (FcutS a)).Y1)) && true)))) else false then ((FInsideS (FcutS a) p) == (FInsideR (FcutS a) p)) else false) = true), ((bif bif bif decide (((FCheckS (FcutS a)) : Int) = (FCheckR (FcutS a))) then (decide (((FBox (FcutS a)).X0) = ((FBoxR (FcutS a)).X0)) && (decide (((FBox (FcutS a)).Y0) = ((FBoxR (FcutS a)).Y0)) && (decide (((FBox (FcutS a)).X1) = ((FBoxR (FcutS a)).X1)) && (decide (((FBox (FcutS a)).Y1) = ((FBoxR (FcutS a)).Y1)) && true)))) else false then ((FInsideS (FcutS a) p) == (FInsideR (FcutS a) p)) else false then ((FSameS (FcutS a) (FcutS b_)) == (FSameR (FcutS a) (FcutS b_))) else false) = true) → ((bif bif bif decide (((FCheckS (FcutS a)) : Int) = (FCheckR (FcutS a))) then (decide (((FBox (FcutS a)).X0) = ((FBoxR (FcutS a)).X0)) && (decide (((FBox (FcutS a)).Y0) = ((FBoxR (FcutS a)).Y0)) && (decide (((FBox (FcutS a)).X1) = ((FBoxR (FcutS a)).X1)) && (decide (((FBox (FcutS a)).Y1) = ((FBoxR (FcutS a)).Y1)) && true)))) else false then ((FInsideS (FcutS a) p) == (FInsideR (FcutS a) p)) else false then ((FSameS (FcutS a) (FcutS b_)) == (FSameR (FcutS a) (FcutS b_))) else false) = true), ((bif bif bif decide (((FCheckS (FcutS a)) : Int) = (FCheckR (FcutS a))) then (decide (((FBox (FcutS a)).X0) = ((FBoxR (FcutS a)).X0)) && (decide (((FBox (FcutS a)).Y0) = ((FBoxR (FcutS a)).Y0)) && (decide (((FBox (FcutS a)).X1) = ((FBoxR (FcutS a)).X1)) && (decide (((FBox (FcutS a)).Y1) = ((FBoxR (FcutS a)).Y1)) && true)))) else false then ((FInsideS (FcutS a) p) == (FInsideR (FcutS a) p)) else false then ((FSameS (FcutS a) (FcutS b_)) == (FSameR (FcutS a) (FcutS b_))) else false) = true) → ((bif bif bif decide (((FCheckS (FcutS a)) : Int) = (FCheckR (FcutS a))) then (decide (((FBox (FcutS a)).X0) = ((FBoxR (FcutS a)).X0)) && (decide (((FBox (FcutS a)).Y0) = ((FBoxR (FcutS a)).Y0)) && (decide (((FBox (FcutS a)).X1) = ((FBoxR (FcutS a)).X1)) && (decide (((FBox (FcutS a)).Y1) = ((FBoxR (FcutS a)).Y1)) && true)))) else false then ((FInsideS (FcutS a) p) == (FInsideR (FcutS a) p)) else false then ((FSameS (FcutS a) (FcutS b_)) == (FSameR (FcutS a) (FcutS b_))) else false) = true), ((bif bif bif decide (((FCheckS (FcutS a)) : Int) = (FCheckR (FcutS a))) then (decide (((FBox (FcutS a)).X0) = ((FBoxR (FcutS a)).X0)) && (decide (((FBox (FcutS a)).Y0) = ((FBoxR (FcutS a)).Y0)) && (decide (((FBox (FcutS a)).X1) = ((FBoxR (FcutS a)).X1)) && (decide (((FBox (FcutS a)).Y1) = ((FBoxR (FcutS a)).Y1)) && true)))) else false then ((FInsideS (FcutS a) p) == (FInsideR (FcutS a) p)) else false then ((FSameS (FcutS a) (FcutS b_)) == (FSameR (FcutS a) (FcutS b_))) else false) = true) → (Same (cSameS (FcutS a) (FcutS a)).2.1), (bif bif bif decide (((FCheckS (FcutS a)) : Int) = (FCheckR (FcutS a))) then (decide (((FBox (FcutS a)).X0) = ((FBoxR (FcutS a)).X0)) && (decide (((FBox (FcutS a)).Y0) = ((FBoxR (FcutS a)).Y0)) && (decide (((FBox (FcutS a)).X1) = ((FBoxR (FcutS a)).X1)) && (decide (((FBox (FcutS a)).Y1) = ((FBoxR (FcutS a)).Y1)) && true)))) else false then ((FInsideS (FcutS a) p) == (FInsideR (FcutS a) p)) else false then ((FSameS (FcutS a) (FcutS b_)) == (FSameR (FcutS a) (FcutS b_))) else false) = true → ((bif bif bif decide (((FCheckS (FcutS a)) : Int) = (FCheckR (FcutS a))) then (decide (((FBox (FcutS a)).X0) = ((FBoxR (FcutS a)).X0)) && (decide (((FBox (FcutS a)).Y0) = ((FBoxR (FcutS a)).Y0)) && (decide (((FBox (FcutS a)).X1) = ((FBoxR (FcutS a)).X1)) && (decide (((FBox (FcutS a)).Y1) = ((FBoxR (FcutS a)).Y1)) && true)))) else false then ((FInsideS (FcutS a) p) == (FInsideR (FcutS a) p)) else false then ((FSameS (FcutS a) (FcutS b_)) == (FSameR (FcutS a) (FcutS b_))) else false) = true)] ⟨[(4, tP 4 0), (6, tP 6 0), (7, tP 7 0), (9, tB Fsanity9), (10, tB (bif bif bif bif decide (((FCheckS (FcutS a)) : Int) = (FCheckR (FcutS a))) then (decide (((FBox (FcutS a)).X0) = ((FBoxR (FcutS a)).X0)) && (decide (((FBox (FcutS a)).Y0) = ((FBoxR (FcutS a)).Y0)) && (decide (((FBox (FcutS a)).X1) = ((FBoxR (FcutS a)).X1)) && (decide (((FBox (FcutS a)).Y1) = ((FBoxR (FcutS a)).Y1)) && true)))) else false then ((FInsideS (FcutS a) p) == (FInsideR (FcutS a) p)) else false then ((FSameS (FcutS a) (FcutS b_)) == (FSameR (FcutS a) (FcutS b_))) else false then FSameS (FcutS a) (FcutS a) else false))], [(4, .cells (TShape.c (FcutS a)) 26), (6, .cells (TMotion.c m) 39), (7, .cells (TPoint.c p) 29)]⟩ (.cons (okCheckS (FcutS a) au0) (.cons (okCheckR (FcutS a) au0) (.cons (okBox (FcutS a) au0) (.cons (okBoxR (FcutS a) au0) (.cons (okInsideS (FcutS a) p au0) (.cons (okInsideR (FcutS a) p au0) (.cons (okSameS (FcutS a) (FcutS b_) au0 au0) (.cons (okSameR (FcutS a) (FcutS b_) au0 au0) (.cons (okSameS (FcutS a) (FcutS a) au0 au0) .nil))))))))) (by kernel_rfl) (by kernel_rfl) (.cons rfl (.cons rfl (.cons id (.cons (fun _ => rfl) (.cons id (.cons (fun _ => rfl) (.cons id (.cons id (.cons id (.cons id (.cons id (.cons (fun _ => rfl) (.cons id (.cons id (.cons (fun _ => rfl) (.cons id (.cons id (.cons id (.cons id (.cons id (.cons (fun _ => rfl) (.cons id (.cons id (.cons (fun _ => rfl) (.cons id (.cons id (.cons id (.cons id (.cons id (.cons (fun _ => rfl) (.cons id .nil))))))))))))))))))))))))))))))) <| ath_n <| aw_seq ?_
  refine aw_region eqok [] [] [] [4, 6, 7, 9, 10, 11] [4, 6, 7, 11] [] ⟨[(4, tP 4 0), (6, tP 6 0), (7, tP 7 0), (9, tB Fsanity9), (10, tB (bif bif bif bif decide (((FCheckS (FcutS a)) : Int) = (FCheckR (FcutS a))) then (decide (((FBox (FcutS a)).X0) = ((FBoxR (FcutS a)).X0)) && (decide (((FBox (FcutS a)).Y0) = ((FBoxR (FcutS a)).Y0)) && (decide (((FBox (FcutS a)).X1) = ((FBoxR (FcutS a)).X1)) && (decide (((FBox (FcutS a)).Y1) = ((FBoxR (FcutS a)).Y1)) && true)))) else false then ((FInsideS (FcutS a) p) == (FInsideR (FcutS a) p)) else false then ((FSameS (FcutS a) (FcutS b_)) == (FSameR (FcutS a) (FcutS b_))) else false then FSameS (FcutS a) (FcutS a) else false)), (11, tP 11 0)], [(4, .cells (TShape.c (FcutS a)) 26), (6, .cells (TMotion.c m) 39), (7, .cells (TPoint.c p) 29), (11, .cells [.i p.X, .i m.At.X, .i m.At.Y, .i ((FcutS a).R)] 54)]⟩ .nil (by kernel_rfl) .nil <| ath_n <| aw_seq ?_
  refine aw_draw mixed eqok [] [] [(66, cMoveS (FcutS a) m), (69, cMoveR9 (FcutS a) m), (70, cSameR (FMoveS (FcutS a) m) (FMoveR9 (FcutS a) m)), (75, cDiscS p ((FcutS a).R)), (79, cDiscR p ((FcutS a).R)), (80, cSameR (FDiscS p ((FcutS a).R)) (FDiscR p ((FcutS a).R))), (84, cRectS (TRect.mk p.X m.At.X m.At.Y ((FcutS a).R))), (86, cRectR (TRect.mk p.X m.At.X m.At.Y ((FcutS a).R))), (87, cSameR (FRectS (TRect.mk p.X m.At.X m.At.Y ((FcutS a).R))) (FRectR (TRect.mk p.X m.At.X m.At.Y ((FcutS a).R))))] [9, 10, 12] [] [Same (cMoveS (FcutS a) m).2.1, Same (cMoveR9 (FcutS a) m).2.1, Same (cSameR (FMoveS (FcutS a) m) (FMoveR9 (FcutS a) m)).2.1, ((wShapeRaw_0 a m) = true) → ((wShapeRaw_0 a m) = true), ((wShapeRaw_0 a m) = true) → ((wShapeRaw_0 a m) = true), ((wShapeRaw_0 a m) = true) → ((wShapeRaw_0 a m) = true), ((wShapeRaw_0 a m) = true) → (Same (cDiscS p ((FcutS a).R)).2.1), ((wShapeRaw_0 a m) = true) → ((wShapeRaw_0 a m) = true), ((wShapeRaw_0 a m) = true) → ((wShapeRaw_0 a m) = true), ((wShapeRaw_0 a m) = true) → ((wShapeRaw_0 a m) = true), ((wShapeRaw_0 a m) = true) → (Same (cDiscR p ((FcutS a).R)).2.1), ((wShapeRaw_0 a m) = true) → ((wShapeRaw_0 a m) = true), ((wShapeRaw_0 a m) = true) → ((wShapeRaw_0 a m) = true), ((wShapeRaw_0 a m) = true) → (Same (cSameR (FDiscS p ((FcutS a).R)) (FDiscR p ((FcutS a).R))).2.1), (wShapeRaw_0 a m) = true → ((wShapeRaw_0 a m) = true), ((wShapeRaw_1 a m p) = true) → ((wShapeRaw_1 a m p) = true), ((wShapeRaw_1 a m p) = true) → (Same (cRectS (TRect.mk p.X m.At.X m.At.Y ((FcutS a).R))).2.1), ((wShapeRaw_1 a m p) = true) → ((wShapeRaw_1 a m p) = true), ((wShapeRaw_1 a m p) = true) → (Same (cRectR (TRect.mk p.X m.At.X m.At.Y ((FcutS a).R))).2.1), ((wShapeRaw_1 a m p) = true) → ((wShapeRaw_1 a m p) = true), ((wShapeRaw_1 a m p) = true) → ((wShapeRaw_1 a m p) = true), ((wShapeRaw_1 a m p) = true) → (Same (cSameR (FRectS (TRect.mk p.X m.At.X m.At.Y ((FcutS a).R))) (FRectR (TRect.mk p.X m.At.X m.At.Y ((FcutS a).R)))).2.1), (wShapeRaw_1 a m p) = true → ((wShapeRaw_1 a m p) = true)] ⟨[(9, tB Fsanity9), (10, tB (bif bif bif bif decide (((FCheckS (FcutS a)) : Int) = (FCheckR (FcutS a))) then (decide (((FBox (FcutS a)).X0) = ((FBoxR (FcutS a)).X0)) && (decide (((FBox (FcutS a)).Y0) = ((FBoxR (FcutS a)).Y0)) && (decide (((FBox (FcutS a)).X1) = ((FBoxR (FcutS a)).X1)) && (decide (((FBox (FcutS a)).Y1) = ((FBoxR (FcutS a)).Y1)) && true)))) else false then ((FInsideS (FcutS a) p) == (FInsideR (FcutS a) p)) else false then ((FSameS (FcutS a) (FcutS b_)) == (FSameR (FcutS a) (FcutS b_))) else false then FSameS (FcutS a) (FcutS a) else false)), (12, tB (wShapeRaw_2 a m p))], []⟩ (.cons (okMoveS (FcutS a) m au0) (.cons (okMoveR9 (FcutS a) m au0) (.cons (okSameR (FMoveS (FcutS a) m) (FMoveR9 (FcutS a) m) au0 au0) (.cons (okDiscS p ((FcutS a).R)) (.cons (okDiscR p ((FcutS a).R)) (.cons (okSameR (FDiscS p ((FcutS a).R)) (FDiscR p ((FcutS a).R)) au0 au0) (.cons (okRectS (TRect.mk p.X m.At.X m.At.Y ((FcutS a).R))) (.cons (okRectR (TRect.mk p.X m.At.X m.At.Y ((FcutS a).R))) (.cons (okSameR (FRectS (TRect.mk p.X m.At.X m.At.Y ((FcutS a).R))) (FRectR (TRect.mk p.X m.At.X m.At.Y ((FcutS a).R))) au0 au0) .nil))))))))) (by kernel_rfl) (by kernel_rfl) (.cons rfl (.cons rfl (.cons rfl (.cons id (.cons id (.cons id (.cons (fun _ => rfl) (.cons id (.cons id (.cons id (.cons (fun _ => rfl) (.cons id (.cons id (.cons (fun _ => rfl) (.cons id (.cons id (.cons (fun _ => rfl) (.cons id (.cons (fun _ => rfl) (.cons id (.cons id (.cons (fun _ => rfl) (.cons id .nil))))))))))))))))))))))) <| ath_n <| aw_seq ?_
  refine aw_region eqok [] [] [] [8] [] [(Fsanity9) = true → ((Fsanity9) = true), (bif Fsanity9 then bif bif bif bif decide (((FCheckS (FcutS a)) : Int) = (FCheckR (FcutS a))) then (decide (((FBox (FcutS a)).X0) = ((FBoxR (FcutS a)).X0)) && (decide (((FBox (FcutS a)).Y0) = ((FBoxR (FcutS a)).Y0)) && (decide (((FBox (FcutS a)).X1) = ((FBoxR (FcutS a)).X1)) && (decide (((FBox (FcutS a)).Y1) = ((FBoxR (FcutS a)).Y1)) && true)))) else false then ((FInsideS (FcutS a) p) == (FInsideR (FcutS a) p)) else false then ((FSameS (FcutS a) (FcutS b_)) == (FSameR (FcutS a) (FcutS b_))) else false then FSameS (FcutS a) (FcutS a) else false else false) = true → ((bif Fsanity9 then bif bif bif bif decide (((FCheckS (FcutS a)) : Int) = (FCheckR (FcutS a))) then (decide (((FBox (FcutS a)).X0) = ((FBoxR (FcutS a)).X0)) && (decide (((FBox (FcutS a)).Y0) = ((FBoxR (FcutS a)).Y0)) && (decide (((FBox (FcutS a)).X1) = ((FBoxR (FcutS a)).X1)) && (decide (((FBox (FcutS a)).Y1) = ((FBoxR (FcutS a)).Y1)) && true)))) else false then ((FInsideS (FcutS a) p) == (FInsideR (FcutS a) p)) else false then ((FSameS (FcutS a) (FcutS b_)) == (FSameR (FcutS a) (FcutS b_))) else false then FSameS (FcutS a) (FcutS a) else false else false) = true)] ⟨[(8, tB (bif bif Fsanity9 then bif bif bif bif decide (((FCheckS (FcutS a)) : Int) = (FCheckR (FcutS a))) then (decide (((FBox (FcutS a)).X0) = ((FBoxR (FcutS a)).X0)) && (decide (((FBox (FcutS a)).Y0) = ((FBoxR (FcutS a)).Y0)) && (decide (((FBox (FcutS a)).X1) = ((FBoxR (FcutS a)).X1)) && (decide (((FBox (FcutS a)).Y1) = ((FBoxR (FcutS a)).Y1)) && true)))) else false then ((FInsideS (FcutS a) p) == (FInsideR (FcutS a) p)) else false then ((FSameS (FcutS a) (FcutS b_)) == (FSameR (FcutS a) (FcutS b_))) else false then FSameS (FcutS a) (FcutS a) else false else false then wShapeRaw_2 a m p else false))], []⟩ .nil (by kernel_rfl) (.cons id (.cons id .nil)) <| ath_n <| aw_ret ?_
  exact ⟨_, Cv.refl _, .inl rfl, .av (.one (.b (bif bif Fsanity9 then bif bif bif bif decide (((FCheckS (FcutS a)) : Int) = (FCheckR (FcutS a))) then (decide (((FBox (FcutS a)).X0) = ((FBoxR (FcutS a)).X0)) && (decide (((FBox (FcutS a)).Y0) = ((FBoxR (FcutS a)).Y0)) && (decide (((FBox (FcutS a)).X1) = ((FBoxR (FcutS a)).X1)) && (decide (((FBox (FcutS a)).Y1) = ((FBoxR (FcutS a)).Y1)) && true)))) else false then ((FInsideS (FcutS a) p) == (FInsideR (FcutS a) p)) else false then ((FSameS (FcutS a) (FcutS b_)) == (FSameR (FcutS a) (FcutS b_))) else false then FSameS (FcutS a) (FcutS a) else false else false then wShapeRaw_2 a m p else false))), by kernel_rfl, tve_eq (by rfl)⟩
end Go.Proofs.Ytpnlegfdkkcnlaa
namespace Go.Proofs.Ytpnlegfdkkcnlaa
set_option maxRecDepth 100000
open Go.RowKit
set_option linter.unusedVariables false
set_option linter.unusedSimpArgs false
theorem lt_sq {r y : Int} (hr : 0 ≤ r) (h : r < y) : r * r < y * y := by
  have h1 := Int.mul_lt_mul_of_pos_right h (show 0 < y by omega)
  have h2 := Int.mul_le_mul_of_nonneg_left (Int.le_of_lt h) hr
  omega
theorem rad_arcM {e : TEdge} (h : OkE e) (hk : e.Kind ≠ 1) : RadM e = max (e.A.X - e.C.X) (-(e.A.X - e.C.X)) + max (e.A.Y - e.C.Y) (-(e.A.Y - e.C.Y)) := by
  unfold RadM; rw [if_pos ⟨h, hk⟩]
theorem sq_le {x r : Int} (hr : 0 ≤ r) (h : x * x ≤ r * r) : -r ≤ x ∧ x ≤ r := by
  constructor
  · refine Int.not_lt.1 fun hl => ?_
    have : r * r < (-x) * (-x) := lt_sq hr (by omega)
    have e : (-x) * (-x) = x * x := by grind
    omega
  · refine Int.not_lt.1 fun hl => ?_
    have : r * r < x * x := lt_sq hr (by omega)
    omega
theorem d2_le {p c : TPoint} {r : Int} (hr : 0 ≤ r) (h : d2 p c ≤ r * r) : (-r ≤ p.X - c.X ∧ p.X - c.X ≤ r) ∧ -r ≤ p.Y - c.Y ∧ p.Y - c.Y ≤ r := by
  have n1 := sq_nn (p.X - c.X); have n2 := sq_nn (p.Y - c.Y)
  unfold d2 at h
  exact ⟨sq_le hr (by omega), sq_le hr (by omega)⟩
end Go.Proofs.Ytpnlegfdkkcnlaa
namespace Go.Proofs.Ytpnlegfdkkcnlaa
set_option maxRecDepth 100000
open Go.RowKit
set_option linter.unusedVariables false
set_option linter.unusedSimpArgs false
theorem sub5v (a b : TPoint) : Fref05Sub a b = FvecSub a b := rfl
theorem dot5v (a b : TPoint) : Fref05Dot a b = FvecDot a b := rfl
theorem cross5v (a b : TPoint) : Fref05Cross a b = FvecCross a b := rfl
theorem far_eq {p c : TPoint} (hp : PB p) (hc : RP c) : FfarR p c = d2 p c := sq_eq hp hc
theorem sq_ok {x : Int} (h : -40673134134689792 ≤ x ∧ x ≤ 40673134134689792) : OkN (FsquareN x) (x * x) 5 := by
  have := of_ok (x := x) (by omega)
  exact mul_ok this this (by decide)
theorem most_ok {x y : Int} (hx : 0 ≤ x ∧ x ≤ 9223372036854775807) (hy : 0 ≤ y ∧ y ≤ 9223372036854775807) : OkN (FMulN (FOfN x) (FOfN y)).1 (x * y) 5 :=
  mul_ok (of_ok (by omega)) (of_ok (by omega)) (by decide)
theorem nearLine_eq {e : TEdge} {p : TPoint} {r : Int} (he : OkE e) (hk : e.Kind = 1) (hp : PB p) (hr : 0 ≤ r ∧ r ≤ 4194304) : FnearLine e p r = true ↔ NearM e p r := by
  obtain ⟨⟨ha, hb, hc⟩, hform⟩ := he
  have hrr := mul_up hr hr
  have er : W64 (r * r) = r * r := W64_id (by omega) (by omega)
  have dA := sub_pd hp ha
  have dBA := sub_pd (rp_pb hb) ha
  have eal : Fref05Dot (Fref05Sub p e.A) (Fref05Sub e.B e.A) = al e.A e.B p := by
    rw [sub5v, sub5v, dot5v, sub_pb hp ha, sub_pb (rp_pb hb) ha, dot_pd dA dBA]; rfl
  have elen : Fref05Dot (Fref05Sub e.B e.A) (Fref05Sub e.B e.A) = d2 e.B e.A := by
    rw [sub5v, dot5v, sub_pb (rp_pb hb) ha, dot_pd dBA dBA]; rfl
  have ecr : Fref05Cross (Fref05Sub e.B e.A) (Fref05Sub p e.A) = cr e.A e.B p := by
    rw [sub5v, sub5v, cross5v, sub_pb hp ha, sub_pb (rp_pb hb) ha, cross_pd dBA dA]; rfl
  unfold FnearLine NearM wnearLine_2 wnearLine_1 wnearLine_0
  rw [if_pos hk, far_eq hp ha, far_eq hp hb, er, eal, elen, ecr]
  have hcr : -40673134134689792 ≤ cr e.A e.B p ∧ cr e.A e.B p ≤ 40673134134689792 := by
    have b1 := b56 dBA.1 dA.2; have b2 := b56 dBA.2 dA.1
    unfold cr
    simp only at *
    omega
  have hlen := d2_b (rp_pb hb) ha
  have hcmp := cmp_ok (sq_ok hcr) (most_ok (x := r * r) (y := d2 e.B e.A) (by omega) (by omega)) (by decide) (by decide)
  rw [show decide (FCmpN (FsquareN (cr e.A e.B p)) (FMulN (FOfN (r * r)) (FOfN (d2 e.B e.A))).1 ≤ 0) = decide (cr e.A e.B p * cr e.A e.B p ≤ r * r * d2 e.B e.A) from decide_eq_decide.mpr hcmp]
  have hB : d2 p e.B = d2 p e.A - 2 * al e.A e.B p + d2 e.B e.A := by unfold d2 al; grind
  have hL : al e.A e.B p * al e.A e.B p + cr e.A e.B p * cr e.A e.B p = d2 p e.A * d2 e.B e.A := by unfold d2 al cr; grind
  have hL2 : (d2 e.B e.A - al e.A e.B p) * (d2 e.B e.A - al e.A e.B p) + cr e.A e.B p * cr e.A e.B p = d2 p e.B * d2 e.B e.A := by unfold d2 al cr; grind
  have nA := sq_nn (al e.A e.B p); have nB := sq_nn (d2 e.B e.A - al e.A e.B p)
  simp only [cnd_if, decide_eq_true_eq]
  by_cases h1 : al e.A e.B p ≤ 0
  · rw [if_pos h1, decide_eq_true_eq]
    constructor
    · exact fun h => .inl h
    · rintro (h | h | h)
      · exact h
      · omega
      · omega
  · rw [if_neg h1]
    by_cases h2 : d2 e.B e.A ≤ al e.A e.B p
    · rw [if_pos h2, decide_eq_true_eq]
      constructor
      · exact fun h => .inr (.inl h)
      · rintro (h | h | h)
        · omega
        · exact h
        · omega
    · rw [if_neg h2, decide_eq_true_eq]
      constructor
      · intro h; exact .inr (.inr ⟨⟨by omega, by omega⟩, h⟩)
      · rintro (h | h | h)
        · have := Int.mul_le_mul_of_nonneg_right h hlen.1
          omega
        · have := Int.mul_le_mul_of_nonneg_right h hlen.1
          omega
        · exact h.2
theorem within5_pd {d f t : TPoint} (hd : PD d) (hf : PD f) (ht : PD t) : Fref05Within d f t = true ↔ 0 ≤ f.X * d.Y - f.Y * d.X ∧ 0 ≤ d.X * t.Y - d.Y * t.X := by
  unfold Fref05Within
  rw [cross5v, cross5v, cross_pd hf hd, cross_pd hd ht, cnd_and, Bool.and_eq_true, decide_eq_true_eq, decide_eq_true_eq]
theorem tri {p a c : TPoint} {R r : Int} (hr : 0 ≤ r) (hR : 0 ≤ R) (ax : ((a.X - c.X = R ∨ a.X - c.X = -R) ∧ a.Y - c.Y = 0) ∨ (a.X - c.X = 0 ∧ (a.Y - c.Y = R ∨ a.Y - c.Y = -R))) (h : d2 p a ≤ r * r) :
    d2 p c ≤ (R + r) * (R + r) ∧ (R ≤ r ∨ (R - r) * (R - r) ≤ d2 p c) := by
  obtain ⟨⟨x1, x2⟩, y1, y2⟩ := d2_le hr h
  have key : ∀ t q : Int, -r ≤ t → t ≤ r → t * t ≤ q → q ≤ r * r → d2 p c = R * R + 2 * (R * t) + q → d2 p c ≤ (R + r) * (R + r) ∧ (R ≤ r ∨ (R - r) * (R - r) ≤ d2 p c) := by
    intro t q t1 t2 q1 q2 e
    have m1 : 0 ≤ R * (r - t) := Int.mul_nonneg hR (by omega)
    rw [Int.mul_sub] at m1
    have e1 : (R + r) * (R + r) = R * R + 2 * (R * r) + r * r := by grind
    have e2 : (R - r) * (R - r) = R * R - 2 * (R * r) + r * r := by grind
    refine ⟨by omega, ?_⟩
    by_cases hq : R ≤ r
    · exact .inl hq
    · refine .inr ?_
      have m2 : 0 ≤ (t + r) * (2 * R + t - r) := Int.mul_nonneg (by omega) (by omega)
      have e3 : (t + r) * (2 * R + t - r) = 2 * (R * t) + 2 * (R * r) + t * t - r * r := by grind
      omega
  have nx := sq_nn (p.X - a.X); have ny := sq_nn (p.Y - a.Y)
  rcases ax with ⟨hx | hx, hy⟩ | ⟨hx, hy | hy⟩
  · refine key (p.X - a.X) (d2 p a) x1 x2 (by unfold d2; omega) h ?_
    obtain ⟨u, hu⟩ : ∃ u, u = p.X - a.X := ⟨_, rfl⟩
    have ex : p.X - c.X = u + R := by omega
    have ey : p.Y - c.Y = p.Y - a.Y := by omega
    unfold d2; rw [ex, ey, ← hu]; grind
  · refine key (-(p.X - a.X)) (d2 p a) (by omega) (by omega) (by rw [Int.neg_mul_neg]; unfold d2; omega) h ?_
    obtain ⟨u, hu⟩ : ∃ u, u = p.X - a.X := ⟨_, rfl⟩
    have ex : p.X - c.X = u - R := by omega
    have ey : p.Y - c.Y = p.Y - a.Y := by omega
    unfold d2; rw [ex, ey, ← hu]; grind
  · refine key (p.Y - a.Y) (d2 p a) y1 y2 (by unfold d2; omega) h ?_
    obtain ⟨u, hu⟩ : ∃ u, u = p.Y - a.Y := ⟨_, rfl⟩
    have ex : p.Y - c.Y = u + R := by omega
    have ey : p.X - c.X = p.X - a.X := by omega
    unfold d2; rw [ex, ey, ← hu]; grind
  · refine key (-(p.Y - a.Y)) (d2 p a) (by omega) (by omega) (by rw [Int.neg_mul_neg]; unfold d2; omega) h ?_
    obtain ⟨u, hu⟩ : ∃ u, u = p.Y - a.Y := ⟨_, rfl⟩
    have ex : p.Y - c.Y = u - R := by omega
    have ey : p.X - c.X = p.X - a.X := by omega
    unfold d2; rw [ex, ey, ← hu]; grind
theorem ax_a {e : TEdge} (h : OkE e) (hk : e.Kind ≠ 1) : ((e.A.X - e.C.X = RadM e ∨ e.A.X - e.C.X = -RadM e) ∧ e.A.Y - e.C.Y = 0) ∨ (e.A.X - e.C.X = 0 ∧ (e.A.Y - e.C.Y = RadM e ∨ e.A.Y - e.C.Y = -RadM e)) := by
  rw [rad_arcM h hk]
  have := odd_cases (arc_odd h hk).1
  omega
theorem ax_b {e : TEdge} (h : OkE e) (hk : e.Kind ≠ 1) : ((e.B.X - e.C.X = RadM e ∨ e.B.X - e.C.X = -RadM e) ∧ e.B.Y - e.C.Y = 0) ∨ (e.B.X - e.C.X = 0 ∧ (e.B.Y - e.C.Y = RadM e ∨ e.B.Y - e.C.Y = -RadM e)) := by
  have h1 := ax_a h hk
  have h2 := (arc_odd h hk).2
  omega
theorem nearArc_eq {e : TEdge} {p : TPoint} {r : Int} (he : OkE e) (hk : ¬ e.Kind = 1) (hp : PB p) (hr : 0 ≤ r ∧ r ≤ 4194304) : FnearArc e p r = true ↔ NearM e p r := by
  have he' := he
  obtain ⟨⟨ha, hb, hc⟩, hform⟩ := he
  have hrr := mul_up hr hr
  have hrad := rad_b e
  have er : W64 (r * r) = r * r := W64_id (by omega) (by omega)
  have e1 : W64 (Fref06Radius e + r) = RadM e + r := by rw [rad6_eq]; exact W64_id (by omega) (by omega)
  have e2 : W64 (Fref06Radius e - r) = RadM e - r := by rw [rad6_eq]; exact W64_id (by omega) (by omega)
  have m1 := mul_up (a := RadM e + r) (b := RadM e + r) (A := 272629760) (B := 272629760) (by omega) (by omega)
  have m2 : 0 ≤ (RadM e - r) * (RadM e - r) ∧ (RadM e - r) * (RadM e - r) ≤ 268435456 * 268435456 := ⟨sq_nn _, by
    have := mul_b (RadM e - r) (RadM e - r) 268435456 268435456 (by omega) (by omega)
    omega⟩
  have e3 : W64 ((RadM e + r) * (RadM e + r)) = (RadM e + r) * (RadM e + r) := W64_id (by omega) (by omega)
  have e4 : W64 ((RadM e - r) * (RadM e - r)) = (RadM e - r) * (RadM e - r) := W64_id (by omega) (by omega)
  have dC := sub_pd hp hc
  have dAC := sub_pd (rp_pb ha) hc; have dBC := sub_pd (rp_pb hb) hc
  have hfac : wnearArc_2 p e = true ↔ Fac e p := by
    unfold wnearArc_2 wnearArc_1 wnearArc_0 Fac
    simp only [sub5v]
    rw [sub_pb hp hc, sub_pb (rp_pb ha) hc, sub_pb (rp_pb hb) hc]
    simp only [cnd_if, decide_eq_true_eq]
    by_cases h3 : e.Kind = 3
    · simp only [h3, if_true]; exact within5_pd dC dBC dAC
    · simp only [h3, if_false]; exact within5_pd dC dAC dBC
  unfold FnearArc NearM
  rw [if_neg hk, far_eq hp ha, far_eq hp hb, er, e1, e2, e3, e4, rad6_eq]
  have en : Fref05Dot (Fref05Sub p e.C) (Fref05Sub p e.C) = d2 p e.C := by
    rw [sub5v, dot5v, sub_pb hp hc, dot_pd dC dC]; rfl
  rw [en]
  have n0 := (d2_b hp hc).1
  by_cases hF : Fac e p
  · rw [hfac.2 hF]
    simp only [Bool.not_true, cond_false, cnd_and, cnd_or, Bool.and_eq_true, Bool.or_eq_true, decide_eq_true_eq, hF, true_and]
    have hmax : RadM e ≤ r ∨ (RadM e - r) * (RadM e - r) ≤ d2 p e.C ↔ max (RadM e - r) 0 * max (RadM e - r) 0 ≤ d2 p e.C := by
      by_cases q : RadM e ≤ r
      · rw [Int.max_eq_right (by omega)]; constructor
        · intro _; omega
        · intro _; exact .inl q
      · rw [Int.max_eq_left (by omega)]; constructor
        · rintro (h | h)
          · exact absurd h q
          · exact h
        · exact fun h => .inr h
    rw [hmax]
    constructor
    · exact fun h => .inr (.inr h)
    · rintro (h | h | h)
      · have := tri hr.1 hrad.1 (ax_a he' hk) h
        exact ⟨this.1, hmax.1 this.2⟩
      · have := tri hr.1 hrad.1 (ax_b he' hk) h
        exact ⟨this.1, hmax.1 this.2⟩
      · exact h
  · have : wnearArc_2 p e = false := by
      cases hh : wnearArc_2 p e
      · rfl
      · exact absurd (hfac.1 hh) hF
    rw [this]
    simp only [Bool.not_false, cond_true, cnd_or, Bool.or_eq_true, decide_eq_true_eq, hF, false_and, or_false]
theorem nearR_eq {e : TEdge} {p : TPoint} {r : Int} (he : OkE e) (hp : PB p) (hr : 0 ≤ r ∧ r ≤ 4194304) : FNearR e p r = true ↔ NearM e p r := by
  unfold FNearR
  by_cases hk : e.Kind = 1
  · rw [decide_eq_true hk]; exact nearLine_eq he hk hp hr
  · rw [decide_eq_false hk]; exact nearArc_eq he hk hp hr
theorem boxR_l0 (s : TShape) : ∀ (n k : Nat) (b : TRect), 1 ≤ k → k ≤ s.Edges.length → s.Edges.length - k < n → FBoxR_l0 s n b (k : Int) = widen (boxF b (s.Edges.drop k)) s.R
  | 0, k, b, hk, hk2, hn => by omega
  | n + 1, k, b, hk, hk2, hn => by
    unfold FBoxR_l0
    by_cases hlt : k < s.Edges.length
    · rw [decide_eq_true (show (k : Int) < (s.Edges.length : Int) by omega)]
      rw [drop_cons' hlt, boxF]
      have ih := fun b => boxR_l0 s n (k + 1) b (by omega) (by omega) (by omega)
      simp only [cond_true]
      rw [show ((k : Int) + 1) = ((k + 1 : Nat) : Int) by omega, ih]
      rfl
    · rw [decide_eq_false (show ¬ (k : Int) < (s.Edges.length : Int) by omega)]
      rw [List.drop_of_length_le (by omega)]
      rfl
theorem boxR_eq (s : TShape) : FBoxR s = FBox s := by
  by_cases h : s.Edges = []
  · unfold FBoxR FBox
    rw [h]; rfl
  · have hl : 0 < s.Edges.length := List.length_pos_iff.2 h
    rw [box_eq s h]
    unfold FBoxR
    rw [decide_eq_false (show ¬ (s.Edges.length : Int) = 0 by omega)]
    simp only [cond_false]
    have := boxR_l0 s (((((s.Edges.length : Int))) - 1).toNat + 1) 1 (Fref06Box (s.Edges.getD 0 default)) (Nat.le_refl _) (by omega) (by omega)
    rw [show ((1 : Nat) : Int) = 1 from rfl] at this
    rw [this]
    cases he : s.Edges with
    | nil => exact absurd he h
    | cons e l => rfl
theorem chain_l0 (l : List TEdge) (hl : l.length ≤ 1000000) : ∀ n k : Nat, 1 ≤ k → l.length - k < n → (FchainR_l0 l n (k : Int) = true ↔ ∀ i, k ≤ i + 1 → i + 1 < l.length → (l.getD i default).B = (l.getD (i + 1) default).A)
  | 0, k, hk, hn => by omega
  | n + 1, k, hk, hn => by
    unfold FchainR_l0
    by_cases hlt : k < l.length
    · rw [decide_eq_true (show (k : Int) < (l.length : Int) by omega)]
      have e1 : (W64 ((k : Int) - 1)).toNat = k - 1 := by rw [W64_id (by omega) (by omega)]; omega
      simp only [cond_true, Int.toNat_natCast]
      rw [e1, show ((k : Int) + 1) = ((k + 1 : Nat) : Int) by omega]
      have ih := chain_l0 l hl n (k + 1) (by omega) (by omega)
      have eq : (decide (((l.getD k default).A).X = ((l.getD (k - 1) default).B).X) && (decide (((l.getD k default).A).Y = ((l.getD (k - 1) default).B).Y) && true)) = true ↔ (l.getD (k - 1) default).B = (l.getD k default).A := by
        rw [Bool.and_eq_true, Bool.and_eq_true, decide_eq_true_eq, decide_eq_true_eq]
        constructor
        · intro h
          generalize (l.getD (k - 1) default).B = u at *; generalize (l.getD k default).A = v at *
          cases u; cases v; simp only at h; rw [h.1, h.2.1]
        · intro h; rw [h]; exact ⟨rfl, rfl, rfl⟩
      cases hb : (decide (((l.getD k default).A).X = ((l.getD (k - 1) default).B).X) && (decide (((l.getD k default).A).Y = ((l.getD (k - 1) default).B).Y) && true)) with
      | true =>
        rw [hb] at eq
        simp only [Bool.not_true, cond_false]
        rw [ih]
        constructor
        · intro h i h1 h2
          by_cases q : i + 1 = k
          · have := eq.1 rfl
            rw [show k - 1 = i by omega] at this
            rw [q]; exact this
          · exact h i (by omega) h2
        · exact fun h i h1 h2 => h i (by omega) h2
      | false =>
        rw [hb] at eq
        simp only [Bool.not_false, cond_true, Bool.false_eq_true, false_iff]
        intro h
        have := h (k - 1) (by omega) (by omega)
        rw [show k - 1 + 1 = k by omega] at this
        exact absurd (eq.2 this) (by decide)
    · rw [decide_eq_false (show ¬ (k : Int) < (l.length : Int) by omega)]
      simp only [cond_false, true_iff]
      intro i h1 h2; omega
theorem chain_eq (l : List TEdge) (hl : l.length ≤ 1000000) : FchainR l = true ↔ ∀ i, i + 1 < l.length → (l.getD i default).B = (l.getD (i + 1) default).A := by
  unfold FchainR
  have := chain_l0 l hl ((((l.length : Int)) - 1).toNat + 1) 1 (Nat.le_refl _) (by omega)
  rw [show ((1 : Nat) : Int) = 1 from rfl] at this
  rw [this]
  exact ⟨fun h i h2 => h i (by omega) h2, fun h i _ h2 => h i h2⟩
open Classical in
theorem checkR_l0 (s : TShape) (hl : 1 ≤ s.Edges.length ∧ s.Edges.length ≤ 40) : ∀ n k : Nat, k ≤ s.Edges.length → s.Edges.length - k < n → FCheckR_l0 s n (k : Int) = if chk1 (s.Edges.drop k) ≠ 0 then chk1 (s.Edges.drop k) else if ¬ Joined s then 12 else lastS s
  | 0, k, hk, hn => by omega
  | n + 1, k, hk, hn => by
    unfold FCheckR_l0
    by_cases hlt : k < s.Edges.length
    · rw [decide_eq_true (show (k : Int) < (s.Edges.length : Int) by omega)]
      simp only [cond_true, Int.toNat_natCast]
      rw [drop_cons' hlt]
      simp only [chk1, check6_eq]
      have ih := checkR_l0 s hl n (k + 1) (by omega) (by omega)
      by_cases h0 : CheckM (s.Edges.getD k default) = 0
      · simp only [h0, if_true, decide_true, Bool.not_true, cond_false]
        rw [show ((k : Int) + 1) = ((k + 1 : Nat) : Int) by omega, ih]
      · simp only [h0, if_false, decide_false, Bool.not_false, cond_true, ne_eq, not_false_eq_true, if_true]
    · rw [decide_eq_false (show ¬ (k : Int) < (s.Edges.length : Int) by omega)]
      simp only [cond_false]
      rw [List.drop_of_length_le (by omega), chk1]
      have e1 : (W64 ((s.Edges.length : Int) - 1)).toNat = s.Edges.length - 1 := by rw [W64_id (by omega) (by omega)]; omega
      have hJ : (bif !(FchainR s.Edges) then true else bif decide ((s.Kind : Int) = 2) then !((decide ((((s.Edges.getD 0 default).A).X) = ((wCheckR_0 s).X)) && (decide ((((s.Edges.getD 0 default).A).Y) = ((wCheckR_0 s).Y)) && true))) else false) = false ↔ Joined s := by
        unfold wCheckR_0 Joined
        rw [e1, ← chain_eq s.Edges (by omega)]
        have eq : (decide (((s.Edges.getD 0 default).A).X = ((s.Edges.getD (s.Edges.length - 1) default).B).X) && (decide (((s.Edges.getD 0 default).A).Y = ((s.Edges.getD (s.Edges.length - 1) default).B).Y) && true)) = true ↔ (s.Edges.getD (s.Edges.length - 1) default).B = (s.Edges.getD 0 default).A := by
          rw [Bool.and_eq_true, Bool.and_eq_true, decide_eq_true_eq, decide_eq_true_eq]
          constructor
          · intro h
            generalize (s.Edges.getD (s.Edges.length - 1) default).B = u at *; generalize (s.Edges.getD 0 default).A = v at *
            cases u; cases v; simp only at h; rw [h.1, h.2.1]
          · intro h; rw [h]; exact ⟨rfl, rfl, rfl⟩
        rw [← eq]
        generalize (decide (((s.Edges.getD 0 default).A).X = ((s.Edges.getD (s.Edges.length - 1) default).B).X) && (decide (((s.Edges.getD 0 default).A).Y = ((s.Edges.getD (s.Edges.length - 1) default).B).Y) && true)) = g
        by_cases hk2 : s.Kind = 2
        · rw [decide_eq_true hk2]; simp only [hk2, true_implies]
          cases FchainR s.Edges <;> cases g <;> simp
        · rw [decide_eq_false hk2]; simp only [hk2, false_implies]
          cases FchainR s.Edges <;> cases g <;> simp
      by_cases hj : Joined s
      · rw [hJ.2 hj]; simp only [hj, cond_false, not_true, if_false, ne_eq]; rfl
      · cases hb : (bif !(FchainR s.Edges) then true else bif decide ((s.Kind : Int) = 2) then !((decide ((((s.Edges.getD 0 default).A).X) = ((wCheckR_0 s).X)) && (decide ((((s.Edges.getD 0 default).A).Y) = ((wCheckR_0 s).Y)) && true))) else false) with
        | false => exact absurd (hJ.1 hb) hj
        | true => simp only [hj, cond_true, not_false_eq_true, if_true, ne_eq, not_true, if_false]
theorem checkR_eq (s : TShape) : FCheckR s = FCheckS s := by
  rw [checkS_eq]
  unfold FCheckR CheckMS
  by_cases hk1 : s.Kind = 1
  · simp only [hk1, decide_true, cond_true, true_or, not_true, false_or, show ¬ ((1 : Int) = 2) by decide, decide_false, false_and, or_false]
    by_cases h0 : s.Edges.length = 0
    · simp [h0]
    · simp only [show ¬ (s.Edges.length : Int) < 1 by omega, h0, decide_false, cond_false, if_false]
      by_cases h40 : 40 < s.Edges.length
      · simp only [show (40 : Int) < (s.Edges.length : Int) by omega, h40, decide_true, cond_true, if_true]
      · simp only [show ¬ (40 : Int) < (s.Edges.length : Int) by omega, h40, decide_false, cond_false, if_false]
        have := checkR_l0 s (by omega) (((s.Edges.length : Int) - 0).toNat + 1) 0 (by omega) (by omega)
        rw [show ((0 : Nat) : Int) = 0 from rfl] at this
        rw [this, List.drop_zero, lastS_eq]
        simp only [hk1, show ¬ ((1 : Int) = 2) by decide, false_and, false_or]
  · by_cases hk2 : s.Kind = 2
    · simp only [hk2, decide_true, cond_true, or_true, not_true, false_or, true_and, show ¬ ((2 : Int) = 1) by decide, decide_false, cond_false]
      by_cases h2 : s.Edges.length < 2
      · simp only [show (s.Edges.length : Int) < 2 by omega, h2, decide_true, cond_true, if_true, or_true]
      · simp only [show ¬ (s.Edges.length : Int) < 2 by omega, show ¬ s.Edges.length = 0 by omega, h2, decide_false, cond_false, if_false, or_self]
        by_cases h40 : 40 < s.Edges.length
        · simp only [show (40 : Int) < (s.Edges.length : Int) by omega, h40, decide_true, cond_true, if_true]
        · simp only [show ¬ (40 : Int) < (s.Edges.length : Int) by omega, h40, decide_false, cond_false, if_false]
          have := checkR_l0 s (by omega) (((s.Edges.length : Int) - 0).toNat + 1) 0 (by omega) (by omega)
          rw [show ((0 : Nat) : Int) = 0 from rfl] at this
          rw [this, List.drop_zero, lastS_eq]
          simp only [hk2, true_and]
    · simp [hk1, hk2]
theorem insR_l0 (s : TShape) (p : TPoint) (hs : OkS s) (hp : PB p) : ∀ (n k : Nat) (v : Int), k ≤ s.Edges.length → s.Edges.length - k < n → (-(k : Int) ≤ v ∧ v ≤ k) → (FInsideR_l0 s p n v (k : Int) = true ↔ (∃ e ∈ s.Edges.drop k, NearM e p s.R) ∨ s.Kind = 2 ∧ v + wind (s.Edges.drop k) p ≠ 0)
  | 0, k, v, hk, hn, _ => by omega
  | n + 1, k, v, hk, hn, hv => by
    unfold FInsideR_l0
    by_cases hlt : k < s.Edges.length
    · rw [decide_eq_true (show (k : Int) < (s.Edges.length : Int) by omega)]
      simp only [cond_true, Int.toNat_natCast]
      rw [drop_cons' hlt, wind, ray6_eq]
      have hb := ray_b (s.Edges.getD k default) p
      have hl := hs.1.2.1
      rw [W64_id (by omega) (by omega)]
      have ih := insR_l0 s p hs hp n (k + 1) (v + RayM (s.Edges.getD k default) p) (by omega) (by omega) (by omega)
      rw [show ((k : Int) + 1) = ((k + 1 : Nat) : Int) by omega]
      have hn := nearR_eq (hs.2.1 _ (getD_mem' hlt)) hp hs.2.2.2.1
      unfold wInsideR_0
      rw [Int.toNat_natCast]
      cases hc : FNearR (s.Edges.getD k default) p s.R with
      | true =>
        simp only [cond_true, true_iff]
        exact .inl ⟨_, List.mem_cons_self .., hn.1 hc⟩
      | false =>
        simp only [cond_false]
        have hnn : ¬ NearM (s.Edges.getD k default) p s.R := fun h => by rw [hn.2 h] at hc; cases hc
        rw [ih, Int.add_assoc]
        constructor
        · rintro (⟨e, h1, h2⟩ | h)
          · exact .inl ⟨e, List.mem_cons_of_mem _ h1, h2⟩
          · exact .inr h
        · rintro (⟨e, h1, h2⟩ | h)
          · rcases List.mem_cons.1 h1 with q | q
            · rw [q] at h2; exact absurd h2 hnn
            · exact .inl ⟨e, q, h2⟩
          · exact .inr h
    · rw [decide_eq_false (show ¬ (k : Int) < (s.Edges.length : Int) by omega)]
      rw [List.drop_of_length_le (by omega), wind, Int.add_zero]
      simp only [cond_false, List.not_mem_nil, false_and, exists_false, false_or, cnd_and, Bool.and_eq_true, decide_eq_true_eq, Bool.not_eq_true', decide_eq_false_iff_not, ne_eq]
theorem insideR_iff (s : TShape) (p : TPoint) : FInsideR s p = true ↔ InsM s p := by
  unfold FInsideR
  rw [checkR_eq, checkS_eq, boxR_eq]
  by_cases hs : OkS s
  · have h0 := (checkMS_zero s).2 hs
    rw [h0]
    have hb := inbx_eq hs p
    have hw : FWithinR (FBox s) p = true ↔ InBx s.Edges s.R p := by
      rw [← hb]
      unfold FWithinR
      simp only [cnd_and, Bool.and_eq_true, decide_eq_true_eq]
      omega
    simp only [decide_true, Bool.not_true, cond_false]
    by_cases hB : InBx s.Edges s.R p
    · rw [hw.2 hB]
      simp only [Bool.not_true, cond_false]
      have := insR_l0 s p hs (inbx_pb hs hB) (((((s.Edges.length : Int))) - 0).toNat + 1) 0 0 (by omega) (by omega) (by omega)
      rw [List.drop_zero, Int.zero_add] at this
      rw [show ((0 : Nat) : Int) = 0 from rfl] at this
      rw [this]
      exact ⟨fun h => ⟨hs, hB, h⟩, fun h => h.2.2⟩
    · have : FWithinR (FBox s) p = false := by
        cases hh : FWithinR (FBox s) p
        · rfl
        · exact absurd (hw.1 hh) hB
      rw [this]
      simp only [Bool.not_false, cond_true, Bool.false_eq_true, false_iff]
      exact fun h => hB h.2.1
  · have h0 : ¬ CheckMS s = 0 := fun h => hs ((checkMS_zero s).1 h)
    rw [decide_eq_false h0]
    simp only [Bool.not_false, cond_true, Bool.false_eq_true, false_iff]
    exact fun h => hs h.1
theorem insideR_eq (s : TShape) (p : TPoint) : FInsideR s p = FInsideS s p := by
  rw [Bool.eq_iff_iff, insideR_iff, inside_eqS]
end Go.Proofs.Ytpnlegfdkkcnlaa
namespace Go.Proofs.Ytpnlegfdkkcnlaa
set_option maxRecDepth 100000
theorem sane9 : Fsanity9 = true := by decide +kernel
end Go.Proofs.Ytpnlegfdkkcnlaa
namespace Go.Proofs.Ytpnlegfdkkcnlaa
set_option maxRecDepth 100000
set_option linter.unusedVariables false
set_option linter.unusedSimpArgs false
theorem shapeRaw_true (a b : TShape) (m : TMotion) (p : TPoint) : FShapeRaw a b m p = true := by
  unfold FShapeRaw wShapeRaw_2 wShapeRaw_1 wShapeRaw_0
  rw [sane9, checkR_eq, boxR_eq, insideR_eq, same_eq, same_eq, moveR_eq, disc_eq, rect_eq, same_refl, same_refl, same_refl, same_refl]
  simp
end Go.Proofs.Ytpnlegfdkkcnlaa
namespace Go.Proofs.Ytpnlegfdkkcnlaa
set_option maxRecDepth 100000
open Go.ChangeShapes Go.WideShapes Go.ChangeAt Go.RowKit
set_option linter.unusedVariables false
theorem shapeRaw_lifted (os : Os) (started : os.Started) (H : Type) (enc : TypeId × Value → H) :
    ReturnsInHanded {} Try.checked os 10 .any (Rows.shapeRawSpec.pre6 enc Try.prog Try.f10 Rows.shapeRawRow.domain false) (Rows.shapeRawSpec.post enc Try.prog Try.f10 false true false false) := by
  refine returnsInHanded_of_change (C := Try.checked) own started (by kernel_rfl) Try.func10
    (ChangeSpec.witness6 (enc := enc) (C := Try.checked) false ⟨#[], #[.agg #[.int .i64 0, .slice none 0 0, .int .i64 0], .agg #[.int .i64 0, .slice none 0 0, .int .i64 0], .agg #[.int .i64 0, .int .i64 0, .int .i64 0, .bool false], .agg #[.int .i64 0, .int .i64 0]], []⟩ 8 (by kernel_rfl) (by kernel_rfl) (by kernel_rfl) (by kernel_rfl)) ?_
  intro W base args ds gs before hval0 hW hcnd _
  have hval : ∀ (j : Nat) t v, Try.f10.params[j]? = some t → args[j]? = some v → Value.okWide Try.prog W .any base t v := hval0
  have hW' := hW
  obtain ⟨p, q, hA0, hV, rfl, hfz, hnd⟩ := hW
  have hA : DataW.TrodAll enc Try.prog W 0 (fun _ => true) true Try.f10.params.toList args.toList ds p := hA0
  rw [Try.params10] at hA hval
  obtain ⟨v0, vs0, d0, ds0, p0, q0, hargs, rfl, rfl, h0, r0⟩ := trodAll_cons hA
  obtain ⟨v1, vs1, d1, ds1, p1, q1, rfl, rfl, rfl, h1, r1⟩ := trodAll_cons r0
  obtain ⟨v2, vs2, d2, ds2, p2, q2, rfl, rfl, rfl, h2, r2⟩ := trodAll_cons r1
  obtain ⟨v3, vs3, d3, ds3, p3, q3, rfl, rfl, rfl, h3, r3⟩ := trodAll_cons r2
  obtain ⟨rfl, rfl, rfl⟩ := trodAll_nil r3
  obtain rfl : args = #[v0, v1, v2, v3] := by cases args; simp_all
  obtain ⟨a, ka, x0⟩ := open_agg opT26 (.inl ⟨_, Try.underlying26⟩) (hval 0 26 v0 rfl rfl) h0
  obtain ⟨b_, kb_, x1⟩ := open_agg opT26 (.inl ⟨_, Try.underlying26⟩) (hval 1 26 v1 rfl rfl) h1
  obtain ⟨m, km, x2⟩ := open_agg opT39 (.inl ⟨_, Try.underlying39⟩) (hval 2 39 v2 rfl rfl) h2
  obtain ⟨p, kp, x3⟩ := open_agg opT29 (.inl ⟨_, Try.underlying29⟩) (hval 3 29 v3 rfl rfl) h3
  clear hA0 hval0
  refine (law_of_pure (pShapeRaw a b_ m p (maxLen_i ka.2.1.1) (maxLen_i kb_.2.1.1)) (shapeRaw_true a b_ m p) (.cons x0 (.cons x1 (.cons x2 (.cons x3 .nil))))).mono fun e W' ⟨he, hb⟩ => ?_
  subst he
  exact ⟨_, rfl, law_post hW' rfl rfl laidOut (by rw [Try.params10]; exact List.forall_mem_cons.2 ⟨⟨by kernel_rfl, of_decide_eq_true (by kernel_rfl)⟩, List.forall_mem_cons.2 ⟨⟨by kernel_rfl, of_decide_eq_true (by kernel_rfl)⟩, List.forall_mem_cons.2 ⟨⟨by kernel_rfl, of_decide_eq_true (by kernel_rfl)⟩, List.forall_mem_cons.2 ⟨⟨by kernel_rfl, of_decide_eq_true (by kernel_rfl)⟩, List.forall_mem_nil _⟩⟩⟩⟩) rfl Try.underlying4 hb⟩
theorem shapeRaw_holds : Rows.ShapeRawSaid :=
  OpenClaim.holds_of_wide 10 Try.f10 rfl rfl rfl rfl rfl rfl rfl ⟨rfl, rfl, rfl, rfl, rfl⟩ rfl rfl rfl rfl rfl (by kernel_rfl) Try.func10 (by kernel_rfl)
    (of_decide_eq_true (by kernel_rfl)) (by unfold Func.isWrapper; first | (rw [if_pos (by decide +kernel)]; kernel_rfl) | (rw [if_neg (by decide +kernel)]; exact ⟨rfl, rfl⟩))
    (fun os started H enc _ => shapeRaw_lifted os started H enc)
#print axioms shapeRaw_holds
end Go.Proofs.Ytpnlegfdkkcnlaa
