/-
  No statement is proved in this text. It holds what the functions on edges and points say in plain numbers.
-/
import Derived.Test.YtmhhigaelofbmaaGeo
namespace Go.Proofs.Ytmhhigaelofbmaa
open Go.RowKit
set_option linter.unusedVariables false
set_option linter.unusedSimpArgs false

def cr (a b p : TPoint) : Int := (b.X - a.X) * (p.Y - a.Y) - (b.Y - a.Y) * (p.X - a.X)
def d2 (p c : TPoint) : Int := (p.X - c.X) * (p.X - c.X) + (p.Y - c.Y) * (p.Y - c.Y)
def InB (e : TEdge) (p : TPoint) : Prop := (min e.A.X e.B.X ≤ p.X ∧ p.X ≤ max e.A.X e.B.X) ∧ min e.A.Y e.B.Y ≤ p.Y ∧ p.Y ≤ max e.A.Y e.B.Y
instance (e : TEdge) (p : TPoint) : Decidable (InB e p) := by unfold InB; infer_instance
def OnC (e : TEdge) (p : TPoint) : Prop := if e.Kind = 1 then cr e.A e.B p = 0 else d2 p e.C = d2 e.A e.C
instance (e : TEdge) (p : TPoint) : Decidable (OnC e p) := by unfold OnC; infer_instance
def OnE (e : TEdge) (p : TPoint) : Prop := OkE e ∧ InB e p ∧ OnC e p
instance (e : TEdge) (p : TPoint) : Decidable (OnE e p) := by unfold OnE; infer_instance
def up (e : TEdge) : Int := if e.A.Y < e.B.Y then 1 else if e.B.Y < e.A.Y then -1 else 0
def RightHalf (e : TEdge) : Prop := e.C.X < e.A.X ∨ e.C.X < e.B.X
instance (e : TEdge) : Decidable (RightHalf e) := by unfold RightHalf; infer_instance
def Bey (e : TEdge) (p : TPoint) : Prop := if e.Kind = 1 then (if e.A.Y < e.B.Y then 0 < cr e.A e.B p else cr e.A e.B p < 0) else if RightHalf e then d2 p e.C < d2 e.A e.C else d2 e.A e.C < d2 p e.C
instance (e : TEdge) (p : TPoint) : Decidable (Bey e p) := by unfold Bey; infer_instance
def InR (e : TEdge) (p : TPoint) : Prop := (min e.A.Y e.B.Y ≤ p.Y ∧ p.Y < max e.A.Y e.B.Y) ∧ p.X < max e.A.X e.B.X
instance (e : TEdge) (p : TPoint) : Decidable (InR e p) := by unfold InR; infer_instance
def RayM (e : TEdge) (p : TPoint) : Int := if OkE e ∧ InR e p ∧ (p.X < min e.A.X e.B.X ∨ Bey e p) then up e else 0

theorem arc_odd {e : TEdge} (h : OkE e) (hk : e.Kind ≠ 1) : Odd e ∧ ((e.B.X - e.C.X = -(e.A.Y - e.C.Y) ∧ e.B.Y - e.C.Y = e.A.X - e.C.X) ∨ (e.B.X - e.C.X = e.A.Y - e.C.Y ∧ e.B.Y - e.C.Y = -(e.A.X - e.C.X))) := by
  obtain ⟨_, h⟩ := h
  rcases h with ⟨h, _⟩ | ⟨h, h1, h2⟩ | ⟨h, h1, h2⟩
  · exact absurd h hk
  · exact ⟨h1, .inl h2⟩
  · exact ⟨h1, .inr h2⟩
theorem odd_cases {e : TEdge} (h : Odd e) : (e.A.X - e.C.X = 0 ∧ e.A.Y - e.C.Y ≠ 0) ∨ (e.A.X - e.C.X ≠ 0 ∧ e.A.Y - e.C.Y = 0) := by
  unfold Odd at h
  by_cases h1 : e.A.X - e.C.X = 0 <;> by_cases h2 : e.A.Y - e.C.Y = 0 <;> simp_all

/-! ### Points in the box -/
theorem inb_rp {e : TEdge} {p : TPoint} (h : Rights e) (hp : InB e p) : RP p := by
  obtain ⟨ha, hb, hc⟩ := h
  unfold InB at hp
  unfold RP C27 at *
  omega
theorem side_eq {e : TEdge} {p : TPoint} (h : Rights e) (hp : RP p) : FvecSide e.A e.B p = if 0 < cr e.A e.B p then 1 else if cr e.A e.B p < 0 then -1 else 0 := by
  obtain ⟨ha, hb, hc⟩ := h
  have : FvecCross (FvecSub e.B e.A) (FvecSub p e.A) = cr e.A e.B p := by
    rw [sub_eq hb ha, sub_eq hp ha, cross_eq (sub_r hb ha) (sub_r hp ha)]
    rfl
  unfold FvecSide
  rw [this]
  simp only [cnd_if, decide_eq_true_eq]
theorem power_eq {e : TEdge} {p : TPoint} (h : Rights e) (hp : RP p) : Fedgepower e p = d2 p e.C - d2 e.A e.C := by
  obtain ⟨ha, hb, hc⟩ := h
  unfold Fedgepower
  rw [sub_eq hp hc, sub_eq ha hc, dot_eq (sub_r hp hc) (sub_r hp hc), dot_eq (sub_r ha hc) (sub_r ha hc)]
  have h1 := sub_r hp hc
  have h2 := sub_r ha hc
  unfold R28 at h1 h2
  have b1 := b54 h1.1 h1.1
  have b2 := b54 h1.2 h1.2
  have b3 := b54 h2.1 h2.1
  have b4 := b54 h2.2 h2.2
  rw [W64_id (by simp only at *; omega) (by simp only at *; omega)]
  rfl
theorem inside_eq (e : TEdge) (p : TPoint) : Finside p (FedgeBox e) = decide (InB e p) := by
  rw [Bool.eq_iff_iff, decide_eq_true_eq]
  unfold Finside FedgeBox InB
  simp only [cnd_and, Bool.and_eq_true, decide_eq_true_eq, and_assoc]
theorem within_eq (e : TEdge) (p : TPoint) : Fref06within (Fref06Box e) p = decide (InB e p) := inside_eq e p

theorem on_eq (e : TEdge) (p : TPoint) : FOn e p = decide (OnE e p) := by
  have key : ∀ a0 a1 a2 k, OkE ⟨k, a0, a1, a2⟩ → InB ⟨k, a0, a1, a2⟩ p → Rights ⟨k, a0, a1, a2⟩ ∧ RP p := fun a0 a1 a2 k h1 h2 => ⟨h1.1, inb_rp h1.1 h2⟩
  obtain ⟨k, a0, a1, a2⟩ := e
  rw [Bool.eq_iff_iff, decide_eq_true_eq]
  unfold FOn
  by_cases k1 : k = 1
  · subst k1
    simp only [if_true, FOn1]
    rw [rights_b a0 a1 a2 1, ok_b1, inside_eq]
    simp only [cnd_and, Bool.and_eq_true, decide_eq_true_eq, OnE, and_assoc]
    refine and_congr_right fun h1 => and_congr_right fun h2 => ?_
    obtain ⟨h3, h4⟩ := key _ _ _ _ h1 h2
    unfold Fedgestraight OnC
    rw [side_eq h3 h4, decide_eq_true_eq]
    simp only [if_true]
    split
    · omega
    · split <;> omega
  by_cases k2 : k = 2
  · subst k2
    simp only [k1, if_false, if_true, FOn2]
    rw [rights_b a0 a1 a2 2, ok_b2, inside_eq]
    simp only [cnd_and, Bool.and_eq_true, decide_eq_true_eq, OnE, and_assoc]
    refine and_congr_right fun h1 => and_congr_right fun h2 => ?_
    obtain ⟨h3, h4⟩ := key _ _ _ _ h1 h2
    unfold Fedgeround OnC
    rw [power_eq h3 h4, decide_eq_true_eq]
    simp only [Int.reduceEq, if_false]
    omega
  by_cases k3 : k = 3
  · subst k3
    simp only [k1, k2, if_false, if_true, FOn3]
    rw [rights_b a0 a1 a2 3, ok_b3, inside_eq]
    simp only [cnd_and, Bool.and_eq_true, decide_eq_true_eq, OnE, and_assoc]
    refine and_congr_right fun h1 => and_congr_right fun h2 => ?_
    obtain ⟨h3, h4⟩ := key _ _ _ _ h1 h2
    unfold Fedgeround OnC
    rw [power_eq h3 h4, decide_eq_true_eq]
    simp only [Int.reduceEq, if_false]
    omega
  · simp only [k1, k2, k3, if_false, FOnN]
    refine ⟨fun h => (by cases h), fun h => ?_⟩
    have := ok_kind h.1
    simp only at this
    omega

/-! ### Radius -/
def RadM (e : TEdge) : Int := if OkE e ∧ e.Kind ≠ 1 then max (e.A.X - e.C.X) (-(e.A.X - e.C.X)) + max (e.A.Y - e.C.Y) (-(e.A.Y - e.C.Y)) else 0
theorem rad_arc {k : Int} {a0 a1 a2 : TPoint} (h : OkE ⟨k, a0, a1, a2⟩) (hk : k ≠ 1) : max (max (max ((FvecSub a0 a2).X) (W64 (0 - ((FvecSub a0 a2).X)))) ((FvecSub a0 a2).Y)) (W64 (0 - ((FvecSub a0 a2).Y))) = max (a0.X - a2.X) (-(a0.X - a2.X)) + max (a0.Y - a2.Y) (-(a0.Y - a2.Y)) := by
  have ho := odd_cases (arc_odd h hk).1
  obtain ⟨ha, hb, hc⟩ := h.1
  simp only at ha hb hc ho
  rw [sub_eq ha hc]
  unfold RP C27 at *
  simp only [W64_def]
  omega
theorem rad_eq (e : TEdge) : FRadius e = RadM e := by
  obtain ⟨k, a0, a1, a2⟩ := e
  unfold FRadius RadM
  by_cases k1 : k = 1
  · subst k1
    simp [FRadius1]
  by_cases k2 : k = 2
  · subst k2
    simp only [k1, if_false, if_true, FRadius2]
    rw [rights_b a0 a1 a2 2, ok_b2]
    by_cases h : OkE ⟨2, a0, a1, a2⟩
    · simp only [h, decide_true, Bool.not_true, cond_false, rad_arc h (by decide)]; simp
    · simp [h]
  by_cases k3 : k = 3
  · subst k3
    simp only [k1, k2, if_false, if_true, FRadius3]
    rw [rights_b a0 a1 a2 3, ok_b3]
    by_cases h : OkE ⟨3, a0, a1, a2⟩
    · simp only [h, decide_true, Bool.not_true, cond_false, rad_arc h (by decide)]; simp
    · simp [h]
  · simp only [k1, k2, k3, if_false, FRadiusN]
    rw [if_neg]
    intro h
    have := ok_kind h.1
    simp only at this
    omega
theorem check0 (e : TEdge) : decide (CheckM e = 0) = decide (OkE e) := by
  unfold CheckM
  by_cases h : OkE e
  · simp [h]
  · simp only [h, if_false, decide_false, decide_eq_false_iff_not]
    split <;> omega
theorem rad6_eq (e : TEdge) : Fref06Radius e = RadM e := by
  unfold Fref06Radius RadM
  rw [check6_eq, check0]
  have hs : ∀ p q, Fref05Sub p q = FvecSub p q := fun _ _ => rfl
  by_cases k1 : e.Kind = 1
  · simp [k1]
  by_cases h : OkE e
  · have ho := odd_cases (arc_odd h k1).1
    obtain ⟨ha, hb, hc⟩ := h.1
    simp only [k1, h, decide_true, decide_false, cond_false, Bool.not_true, Fref06size, hs, sub_eq ha hc, ne_eq, not_false_eq_true, and_self, if_true]
    unfold RP C27 at *
    simp only [W64_def]
    omega
  · simp [h]
theorem rad_sq {e : TEdge} (h : OkE e) (hk : e.Kind ≠ 1) : RadM e * RadM e = d2 e.A e.C := by
  have ho := odd_cases (arc_odd h hk).1
  unfold RadM d2
  rw [if_pos ⟨h, hk⟩]
  have sq : ∀ x : Int, (max x (-x)) * (max x (-x)) = x * x := fun x => by
    rcases Int.le_total 0 x with h | h
    · rw [Int.max_eq_left (by omega)]
    · rw [Int.max_eq_right (by omega), Int.neg_mul_neg]
  rcases ho with ⟨h1, _⟩ | ⟨_, h1⟩
  · rw [h1]; simp [sq]
  · rw [h1]; simp [sq]
theorem rad_b (e : TEdge) : 0 ≤ RadM e ∧ RadM e ≤ 268435456 := by
  unfold RadM
  split
  · rename_i h
    obtain ⟨ha, hb, hc⟩ := h.1.1
    unfold RP C27 at *
    omega
  · omega
theorem radsq_w {e : TEdge} (h : OkE e) (hk : e.Kind ≠ 1) : W64 (RadM e * RadM e) = d2 e.A e.C := by
  have hb := rad_b e
  have := mul_b (RadM e) (RadM e) 268435456 268435456 (by omega) (by omega)
  rw [W64_id (by omega) (by omega), rad_sq h hk]

theorem on6_eq (e : TEdge) (p : TPoint) : Fref06On e p = decide (OnE e p) := by
  have hs : ∀ p q, Fref05Sub p q = FvecSub p q := fun _ _ => rfl
  have hd : ∀ p q, Fref05Dot p q = FvecDot p q := fun _ _ => rfl
  have hx : ∀ p q, Fref05Cross p q = FvecCross p q := fun _ _ => rfl
  unfold Fref06On
  rw [check6_eq, check0, within_eq]
  by_cases h : OkE e
  · by_cases hp : InB e p
    · have hr := inb_rp h.1 hp
      obtain ⟨ha, hb, hc⟩ := h.1
      simp only [h, hp, decide_true, Bool.not_true, cond_false, hs, hd, hx, rad6_eq, sub_eq hr hc, sub_eq hb ha, sub_eq hr ha, dot_eq (sub_r hr hc) (sub_r hr hc), cross_eq (sub_r hb ha) (sub_r hr ha), OnE, true_and]
      unfold OnC
      by_cases k1 : e.Kind = 1
      · simp only [k1, decide_true, cond_true, if_true]; rfl
      · simp only [k1, decide_false, cond_false, if_false, radsq_w h k1]; rfl
    · simp [h, hp, OnE]
  · simp [h, OnE]
end Go.Proofs.Ytmhhigaelofbmaa
