/-
  No statement is proved in this text. It holds what Ray says in plain numbers.
-/
import Derived.Test.YtmhhigaelofbmaaGeo2
namespace Go.Proofs.Ytmhhigaelofbmaa
open Go.RowKit
set_option linter.unusedVariables false
set_option linter.unusedSimpArgs false

theorem up_eq (e : TEdge) : Fedgeupward e = up e := by
  unfold Fedgeupward up
  simp only [cnd_if, decide_eq_true_eq]
theorem inr_b {e : TEdge} {p : TPoint} (h : InR e p) (hx : ¬ p.X < min e.A.X e.B.X) : InB e p := by
  unfold InR at h
  unfold InB
  omega
/-- The shape of Ray in all kinds. -/
theorem ray_form (e : TEdge) (p : TPoint) (g : Bool) (hg : OkE e → InR e p → ¬ p.X < min e.A.X e.B.X → (g = true ↔ Bey e p)) :
    (bif bif bif bif !decide (OkE e) then true else decide ((p.Y : Int) < ((FedgeBox e).Y0)) then true else decide ((((FedgeBox e).Y1) : Int) ≤ p.Y) then true else decide ((((FedgeBox e).X1) : Int) ≤ p.X) then (0) else (bif bif decide ((p.X : Int) < ((FedgeBox e).X0)) then true else g then (Fedgeupward e) else (0))) = RayM e p := by
  unfold RayM
  rw [up_eq]
  unfold FedgeBox
  simp only [cnd_or]
  simp only [cnd_if, Bool.or_eq_true, Bool.not_eq_true', decide_eq_true_eq, decide_eq_false_iff_not]
  by_cases h : OkE e
  · by_cases hr : InR e p
    · have h1 : ¬ (((¬ OkE e ∨ p.Y < min e.A.Y e.B.Y) ∨ max e.A.Y e.B.Y ≤ p.Y) ∨ max e.A.X e.B.X ≤ p.X) := by
        unfold InR at hr
        rintro (((h1 | h1) | h1) | h1)
        · exact h1 h
        all_goals omega
      rw [if_neg h1]
      by_cases hx : p.X < min e.A.X e.B.X
      · rw [if_pos (.inl hx), if_pos ⟨h, hr, .inl hx⟩]
      · have := hg h hr hx
        by_cases hb : Bey e p
        · rw [if_pos (.inr (this.2 hb)), if_pos ⟨h, hr, .inr hb⟩]
        · rw [if_neg, if_neg]
          · rintro ⟨_, _, h3 | h3⟩
            · exact hx h3
            · exact hb h3
          · rintro (h3 | h3)
            · exact hx h3
            · exact hb (this.1 h3)
    · rw [if_pos, if_neg (fun h => hr h.2.1)]
      unfold InR at hr
      by_cases h2 : p.Y < min e.A.Y e.B.Y
      · exact .inl (.inl (.inr h2))
      by_cases h3 : max e.A.Y e.B.Y ≤ p.Y
      · exact .inl (.inr h3)
      · refine .inr ?_
        omega
  · rw [if_pos (.inl (.inl (.inl h))), if_neg (fun k => h k.1)]
theorem above_eq {e : TEdge} {p : TPoint} (h : OkE e) (hk : e.Kind = 1) (hr : InR e p) (hx : ¬ p.X < min e.A.X e.B.X) : Fedgeabove e p = true ↔ Bey e p := by
  unfold Fedgeabove
  rw [side_eq h.1 (inb_rp h.1 (inr_b hr hx)), up_eq, decide_eq_true_eq]
  unfold Bey up InR at *
  rw [if_pos hk]
  by_cases hu : e.A.Y < e.B.Y
  · rw [if_pos hu, if_pos hu]
    split
    · omega
    · split <;> omega
  · have : e.B.Y < e.A.Y := by omega
    rw [if_neg hu, if_neg hu, if_pos this]
    split
    · omega
    · split <;> omega
theorem half {e : TEdge} (h : OkE e) (hk : e.Kind ≠ 1) : (RightHalf e ∧ min e.A.X e.B.X = e.C.X ∧ e.C.X < max e.A.X e.B.X) ∨ (¬ RightHalf e ∧ max e.A.X e.B.X = e.C.X ∧ min e.A.X e.B.X < e.C.X) := by
  obtain ⟨ho, h2⟩ := arc_odd h hk
  have h1 := odd_cases ho
  unfold RightHalf
  omega
theorem beside_eq {e : TEdge} {p : TPoint} (h : OkE e) (hk : e.Kind ≠ 1) (hr : InR e p) (hx : ¬ p.X < min e.A.X e.B.X) : Fedgebeside e p = true ↔ Bey e p := by
  unfold Fedgebeside
  rw [power_eq h.1 (inb_rp h.1 (inr_b hr hx))]
  unfold Bey
  rw [if_neg hk]
  simp only [cnd_or, cnd_and]
  simp only [cnd_if]
  unfold InR at hr
  rcases half h hk with ⟨h1, h2, h3⟩ | ⟨h1, h2, h3⟩
  · have e1 : (decide (e.C.X < e.A.X) || decide (e.C.X < e.B.X)) = true := by simpa [RightHalf] using h1
    rw [e1, if_pos rfl, if_pos h1]
    simp only [Bool.or_eq_true, decide_eq_true_eq]
    omega
  · have e1 : (decide (e.C.X < e.A.X) || decide (e.C.X < e.B.X)) = false := by simpa [RightHalf] using h1
    rw [e1, if_neg (by decide), if_neg h1]
    simp only [Bool.and_eq_true, decide_eq_true_eq]
    omega
theorem ray_eq (e : TEdge) (p : TPoint) : FRay e p = RayM e p := by
  obtain ⟨k, a0, a1, a2⟩ := e
  unfold FRay
  by_cases k1 : k = 1
  · subst k1
    simp only [if_true, FRay1]
    rw [rights_b a0 a1 a2 1, ok_b1]
    exact ray_form _ _ _ fun h1 h2 h3 => above_eq h1 rfl h2 h3
  by_cases k2 : k = 2
  · subst k2
    simp only [k1, if_false, if_true, FRay2]
    rw [rights_b a0 a1 a2 2, ok_b2]
    exact ray_form _ _ _ fun h1 h2 h3 => beside_eq h1 (by show ¬ (_ : Int) = _; simp only; decide) h2 h3
  by_cases k3 : k = 3
  · subst k3
    simp only [k1, k2, if_false, if_true, FRay3]
    rw [rights_b a0 a1 a2 3, ok_b3]
    exact ray_form _ _ _ fun h1 h2 h3 => beside_eq h1 (by show ¬ (_ : Int) = _; simp only; decide) h2 h3
  · simp only [k1, k2, k3, if_false, FRayN]
    unfold RayM
    rw [if_neg]
    intro h
    have := ok_kind h.1
    simp only at this
    omega
theorem beyond_eq {e : TEdge} {p : TPoint} (h : OkE e) (hr : InR e p) : Fref06beyond e p = true ↔ (p.X < min e.A.X e.B.X ∨ Bey e p) := by
  have hs : ∀ p q, Fref05Sub p q = FvecSub p q := fun _ _ => rfl
  have hd : ∀ p q, Fref05Dot p q = FvecDot p q := fun _ _ => rfl
  unfold Fref06beyond
  have e1 : (Fref06Box e).X0 = min e.A.X e.B.X := rfl
  have e2 : (Fref06Box e).X1 = max e.A.X e.B.X := rfl
  rw [e1, e2]
  by_cases hx : p.X < min e.A.X e.B.X
  · simp [hx]
  have hx2 : ¬ max e.A.X e.B.X ≤ p.X := by unfold InR at hr; omega
  have hrp := inb_rp h.1 (inr_b hr hx)
  obtain ⟨ha, hb, hc⟩ := h.1
  simp only [hx, hx2, decide_false, cond_false, false_or, hs, hd, rad6_eq, sub_eq hrp hc, dot_eq (sub_r hrp hc) (sub_r hrp hc)]
  unfold Bey
  by_cases hk : e.Kind = 1
  · simp only [hk, decide_true, cond_true, if_true]
    have r1 := sub_r hrp ha
    have r2 := sub_r hrp hb
    have r3 := sub_r hb ha
    unfold R28 at r1 r2 r3
    have b1 := b54 r1.1 r3.2
    have b2 := b54 r1.2 r3.1
    unfold RP C27 at ha hb hc hrp
    by_cases hu : e.B.Y < e.A.Y
    · have hu' : ¬ e.A.Y < e.B.Y := by omega
      simp only [hu, hu', decide_true, cond_true, if_false]
      have b3 := b54 r2.1 (show -134217728 ≤ e.A.Y - e.B.Y ∧ e.A.Y - e.B.Y ≤ 134217728 by omega)
      have b4 := b54 r2.2 (show -134217728 ≤ e.A.X - e.B.X ∧ e.A.X - e.B.X ≤ 134217728 by omega)
      simp only at b1 b2 b3 b4
      rw [W64_id (x := p.X - e.B.X) (by omega) (by omega), W64_id (x := e.A.Y - e.B.Y) (by omega) (by omega), W64_id (x := p.Y - e.B.Y) (by omega) (by omega), W64_id (x := e.A.X - e.B.X) (by omega) (by omega), W64_id (by omega) (by omega), W64_id (by omega) (by omega), decide_eq_true_eq]
      have : cr e.A e.B p = (p.X - e.B.X) * (e.A.Y - e.B.Y) - (p.Y - e.B.Y) * (e.A.X - e.B.X) := by unfold cr; grind
      omega
    · have hu' : e.A.Y < e.B.Y := by unfold InR at hr; omega
      simp only [hu, hu', decide_false, cond_false, if_true]
      simp only at b1 b2
      rw [W64_id (x := p.X - e.A.X) (by omega) (by omega), W64_id (x := e.B.Y - e.A.Y) (by omega) (by omega), W64_id (x := p.Y - e.A.Y) (by omega) (by omega), W64_id (x := e.B.X - e.A.X) (by omega) (by omega), W64_id (by omega) (by omega), W64_id (by omega) (by omega), decide_eq_true_eq]
      have : cr e.A e.B p = (p.Y - e.A.Y) * (e.B.X - e.A.X) - (p.X - e.A.X) * (e.B.Y - e.A.Y) := by unfold cr; grind
      omega
  · simp only [hk, decide_false, cond_false, if_false, radsq_w h hk]
    have e3 : (p.X - e.C.X) * (p.X - e.C.X) + (p.Y - e.C.Y) * (p.Y - e.C.Y) = d2 p e.C := rfl
    rw [e3]
    obtain ⟨ho, ho2⟩ := arc_odd h hk
    have ho1 := odd_cases ho
    unfold RP C27 at ha hb hc hrp
    rw [W64_id (x := 2 * e.C.X) (by omega) (by omega), W64_id (x := e.A.X + e.B.X) (by omega) (by omega)]
    unfold InR at hr
    rcases half h hk with ⟨h1, h2, h3⟩ | ⟨h1, h2, h3⟩
    · have h4 : 2 * e.C.X < e.A.X + e.B.X := by omega
      simp only [h1, h4, decide_true, cond_true, if_true, decide_eq_true_eq]
    · have h4 : ¬ 2 * e.C.X < e.A.X + e.B.X := by omega
      simp only [h1, h4, decide_false, cond_false, if_false, cnd_and, Bool.and_eq_true, decide_eq_true_eq]
      omega
theorem ray6_eq (e : TEdge) (p : TPoint) : Fref06Ray e p = RayM e p := by
  unfold Fref06Ray
  rw [check6_eq, check0]
  unfold RayM
  by_cases h : OkE e
  · simp only [h, decide_true, Bool.not_true, cond_false, true_and, cnd_and]
    simp only [cnd_if, Bool.and_eq_true, decide_eq_true_eq]
    by_cases h1 : e.A.Y ≤ p.Y ∧ p.Y < e.B.Y
    · have h2 : ¬ (e.B.Y ≤ p.Y ∧ p.Y < e.A.Y) := by omega
      by_cases hx : p.X < max e.A.X e.B.X
      · have hr : InR e p := by unfold InR; omega
        have := beyond_eq h hr
        have hu : up e = 1 := by unfold up; rw [if_pos (by omega)]
        simp only [h1, h2, hr, hu, true_and, false_and, if_false, this]
      · have hr : ¬ InR e p := by unfold InR; omega
        have hb : ¬ (Fref06beyond e p = true) := by
          unfold Fref06beyond
          have e1 : (Fref06Box e).X0 = min e.A.X e.B.X := rfl
          have e2 : (Fref06Box e).X1 = max e.A.X e.B.X := rfl
          rw [e1, e2]
          have h3 : ¬ p.X < min e.A.X e.B.X := by omega
          have h4 : max e.A.X e.B.X ≤ p.X := by omega
          simp [h3, h4]
        simp only [h1, h2, hr, hb, true_and, false_and, and_false, if_false, Bool.false_eq_true]
    · by_cases h2 : e.B.Y ≤ p.Y ∧ p.Y < e.A.Y
      · by_cases hx : p.X < max e.A.X e.B.X
        · have hr : InR e p := by unfold InR; omega
          have := beyond_eq h hr
          have hu : up e = -1 := by unfold up; rw [if_neg (by omega), if_pos (by omega)]
          simp only [h1, h2, hr, hu, true_and, false_and, if_false, this]
        · have hr : ¬ InR e p := by unfold InR; omega
          have hb : ¬ (Fref06beyond e p = true) := by
            unfold Fref06beyond
            have e1 : (Fref06Box e).X0 = min e.A.X e.B.X := rfl
            have e2 : (Fref06Box e).X1 = max e.A.X e.B.X := rfl
            rw [e1, e2]
            have h3 : ¬ p.X < min e.A.X e.B.X := by omega
            have h4 : max e.A.X e.B.X ≤ p.X := by omega
            simp [h3, h4]
          simp only [h1, h2, hr, hb, true_and, false_and, and_false, if_false, Bool.false_eq_true]
      · have hr : ¬ InR e p := by unfold InR; omega
        simp only [h1, h2, hr, false_and, if_false]
  · simp [h]
end Go.Proofs.Ytmhhigaelofbmaa
