/-
  No statement is proved in this text. It holds that made edges are valid, and what Reverse changes.
-/
import Derived.Test.YtmhhigaelofbmaaGeo3
namespace Go.Proofs.Ytmhhigaelofbmaa
open Go.RowKit
set_option linter.unusedVariables false
set_option linter.unusedSimpArgs false

theorem sane : Fsanity = true := by decide +kernel
theorem arc_ok (c : TPoint) (r t k : Int) (hc : (-1000 ≤ c.X ∧ c.X ≤ 1000) ∧ -1000 ≤ c.Y ∧ c.Y ≤ 1000) (hr : 1 ≤ r ∧ r ≤ 1000) (ht : 0 ≤ t ∧ t ≤ 3) (hk : k = 2 ∨ k = 3) : OkE (Fref06Arc c r t k) := by
  have t4 : t = 0 ∨ t = 1 ∨ t = 2 ∨ t = 3 := by omega
  have e0 : Fref05Turns 0 = 0 := by decide +kernel
  have e1 : Fref05Turns 1 = 1 := by decide +kernel
  have e2 : Fref05Turns 2 = 2 := by decide +kernel
  have e3 : Fref05Turns 3 = 3 := by decide +kernel
  have e4 : Fref05Turns 4 = 0 := by decide +kernel
  have e5 : Fref05Turns 5 = 1 := by decide +kernel
  have e6 : Fref05Turns 6 = 2 := by decide +kernel
  have w1 : W64 (0 + 1) = 1 := by decide +kernel
  have w2 : W64 (1 + 1) = 2 := by decide +kernel
  have w3 : W64 (2 + 1) = 3 := by decide +kernel
  have w4 : W64 (3 + 1) = 4 := by decide +kernel
  have w5 : W64 (0 + 3) = 3 := by decide +kernel
  have w6 : W64 (1 + 3) = 4 := by decide +kernel
  have w7 : W64 (2 + 3) = 5 := by decide +kernel
  have w8 : W64 (3 + 3) = 6 := by decide +kernel
  unfold Fref06Arc Fref05Apply Fref05Add Fref05mirrored
  rcases t4 with rfl | rfl | rfl | rfl <;> rcases hk with rfl | rfl <;>
    simp only [Int.reduceEq, decide_true, decide_false, cond_true, cond_false, w1, w2, w3, w4, w5, w6, w7, w8, Fref05turned, e0, e1, e2, e3, e4, e5, e6, OkE, Rights, Form, RP, C27, QL, QR, Odd, W64_def, false_and, false_or, or_false, true_and] <;> omega
theorem arc_ab (c : TPoint) (r : Int) (hc : (-1000 ≤ c.X ∧ c.X ≤ 1000) ∧ -1000 ≤ c.Y ∧ c.Y ≤ 1000) (hr : 1 ≤ r ∧ r ≤ 1000) :
    Fref06Arc c r 0 2 = ⟨2, ⟨c.X + r, c.Y⟩, ⟨c.X, c.Y + r⟩, c⟩ ∧ Fref06Arc c r 1 2 = ⟨2, ⟨c.X, c.Y + r⟩, ⟨c.X - r, c.Y⟩, c⟩ ∧ Fref06Arc c r 2 2 = ⟨2, ⟨c.X - r, c.Y⟩, ⟨c.X, c.Y - r⟩, c⟩ ∧ Fref06Arc c r 3 2 = ⟨2, ⟨c.X, c.Y - r⟩, ⟨c.X + r, c.Y⟩, c⟩ := by
  have e0 : Fref05Turns 0 = 0 := by decide +kernel
  have e1 : Fref05Turns 1 = 1 := by decide +kernel
  have e2 : Fref05Turns 2 = 2 := by decide +kernel
  have e3 : Fref05Turns 3 = 3 := by decide +kernel
  have e4 : Fref05Turns 4 = 0 := by decide +kernel
  have w1 : W64 (0 + 1) = 1 := by decide +kernel
  have w2 : W64 (1 + 1) = 2 := by decide +kernel
  have w3 : W64 (2 + 1) = 3 := by decide +kernel
  have w4 : W64 (3 + 1) = 4 := by decide +kernel
  unfold Fref06Arc Fref05Apply Fref05Add Fref05mirrored
  simp only [Int.reduceEq, decide_true, decide_false, cond_true, cond_false, w1, w2, w3, w4, Fref05turned, e0, e1, e2, e3, e4, W64_def, TEdge.mk.injEq, TPoint.mk.injEq, and_true, true_and]
  omega
theorem getD_b {l : List Int} {a b : Int} (h : ∀ x ∈ l, a ≤ x ∧ x ≤ b) {k : Int} (hk : 0 ≤ k ∧ k < l.length) : a ≤ l.getD k.toNat 0 ∧ l.getD k.toNat 0 ≤ b := by
  have hlt : k.toNat < l.length := by omega
  rw [List.getD_eq_getElem?_getD, List.getElem?_eq_getElem hlt]
  exact h _ (List.getElem_mem _)
/-- A made edge is valid, and small. -/
def Small (e : TEdge) : Prop := ((-300 ≤ e.A.X ∧ e.A.X ≤ 300) ∧ -300 ≤ e.A.Y ∧ e.A.Y ≤ 300) ∧ ((-300 ≤ e.B.X ∧ e.B.X ≤ 300) ∧ -300 ≤ e.B.Y ∧ e.B.Y ≤ 300) ∧ (-300 ≤ e.C.X ∧ e.C.X ≤ 300) ∧ -300 ≤ e.C.Y ∧ e.C.Y ≤ 300
theorem arc_small (c : TPoint) (r t k : Int) (hc : (-100 ≤ c.X ∧ c.X ≤ 100) ∧ -100 ≤ c.Y ∧ c.Y ≤ 100) (hr : 1 ≤ r ∧ r ≤ 100) (ht : 0 ≤ t ∧ t ≤ 3) (hk : k = 2 ∨ k = 3) : Small (Fref06Arc c r t k) := by
  have t4 : t = 0 ∨ t = 1 ∨ t = 2 ∨ t = 3 := by omega
  have e0 : Fref05Turns 0 = 0 := by decide +kernel
  have e1 : Fref05Turns 1 = 1 := by decide +kernel
  have e2 : Fref05Turns 2 = 2 := by decide +kernel
  have e3 : Fref05Turns 3 = 3 := by decide +kernel
  have e4 : Fref05Turns 4 = 0 := by decide +kernel
  have e5 : Fref05Turns 5 = 1 := by decide +kernel
  have e6 : Fref05Turns 6 = 2 := by decide +kernel
  have w1 : W64 (0 + 1) = 1 := by decide +kernel
  have w2 : W64 (1 + 1) = 2 := by decide +kernel
  have w3 : W64 (2 + 1) = 3 := by decide +kernel
  have w4 : W64 (3 + 1) = 4 := by decide +kernel
  have w5 : W64 (0 + 3) = 3 := by decide +kernel
  have w6 : W64 (1 + 3) = 4 := by decide +kernel
  have w7 : W64 (2 + 3) = 5 := by decide +kernel
  have w8 : W64 (3 + 3) = 6 := by decide +kernel
  unfold Fref06Arc Fref05Apply Fref05Add Fref05mirrored
  rcases t4 with rfl | rfl | rfl | rfl <;> rcases hk with rfl | rfl <;>
    simp only [Int.reduceEq, decide_true, decide_false, cond_true, cond_false, w1, w2, w3, w4, w5, w6, w7, w8, Fref05turned, e0, e1, e2, e3, e4, e5, e6, Small, W64_def] <;> omega
theorem made_ok (l : List Int) : OkE (FMade l) ∧ Small (FMade l) := by
  unfold FMade
  generalize hd1 : FNext ⟨l, 0⟩ 6 = n1
  have b1 := near_b n1.2 100 (by decide) (by decide)
  generalize FNear n1.2 100 = c at *
  have b2 := next_b c.2 41 (by decide) (by decide)
  have b3 := near_b c.2 100 (by decide) (by decide)
  generalize FNear c.2 100 = q at *
  have b4 := next_b c.2 5 (by decide) (by decide)
  generalize FNext c.2 5 = s1 at *
  generalize FNext s1.2 3 = s2 at *
  have b5 := next_b s2.2 90 (by decide) (by decide)
  generalize hr : (FNext s2.2 90) = rr at *
  have b6 := next_b rr.2 4 (by decide) (by decide)
  have b7 := next_b (FNext rr.2 4).2 2 (by decide) (by decide)
  have b8 := next_b s2.2 4 (by decide) (by decide)
  have b9 := next_b (FNext s2.2 4).2 2 (by decide) (by decide)
  simp only [cnd_if]
  split
  · refine ⟨⟨?_, .inl ⟨rfl, rfl, rfl⟩⟩, ?_⟩ <;> simp only [Rights, RP, C27, Small, W64_def] <;> omega
  split
  · refine ⟨⟨?_, .inl ⟨rfl, rfl, rfl⟩⟩, ?_⟩ <;> simp only [Rights, RP, C27, Small, W64_def] <;> omega
  split
  · refine ⟨⟨?_, .inl ⟨rfl, rfl, rfl⟩⟩, ?_⟩ <;> simp only [Rights, RP, C27, Small, W64_def] <;> omega
  split
  · refine ⟨⟨?_, .inl ⟨rfl, rfl, rfl⟩⟩, ?_⟩ <;> simp only [Rights, RP, C27, Small, W64_def] <;> omega
  split
  · have hr1 : W64 (1 + rr.1) = 1 + rr.1 := W64_id (by omega) (by omega)
    have hk1 : W64 (2 + (FNext (FNext rr.2 4).2 2).1) = 2 + (FNext (FNext rr.2 4).2 2).1 := W64_id (by omega) (by omega)
    rw [hr1, hk1]
    exact ⟨arc_ok _ _ _ _ (by omega) (by omega) (by omega) (by omega), arc_small _ _ _ _ (by omega) (by omega) (by omega) (by omega)⟩
  · have hk1 : W64 (2 + (FNext (FNext s2.2 4).2 2).1) = 2 + (FNext (FNext s2.2 4).2 2).1 := W64_id (by omega) (by omega)
    have hr1 := getD_b (l := [5, 10, 13, 25, 65]) (a := 5) (b := 65) (by decide) (k := s1.1) (by simp only [List.length_cons, List.length_nil]; omega)
    rw [hk1]
    exact ⟨arc_ok _ _ _ _ (by omega) (by omega) (by omega) (by omega), arc_small _ _ _ _ (by omega) (by omega) (by omega) (by omega)⟩

/-! ### Reverse -/
def RevM (e : TEdge) : TEdge := ⟨if e.Kind = 2 then 3 else if e.Kind = 3 then 2 else e.Kind, e.B, e.A, e.C⟩
theorem rev_eq (e : TEdge) : FReverse e = RevM e := by
  obtain ⟨k, a0, a1, a2⟩ := e
  unfold FReverse RevM
  by_cases k1 : k = 1
  · subst k1; rfl
  by_cases k2 : k = 2
  · subst k2; rfl
  by_cases k3 : k = 3
  · subst k3; rfl
  · simp only [k1, k2, k3, if_false]; rfl
theorem rev_rev (e : TEdge) : RevM (RevM e) = e := by
  obtain ⟨k, a0, a1, a2⟩ := e
  unfold RevM
  simp only [TEdge.mk.injEq, and_true]
  split
  · omega
  · split <;> omega
theorem rev_ok1 {e : TEdge} (h : OkE e) : OkE (RevM e) := by
  obtain ⟨⟨h1, h2, h3⟩, h4⟩ := h
  refine ⟨⟨h2, h1, h3⟩, ?_⟩
  unfold Form at *
  rcases h4 with ⟨h, h5⟩ | ⟨h, h5, h6⟩ | ⟨h, h5, h6⟩
  · exact .inl ⟨by unfold RevM; simp only [h]; decide, h5⟩
  · have := odd_cases h5
    refine .inr (.inr ⟨by unfold RevM; simp only [h]; decide, ?_⟩)
    unfold QR Odd RevM
    simp only
    omega
  · have := odd_cases h5
    refine .inr (.inl ⟨by unfold RevM; simp only [h]; decide, ?_⟩)
    unfold QL Odd RevM
    simp only
    omega
theorem rev_ok (e : TEdge) : OkE (RevM e) ↔ OkE e := ⟨fun h => by have := rev_ok1 h; rwa [rev_rev] at this, rev_ok1⟩
theorem rev_kind (e : TEdge) : (RevM e).Kind = 1 ↔ e.Kind = 1 := by
  unfold RevM
  simp only
  split
  · omega
  · split <;> omega
theorem rev_rights (e : TEdge) : Rights (RevM e) ↔ Rights e := ⟨fun ⟨h1, h2, h3⟩ => ⟨h2, h1, h3⟩, fun ⟨h1, h2, h3⟩ => ⟨h2, h1, h3⟩⟩
theorem rev_check (e : TEdge) : CheckM (RevM e) = CheckM e := by
  unfold CheckM
  simp only [rev_ok, rev_rights]
  have : (1 ≤ (RevM e).Kind ∧ (RevM e).Kind ≤ 3) ↔ (1 ≤ e.Kind ∧ e.Kind ≤ 3) := by
    unfold RevM
    simp only
    split
    · omega
    · split <;> omega
  simp only [this]
theorem rev_rad (e : TEdge) : RadM (RevM e) = RadM e := by
  unfold RadM
  simp only [rev_ok, ne_eq, rev_kind]
  split
  · rename_i h
    obtain ⟨ho, h2⟩ := arc_odd h.1 h.2
    have h1 := odd_cases ho
    unfold RevM
    simp only
    omega
  · rfl
theorem d2_ends {e : TEdge} (h : OkE e) (hk : e.Kind ≠ 1) : d2 e.B e.C = d2 e.A e.C := by
  obtain ⟨ho, h2⟩ := arc_odd h hk
  unfold d2
  rcases h2 with ⟨h3, h4⟩ | ⟨h3, h4⟩ <;> rw [h3, h4] <;> grind
theorem cr_swap (a b p : TPoint) : cr b a p = - cr a b p := by unfold cr; grind
theorem rev_onc {e : TEdge} (h : OkE e) (p : TPoint) : OnC (RevM e) p ↔ OnC e p := by
  unfold OnC
  by_cases hk : e.Kind = 1
  · rw [if_pos ((rev_kind e).2 hk), if_pos hk]
    show cr e.B e.A p = 0 ↔ _
    rw [cr_swap]
    omega
  · rw [if_neg (fun h => hk ((rev_kind e).1 h)), if_neg hk]
    show d2 p e.C = d2 e.B e.C ↔ _
    rw [d2_ends h hk]
theorem rev_on (e : TEdge) (p : TPoint) : OnE (RevM e) p ↔ OnE e p := by
  unfold OnE
  rw [rev_ok]
  refine and_congr_right fun h => ?_
  rw [rev_onc h]
  have : InB (RevM e) p ↔ InB e p := by
    unfold InB RevM
    simp only
    omega
  rw [this]
theorem rev_ray (e : TEdge) (p : TPoint) : RayM (RevM e) p = - RayM e p := by
  unfold RayM
  by_cases h : OkE e
  · have h1 : InR (RevM e) p ↔ InR e p := by unfold InR RevM; simp only; omega
    have h2 : min (RevM e).A.X (RevM e).B.X = min e.A.X e.B.X := by unfold RevM; simp only; omega
    have h3 : up (RevM e) = - up e := by
      unfold up RevM
      simp only
      split
      · rw [if_neg (by omega)]; rfl
      · split <;> omega
    rw [h2, h3]
    by_cases hr : InR e p
    · have h4 : Bey (RevM e) p ↔ Bey e p := by
        unfold Bey
        by_cases hk : e.Kind = 1
        · rw [if_pos ((rev_kind e).2 hk), if_pos hk]
          show (if e.B.Y < e.A.Y then 0 < cr e.B e.A p else cr e.B e.A p < 0) ↔ _
          rw [cr_swap]
          unfold InR at hr
          by_cases hu : e.A.Y < e.B.Y
          · rw [if_neg (by omega), if_pos hu]; omega
          · rw [if_pos (by omega), if_neg hu]; omega
        · rw [if_neg (fun h => hk ((rev_kind e).1 h)), if_neg hk]
          have h5 : RightHalf (RevM e) ↔ RightHalf e := by unfold RightHalf RevM; simp only; omega
          have h6 : d2 (RevM e).A (RevM e).C = d2 e.A e.C := d2_ends h hk
          have h7 : (RevM e).C = e.C := rfl
          rw [h7] at h6
          simp only [h5, h6, h7]
      simp only [rev_ok, h, h1, h4, true_and]
      split <;> rfl
    · simp only [h1, hr, false_and, and_false, if_false]; rfl
  · simp [rev_ok, h]
end Go.Proofs.Ytmhhigaelofbmaa
