/-
  No statement is proved in this text. It shows in plain numbers that ShapeBoxes returns true.
-/
import Derived.Test.YtpnlegfdkkcnlaaShd
import Derived.Test.YtpnlegfdkkcnlaaSane9
import Derived.Test.YtpnlegfdkkcnlaaShapeBoxesW
namespace Go.Proofs.Ytpnlegfdkkcnlaa
open Go.RowKit
set_option linter.unusedVariables false
set_option linter.unusedSimpArgs false

theorem okS_disc {c : TPoint} {r : Int} (hc : RP c) (hr : 0 ≤ r ∧ r ≤ 4194304) : OkS ⟨1, [⟨1, c, c, ⟨0, 0⟩⟩], r⟩ :=
  ⟨⟨.inl rfl, ⟨Nat.le_refl 1, by simp⟩, fun h => by cases h⟩, fun x hx => by rw [List.mem_singleton.1 hx]; exact ⟨⟨hc, hc, by unfold RP C27; simp only; omega⟩, .inl ⟨rfl, rfl, rfl⟩⟩, ⟨fun i hi => absurd hi (by simp), fun h => by cases h⟩, hr, fun h => by cases h⟩
theorem ins_disc {c : TPoint} {r : Int} (hc : RP c) (hr : 0 ≤ r ∧ r ≤ 4194304) (p : TPoint) : InsM (FDiscS c r) p ↔ d2 p c ≤ r * r := by
  constructor
  · rintro ⟨_, _, ⟨x, hx, hn⟩ | h⟩
    · rw [List.mem_singleton.1 hx] at hn
      rcases hn with h | h | h
      · exact h
      · exact h
      · have h := h.1
        have e : d2 c c = 0 := d2_self c
        have h : 0 < al c c p ∧ al c c p < d2 c c := h
        omega
    · exact absurd h.1 (show ¬ (1 : Int) = 2 by decide)
  · exact fun hn => ins_near (s := FDiscS c r) (okS_disc hc hr) (List.mem_singleton.2 rfl) (.inl hn)
/-- The edges of a rectangle. -/
def rectE (x0 y0 x1 y1 : Int) : List TEdge := [⟨1, ⟨x0, y0⟩, ⟨x1, y0⟩, ⟨0, 0⟩⟩, ⟨1, ⟨x1, y0⟩, ⟨x1, y1⟩, ⟨0, 0⟩⟩, ⟨1, ⟨x1, y1⟩, ⟨x0, y1⟩, ⟨0, 0⟩⟩, ⟨1, ⟨x0, y1⟩, ⟨x0, y0⟩, ⟨0, 0⟩⟩]
theorem rectS_eq (r : TRect) : FRectS r = ⟨2, rectE r.X0 r.Y0 r.X1 r.Y1, 0⟩ := rfl
theorem okS_rect {x0 y0 x1 y1 : Int} (h0 : RP ⟨x0, y0⟩) (h1 : RP ⟨x1, y1⟩) : OkS ⟨2, rectE x0 y0 x1 y1, 0⟩ := by
  have hg : ∀ a b : TPoint, RP a → RP b → OkE ⟨1, a, b, ⟨0, 0⟩⟩ := fun a b ha hb => ⟨⟨ha, hb, by unfold RP C27; simp only; omega⟩, .inl ⟨rfl, rfl, rfl⟩⟩
  refine ⟨⟨.inr rfl, ⟨by simp [rectE], by simp [rectE]⟩, fun _ => by simp [rectE]⟩, fun e he => ?_, ?_, ⟨Int.le_refl 0, (by decide : (0 : Int) ≤ 4194304)⟩, fun _ => rfl⟩
  · simp only [rectE, List.mem_cons, List.not_mem_nil, or_false] at he
    rcases he with rfl | rfl | rfl | rfl
    · exact hg _ _ h0 ⟨h1.1, h0.2⟩
    · exact hg _ _ ⟨h1.1, h0.2⟩ h1
    · exact hg _ _ h1 ⟨h0.1, h1.2⟩
    · exact hg _ _ ⟨h0.1, h1.2⟩ h0
  · exact (joined_iff (fun h => by cases h)).2 ⟨⟨x0, y0⟩, ⟨x0, y0⟩, ⟨rfl, rfl, rfl, rfl, rfl⟩, fun _ => rfl⟩
theorem on_line {u d : Int} (h : (0 < u ∧ u < d) ∨ (d < u ∧ u < 0)) : 0 < u * d ∧ u * d < d * d := by
  rcases h with ⟨h1, h2⟩ | ⟨h1, h2⟩
  · exact ⟨Int.mul_pos h1 (by omega), Int.mul_lt_mul_of_pos_right h2 (by omega)⟩
  · have e1 : u * d = (-u) * (-d) := by grind
    have e2 : d * d = (-d) * (-d) := by grind
    rw [e1, e2]
    exact ⟨Int.mul_pos (by omega) (by omega), Int.mul_lt_mul_of_pos_right (by omega) (by omega)⟩
theorem near_flat {a b p c : TPoint} (h : (a.Y = p.Y ∧ b.Y = p.Y) ∧ ((a.X ≤ p.X ∧ p.X ≤ b.X) ∨ (b.X ≤ p.X ∧ p.X ≤ a.X))) : NearM ⟨1, a, b, c⟩ p 0 := by
  obtain ⟨ax, ay⟩ := a; obtain ⟨bx, byy⟩ := b; obtain ⟨x, y⟩ := p
  simp only at h
  obtain ⟨⟨rfl, rfl⟩, h⟩ := h
  by_cases h1 : x = ax
  · subst h1; exact near_a _ 0
  by_cases h2 : x = bx
  · subst h2; exact near_b' _ 0
  refine .inr (.inr ?_)
  rw [if_pos rfl]
  have := on_line (u := x - ax) (d := bx - ax) (by omega)
  unfold al cr d2
  simp only [Int.sub_self, Int.mul_zero, Int.zero_mul, Int.add_zero, Int.le_refl, and_true]
  exact this
theorem near_up {a b p c : TPoint} (h : (a.X = p.X ∧ b.X = p.X) ∧ ((a.Y ≤ p.Y ∧ p.Y ≤ b.Y) ∨ (b.Y ≤ p.Y ∧ p.Y ≤ a.Y))) : NearM ⟨1, a, b, c⟩ p 0 := by
  obtain ⟨ax, ay⟩ := a; obtain ⟨bx, byy⟩ := b; obtain ⟨x, y⟩ := p
  simp only at h
  obtain ⟨⟨rfl, rfl⟩, h⟩ := h
  by_cases h1 : y = ay
  · subst h1; exact near_a _ 0
  by_cases h2 : y = byy
  · subst h2; exact near_b' _ 0
  refine .inr (.inr ?_)
  rw [if_pos rfl]
  have := on_line (u := y - ay) (d := byy - ay) (by omega)
  unfold al cr d2
  simp only [Int.sub_self, Int.mul_zero, Int.zero_mul, Int.zero_add, Int.le_refl, and_true]
  exact this
theorem ins_rect {x0 y0 x1 y1 : Int} (h0 : RP ⟨x0, y0⟩) (h1 : RP ⟨x1, y1⟩) (hx : x0 < x1) (hy : y0 < y1) (p : TPoint) : InsM ⟨2, rectE x0 y0 x1 y1, 0⟩ p ↔ (x0 ≤ p.X ∧ p.X ≤ x1) ∧ y0 ≤ p.Y ∧ p.Y ≤ y1 := by
  have hb : InBx (rectE x0 y0 x1 y1) 0 p ↔ (x0 ≤ p.X ∧ p.X ≤ x1) ∧ y0 ≤ p.Y ∧ p.Y ≤ y1 := by
    unfold InBx rectE
    simp only [List.mem_cons, List.not_mem_nil, or_false, exists_eq_or_imp, exists_eq_left]
    omega
  have ho := okS_rect h0 h1
  constructor
  · exact fun h => hb.1 h.2.1
  · intro h
    refine ⟨ho, hb.2 h, ?_⟩
    by_cases hX : p.X = x1
    · exact .inl ⟨⟨1, ⟨x1, y0⟩, ⟨x1, y1⟩, ⟨0, 0⟩⟩, by simp [rectE], near_up ⟨⟨hX.symm, hX.symm⟩, .inl h.2⟩⟩
    by_cases hY : p.Y = y1
    · exact .inl ⟨⟨1, ⟨x1, y1⟩, ⟨x0, y1⟩, ⟨0, 0⟩⟩, by simp [rectE], near_flat ⟨⟨hY.symm, hY.symm⟩, .inr h.1⟩⟩
    refine .inr ⟨rfl, ?_⟩
    have hO := ho.2.1
    simp only [rectE, List.mem_cons, List.not_mem_nil, or_false, forall_eq_or_imp, forall_eq] at hO
    obtain ⟨o1, o2, o3, o4⟩ := hO
    have c2 : 0 < cr ⟨x1, y0⟩ ⟨x1, y1⟩ p := by
      unfold cr
      simp only [Int.sub_self, Int.zero_mul, Int.zero_sub]
      have := Int.mul_pos (a := y1 - y0) (b := x1 - p.X) (by omega) (by omega)
      have e : (y1 - y0) * (p.X - x1) = -((y1 - y0) * (x1 - p.X)) := by grind
      omega
    have c4 : 0 ≤ cr ⟨x0, y1⟩ ⟨x0, y0⟩ p := by
      unfold cr
      simp only [Int.sub_self, Int.zero_mul, Int.zero_sub]
      have := Int.mul_nonneg (a := y1 - y0) (b := p.X - x0) (by omega) (by omega)
      have e : (y0 - y1) * (p.X - x0) = -((y1 - y0) * (p.X - x0)) := by grind
      omega
    have r1 : RayM ⟨1, ⟨x0, y0⟩, ⟨x1, y0⟩, ⟨0, 0⟩⟩ p = 0 := by rw [line_ray _ _ _ _ o1, if_neg (fun h => by have := h.1; simp only at this; omega), if_neg (fun h => by have := h.1; simp only at this; omega)]
    have r2 : RayM ⟨1, ⟨x1, y0⟩, ⟨x1, y1⟩, ⟨0, 0⟩⟩ p = 1 := by rw [line_ray _ _ _ _ o2, if_pos ⟨by simp only; omega, c2⟩]
    have r3 : RayM ⟨1, ⟨x1, y1⟩, ⟨x0, y1⟩, ⟨0, 0⟩⟩ p = 0 := by rw [line_ray _ _ _ _ o3, if_neg (fun h => by have := h.1; simp only at this; omega), if_neg (fun h => by have := h.1; simp only at this; omega)]
    have r4 : RayM ⟨1, ⟨x0, y1⟩, ⟨x0, y0⟩, ⟨0, 0⟩⟩ p = 0 := by rw [line_ray _ _ _ _ o4, if_neg (fun h => by have := h.1; simp only at this; omega), if_neg (fun h => by have := h.2; omega)]
    unfold rectE wind wind wind wind wind
    rw [r1, r2, r3, r4]
    decide
theorem shapeBoxes_true (l m : List Int) (r : Int) (sides : TA59) (hr : 0 ≤ r ∧ r ≤ 255) (h0 : 0 ≤ sides.e0 ∧ sides.e0 ≤ 255) (h1 : 0 ≤ sides.e1 ∧ sides.e1 ≤ 255) : FShapeBoxes l m r sides = true := by
  have hS := made9_ok l
  have hp := at9_b hS m
  obtain ⟨hok, hsm, h40, h8⟩ := hS
  have hl := hok.1.2.1.1
  have hmem : (FMade9 l).Edges.getD 0 default ∈ (FMade9 l).Edges := getD_mem' (by omega)
  have hc := (hsm _ hmem).1
  have er : Int.tmod (W64 r) 100 = r % 100 := by rw [W64_id (by omega) (by omega)]; exact Int.tmod_eq_emod_of_nonneg hr.1
  have e0 : Int.tmod (W64 sides.e0) 100 = sides.e0 % 100 := by rw [W64_id (by omega) (by omega)]; exact Int.tmod_eq_emod_of_nonneg h0.1
  have e1 : Int.tmod (W64 sides.e1) 100 = sides.e1 % 100 := by rw [W64_id (by omega) (by omega)]; exact Int.tmod_eq_emod_of_nonneg h1.1
  have hb := inbx_eq hok (FAt9 (FMade9 l) m)
  have hin := inside_eqS (FMade9 l) (FAt9 (FMade9 l) m)
  unfold FShapeBoxes wShapeBoxes_0 wShapeBoxes_1
  rw [er, e0, e1]
  generalize (FMade9 l).Edges.getD 0 default = e at *
  generalize FAt9 (FMade9 l) m = p at *
  obtain ⟨n, hn⟩ : ∃ n, n = r % 100 := ⟨_, rfl⟩
  obtain ⟨w, hw⟩ : ∃ w, w = sides.e0 % 100 := ⟨_, rfl⟩
  obtain ⟨h, hh⟩ : ∃ h, h = sides.e1 % 100 := ⟨_, rfl⟩
  rw [← hn, ← hw, ← hh]
  unfold NB at hp
  have hcR : RP e.A := by unfold RP C27; omega
  have w1 : W64 (1 + w) = 1 + w := W64_id (by omega) (by omega)
  have w2 : W64 (1 + h) = 1 + h := W64_id (by omega) (by omega)
  have w3 : W64 (e.A.X + (1 + w)) = e.A.X + (1 + w) := W64_id (by omega) (by omega)
  have w4 : W64 (e.A.Y + (1 + h)) = e.A.Y + (1 + h) := W64_id (by omega) (by omega)
  have w5 : W64 (p.X - e.A.X) = p.X - e.A.X := W64_id (by omega) (by omega)
  have w6 : W64 (p.Y - e.A.Y) = p.Y - e.A.Y := W64_id (by omega) (by omega)
  have m1 := mul_b (p.X - e.A.X) (p.X - e.A.X) 100000 100000 (by omega) (by omega)
  have m2 := mul_b (p.Y - e.A.Y) (p.Y - e.A.Y) 100000 100000 (by omega) (by omega)
  have m3 := mul_b n n 100 100 (by omega) (by omega)
  have w7 : W64 ((p.X - e.A.X) * (p.X - e.A.X)) = (p.X - e.A.X) * (p.X - e.A.X) := W64_id (by omega) (by omega)
  have w8 : W64 ((p.Y - e.A.Y) * (p.Y - e.A.Y)) = (p.Y - e.A.Y) * (p.Y - e.A.Y) := W64_id (by omega) (by omega)
  have w9 : W64 ((p.X - e.A.X) * (p.X - e.A.X) + (p.Y - e.A.Y) * (p.Y - e.A.Y)) = d2 p e.A := W64_id (by omega) (by omega)
  have w10 : W64 (n * n) = n * n := W64_id (by omega) (by omega)
  rw [w1, w2, w3, w4, w5, w6, w7, w8, w9, w10, sane9]
  have hR1 : RP ⟨e.A.X + (1 + w), e.A.Y + (1 + h)⟩ := by unfold RP C27; simp only; omega
  have k1 : FCheckS (FDiscS e.A n) = 0 := by rw [checkS_eq, checkMS_zero]; exact okS_disc hcR (by omega)
  have k2 : FCheckS (FRectS ⟨e.A.X, e.A.Y, e.A.X + (1 + w), e.A.Y + (1 + h)⟩) = 0 := by rw [checkS_eq, checkMS_zero, rectS_eq]; exact okS_rect hcR hR1
  have k3 : FInsideS (FDiscS e.A n) p = decide (d2 p e.A ≤ n * n) := by
    rw [Bool.eq_iff_iff, decide_eq_true_eq, inside_eqS]; exact ins_disc hcR (by omega) p
  have k4 : FInsideS (FRectS ⟨e.A.X, e.A.Y, e.A.X + (1 + w), e.A.Y + (1 + h)⟩) p = decide ((e.A.X ≤ p.X ∧ p.X ≤ e.A.X + (1 + w)) ∧ e.A.Y ≤ p.Y ∧ p.Y ≤ e.A.Y + (1 + h)) := by
    rw [Bool.eq_iff_iff, decide_eq_true_eq, inside_eqS, rectS_eq]; exact ins_rect (x0 := e.A.X) (y0 := e.A.Y) (x1 := e.A.X + (1 + w)) (y1 := e.A.Y + (1 + h)) hcR hR1 (by omega) (by omega) p
  rw [k1, k2, k3, k4]
  have k5 : (bif FInsideS (FMade9 l) p then bif bif bif decide (p.X < (FBox (FMade9 l)).X0) then true else decide ((FBox (FMade9 l)).X1 < p.X) then true else decide (p.Y < (FBox (FMade9 l)).Y0) then true else decide ((FBox (FMade9 l)).Y1 < p.Y) else false) = false := by
    rw [Bool.eq_false_iff]
    intro hx
    simp only [cnd_and, cnd_or, Bool.and_eq_true, Bool.or_eq_true, decide_eq_true_eq] at hx
    have := hb.2 (hin.1 hx.1).2.1
    omega
  rw [k5]
  simp only [cond_false, cond_true, decide_true, Bool.not_true, beq_self_eq_true]
  rw [beq_iff_eq]
  rw [Bool.eq_iff_iff]
  simp only [cnd_and, Bool.and_eq_true, decide_eq_true_eq]
  omega
end Go.Proofs.Ytpnlegfdkkcnlaa
