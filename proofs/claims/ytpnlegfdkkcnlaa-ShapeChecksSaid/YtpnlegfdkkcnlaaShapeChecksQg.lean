/-
  Proved: the statement of ShapeChecks; the parts before it hold what its proof needs.
-/
import Derived.Test.YtpnlegfdkkcnlaaShapeChecksQf
namespace Go.Proofs.Ytpnlegfdkkcnlaa
set_option maxRecDepth 100000
open Go.RowKit
set_option linter.unusedVariables false
set_option linter.unusedSimpArgs false
theorem sub5v (a b : TPoint) : Fref05Sub a b = FvecSub a b := rfl
theorem dot5v (a b : TPoint) : Fref05Dot a b = FvecDot a b := rfl
theorem cross5v (a b : TPoint) : Fref05Cross a b = FvecCross a b := rfl
theorem far_eq {p c : TPoint} (hp : PB p) (hc : RP c) : FfarR p c = d2 p c := sq_eq hp hc
theorem sq_ok {x : Int} (h : -40673134134689792 ≤ x ∧ x ≤ 40673134134689792) : OkN (FsquareN x) (x * x) 5 := by
 have := of_ok (x := x) (by omega)
 exact mul_ok this this (by decide)
theorem most_ok {x y : Int} (hx : 0 ≤ x ∧ x ≤ 9223372036854775807) (hy : 0 ≤ y ∧ y ≤ 9223372036854775807) : OkN (FMulN (FOfN x) (FOfN y)).1 (x * y) 5 :=
 mul_ok (of_ok (by omega)) (of_ok (by omega)) (by decide)
theorem nearLine_eq {e : TEdge} {p : TPoint} {r : Int} (he : OkE e) (hk : e.Kind = 1) (hp : PB p) (hr : 0 ≤ r ∧ r ≤ 4194304) : FnearLine e p r = true ↔ NearM e p r := by
 obtain ⟨⟨ha, hb, hc⟩, hform⟩ := he
 have hrr := mul_up hr hr
 have er : W64 (r * r) = r * r := W64_id (by omega) (by omega)
 have dA := sub_pd hp ha
 have dBA := sub_pd (rp_pb hb) ha
 have eal : Fref05Dot (Fref05Sub p e.A) (Fref05Sub e.B e.A) = al e.A e.B p := by
  rw [sub5v, sub5v, dot5v, sub_pb hp ha, sub_pb (rp_pb hb) ha, dot_pd dA dBA]; rfl
 have elen : Fref05Dot (Fref05Sub e.B e.A) (Fref05Sub e.B e.A) = d2 e.B e.A := by
  rw [sub5v, dot5v, sub_pb (rp_pb hb) ha, dot_pd dBA dBA]; rfl
 have ecr : Fref05Cross (Fref05Sub e.B e.A) (Fref05Sub p e.A) = cr e.A e.B p := by
  rw [sub5v, sub5v, cross5v, sub_pb hp ha, sub_pb (rp_pb hb) ha, cross_pd dBA dA]; rfl
 unfold FnearLine NearM wnearLine_2 wnearLine_1 wnearLine_0
 rw [if_pos hk, far_eq hp ha, far_eq hp hb, er, eal, elen, ecr]
 have hcr : -40673134134689792 ≤ cr e.A e.B p ∧ cr e.A e.B p ≤ 40673134134689792 := by
  have b1 := b56 dBA.1 dA.2; have b2 := b56 dBA.2 dA.1
  unfold cr
  simp only at *
  omega
 have hlen := d2_b (rp_pb hb) ha
 have hcmp := cmp_ok (sq_ok hcr) (most_ok (x := r * r) (y := d2 e.B e.A) (by omega) (by omega)) (by decide) (by decide)
 rw [show decide (FCmpN (FsquareN (cr e.A e.B p)) (FMulN (FOfN (r * r)) (FOfN (d2 e.B e.A))).1 ≤ 0) = decide (cr e.A e.B p * cr e.A e.B p ≤ r * r * d2 e.B e.A) from decide_eq_decide.mpr hcmp]
 have hB : d2 p e.B = d2 p e.A - 2 * al e.A e.B p + d2 e.B e.A := by unfold d2 al; grind
 have hL : al e.A e.B p * al e.A e.B p + cr e.A e.B p * cr e.A e.B p = d2 p e.A * d2 e.B e.A := by unfold d2 al cr; grind
 have hL2 : (d2 e.B e.A - al e.A e.B p) * (d2 e.B e.A - al e.A e.B p) + cr e.A e.B p * cr e.A e.B p = d2 p e.B * d2 e.B e.A := by unfold d2 al cr; grind
 have nA := sq_nn (al e.A e.B p); have nB := sq_nn (d2 e.B e.A - al e.A e.B p)
 simp only [cnd_if, decide_eq_true_eq]
 by_cases h1 : al e.A e.B p ≤ 0
 ·rw [if_pos h1, decide_eq_true_eq]
  constructor
  ·exact fun h => .inl h
  ·rintro (h | h | h)
   ·exact h
   ·omega
   ·omega
 ·rw [if_neg h1]
  by_cases h2 : d2 e.B e.A ≤ al e.A e.B p
  ·rw [if_pos h2, decide_eq_true_eq]
   constructor
   ·exact fun h => .inr (.inl h)
   ·rintro (h | h | h)
    ·omega
    ·exact h
    ·omega
  ·rw [if_neg h2, decide_eq_true_eq]
   constructor
   ·intro h; exact .inr (.inr ⟨⟨by omega, by omega⟩, h⟩)
   ·rintro (h | h | h)
    ·have := Int.mul_le_mul_of_nonneg_right h hlen.1
     omega
    ·have := Int.mul_le_mul_of_nonneg_right h hlen.1
     omega
    ·exact h.2
theorem within5_pd {d f t : TPoint} (hd : PD d) (hf : PD f) (ht : PD t) : Fref05Within d f t = true ↔ 0 ≤ f.X * d.Y - f.Y * d.X ∧ 0 ≤ d.X * t.Y - d.Y * t.X := by
 unfold Fref05Within
 rw [cross5v, cross5v, cross_pd hf hd, cross_pd hd ht, cnd_and, Bool.and_eq_true, decide_eq_true_eq, decide_eq_true_eq]
theorem tri {p a c : TPoint} {R r : Int} (hr : 0 ≤ r) (hR : 0 ≤ R) (ax : ((a.X - c.X = R ∨ a.X - c.X = -R) ∧ a.Y - c.Y = 0) ∨ (a.X - c.X = 0 ∧ (a.Y - c.Y = R ∨ a.Y - c.Y = -R))) (h : d2 p a ≤ r * r) :
  d2 p c ≤ (R + r) * (R + r) ∧ (R ≤ r ∨ (R - r) * (R - r) ≤ d2 p c) := by
 obtain ⟨⟨x1, x2⟩, y1, y2⟩ := d2_le hr h
 have key : ∀ t q : Int, -r ≤ t → t ≤ r → t * t ≤ q → q ≤ r * r → d2 p c = R * R + 2 * (R * t) + q → d2 p c ≤ (R + r) * (R + r) ∧ (R ≤ r ∨ (R - r) * (R - r) ≤ d2 p c) := by
  intro t q t1 t2 q1 q2 e
  have m1 : 0 ≤ R * (r - t) := Int.mul_nonneg hR (by omega)
  rw [Int.mul_sub] at m1
  have e1 : (R + r) * (R + r) = R * R + 2 * (R * r) + r * r := by grind
  have e2 : (R - r) * (R - r) = R * R - 2 * (R * r) + r * r := by grind
  refine ⟨by omega, ?_⟩
  by_cases hq : R ≤ r
  ·exact .inl hq
  ·refine .inr ?_
   have m2 : 0 ≤ (t + r) * (2 * R + t - r) := Int.mul_nonneg (by omega) (by omega)
   have e3 : (t + r) * (2 * R + t - r) = 2 * (R * t) + 2 * (R * r) + t * t - r * r := by grind
   omega
 have nx := sq_nn (p.X - a.X); have ny := sq_nn (p.Y - a.Y)
 rcases ax with ⟨hx | hx, hy⟩ | ⟨hx, hy | hy⟩
 ·refine key (p.X - a.X) (d2 p a) x1 x2 (by unfold d2; omega) h ?_
  obtain ⟨u, hu⟩ : ∃ u, u = p.X - a.X := ⟨_, rfl⟩
  have ex : p.X - c.X = u + R := by omega
  have ey : p.Y - c.Y = p.Y - a.Y := by omega
  unfold d2; rw [ex, ey, ← hu]; grind
 ·refine key (-(p.X - a.X)) (d2 p a) (by omega) (by omega) (by rw [Int.neg_mul_neg]; unfold d2; omega) h ?_
  obtain ⟨u, hu⟩ : ∃ u, u = p.X - a.X := ⟨_, rfl⟩
  have ex : p.X - c.X = u - R := by omega
  have ey : p.Y - c.Y = p.Y - a.Y := by omega
  unfold d2; rw [ex, ey, ← hu]; grind
 ·refine key (p.Y - a.Y) (d2 p a) y1 y2 (by unfold d2; omega) h ?_
  obtain ⟨u, hu⟩ : ∃ u, u = p.Y - a.Y := ⟨_, rfl⟩
  have ex : p.Y - c.Y = u + R := by omega
  have ey : p.X - c.X = p.X - a.X := by omega
  unfold d2; rw [ex, ey, ← hu]; grind
 ·refine key (-(p.Y - a.Y)) (d2 p a) (by omega) (by omega) (by rw [Int.neg_mul_neg]; unfold d2; omega) h ?_
  obtain ⟨u, hu⟩ : ∃ u, u = p.Y - a.Y := ⟨_, rfl⟩
  have ex : p.Y - c.Y = u - R := by omega
  have ey : p.X - c.X = p.X - a.X := by omega
  unfold d2; rw [ex, ey, ← hu]; grind
theorem ax_a {e : TEdge} (h : OkE e) (hk : e.Kind ≠ 1) : ((e.A.X - e.C.X = RadM e ∨ e.A.X - e.C.X = -RadM e) ∧ e.A.Y - e.C.Y = 0) ∨ (e.A.X - e.C.X = 0 ∧ (e.A.Y - e.C.Y = RadM e ∨ e.A.Y - e.C.Y = -RadM e)) := by
 rw [rad_arcM h hk]
 have := odd_cases (arc_odd h hk).1
 omega
theorem ax_b {e : TEdge} (h : OkE e) (hk : e.Kind ≠ 1) : ((e.B.X - e.C.X = RadM e ∨ e.B.X - e.C.X = -RadM e) ∧ e.B.Y - e.C.Y = 0) ∨ (e.B.X - e.C.X = 0 ∧ (e.B.Y - e.C.Y = RadM e ∨ e.B.Y - e.C.Y = -RadM e)) := by
 have h1 := ax_a h hk
 have h2 := (arc_odd h hk).2
 omega
theorem nearArc_eq {e : TEdge} {p : TPoint} {r : Int} (he : OkE e) (hk : ¬ e.Kind = 1) (hp : PB p) (hr : 0 ≤ r ∧ r ≤ 4194304) : FnearArc e p r = true ↔ NearM e p r := by
 have he' := he
 obtain ⟨⟨ha, hb, hc⟩, hform⟩ := he
 have hrr := mul_up hr hr
 have hrad := rad_b e
 have er : W64 (r * r) = r * r := W64_id (by omega) (by omega)
 have e1 : W64 (Fref06Radius e + r) = RadM e + r := by rw [rad6_eq]; exact W64_id (by omega) (by omega)
 have e2 : W64 (Fref06Radius e - r) = RadM e - r := by rw [rad6_eq]; exact W64_id (by omega) (by omega)
 have m1 := mul_up (a := RadM e + r) (b := RadM e + r) (A := 272629760) (B := 272629760) (by omega) (by omega)
 have m2 : 0 ≤ (RadM e - r) * (RadM e - r) ∧ (RadM e - r) * (RadM e - r) ≤ 268435456 * 268435456 := ⟨sq_nn _, by
  have := mul_b (RadM e - r) (RadM e - r) 268435456 268435456 (by omega) (by omega)
  omega⟩
 have e3 : W64 ((RadM e + r) * (RadM e + r)) = (RadM e + r) * (RadM e + r) := W64_id (by omega) (by omega)
 have e4 : W64 ((RadM e - r) * (RadM e - r)) = (RadM e - r) * (RadM e - r) := W64_id (by omega) (by omega)
 have dC := sub_pd hp hc
 have dAC := sub_pd (rp_pb ha) hc; have dBC := sub_pd (rp_pb hb) hc
 have hfac : wnearArc_2 p e = true ↔ Fac e p := by
  unfold wnearArc_2 wnearArc_1 wnearArc_0 Fac
  simp only [sub5v]
  rw [sub_pb hp hc, sub_pb (rp_pb ha) hc, sub_pb (rp_pb hb) hc]
  simp only [cnd_if, decide_eq_true_eq]
  by_cases h3 : e.Kind = 3
  ·simp only [h3, if_true]; exact within5_pd dC dBC dAC
  ·simp only [h3, if_false]; exact within5_pd dC dAC dBC
 unfold FnearArc NearM
 rw [if_neg hk, far_eq hp ha, far_eq hp hb, er, e1, e2, e3, e4, rad6_eq]
 have en : Fref05Dot (Fref05Sub p e.C) (Fref05Sub p e.C) = d2 p e.C := by
  rw [sub5v, dot5v, sub_pb hp hc, dot_pd dC dC]; rfl
 rw [en]
 have n0 := (d2_b hp hc).1
 by_cases hF : Fac e p
 ·rw [hfac.2 hF]
  simp only [Bool.not_true, cond_false, cnd_and, cnd_or, Bool.and_eq_true, Bool.or_eq_true, decide_eq_true_eq, hF, true_and]
  have hmax : RadM e ≤ r ∨ (RadM e - r) * (RadM e - r) ≤ d2 p e.C ↔ max (RadM e - r) 0 * max (RadM e - r) 0 ≤ d2 p e.C := by
   by_cases q : RadM e ≤ r
   ·rw [Int.max_eq_right (by omega)]; constructor
    ·intro _; omega
    ·intro _; exact .inl q
   ·rw [Int.max_eq_left (by omega)]; constructor
    ·rintro (h | h)
     ·exact absurd h q
     ·exact h
    ·exact fun h => .inr h
  rw [hmax]
  constructor
  ·exact fun h => .inr (.inr h)
  ·rintro (h | h | h)
   ·have := tri hr.1 hrad.1 (ax_a he' hk) h
    exact ⟨this.1, hmax.1 this.2⟩
   ·have := tri hr.1 hrad.1 (ax_b he' hk) h
    exact ⟨this.1, hmax.1 this.2⟩
   ·exact h
 ·have : wnearArc_2 p e = false := by
   cases hh : wnearArc_2 p e
   ·rfl
   ·exact absurd (hfac.1 hh) hF
  rw [this]
  simp only [Bool.not_false, cond_true, cnd_or, Bool.or_eq_true, decide_eq_true_eq, hF, false_and, or_false]
theorem nearR_eq {e : TEdge} {p : TPoint} {r : Int} (he : OkE e) (hp : PB p) (hr : 0 ≤ r ∧ r ≤ 4194304) : FNearR e p r = true ↔ NearM e p r := by
 unfold FNearR
 by_cases hk : e.Kind = 1
 ·rw [decide_eq_true hk]; exact nearLine_eq he hk hp hr
 ·rw [decide_eq_false hk]; exact nearArc_eq he hk hp hr
theorem boxR_l0 (s : TShape) : ∀ (n k : Nat) (b : TRect), 1 ≤ k → k ≤ s.Edges.length → s.Edges.length - k < n → FBoxR_l0 s n b (k : Int) = widen (boxF b (s.Edges.drop k)) s.R
 | 0, k, b, hk, hk2, hn => by omega
 | n + 1, k, b, hk, hk2, hn => by
  unfold FBoxR_l0
  by_cases hlt : k < s.Edges.length
  ·rw [decide_eq_true (show (k : Int) < (s.Edges.length : Int) by omega)]
   rw [drop_cons' hlt, boxF]
   have ih := fun b => boxR_l0 s n (k + 1) b (by omega) (by omega) (by omega)
   simp only [cond_true]
   rw [show ((k : Int) + 1) = ((k + 1 : Nat) : Int) by omega, ih]
   rfl
  ·rw [decide_eq_false (show ¬ (k : Int) < (s.Edges.length : Int) by omega)]
   rw [List.drop_of_length_le (by omega)]
   rfl
theorem boxR_eq (s : TShape) : FBoxR s = FBox s := by
 by_cases h : s.Edges = []
 ·unfold FBoxR FBox
  rw [h]; rfl
 ·have hl : 0 < s.Edges.length := List.length_pos_iff.2 h
  rw [box_eq s h]
  unfold FBoxR
  rw [decide_eq_false (show ¬ (s.Edges.length : Int) = 0 by omega)]
  simp only [cond_false]
  have := boxR_l0 s (((((s.Edges.length : Int))) - 1).toNat + 1) 1 (Fref06Box (s.Edges.getD 0 default)) (Nat.le_refl _) (by omega) (by omega)
  rw [show ((1 : Nat) : Int) = 1 from rfl] at this
  rw [this]
  cases he : s.Edges with
  | nil => exact absurd he h
  | cons e l => rfl
theorem chain_l0 (l : List TEdge) (hl : l.length ≤ 1000000) : ∀ n k : Nat, 1 ≤ k → l.length - k < n → (FchainR_l0 l n (k : Int) = true ↔ ∀ i, k ≤ i + 1 → i + 1 < l.length → (l.getD i default).B = (l.getD (i + 1) default).A)
 | 0, k, hk, hn => by omega
 | n + 1, k, hk, hn => by
  unfold FchainR_l0
  by_cases hlt : k < l.length
  ·rw [decide_eq_true (show (k : Int) < (l.length : Int) by omega)]
   have e1 : (W64 ((k : Int) - 1)).toNat = k - 1 := by rw [W64_id (by omega) (by omega)]; omega
   simp only [cond_true, Int.toNat_natCast]
   rw [e1, show ((k : Int) + 1) = ((k + 1 : Nat) : Int) by omega]
   have ih := chain_l0 l hl n (k + 1) (by omega) (by omega)
   have eq : (decide (((l.getD k default).A).X = ((l.getD (k - 1) default).B).X) && (decide (((l.getD k default).A).Y = ((l.getD (k - 1) default).B).Y) && true)) = true ↔ (l.getD (k - 1) default).B = (l.getD k default).A := by
    rw [Bool.and_eq_true, Bool.and_eq_true, decide_eq_true_eq, decide_eq_true_eq]
    constructor
    ·intro h
     generalize (l.getD (k - 1) default).B = u at *; generalize (l.getD k default).A = v at *
     cases u; cases v; simp only at h; rw [h.1, h.2.1]
    ·intro h; rw [h]; exact ⟨rfl, rfl, rfl⟩
   cases hb : (decide (((l.getD k default).A).X = ((l.getD (k - 1) default).B).X) && (decide (((l.getD k default).A).Y = ((l.getD (k - 1) default).B).Y) && true)) with
   | true =>
    rw [hb] at eq
    simp only [Bool.not_true, cond_false]
    rw [ih]
    constructor
    ·intro h i h1 h2
     by_cases q : i + 1 = k
     ·have := eq.1 rfl
      rw [show k - 1 = i by omega] at this
      rw [q]; exact this
     ·exact h i (by omega) h2
    ·exact fun h i h1 h2 => h i (by omega) h2
   | false =>
    rw [hb] at eq
    simp only [Bool.not_false, cond_true, Bool.false_eq_true, false_iff]
    intro h
    have := h (k - 1) (by omega) (by omega)
    rw [show k - 1 + 1 = k by omega] at this
    exact absurd (eq.2 this) (by decide)
  ·rw [decide_eq_false (show ¬ (k : Int) < (l.length : Int) by omega)]
   simp only [cond_false, true_iff]
   intro i h1 h2; omega
theorem chain_eq (l : List TEdge) (hl : l.length ≤ 1000000) : FchainR l = true ↔ ∀ i, i + 1 < l.length → (l.getD i default).B = (l.getD (i + 1) default).A := by
 unfold FchainR
 have := chain_l0 l hl ((((l.length : Int)) - 1).toNat + 1) 1 (Nat.le_refl _) (by omega)
 rw [show ((1 : Nat) : Int) = 1 from rfl] at this
 rw [this]
 exact ⟨fun h i h2 => h i (by omega) h2, fun h i _ h2 => h i h2⟩
open Classical in
theorem checkR_l0 (s : TShape) (hl : 1 ≤ s.Edges.length ∧ s.Edges.length ≤ 40) : ∀ n k : Nat, k ≤ s.Edges.length → s.Edges.length - k < n → FCheckR_l0 s n (k : Int) = if chk1 (s.Edges.drop k) ≠ 0 then chk1 (s.Edges.drop k) else if ¬ Joined s then 12 else lastS s
 | 0, k, hk, hn => by omega
 | n + 1, k, hk, hn => by
  unfold FCheckR_l0
  by_cases hlt : k < s.Edges.length
  ·rw [decide_eq_true (show (k : Int) < (s.Edges.length : Int) by omega)]
   simp only [cond_true, Int.toNat_natCast]
   rw [drop_cons' hlt]
   simp only [chk1, check6_eq]
   have ih := checkR_l0 s hl n (k + 1) (by omega) (by omega)
   by_cases h0 : CheckM (s.Edges.getD k default) = 0
   ·simp only [h0, if_true, decide_true, Bool.not_true, cond_false]
    rw [show ((k : Int) + 1) = ((k + 1 : Nat) : Int) by omega, ih]
   ·simp only [h0, if_false, decide_false, Bool.not_false, cond_true, ne_eq, not_false_eq_true, if_true]
  ·rw [decide_eq_false (show ¬ (k : Int) < (s.Edges.length : Int) by omega)]
   simp only [cond_false]
   rw [List.drop_of_length_le (by omega), chk1]
   have e1 : (W64 ((s.Edges.length : Int) - 1)).toNat = s.Edges.length - 1 := by rw [W64_id (by omega) (by omega)]; omega
   have hJ : (bif !(FchainR s.Edges) then true else bif decide ((s.Kind : Int) = 2) then !((decide ((((s.Edges.getD 0 default).A).X) = ((wCheckR_0 s).X)) && (decide ((((s.Edges.getD 0 default).A).Y) = ((wCheckR_0 s).Y)) && true))) else false) = false ↔ Joined s := by
    unfold wCheckR_0 Joined
    rw [e1, ← chain_eq s.Edges (by omega)]
    have eq : (decide (((s.Edges.getD 0 default).A).X = ((s.Edges.getD (s.Edges.length - 1) default).B).X) && (decide (((s.Edges.getD 0 default).A).Y = ((s.Edges.getD (s.Edges.length - 1) default).B).Y) && true)) = true ↔ (s.Edges.getD (s.Edges.length - 1) default).B = (s.Edges.getD 0 default).A := by
     rw [Bool.and_eq_true, Bool.and_eq_true, decide_eq_true_eq, decide_eq_true_eq]
     constructor
     ·intro h
      generalize (s.Edges.getD (s.Edges.length - 1) default).B = u at *; generalize (s.Edges.getD 0 default).A = v at *
      cases u; cases v; simp only at h; rw [h.1, h.2.1]
     ·intro h; rw [h]; exact ⟨rfl, rfl, rfl⟩
    rw [← eq]
    generalize (decide (((s.Edges.getD 0 default).A).X = ((s.Edges.getD (s.Edges.length - 1) default).B).X) && (decide (((s.Edges.getD 0 default).A).Y = ((s.Edges.getD (s.Edges.length - 1) default).B).Y) && true)) = g
    by_cases hk2 : s.Kind = 2
    ·rw [decide_eq_true hk2]; simp only [hk2, true_implies]
     cases FchainR s.Edges <;> cases g <;> simp
    ·rw [decide_eq_false hk2]; simp only [hk2, false_implies]
     cases FchainR s.Edges <;> cases g <;> simp
   by_cases hj : Joined s
   ·rw [hJ.2 hj]; simp only [hj, cond_false, not_true, if_false, ne_eq]; rfl
   ·cases hb : (bif !(FchainR s.Edges) then true else bif decide ((s.Kind : Int) = 2) then !((decide ((((s.Edges.getD 0 default).A).X) = ((wCheckR_0 s).X)) && (decide ((((s.Edges.getD 0 default).A).Y) = ((wCheckR_0 s).Y)) && true))) else false) with
    | false => exact absurd (hJ.1 hb) hj
    | true => simp only [hj, cond_true, not_false_eq_true, if_true, ne_eq, not_true, if_false]
theorem checkR_eq (s : TShape) : FCheckR s = FCheckS s := by
 rw [checkS_eq]
 unfold FCheckR CheckMS
 by_cases hk1 : s.Kind = 1
 ·simp only [hk1, decide_true, cond_true, true_or, not_true, false_or, show ¬ ((1 : Int) = 2) by decide, decide_false, false_and, or_false]
  by_cases h0 : s.Edges.length = 0
  ·simp [h0]
  ·simp only [show ¬ (s.Edges.length : Int) < 1 by omega, h0, decide_false, cond_false, if_false]
   by_cases h40 : 40 < s.Edges.length
   ·simp only [show (40 : Int) < (s.Edges.length : Int) by omega, h40, decide_true, cond_true, if_true]
   ·simp only [show ¬ (40 : Int) < (s.Edges.length : Int) by omega, h40, decide_false, cond_false, if_false]
    have := checkR_l0 s (by omega) (((s.Edges.length : Int) - 0).toNat + 1) 0 (by omega) (by omega)
    rw [show ((0 : Nat) : Int) = 0 from rfl] at this
    rw [this, List.drop_zero, lastS_eq]
    simp only [hk1, show ¬ ((1 : Int) = 2) by decide, false_and, false_or]
 ·by_cases hk2 : s.Kind = 2
  ·simp only [hk2, decide_true, cond_true, or_true, not_true, false_or, true_and, show ¬ ((2 : Int) = 1) by decide, decide_false, cond_false]
   by_cases h2 : s.Edges.length < 2
   ·simp only [show (s.Edges.length : Int) < 2 by omega, h2, decide_true, cond_true, if_true, or_true]
   ·simp only [show ¬ (s.Edges.length : Int) < 2 by omega, show ¬ s.Edges.length = 0 by omega, h2, decide_false, cond_false, if_false, or_self]
    by_cases h40 : 40 < s.Edges.length
    ·simp only [show (40 : Int) < (s.Edges.length : Int) by omega, h40, decide_true, cond_true, if_true]
    ·simp only [show ¬ (40 : Int) < (s.Edges.length : Int) by omega, h40, decide_false, cond_false, if_false]
     have := checkR_l0 s (by omega) (((s.Edges.length : Int) - 0).toNat + 1) 0 (by omega) (by omega)
     rw [show ((0 : Nat) : Int) = 0 from rfl] at this
     rw [this, List.drop_zero, lastS_eq]
     simp only [hk2, true_and]
  ·simp [hk1, hk2]
theorem insR_l0 (s : TShape) (p : TPoint) (hs : OkS s) (hp : PB p) : ∀ (n k : Nat) (v : Int), k ≤ s.Edges.length → s.Edges.length - k < n → (-(k : Int) ≤ v ∧ v ≤ k) → (FInsideR_l0 s p n v (k : Int) = true ↔ (∃ e ∈ s.Edges.drop k, NearM e p s.R) ∨ s.Kind = 2 ∧ v + wind (s.Edges.drop k) p ≠ 0)
 | 0, k, v, hk, hn, _ => by omega
 | n + 1, k, v, hk, hn, hv => by
  unfold FInsideR_l0
  by_cases hlt : k < s.Edges.length
  ·rw [decide_eq_true (show (k : Int) < (s.Edges.length : Int) by omega)]
   simp only [cond_true, Int.toNat_natCast]
   rw [drop_cons' hlt, wind, ray6_eq]
   have hb := ray_b (s.Edges.getD k default) p
   have hl := hs.1.2.1
   rw [W64_id (by omega) (by omega)]
   have ih := insR_l0 s p hs hp n (k + 1) (v + RayM (s.Edges.getD k default) p) (by omega) (by omega) (by omega)
   rw [show ((k : Int) + 1) = ((k + 1 : Nat) : Int) by omega]
   have hn := nearR_eq (hs.2.1 _ (getD_mem' hlt)) hp hs.2.2.2.1
   unfold wInsideR_0
   rw [Int.toNat_natCast]
   cases hc : FNearR (s.Edges.getD k default) p s.R with
   | true =>
    simp only [cond_true, true_iff]
    exact .inl ⟨_, List.mem_cons_self .., hn.1 hc⟩
   | false =>
    simp only [cond_false]
    have hnn : ¬ NearM (s.Edges.getD k default) p s.R := fun h => by rw [hn.2 h] at hc; cases hc
    rw [ih, Int.add_assoc]
    constructor
    ·rintro (⟨e, h1, h2⟩ | h)
     ·exact .inl ⟨e, List.mem_cons_of_mem _ h1, h2⟩
     ·exact .inr h
    ·rintro (⟨e, h1, h2⟩ | h)
     ·rcases List.mem_cons.1 h1 with q | q
      ·rw [q] at h2; exact absurd h2 hnn
      ·exact .inl ⟨e, q, h2⟩
     ·exact .inr h
  ·rw [decide_eq_false (show ¬ (k : Int) < (s.Edges.length : Int) by omega)]
   rw [List.drop_of_length_le (by omega), wind, Int.add_zero]
   simp only [cond_false, List.not_mem_nil, false_and, exists_false, false_or, cnd_and, Bool.and_eq_true, decide_eq_true_eq, Bool.not_eq_true', decide_eq_false_iff_not, ne_eq]
theorem insideR_iff (s : TShape) (p : TPoint) : FInsideR s p = true ↔ InsM s p := by
 unfold FInsideR
 rw [checkR_eq, checkS_eq, boxR_eq]
 by_cases hs : OkS s
 ·have h0 := (checkMS_zero s).2 hs
  rw [h0]
  have hb := inbx_eq hs p
  have hw : FWithinR (FBox s) p = true ↔ InBx s.Edges s.R p := by
   rw [← hb]
   unfold FWithinR
   simp only [cnd_and, Bool.and_eq_true, decide_eq_true_eq]
   omega
  simp only [decide_true, Bool.not_true, cond_false]
  by_cases hB : InBx s.Edges s.R p
  ·rw [hw.2 hB]
   simp only [Bool.not_true, cond_false]
   have := insR_l0 s p hs (inbx_pb hs hB) (((((s.Edges.length : Int))) - 0).toNat + 1) 0 0 (by omega) (by omega) (by omega)
   rw [List.drop_zero, Int.zero_add] at this
   rw [show ((0 : Nat) : Int) = 0 from rfl] at this
   rw [this]
   exact ⟨fun h => ⟨hs, hB, h⟩, fun h => h.2.2⟩
  ·have : FWithinR (FBox s) p = false := by
    cases hh : FWithinR (FBox s) p
    ·rfl
    ·exact absurd (hw.1 hh) hB
   rw [this]
   simp only [Bool.not_false, cond_true, Bool.false_eq_true, false_iff]
   exact fun h => hB h.2.1
 ·have h0 : ¬ CheckMS s = 0 := fun h => hs ((checkMS_zero s).1 h)
  rw [decide_eq_false h0]
  simp only [Bool.not_false, cond_true, Bool.false_eq_true, false_iff]
  exact fun h => hs h.1
theorem insideR_eq (s : TShape) (p : TPoint) : FInsideR s p = FInsideS s p := by
 rw [Bool.eq_iff_iff, insideR_iff, inside_eqS]
end Go.Proofs.Ytpnlegfdkkcnlaa
namespace Go.Proofs.Ytpnlegfdkkcnlaa
set_option maxRecDepth 100000
open Go.RowKit
set_option linter.unusedVariables false
set_option linter.unusedSimpArgs false
structure Mat where
 a : Int
 b : Int
 c : Int
 d : Int
def Mat.ok (M : Mat) (s : Int) : Prop := (M.a = 0 ∧ M.d = 0 ∧ (M.b = 1 ∨ M.b = -1) ∧ M.c = -s * M.b) ∨ (M.b = 0 ∧ M.c = 0 ∧ (M.a = 1 ∨ M.a = -1) ∧ M.d = s * M.a)
end Go.Proofs.Ytpnlegfdkkcnlaa
namespace Go.Proofs.Ytpnlegfdkkcnlaa
set_option maxRecDepth 100000
open Go.RowKit
set_option linter.unusedVariables false
set_option linter.unusedSimpArgs false
theorem equal_l0 (a b : TShape) : ∀ (n : Nat) (k : Int), FequalE_l0 a.Edges b.Edges n k = FSameR_l0 a b n k
 | 0, k => rfl
 | n + 1, k => by
  unfold FequalE_l0 FSameR_l0
  rw [equal_l0 a b n]
theorem same_eq (a b : TShape) : FSameS a b = FSameR a b := by
 unfold FSameS FSameR FequalE
 rw [equal_l0]
 cases decide (a.Kind = b.Kind) <;> cases decide (a.R = b.R) <;> cases decide (((a.Edges.length : Int)) = (b.Edges.length : Int)) <;> rfl
end Go.Proofs.Ytpnlegfdkkcnlaa
namespace Go.Proofs.Ytpnlegfdkkcnlaa
set_option maxRecDepth 100000
theorem sane9 : Fsanity9 = true := by decide +kernel
end Go.Proofs.Ytpnlegfdkkcnlaa
namespace Go.Proofs.Ytpnlegfdkkcnlaa
set_option maxRecDepth 100000
set_option linter.unusedVariables false
set_option linter.unusedSimpArgs false
theorem shapeChecks_true (l : List Int) (o : TOdd) (m : List Int) : FShapeChecks l o m = true := by
 have h0 : FCheckS (FMade9 l) = 0 := by rw [checkS_eq]; exact (checkMS_zero _).2 (made9_ok l).1
 unfold FShapeChecks
 rw [sane9, checkR_eq, checkR_eq, boxR_eq, boxR_eq, insideR_eq, insideR_eq, same_eq, h0]
 simp
end Go.Proofs.Ytpnlegfdkkcnlaa
namespace Go.Proofs.Ytpnlegfdkkcnlaa
set_option maxRecDepth 100000
open Go.ChangeShapes Go.WideShapes Go.ChangeAt Go.RowKit
set_option linter.unusedVariables false
theorem shapeChecks_lifted (os : Os) (started : os.Started) (H : Type) (enc : TypeId × Value → H) :
  ReturnsInHanded {} Try.checked os 6 .any (Rows.shapeChecksSpec.pre6 enc Try.prog Try.f6 Rows.shapeChecksRow.domain false) (Rows.shapeChecksSpec.post enc Try.prog Try.f6 false true false false) := by
 refine returnsInHanded_of_change (C := Try.checked) own started (by kernel_rfl) Try.func6
  (ChangeSpec.witness6 (enc := enc) (C := Try.checked) false ⟨#[], #[.slice none 0 0, .agg #[.int .u8 0, .int .i64 0], .slice none 0 0], []⟩ 8 (by kernel_rfl) (by kernel_rfl) (by kernel_rfl) (by kernel_rfl)) ?_
 intro W base args ds gs before hval0 hW hcnd _
 have hval : ∀ (j : Nat) t v, Try.f6.params[j]? = some t → args[j]? = some v → Value.okWide Try.prog W .any base t v := hval0
 have hW' := hW
 obtain ⟨p, q, hA0, hV, rfl, hfz, hnd⟩ := hW
 have hA : DataW.TrodAll enc Try.prog W 0 (fun _ => true) true Try.f6.params.toList args.toList ds p := hA0
 rw [Try.params6] at hA hval
 obtain ⟨v0, vs0, d0, ds0, p0, q0, hargs, rfl, rfl, h0, r0⟩ := trodAll_cons hA
 obtain ⟨v1, vs1, d1, ds1, p1, q1, rfl, rfl, rfl, h1, r1⟩ := trodAll_cons r0
 obtain ⟨v2, vs2, d2, ds2, p2, q2, rfl, rfl, rfl, h2, r2⟩ := trodAll_cons r1
 obtain ⟨rfl, rfl, rfl⟩ := trodAll_nil r2
 obtain rfl : args = #[v0, v1, v2] := by cases args; simp_all
 obtain ⟨l, kl, x0⟩ := open_one opT22 (.inl ⟨_, Try.underlying22⟩) (hval 0 22 v0 rfl rfl) h0
 obtain ⟨o, ko, x1⟩ := open_agg opT50 (.inl ⟨_, Try.underlying50⟩) (hval 1 50 v1 rfl rfl) h1
 obtain ⟨m, km, x2⟩ := open_one opT22 (.inl ⟨_, Try.underlying22⟩) (hval 2 22 v2 rfl rfl) h2
 clear hA0 hval0
 refine (law_of_pure (pShapeChecks l o m (maxLen_i kl.1) (maxLen_i km.1)) (shapeChecks_true l o m) (.cons x0 (.cons x1 (.cons x2 .nil)))).mono fun e W' ⟨he, hb⟩ => ?_
 subst he
 exact ⟨_, rfl, law_post hW' rfl rfl laidOut (by rw [Try.params6]; exact List.forall_mem_cons.2 ⟨⟨by kernel_rfl, of_decide_eq_true (by kernel_rfl)⟩, List.forall_mem_cons.2 ⟨⟨by kernel_rfl, of_decide_eq_true (by kernel_rfl)⟩, List.forall_mem_cons.2 ⟨⟨by kernel_rfl, of_decide_eq_true (by kernel_rfl)⟩, List.forall_mem_nil _⟩⟩⟩) rfl Try.underlying4 hb⟩
theorem shapeChecks_holds : Rows.ShapeChecksSaid :=
 OpenClaim.holds_of_wide 6 Try.f6 rfl rfl rfl rfl rfl rfl rfl ⟨rfl, rfl, rfl, rfl, rfl⟩ rfl rfl rfl rfl rfl (by kernel_rfl) Try.func6 (by kernel_rfl)
  (of_decide_eq_true (by kernel_rfl)) (by unfold Func.isWrapper; first | (rw [if_pos (by decide +kernel)]; kernel_rfl) | (rw [if_neg (by decide +kernel)]; exact ⟨rfl, rfl⟩))
  (fun os started H enc _ => shapeChecks_lifted os started H enc)
#print axioms shapeChecks_holds
end Go.Proofs.Ytpnlegfdkkcnlaa
