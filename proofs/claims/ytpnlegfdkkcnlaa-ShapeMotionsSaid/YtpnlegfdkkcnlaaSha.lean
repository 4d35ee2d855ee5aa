/-
  No statement is proved in this text. It holds what the functions on distances say in plain numbers.
-/
import Derived.Test.YtpnlegfdkkcnlaaGeo9
namespace Go.Proofs.Ytpnlegfdkkcnlaa
open Go.RowKit
set_option linter.unusedVariables false
set_option linter.unusedSimpArgs false

/-! ### Products of two words -/
theorem andK_mask {x : Int} (h0 : 0 ≤ x) (h1 : x < 18446744073709551616) : andK .u64 x 4294967295 = x % 4294967296 := by
  unfold andK
  obtain ⟨n, rfl⟩ := Int.eq_ofNat_of_zero_le h0
  have hn : n < 18446744073709551616 := by omega
  have e1 : (BitVec.ofInt IntKind.u64.bits (n : Int)).toNat = n := by
    rw [BitVec.toNat_ofInt]
    show ((n : Int) % ((2 ^ 64 : Nat) : Int)).toNat = n
    have : ((2 ^ 64 : Nat) : Int) = 18446744073709551616 := by decide
    rw [this]; omega
  have e2 : (BitVec.ofInt IntKind.u64.bits 4294967295).toNat = 2 ^ 32 - 1 := by decide +kernel
  rw [BitVec.toNat_and, e1, e2, Nat.and_two_pow_sub_one_eq_mod, IntKind.wrap_u64]
  have : (2 : Nat) ^ 32 = 4294967296 := by decide
  rw [this]
  omega
theorem mul_up {a b A B : Int} (ha : 0 ≤ a ∧ a ≤ A) (hb : 0 ≤ b ∧ b ≤ B) : 0 ≤ a * b ∧ a * b ≤ A * B :=
  ⟨Int.mul_nonneg ha.1 hb.1, Int.mul_le_mul ha.2 hb.2 hb.1 (by omega)⟩
theorem mul64_eq {x y : Int} (hx : 0 ≤ x ∧ x < 18446744073709551616) (hy : 0 ≤ y ∧ y < 18446744073709551616) : (FMul64 x y).1 * 18446744073709551616 + (FMul64 x y).2 = x * y ∧ 0 ≤ (FMul64 x y).2 ∧ (FMul64 x y).2 < 18446744073709551616 := by
  have fd : ∀ z : Int, Int.fdiv z 4294967296 = z / 4294967296 := fun z => Int.fdiv_eq_ediv_of_nonneg z (by decide)
  unfold FMul64
  simp only [fd, andK_mask hx.1 hx.2, andK_mask hy.1 hy.2, IntKind.wrap_u64]
  have hx1 : 0 ≤ x / 4294967296 ∧ x / 4294967296 ≤ 4294967295 := by omega
  have hx0 : 0 ≤ x % 4294967296 ∧ x % 4294967296 ≤ 4294967295 := by omega
  have hy1 : 0 ≤ y / 4294967296 ∧ y / 4294967296 ≤ 4294967295 := by omega
  have hy0 : 0 ≤ y % 4294967296 ∧ y % 4294967296 ≤ 4294967295 := by omega
  have ex : x = x / 4294967296 * 4294967296 + x % 4294967296 := by omega
  have ey : y = y / 4294967296 * 4294967296 + y % 4294967296 := by omega
  generalize x / 4294967296 = x1 at *
  generalize x % 4294967296 = x0 at *
  generalize y / 4294967296 = y1 at *
  generalize y % 4294967296 = y0 at *
  have b00 := mul_up hx0 hy0
  have b10 := mul_up hx1 hy0
  have b01 := mul_up hx0 hy1
  have b11 := mul_up hx1 hy1
  have e : x * y = x1 * y1 * 18446744073709551616 + (x1 * y0 + x0 * y1) * 4294967296 + x0 * y0 := by rw [ex, ey]; grind
  rw [e]
  generalize x1 * y1 = p11 at *
  generalize x1 * y0 = p10 at *
  generalize x0 * y1 = p01 at *
  generalize x0 * y0 = p00 at *
  clear ex ey e
  have t0 : (p10 % 18446744073709551616 + p00 % 18446744073709551616 / 4294967296) % 18446744073709551616 = p10 + p00 / 4294967296 := by omega
  rw [t0]
  have b3 : 0 ≤ p00 / 4294967296 ∧ p00 / 4294967296 ≤ 4294967295 := by omega
  have t1 : andK .u64 (p10 + p00 / 4294967296) 4294967295 = (p10 + p00 / 4294967296) % 4294967296 := andK_mask (by omega) (by omega)
  rw [t1]
  refine ⟨?_, ?_, ?_⟩ <;> omega
theorem atMost_eq {a b c d : Int} (hb : 0 ≤ b ∧ b < 18446744073709551616) (hd : 0 ≤ d ∧ d < 18446744073709551616) : FatMost ⟨a, b⟩ ⟨c, d⟩ = decide (a * 18446744073709551616 + b ≤ c * 18446744073709551616 + d) := by
  rw [Bool.eq_iff_iff, decide_eq_true_eq]
  unfold FatMost
  simp only [cnd_and, cnd_or, Bool.and_eq_true, Bool.or_eq_true, decide_eq_true_eq, and_true]
  omega
theorem prod_le {a b : Int} (ha : 0 ≤ a ∧ a ≤ 9223372036854775807) (c d : Int) (hc : 0 ≤ c ∧ c ≤ 9223372036854775807) (hd : 0 ≤ d ∧ d ≤ 9223372036854775807) : FatMost (FproductS a a) (FproductS c d) = decide (a * a ≤ c * d) := by
  have w : ∀ z : Int, 0 ≤ z ∧ z ≤ 9223372036854775807 → IntKind.u64.wrap z = z := fun z hz => by rw [IntKind.wrap_u64]; omega
  unfold FproductS
  rw [w a ha, w c hc, w d hd]
  obtain ⟨h1, h2, h3⟩ := mul64_eq (x := a) (y := a) (by omega) (by omega)
  obtain ⟨k1, k2, k3⟩ := mul64_eq (x := c) (y := d) (by omega) (by omega)
  rw [atMost_eq ⟨h2, h3⟩ ⟨k2, k3⟩, h1, k1]

/-! ### Points near to a shape -/
def B28 (x : Int) : Prop := -142606336 ≤ x ∧ x ≤ 142606336
def PB (p : TPoint) : Prop := (-75497472 ≤ p.X ∧ p.X ≤ 75497472) ∧ -75497472 ≤ p.Y ∧ p.Y ≤ 75497472
def PD (p : TPoint) : Prop := B28 p.X ∧ B28 p.Y
theorem rp_pb {p : TPoint} (h : RP p) : PB p := by unfold RP C27 at h; unfold PB; omega
theorem sub_pb {p q : TPoint} (hp : PB p) (hq : RP q) : FvecSub p q = ⟨p.X - q.X, p.Y - q.Y⟩ := by
  unfold RP C27 PB at *
  unfold FvecSub
  rw [W64_id (by omega) (by omega), W64_id (by omega) (by omega)]
theorem sub_pd {p q : TPoint} (hp : PB p) (hq : RP q) : PD ⟨p.X - q.X, p.Y - q.Y⟩ := by
  unfold RP C27 PB at *
  unfold PD B28
  simp only
  omega
theorem b56 {x y : Int} (hx : B28 x) (hy : B28 y) : -20336567067344896 ≤ x * y ∧ x * y ≤ 20336567067344896 := by
  have := mul_b x y 142606336 142606336 hx hy
  omega
theorem dot_pd {u v : TPoint} (hu : PD u) (hv : PD v) : FvecDot u v = u.X * v.X + u.Y * v.Y := by
  obtain ⟨h1, h2⟩ := hu; obtain ⟨h3, h4⟩ := hv
  have b1 := b56 h1 h3; have b2 := b56 h2 h4
  unfold FvecDot
  rw [W64_id (x := u.X * v.X) (by omega) (by omega), W64_id (x := u.Y * v.Y) (by omega) (by omega), W64_id (by omega) (by omega)]
theorem cross_pd {u v : TPoint} (hu : PD u) (hv : PD v) : FvecCross u v = u.X * v.Y - u.Y * v.X := by
  obtain ⟨h1, h2⟩ := hu; obtain ⟨h3, h4⟩ := hv
  have b1 := b56 h1 h4; have b2 := b56 h2 h3
  unfold FvecCross
  rw [W64_id (x := u.X * v.Y) (by omega) (by omega), W64_id (x := u.Y * v.X) (by omega) (by omega), W64_id (by omega) (by omega)]
theorem d2_b {p c : TPoint} (hp : PB p) (hc : RP c) : 0 ≤ d2 p c ∧ d2 p c ≤ 40673134134689792 := by
  obtain ⟨h1, h2⟩ := sub_pd hp hc
  have b1 := b56 h1 h1; have b2 := b56 h2 h2
  have n1 := sq_nn (p.X - c.X); have n2 := sq_nn (p.Y - c.Y)
  unfold d2
  simp only at *
  omega
theorem sq_eq {p c : TPoint} (hp : PB p) (hc : RP c) : FsqS p c = d2 p c := by
  unfold FsqS
  rw [sub_pb hp hc, dot_pd (sub_pd hp hc) (sub_pd hp hc)]
  rfl
/-- How far along an edge's line a point lies. -/
def al (a b p : TPoint) : Int := (p.X - a.X) * (b.X - a.X) + (p.Y - a.Y) * (b.Y - a.Y)
/-- The point lies in the quarter of an arc. -/
def Fac (e : TEdge) (p : TPoint) : Prop := if e.Kind = 3 then 0 ≤ (e.B.X - e.C.X) * (p.Y - e.C.Y) - (e.B.Y - e.C.Y) * (p.X - e.C.X) ∧ 0 ≤ (p.X - e.C.X) * (e.A.Y - e.C.Y) - (p.Y - e.C.Y) * (e.A.X - e.C.X) else
  0 ≤ (e.A.X - e.C.X) * (p.Y - e.C.Y) - (e.A.Y - e.C.Y) * (p.X - e.C.X) ∧ 0 ≤ (p.X - e.C.X) * (e.B.Y - e.C.Y) - (p.Y - e.C.Y) * (e.B.X - e.C.X)
/-- The distance of a point from an edge is at most r. -/
def NearM (e : TEdge) (p : TPoint) (r : Int) : Prop := d2 p e.A ≤ r * r ∨ d2 p e.B ≤ r * r ∨ if e.Kind = 1 then (0 < al e.A e.B p ∧ al e.A e.B p < d2 e.B e.A) ∧ cr e.A e.B p * cr e.A e.B p ≤ r * r * d2 e.B e.A
  else Fac e p ∧ d2 p e.C ≤ (RadM e + r) * (RadM e + r) ∧ max (RadM e - r) 0 * max (RadM e - r) 0 ≤ d2 p e.C
theorem within_pd {d f t : TPoint} (hd : PD d) (hf : PD f) (ht : PD t) : FvecWithin d f t = true ↔ 0 ≤ f.X * d.Y - f.Y * d.X ∧ 0 ≤ d.X * t.Y - d.Y * t.X := by
  unfold FvecWithin
  rw [cross_pd hf hd, cross_pd hd ht, decide_eq_true_eq]
  omega
theorem near_eq {e : TEdge} {p : TPoint} {r : Int} (he : OkE e) (hp : PB p) (hr : 0 ≤ r ∧ r ≤ 4194304) : FnearS e p r = true ↔ NearM e p r := by
  obtain ⟨⟨ha, hb, hc⟩, hform⟩ := he
  have hrr := mul_up hr hr
  have hrad := rad_b e
  have er : W64 (r * r) = r * r := W64_id (by omega) (by omega)
  have e1 : W64 (FRadius e + r) = RadM e + r := by rw [rad_eq]; exact W64_id (by omega) (by omega)
  have e2 : W64 (FRadius e - r) = RadM e - r := by rw [rad_eq]; exact W64_id (by omega) (by omega)
  have m1 := mul_up (a := RadM e + r) (b := RadM e + r) (A := 272629760) (B := 272629760) (by omega) (by omega)
  have m2 := mul_up (a := max (RadM e - r) 0) (b := max (RadM e - r) 0) (A := 268435456) (B := 268435456) (by omega) (by omega)
  have e3 : W64 ((RadM e + r) * (RadM e + r)) = (RadM e + r) * (RadM e + r) := W64_id (by omega) (by omega)
  have e4 : W64 (max (RadM e - r) 0 * max (RadM e - r) 0) = max (RadM e - r) 0 * max (RadM e - r) 0 := W64_id (by omega) (by omega)
  have dA := sub_pd hp ha; have dC := sub_pd hp hc
  have dAC := sub_pd (rp_pb ha) hc; have dBC := sub_pd (rp_pb hb) hc; have dBA := sub_pd (rp_pb hb) ha
  unfold FnearS NearM wnearS_2 wnearS_1 wnearS_0 wnearS_5 wnearS_3 wnearS_4
  rw [sq_eq hp ha, sq_eq hp hb, sq_eq hp hc, er, e1, e2, e3, e4, sub_pb hp ha, sub_pb hp hc, sub_pb (rp_pb ha) hc, sub_pb (rp_pb hb) hc, sub_pb (rp_pb hb) ha, dot_pd dA dBA, dot_pd dBA dBA, cross_pd dBA dA]
  have hcr : -40673134134689792 ≤ cr e.A e.B p ∧ cr e.A e.B p ≤ 40673134134689792 := by
    have b1 := b56 dBA.1 dA.2; have b2 := b56 dBA.2 dA.1
    unfold cr
    simp only at *
    omega
  have hlen := d2_b (rp_pb hb) ha
  have ecr : (e.B.X - e.A.X) * (p.Y - e.A.Y) - (e.B.Y - e.A.Y) * (p.X - e.A.X) = cr e.A e.B p := rfl
  have eal : (p.X - e.A.X) * (e.B.X - e.A.X) + (p.Y - e.A.Y) * (e.B.Y - e.A.Y) = al e.A e.B p := rfl
  have elen : (e.B.X - e.A.X) * (e.B.X - e.A.X) + (e.B.Y - e.A.Y) * (e.B.Y - e.A.Y) = d2 e.B e.A := rfl
  simp only [ecr, eal, elen]
  have en : W64 (0 - cr e.A e.B p) = - cr e.A e.B p := by rw [W64_id (by omega) (by omega)]; omega
  rw [en]
  have hmax : max (cr e.A e.B p) (-cr e.A e.B p) * max (cr e.A e.B p) (-cr e.A e.B p) = cr e.A e.B p * cr e.A e.B p := by
    rcases Int.le_total 0 (cr e.A e.B p) with h | h
    · rw [Int.max_eq_left (by omega)]
    · rw [Int.max_eq_right (by omega), Int.neg_mul_neg]
  rw [prod_le (b := 0) (by omega) _ _ (by omega) (by omega), hmax]
  simp only [cnd_or, cnd_and]
  simp only [cnd_if, Bool.or_eq_true, Bool.and_eq_true, decide_eq_true_eq, Bool.not_eq_true']
  by_cases hA : d2 p e.A ≤ r * r
  · simp [hA]
  by_cases hB : d2 p e.B ≤ r * r
  · simp [hA, hB]
  simp only [hA, hB, or_self, if_false, false_or]
  by_cases hk : e.Kind = 1
  · simp only [hk, decide_true, Bool.true_eq_false, if_false, if_true]
    by_cases h1 : al e.A e.B p ≤ 0
    · simp [h1]; omega
    by_cases h2 : d2 e.B e.A ≤ al e.A e.B p
    · simp [h2]; omega
    simp only [h1, h2, or_self, if_false, decide_eq_true_eq]
    constructor
    · intro h; exact ⟨⟨by omega, by omega⟩, h⟩
    · exact fun h => h.2
  · simp only [hk, decide_false, Bool.false_eq_true, if_true, if_false]
    unfold Fac
    by_cases h3 : e.Kind = 3
    · simp only [h3, decide_true, if_true]
      rw [Bool.and_eq_true, Bool.and_eq_true, within_pd dC dBC dAC, decide_eq_true_eq, decide_eq_true_eq, and_assoc]
    · simp only [h3, decide_false, if_false, Bool.false_eq_true]
      rw [Bool.and_eq_true, Bool.and_eq_true, within_pd dC dAC dBC, decide_eq_true_eq, decide_eq_true_eq, and_assoc]
end Go.Proofs.Ytpnlegfdkkcnlaa
