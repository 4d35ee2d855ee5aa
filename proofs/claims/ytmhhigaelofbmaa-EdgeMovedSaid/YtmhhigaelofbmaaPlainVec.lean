/-
  No statement is proved in this text. It holds the plain functions that chapter 5 computes, with the wraps of Go's int.
-/
import Derived.WalkKit
import Derived.Laws.BitsAllLaws
import Derived.Laws.BitsLemmas
namespace Go.Proofs.Ytmhhigaelofbmaa
open Go.RowKit

theorem and3 (t : Int) : bits .and .i64 t 3 = t % 4 := by
  show IntKind.i64.wrap ((BitVec.ofInt 64 t &&& BitVec.ofInt 64 3).toNat : Int) = _
  have h : (BitVec.ofInt 64 t &&& BitVec.ofInt 64 3) = BitVec.ofInt 64 t % 4#64 := by
    generalize BitVec.ofInt 64 t = x
    show x &&& 3#64 = x % 4#64
    apply BitVec.eq_of_toNat_eq
    rw [BitVec.toNat_and, BitVec.toNat_umod]
    show x.toNat &&& 3 = x.toNat % 4
    exact Nat.and_two_pow_sub_one_eq_mod x.toNat 2
  rw [h, BitVec.toNat_umod, BitVec.toNat_ofInt, IntKind.wrap_i64]
  have : ((4#64).toNat) = 4 := rfl
  rw [this]
  omega

theorem tmod_nonneg (n m : Int) (h : 0 ≤ n) : n.tmod m = n % m := Int.tmod_eq_emod_of_nonneg h
theorem tmod_neg (n m : Int) (h : n < 0) : n.tmod m = -((-n) % m) := by
  have h1 : n = -(-n) := by omega
  rw [h1, Int.neg_tmod, Int.tmod_eq_emod_of_nonneg (by omega)]
  simp
theorem tmod4 (n : Int) : n.tmod 4 = n - 4 * n.tdiv 4 := by have := Int.mul_tdiv_add_tmod n 4; omega
theorem turns_eq (n : Int) : (wrap64 (n.tmod 4 + 4)).tmod 4 = n % 4 := by
  rcases Int.lt_or_le n 0 with h | h
  · rw [tmod_neg n 4 h]
    have h1 : wrap64 (-((-n) % 4) + 4) = -((-n) % 4) + 4 := by unfold wrap64; omega
    rw [h1, tmod_nonneg _ _ (by omega)]
    omega
  · rw [tmod_nonneg n 4 h]
    have h1 : wrap64 (n % 4 + 4) = n % 4 + 4 := by unfold wrap64; omega
    rw [h1, tmod_nonneg _ _ (by omega)]
    omega

/-- A number that an int holds. -/
def R64 (x : Int) : Prop := -9223372036854775808 ≤ x ∧ x ≤ 9223372036854775807
theorem r64_wrap (x : Int) : R64 (wrap64 x) := by unfold R64 wrap64; omega
theorem r64_small (x : Int) (h : -4611686018427387904 ≤ x ∧ x ≤ 4611686018427387904) : R64 x := by unfold R64; omega
theorem wrap_r64 {x : Int} (h : R64 x) : wrap64 x = x := by unfold R64 at h; unfold wrap64; omega

namespace V
def neg (x : Int) : Int := wrap64 (-x)
def add (x y : Int) : Int := wrap64 (x + y)
def sub (x y : Int) : Int := wrap64 (x - y)
def cross (ax ay bx by' : Int) : Int := wrap64 (wrap64 (ax * by') - wrap64 (ay * bx))
def dot (ax ay bx by' : Int) : Int := wrap64 (wrap64 (ax * bx) + wrap64 (ay * by'))
def sgn (n : Int) : Int := if 0 < n then 1 else if n < 0 then -1 else 0
def side (ax ay bx by' px py : Int) : Int := sgn (cross (sub bx ax) (sub by' ay) (sub px ax) (sub py ay))
def within (dx dy fx fy tx ty : Int) : Bool := decide (0 ≤ cross fx fy dx dy) && decide (0 ≤ cross dx dy tx ty)
def right (x y : Int) : Bool := decide (-67108864 ≤ x) && decide (x ≤ 67108864) && decide (-67108864 ≤ y) && decide (y ≤ 67108864)
def mir (m : Bool) (x : Int) : Int := if m then neg x else x
def turnX (k x y : Int) : Int := if k = 1 then neg y else if k = 2 then neg x else if k = 3 then y else x
def turnY (k x y : Int) : Int := if k = 1 then x else if k = 2 then neg y else if k = 3 then neg x else y
def applyX (x t : Int) (m : Bool) (px py : Int) : Int := add (turnX (t % 4) (mir m px) py) x
def applyY (y t : Int) (m : Bool) (px py : Int) : Int := add (turnY (t % 4) (mir m px) py) y
/-- The turn of a composed motion. -/
def turnC (t : Int) (m : Bool) (t' : Int) : Int := if m then (t % 4 - t' % 4) % 4 else (t % 4 + t' % 4) % 4
def turnI (t : Int) (m : Bool) : Int := if m then t % 4 else (-(t % 4)) % 4
theorem r_neg (x : Int) : R64 (neg x) := r64_wrap _
theorem r_add (x y : Int) : R64 (add x y) := r64_wrap _
theorem r_sub (x y : Int) : R64 (sub x y) := r64_wrap _
theorem r_cross (a b c d : Int) : R64 (cross a b c d) := r64_wrap _
theorem r_dot (a b c d : Int) : R64 (dot a b c d) := r64_wrap _
theorem r_applyX (x t : Int) (m : Bool) (px py : Int) : R64 (applyX x t m px py) := r64_wrap _
theorem r_applyY (x t : Int) (m : Bool) (px py : Int) : R64 (applyY x t m px py) := r64_wrap _
theorem nn {x : Int} (h : R64 x) : wrap64 (-wrap64 (-x)) = x := by unfold R64 at h; unfold wrap64; omega
def invX (x y t : Int) (m : Bool) : Int := neg (applyX 0 (turnI t m) m x y)
def invY (x y t : Int) (m : Bool) : Int := neg (applyY 0 (turnI t m) m x y)
theorem r_invX (x y t : Int) (m : Bool) : R64 (invX x y t m) := r64_wrap _
theorem r_invY (x y t : Int) (m : Bool) : R64 (invY x y t m) := r64_wrap _
theorem r_turnI (t : Int) (m : Bool) : R64 (turnI t m) := by unfold turnI; split <;> exact r64_small _ (by omega)
theorem r_turnC (t : Int) (m : Bool) (t' : Int) : R64 (turnC t m t') := by unfold turnC; split <;> exact r64_small _ (by omega)
theorem sub_zero (v : Int) : sub 0 v = neg v := by unfold sub neg; rw [show (0 : Int) - v = -v from by omega]
attribute [irreducible] neg add sub cross dot sgn side within right mir turnX turnY applyX applyY turnC turnI invX invY
end V
end Go.Proofs.Ytmhhigaelofbmaa
