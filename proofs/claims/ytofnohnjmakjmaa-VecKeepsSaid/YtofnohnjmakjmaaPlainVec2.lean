/-
  No statement is proved in this text. It holds the plain algebra of motions: composing, inverting.
-/
import Derived.Test.YtofnohnjmakjmaaPlainVec
namespace Go.Proofs.Ytofnohnjmakjmaa
open Go.RowKit
set_option linter.unusedSimpArgs false
set_option linter.unusedVariables false
namespace V
theorem w_add_left (a b : Int) : wrap64 (wrap64 a + b) = wrap64 (a + b) := by unfold wrap64; omega
theorem w_add_right (a b : Int) : wrap64 (a + wrap64 b) = wrap64 (a + b) := by unfold wrap64; omega
theorem w_neg (a : Int) : wrap64 (-wrap64 a) = wrap64 (-a) := by unfold wrap64; omega
theorem w_neg_add (a b : Int) : wrap64 (-wrap64 a + b) = wrap64 (-a + b) := by unfold wrap64; omega
theorem w_wrap (a : Int) : wrap64 (wrap64 a) = wrap64 a := by unfold wrap64; omega
theorem w_eq {a b : Int} (h : a = b) : wrap64 a = wrap64 b := by rw [h]
theorem w_is {a b : Int} (h : a = b) (hb : R64 b) : wrap64 a = b := by rw [h]; exact wrap_r64 hb
theorem r0 : R64 0 := by unfold R64; omega

theorem four (t : Int) : t % 4 = 0 ∨ t % 4 = 1 ∨ t % 4 = 2 ∨ t % 4 = 3 := by omega

theorem compX (x y t x' y' t' px py : Int) (m m' mm : Bool) (h : (m != m') = mm) : applyX (applyX x t m x' y') (turnC t m t') mm px py = applyX x t m (applyX x' t' m' px py) (applyY y' t' m' px py) := by
  subst h
  rcases four t with ht | ht | ht | ht <;> rcases four t' with ht' | ht' | ht' | ht' <;> cases m <;> cases m' <;>
    simp [applyX, applyY, turnC, turnX, turnY, mir, add, neg, ht, ht', w_add_left, w_add_right, w_neg, w_neg_add] <;> exact w_eq (by omega)
theorem compY (x y t x' y' t' px py : Int) (m m' mm : Bool) (h : (m != m') = mm) : applyY (applyY y t m x' y') (turnC t m t') mm px py = applyY y t m (applyX x' t' m' px py) (applyY y' t' m' px py) := by
  subst h
  rcases four t with ht | ht | ht | ht <;> rcases four t' with ht' | ht' | ht' | ht' <;> cases m <;> cases m' <;>
    simp [applyX, applyY, turnC, turnX, turnY, mir, add, neg, ht, ht', w_add_left, w_add_right, w_neg, w_neg_add] <;> exact w_eq (by omega)
theorem turnC_assoc (t t' o : Int) (m m' mm : Bool) (h : (m != m') = mm) : turnC (turnC t m t') mm o = turnC t m (turnC t' m' o) := by
  subst h
  cases m <;> cases m' <;> simp [turnC] <;> omega
theorem inv1X (x y t px py : Int) (m : Bool) (h : R64 px) : applyX (invX x y t m) (turnI t m) m (applyX x t m px py) (applyY y t m px py) = px := by
  rcases four t with ht | ht | ht | ht <;> cases m <;>
    simp [applyX, applyY, invX, invY, turnI, turnX, turnY, mir, add, neg, ht, w_add_left, w_add_right, w_neg, w_neg_add] <;> exact w_is (by omega) h
theorem inv1Y (x y t px py : Int) (m : Bool) (h : R64 py) : applyY (invY x y t m) (turnI t m) m (applyX x t m px py) (applyY y t m px py) = py := by
  rcases four t with ht | ht | ht | ht <;> cases m <;>
    simp [applyX, applyY, invX, invY, turnI, turnX, turnY, mir, add, neg, ht, w_add_left, w_add_right, w_neg, w_neg_add] <;> exact w_is (by omega) h
theorem inv2X (x y t px py : Int) (m : Bool) (h : R64 px) : applyX x t m (applyX (invX x y t m) (turnI t m) m px py) (applyY (invY x y t m) (turnI t m) m px py) = px := by
  rcases four t with ht | ht | ht | ht <;> cases m <;>
    simp [applyX, applyY, invX, invY, turnI, turnX, turnY, mir, add, neg, ht, w_add_left, w_add_right, w_neg, w_neg_add] <;> exact w_is (by omega) h
theorem inv2Y (x y t px py : Int) (m : Bool) (h : R64 py) : applyY y t m (applyX (invX x y t m) (turnI t m) m px py) (applyY (invY x y t m) (turnI t m) m px py) = py := by
  rcases four t with ht | ht | ht | ht <;> cases m <;>
    simp [applyX, applyY, invX, invY, turnI, turnX, turnY, mir, add, neg, ht, w_add_left, w_add_right, w_neg, w_neg_add] <;> exact w_is (by omega) h
theorem invinvX (x y t : Int) (m : Bool) : invX (invX x y t m) (invY x y t m) (turnI t m) m = applyX x t m 0 0 := by
  rcases four t with ht | ht | ht | ht <;> cases m <;>
    simp [applyX, applyY, invX, invY, turnI, turnX, turnY, mir, add, neg, ht, w_add_left, w_add_right, w_neg, w_neg_add] <;> exact w_eq (by omega)
theorem invinvY (x y t : Int) (m : Bool) : invY (invX x y t m) (invY x y t m) (turnI t m) m = applyY y t m 0 0 := by
  rcases four t with ht | ht | ht | ht <;> cases m <;>
    simp [applyX, applyY, invX, invY, turnI, turnX, turnY, mir, add, neg, ht, w_add_left, w_add_right, w_neg, w_neg_add] <;> exact w_eq (by omega)
theorem turnII (t : Int) (m : Bool) : turnI (turnI t m) m = turnC t m 0 := by cases m <;> simp [turnI, turnC] <;> omega
theorem invcompX (x y t : Int) (m : Bool) : applyX (invX x y t m) (turnI t m) m x y = 0 := by
  rcases four t with ht | ht | ht | ht <;> cases m <;>
    simp [applyX, applyY, invX, invY, turnI, turnX, turnY, mir, add, neg, ht, w_add_left, w_add_right, w_neg, w_neg_add] <;> exact w_is (by omega) r0
theorem invcompY (x y t : Int) (m : Bool) : applyY (invY x y t m) (turnI t m) m x y = 0 := by
  rcases four t with ht | ht | ht | ht <;> cases m <;>
    simp [applyX, applyY, invX, invY, turnI, turnX, turnY, mir, add, neg, ht, w_add_left, w_add_right, w_neg, w_neg_add] <;> exact w_is (by omega) r0
theorem turnCI (t : Int) (m : Bool) : turnC (turnI t m) m t = 0 := by cases m <;> simp [turnI, turnC] <;> omega
end V
end Go.Proofs.Ytofnohnjmakjmaa
