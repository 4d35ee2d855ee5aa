/-
  No statement is proved in this text. It holds laws of searches in lists.
-/
import Derived.Test.YtoojlpcimogehaaProg
import Derived.Test.YtoojlpcimogehaaK21l
namespace Go.Proofs.Ytoojlpcimogehaa
open Go.RowKit
set_option linter.unusedVariables false
set_option linter.unusedSimpArgs false
section
variable {α : Type} [Inhabited α]
theorem drop_cons (l : List α) (k : Nat) (h : k < l.length) : l.drop k = l.getD k default :: l.drop (k + 1) := by
  rw [List.getD_eq_getElem?_getD, List.getElem?_eq_getElem h]
  exact List.drop_eq_getElem_cons h
theorem srch_any (xs : List α) (p : α → Bool) (L : Nat → Int → Int) (hL : ∀ n k, L (n + 1) k = bif decide (k < (xs.length : Int)) then (bif p (xs.getD k.toNat default) then k else L n (k + 1)) else (-1)) :
    ∀ f (k : Nat), xs.length - k < f → decide ((0 : Int) ≤ L f (k : Int)) = (xs.drop k).any p := by
  intro f
  induction f with
  | zero => intro k h; omega
  | succ f ih =>
    intro k h
    rw [hL]
    by_cases hk : k < xs.length
    · rw [decide_eq_true (show (k : Int) < (xs.length : Int) by omega), drop_cons xs k hk, List.any_cons, Int.toNat_natCast]
      cases hp : p (xs.getD k default)
      · simp only [cond_true, cond_false, Bool.false_or]
        exact ih (k + 1) (by omega)
      · simp only [cond_true, Bool.true_or]
        exact decide_eq_true (by omega)
    · rw [decide_eq_false (show ¬ (k : Int) < (xs.length : Int) by omega), List.drop_eq_nil_of_le (by omega)]
      rfl
theorem srchB_any (xs : List α) (p : α → Bool) (L : Nat → Int → Bool) (hL : ∀ n k, L (n + 1) k = bif decide (k < (xs.length : Int)) then (bif p (xs.getD k.toNat default) then true else L n (k + 1)) else false) :
    ∀ f (k : Nat), xs.length - k < f → L f (k : Int) = (xs.drop k).any p := by
  intro f
  induction f with
  | zero => intro k h; omega
  | succ f ih =>
    intro k h
    rw [hL]
    by_cases hk : k < xs.length
    · rw [decide_eq_true (show (k : Int) < (xs.length : Int) by omega), drop_cons xs k hk, List.any_cons, Int.toNat_natCast]
      cases hp : p (xs.getD k default)
      · simp only [cond_true, cond_false, Bool.false_or]
        exact ih (k + 1) (by omega)
      · simp only [cond_true, Bool.true_or]
    · rw [decide_eq_false (show ¬ (k : Int) < (xs.length : Int) by omega), List.drop_eq_nil_of_le (by omega)]
      rfl
omit [Inhabited α] in
theorem any_eq (xs : List α) {p q : α → Bool} (h : ∀ x, p x = q x) : xs.any p = xs.any q := by rw [show p = q from funext h]
end
theorem conS_any (s : List ByteArray) (v : ByteArray) : FconS s v = s.any fun y => v.toList == y.toList :=
  srch_any s (fun y => v.toList == y.toList) (FidxS_l0 s v) (fun _ _ => rfl) _ 0 (by omega)
section
variable (K1 : TAsked → TCond → Bool)
theorem coEa_any (xs : List TCond) (q : TAsked) : FcoEa K1 xs q = xs.any fun x => K1 q x := srch_any xs (fun x => K1 q x) (FixEa_l0 K1 xs q) (fun _ _ => rfl) _ 0 (by omega)
theorem coEb_any (xs : List TCond) (q : TAsked) : FcoEb K1 xs q = xs.any fun x => !(K1 q x) := srch_any xs (fun x => !(K1 q x)) (FixEb_l0 K1 xs q) (fun _ _ => rfl) _ 0 (by omega)
end
end Go.Proofs.Ytoojlpcimogehaa
