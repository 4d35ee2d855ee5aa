/-
  No statement is proved in this text. It holds the plain law of rules: what some rules answer.
-/
import Derived.Test.YtoojlpcimogehaaProg
import Derived.Test.YtoojlpcimogehaaPl21
namespace Go.Proofs.Ytoojlpcimogehaa
open Go.RowKit
set_option linter.unusedVariables false
set_option linter.unusedSimpArgs false
abbrev Ans := Int × ByteArray × Int
def stepJ (acc : List TRule) (x : TRule) : List TRule :=
  bif (bif decide ((0 : Int) < (((acc.length : Nat) : Int))) then decide ((x.Priority : Int) < ((acc.getD 0 default).Priority)) else false) then acc else
  bif (bif decide ((0 : Int) < (((acc.length : Nat) : Int))) then decide ((((acc.getD 0 default).Priority) : Int) < x.Priority) else false) then [x] else acc ++ [x]
def endJ (t : List TRule) : Ans := bif decide (((((t.length : Nat) : Int)) : Int) = 0) then ((0, ({ data := #[] } : ByteArray), 0)) else (bif decide ((0 : Int) ≤ (FixR t t)) then ((0, (((t.getD 0 default).Name) ++ (({ data := #[47] } : ByteArray))) ++ ((t.getD ((FixR t t).toNat) default).Name), 41)) else (((t.getD 0 default).Value, (t.getD 0 default).Name, 0)))
theorem res_gen (l : List TRule) (p : TRule → Bool) (L : Nat → List TRule → Int → Ans)
    (hL : ∀ n acc k, L (n + 1) acc k = bif decide (k < (l.length : Int)) then
      (bif bif !(p (l.getD k.toNat default)) then true else (bif decide ((0 : Int) < (((acc.length : Nat) : Int))) then decide ((((l.getD k.toNat default).Priority) : Int) < ((acc.getD 0 default).Priority)) else false) then L n acc (k + 1) else
        (bif (bif decide ((0 : Int) < (((acc.length : Nat) : Int))) then decide ((((acc.getD 0 default).Priority) : Int) < ((l.getD k.toNat default).Priority)) else false) then L n [l.getD k.toNat default] (k + 1) else L n (acc ++ [l.getD k.toNat default]) (k + 1))) else endJ acc) :
    ∀ f acc (k : Nat), l.length - k < f → L f acc (k : Int) = endJ (((l.drop k).filter p).foldl stepJ acc) := by
  intro f
  induction f with
  | zero => intro acc k h; omega
  | succ f ih =>
    intro acc k h
    rw [hL]
    by_cases hk : k < l.length
    · rw [decide_eq_true (show (k : Int) < (l.length : Int) by omega), drop_cons l k hk, List.filter_cons, Int.toNat_natCast]
      have i := fun acc => ih acc (k + 1) (by omega)
      have e : ((k : Nat) : Int) + 1 = ((k + 1 : Nat) : Int) := by omega
      rw [e]
      simp only [cond_true]
      cases hp : p (l.getD k default)
      · simp only [Bool.not_false, cond_true, Bool.false_eq_true, if_false]
        exact i acc
      · simp only [Bool.not_true, cond_false, if_true, List.foldl_cons, i]
        generalize l.getD k default = x
        unfold stepJ
        cases (bif decide ((0 : Int) < (((acc.length : Nat) : Int))) then decide ((x.Priority : Int) < ((acc.getD 0 default).Priority)) else false)
        · simp only [cond_false]
          cases (bif decide ((0 : Int) < (((acc.length : Nat) : Int))) then decide ((((acc.getD 0 default).Priority) : Int) < x.Priority) else false)
          · rfl
          · rfl
        · rfl
    · rw [decide_eq_false (show ¬ (k : Int) < (l.length : Int) by omega), List.drop_eq_nil_of_le (by omega)]
      rfl
/-- What a list of rules of the greatest priority answers: its first rule, and those behind it. -/
def confR (r0 : TRule) : List TRule → Ans
  | [] => (r0.Value, r0.Name, 0)
  | r :: l => if r.Value = r0.Value then confR r0 l else (0, (r0.Name ++ (({ data := #[47] } : ByteArray))) ++ r.Name, 41)
def selR : List TRule → Ans
  | [] => (0, ({ data := #[] } : ByteArray), 0)
  | r :: l => confR r l
theorem ix_conf (r0 : TRule) (t xs : List TRule) : ∀ f (k : Nat), xs.length - k < f →
    (bif decide ((0 : Int) ≤ (FixR_l0 xs (r0 :: t) f k)) then ((0, (r0.Name ++ (({ data := #[47] } : ByteArray))) ++ ((xs.getD ((FixR_l0 xs (r0 :: t) f k).toNat) default).Name), 41) : Ans) else ((r0.Value, r0.Name, 0))) = confR r0 (xs.drop k) := by
  intro f
  induction f with
  | zero => intro k h; omega
  | succ f ih =>
    intro k h
    have e : FixR_l0 xs (r0 :: t) (f + 1) (k : Int) = bif decide ((k : Int) < ((xs.length : Int))) then (bif Fre63 (xs.getD (k : Int).toNat default) (r0 :: t) then (k : Int) else ((FixR_l0 xs (r0 :: t) f) (((k + 1 : Nat) : Int)))) else ((-1)) := rfl
    rw [e]
    by_cases hk : k < xs.length
    · rw [decide_eq_true (show (k : Int) < (xs.length : Int) by omega), drop_cons xs k hk, Int.toNat_natCast]
      simp only [cond_true]
      by_cases hv : (xs.getD k default).Value = r0.Value
      · have h63 : Fre63 (xs.getD k default) (r0 :: t) = false := by
          show (!decide ((xs.getD k default).Value = r0.Value)) = false
          rw [decide_eq_true hv]; rfl
        rw [h63]
        simp only [cond_false]
        rw [ih (k + 1) (by omega)]
        exact (if_pos hv).symm
      · have h63 : Fre63 (xs.getD k default) (r0 :: t) = true := by
          show (!decide ((xs.getD k default).Value = r0.Value)) = true
          rw [decide_eq_false hv]; rfl
        rw [h63]
        simp only [cond_true, Int.toNat_natCast]
        rw [decide_eq_true (show (0 : Int) ≤ (k : Int) by omega)]
        exact (if_neg hv).symm
    · rw [decide_eq_false (show ¬ (k : Int) < (xs.length : Int) by omega), List.drop_eq_nil_of_le (by omega)]
      rfl
theorem endJ_sel : ∀ t : List TRule, endJ t = selR t
  | [] => rfl
  | r0 :: t => by
    unfold endJ
    rw [decide_eq_false (show ¬ ((((r0 :: t).length : Nat) : Int)) = 0 by simp only [List.length_cons]; omega)]
    have h := ix_conf r0 t (r0 :: t) ((((((r0 :: t).length : Int))) - 0).toNat + 1) 0 (by omega)
    refine h.trans ?_
    show (if r0.Value = r0.Value then confR r0 t else _) = confR r0 t
    exact if_pos rfl
/-- What some rules answer. -/
def Sres (rs : List TRule) : Ans := selR (rs.foldl stepJ [])
theorem resC_eq (n : Nat) (l : List TRule) (p q : TAsked) : FresC n l p q = Sres (l.filter fun r => Fcl34 n r p q) := by
  have h := res_gen l (fun r => Fcl34 n r p q) (FresC_l0 n l p q) (fun _ _ _ => rfl) (((((l.length : Int))) - 0).toNat + 1) [] 0 (by omega)
  exact h.trans (endJ_sel _)
theorem resV_eq (n : Nat) (l : List TRule) (what : Int) (b : TBoard) (it : TItem) (layer : Int) : FresV n l what b it layer = Sres (l.filter fun r => Fva37 n r what b it layer) := by
  have h := res_gen l (fun r => Fva37 n r what b it layer) (FresV_l0 n l what b it layer) (fun _ _ _ => rfl) (((((l.length : Int))) - 0).toNat + 1) [] 0 (by omega)
  exact h.trans (endJ_sel _)
theorem filter_eq (l : List TRule) {p q : TRule → Bool} (h : ∀ r, p r = q r) : l.filter p = l.filter q := by rw [show p = q from funext h]
theorem jClear_eq (m : Nat) (b : TBoard) (ix iy : TItem) (layer : Int) : FjClear m b ix iy layer = bif wjClear_0 ix iy then ((0, ({ data := #[] } : ByteArray), 0)) else Sres (b.Rules.filter fun r => Fcl34 m r ⟨b, ix, layer⟩ ⟨b, iy, layer⟩) := by
  unfold FjClear
  rw [resC_eq]
theorem jValue_eq (m : Nat) (b : TBoard) (what : Int) (it : TItem) (layer : Int) : FjValue m b what it layer = Sres (b.Rules.filter fun r => Fva37 m r what b it layer) := by
  unfold FjValue
  rw [resV_eq]
theorem sanity_true : Fsanity = true := by decide +kernel
end Go.Proofs.Ytoojlpcimogehaa
