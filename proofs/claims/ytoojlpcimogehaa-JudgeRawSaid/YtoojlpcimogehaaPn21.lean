/-
  No statement is proved in this text. It holds the plain law of rules: Clear, Value and Most answer alike in both implementations.
-/
import Derived.Test.YtoojlpcimogehaaProg
import Derived.Test.YtoojlpcimogehaaK21g
import Derived.Test.YtoojlpcimogehaaPe21
import Derived.Test.YtoojlpcimogehaaPm21
namespace Go.Proofs.Ytoojlpcimogehaa
open Go.RowKit
set_option linter.unusedVariables false
set_option linter.unusedSimpArgs false
theorem res_l1 (l : List TRule) (v5 v6 : Int) (K0 : Int → Int → Ans) : ∀ f (k : Nat) (v7 : TRule) (v8 : Bool), l.length - k < f →
    FrResult_l1 l v5 v6 K0 f v7 v8 (k : Int) = bif v8 then confR v7 ((l.drop k).filter fun r => decide (r.Priority = v5)) else (match (l.drop k).filter fun r => decide (r.Priority = v5) with | [] => (v7.Value, v7.Name, 0) | r :: t => confR r t) := by
  intro f
  induction f with
  | zero => intro k v7 v8 h; omega
  | succ f ih =>
    intro k v7 v8 h
    unfold FrResult_l1
    have e : ((k : Nat) : Int) + 1 = ((k + 1 : Nat) : Int) := by omega
    rw [e]
    by_cases hk : k < l.length
    · have i := fun v7 v8 => ih (k + 1) v7 v8 (by omega)
      rw [decide_eq_true (show (k : Int) < (l.length : Int) by omega), drop_cons l k hk, Int.toNat_natCast]
      simp only [cond_true]
      by_cases hp : (l.getD k default).Priority = v5
      · rw [decide_eq_true hp, List.filter_cons_of_pos (by simpa using hp)]
        simp only [Bool.not_true, cond_false, i]
        cases v8
        · rfl
        · simp only [Bool.not_true, cond_false, cond_true]
          by_cases hv : (l.getD k default).Value = v7.Value
          · rw [decide_eq_true hv]
            exact (if_pos hv).symm
          · rw [decide_eq_false hv]
            exact (if_neg hv).symm
      · rw [decide_eq_false hp, List.filter_cons_of_neg (by simpa using hp)]
        simp only [Bool.not_false, cond_true]
        exact i v7 v8
    · rw [decide_eq_false (show ¬ (k : Int) < (l.length : Int) by omega), List.drop_eq_nil_of_le (by omega)]
      cases v8 <;> rfl
def maxP (v : Int) (l : List TRule) : Int := l.foldl (fun a r => max a r.Priority) v
theorem res_l0 (l : List TRule) : ∀ f (k : Nat) (v : Int), l.length - k < f → FrResult_l0 l f v (k : Int) = selR (l.filter fun r => decide (r.Priority = maxP v (l.drop k))) := by
  intro f
  induction f with
  | zero => intro k v h; omega
  | succ f ih =>
    intro k v h
    unfold FrResult_l0
    have e : ((k : Nat) : Int) + 1 = ((k + 1 : Nat) : Int) := by omega
    by_cases hk : k < l.length
    · rw [decide_eq_true (show (k : Int) < (l.length : Int) by omega), drop_cons l k hk, Int.toNat_natCast, e]
      exact ih (k + 1) _ (by omega)
    · rw [decide_eq_false (show ¬ (k : Int) < (l.length : Int) by omega), List.drop_eq_nil_of_le (by omega)]
      refine (res_l1 l v (k : Int) (FrResult_l0 l f) _ 0 _ false (by omega)).trans ?_
      show (match l.filter (fun r => decide (r.Priority = v)) with | [] => _ | r :: t => confR r t) = selR (l.filter fun r => decide (r.Priority = v))
      cases l.filter (fun r => decide (r.Priority = v)) <;> rfl
theorem maxP_ge (l : List TRule) : ∀ v, v ≤ maxP v l := by
  induction l with
  | nil => intro v; exact Int.le_refl v
  | cons r l ih => intro v; have := ih (max v r.Priority); show v ≤ maxP (max v r.Priority) l; omega
theorem tops (l : List TRule) : ∀ (acc : List TRule) (P : Int), acc ≠ [] → (∀ r ∈ acc, r.Priority = P) →
    l.foldl stepJ acc = if maxP P l = P then acc ++ l.filter (fun r => decide (r.Priority = P)) else l.filter fun r => decide (r.Priority = maxP P l) := by
  induction l with
  | nil => intro acc P h0 h; simp [maxP]
  | cons x l ih =>
    intro acc P h0 h
    have hP : (acc.getD 0 default).Priority = P := by
      cases acc with
      | nil => exact absurd rfl h0
      | cons a t => exact h a (by simp)
    have hl : (0 : Int) < (((acc.length : Nat) : Int)) := by
      cases acc with
      | nil => exact absurd rfl h0
      | cons a t => simp only [List.length_cons]; omega
    rw [List.foldl_cons]
    have hs : stepJ acc x = if x.Priority < P then acc else if P < x.Priority then [x] else acc ++ [x] := by
      unfold stepJ
      rw [decide_eq_true hl, hP]
      by_cases h1 : x.Priority < P
      · rw [decide_eq_true h1, if_pos h1]; rfl
      · rw [decide_eq_false h1, if_neg h1]
        by_cases h2 : P < x.Priority
        · rw [decide_eq_true h2, if_pos h2]; rfl
        · rw [decide_eq_false h2, if_neg h2]; rfl
    have hm : maxP P (x :: l) = maxP (max P x.Priority) l := rfl
    rw [hs, hm]
    by_cases h1 : x.Priority < P
    · rw [if_pos h1, show max P x.Priority = P by omega, ih acc P h0 h]
      have hg := maxP_ge l P
      by_cases hM : maxP P l = P
      · rw [if_pos hM, if_pos hM, List.filter_cons_of_neg (by simp; omega)]
      · rw [if_neg hM, if_neg hM, List.filter_cons_of_neg (by simp; omega)]
    · rw [if_neg h1]
      by_cases h2 : P < x.Priority
      · rw [if_pos h2, show max P x.Priority = x.Priority by omega, ih [x] x.Priority (by simp) (by simp)]
        have hg := maxP_ge l x.Priority
        rw [if_neg (show ¬ maxP x.Priority l = P by omega)]
        by_cases hM : maxP x.Priority l = x.Priority
        · rw [if_pos hM, hM, List.filter_cons_of_pos (by simp)]; rfl
        · rw [if_neg hM, List.filter_cons_of_neg (by simp; omega)]
      · have hx : x.Priority = P := by omega
        rw [if_neg h2, show max P x.Priority = P by omega, ih (acc ++ [x]) P (by simp) (by
          intro r hr
          rcases List.mem_append.1 hr with hr | hr
          · exact h r hr
          · rw [List.mem_singleton.1 hr]; exact hx)]
        by_cases hM : maxP P l = P
        · rw [if_pos hM, if_pos hM, List.filter_cons_of_pos (by simp [hx]), List.append_assoc]; rfl
        · have hg := maxP_ge l P
          rw [if_neg hM, if_neg hM, List.filter_cons_of_neg (by simp; omega)]
theorem rResult_eq : ∀ rs : List TRule, FrResult rs = Sres rs
  | [] => rfl
  | a :: l => by
    unfold FrResult
    rw [decide_eq_false (show ¬ (((a :: l).length : Int)) = 0 by simp only [List.length_cons]; omega)]
    refine (res_l0 (a :: l) (((((a :: l).length : Int)) - 1).toNat + 1) 1 a.Priority (by simp)).trans ?_
    show selR _ = selR (l.foldl stepJ [a])
    rw [tops l [a] a.Priority (by simp) (by simp)]
    show selR ((a :: l).filter fun r => decide (r.Priority = maxP a.Priority l)) = _
    have hg := maxP_ge l a.Priority
    by_cases hM : maxP a.Priority l = a.Priority
    · rw [if_pos hM, hM, List.filter_cons_of_pos (by simp)]; rfl
    · rw [if_neg hM, List.filter_cons_of_neg (by simp; omega)]
theorem coll_gen (l : List TRule) (p : TRule → Bool) (L : Nat → List TRule → Int → Ans)
    (hL : ∀ n acc k, L (n + 1) acc k = bif decide (k < (l.length : Int)) then (bif p (l.getD k.toNat default) then L n (acc ++ [l.getD k.toNat default]) (k + 1) else L n acc (k + 1)) else FrResult acc) :
    ∀ f acc (k : Nat), l.length - k < f → L f acc (k : Int) = FrResult (acc ++ (l.drop k).filter p) := by
  intro f
  induction f with
  | zero => intro acc k h; omega
  | succ f ih =>
    intro acc k h
    rw [hL]
    have e : ((k : Nat) : Int) + 1 = ((k + 1 : Nat) : Int) := by omega
    rw [e]
    by_cases hk : k < l.length
    · rw [decide_eq_true (show (k : Int) < (l.length : Int) by omega), drop_cons l k hk, List.filter_cons, Int.toNat_natCast]
      simp only [cond_true, fun acc => ih acc (k + 1) (by omega)]
      cases hp : p (l.getD k default)
      · simp
      · simp [List.append_assoc]
    · rw [decide_eq_false (show ¬ (k : Int) < (l.length : Int) by omega), List.drop_eq_nil_of_le (by omega)]
      simp
theorem rValue_eq (m : Nat) (b : TBoard) (what : Int) (it : TItem) (layer : Int) : FrValue m b what it layer = Sres (b.Rules.filter fun r => Fva37 m r what b it layer) := by
  have h := coll_gen b.Rules (fun r => bif decide (r.What = what) then Fhold m b r.A it layer else false) (FrValue_l0 m b what it layer) (fun _ _ _ => rfl) (((((b.Rules.length : Int))) - 0).toNat + 1) [] 0 (by omega)
  refine h.trans ((rResult_eq _).trans (congrArg Sres ?_))
  refine filter_eq b.Rules fun r => ?_
  show _ = (bif decide ((r.What : Int) = what) then Feval m (TAsked.mk b it layer) r.A else false)
  rw [eval_hold]
theorem rClear_eq (m : Nat) (b : TBoard) (ix iy : TItem) (layer : Int) : FrClear m b ix iy layer = bif wjClear_0 ix iy then ((0, ({ data := #[] } : ByteArray), 0)) else Sres (b.Rules.filter fun r => Fcl34 m r ⟨b, ix, layer⟩ ⟨b, iy, layer⟩) := by
  unfold FrClear
  rw [show wrClear_0 ix iy = wjClear_0 ix iy from rfl]
  cases wjClear_0 ix iy
  · have h := coll_gen b.Rules (fun r => bif !decide (r.What = 1) then false else (bif (bif Fhold m b r.A ix layer then Fhold m b r.B iy layer else false) then true else (bif Fhold m b r.A iy layer then Fhold m b r.B ix layer else false)))
      (FrClear_l0 m b ix iy layer) (fun n acc k => by
        show (bif _ then (bif !decide ((((b.Rules.getD k.toNat default).What) : Int) = 1) then _ else (bif (bif (bif Fhold m b (b.Rules.getD k.toNat default).A ix layer then Fhold m b (b.Rules.getD k.toNat default).B iy layer else false) then true else (bif Fhold m b (b.Rules.getD k.toNat default).A iy layer then Fhold m b (b.Rules.getD k.toNat default).B ix layer else false)) then _ else _)) else _) = _
        cases decide (k < (b.Rules.length : Int))
        · rfl
        · cases h1 : decide ((((b.Rules.getD k.toNat default).What) : Int) = 1)
          · simp only [h1, Bool.not_false, cond_true, cond_false]
          · simp only [h1, Bool.not_true, cond_true, cond_false]) (((((b.Rules.length : Int))) - 0).toNat + 1) [] 0 (by omega)
    refine h.trans ((rResult_eq _).trans (congrArg Sres ?_))
    refine filter_eq b.Rules fun r => ?_
    show _ = (bif decide ((r.What : Int) = 1) then bif bif Feval m ⟨b, ix, layer⟩ r.A then Feval m ⟨b, iy, layer⟩ r.B else false then true else bif Feval m ⟨b, iy, layer⟩ r.A then Feval m ⟨b, ix, layer⟩ r.B else false else false)
    simp only [eval_hold]
    cases decide (r.What = 1) <;> rfl
  · rfl
theorem clear_alike (m : Nat) (b : TBoard) (ix iy : TItem) (layer : Int) : FjClear m b ix iy layer = FrClear m b ix iy layer := (jClear_eq m b ix iy layer).trans (rClear_eq m b ix iy layer).symm
theorem value_alike (m : Nat) (b : TBoard) (what : Int) (it : TItem) (layer : Int) : FjValue m b what it layer = FrValue m b what it layer := (jValue_eq m b what it layer).trans (rValue_eq m b what it layer).symm
theorem most_alike (b : TBoard) : FjMost b = FrMost b := by
  have h : ∀ n a k, FjMost_l0 b n a k = FrMost_l0 b n a k := by
    intro n
    induction n with
    | zero => intro a k; rfl
    | succ n ih => intro a k; unfold FjMost_l0 FrMost_l0; rw [ih]
  exact h _ _ _
end Go.Proofs.Ytoojlpcimogehaa
