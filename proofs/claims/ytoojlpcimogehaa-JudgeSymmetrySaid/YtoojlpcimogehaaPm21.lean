/-
  No statement is proved in this text. It holds the plain law of rules: Clear, Value and Most answer alike in both implementations.
-/
import Derived.Test.YtoojlpcimogehaaProg
import Derived.Test.YtoojlpcimogehaaPl21
namespace Go.Proofs.Ytoojlpcimogehaa
open Go.RowKit
set_option linter.unusedVariables false
set_option linter.unusedSimpArgs false
abbrev Ans := Int × ByteArray × Int
def stepJ (acc : List TRule) (x : TRule) : List TRule :=
  bif (bif decide ((0 : Int) < (((acc.length : Nat) : Int))) then decide ((x.Priority : Int) < ((acc.getD 0 default).Priority)) else false) then acc else
  bif (bif decide ((0 : Int) < (((acc.length : Nat) : Int))) then decide ((((acc.getD 0 default).Priority) : Int) < x.Priority) else false) then [x] else acc ++ [x]
def endJ (t : List TRule) : Ans := bif decide (((((t.length : Nat) : Int)) : Int) = 0) then ((0, ({ data := #[] } : ByteArray), 0)) else (bif decide ((0 : Int) ≤ (FixR t t)) then ((0, (((t.getD 0 default).Name) ++ (({ data := #[47] } : ByteArray))) ++ ((t.getD ((FixR t t).toNat) default).Name), 41)) else (((t.getD 0 default).Value, (t.getD 0 default).Name, 0)))
theorem res_gen (l : List TRule) (p : TRule → Bool) (L : Nat → List TRule → Int → Ans)
    (hL : ∀ n acc k, L (n + 1) acc k = bif decide (k < (l.length : Int)) then
      (bif bif !(p (l.getD k.toNat default)) then true else (bif decide ((0 : Int) < (((acc.length : Nat) : Int))) then decide ((((l.getD k.toNat default).Priority) : Int) < ((acc.getD 0 default).Priority)) else false) then L n acc (k + 1) else
        (bif (bif decide ((0 : Int) < (((acc.length : Nat) : Int))) then decide ((((acc.getD 0 default).Priority) : Int) < ((l.getD k.toNat default).Priority)) else false) then L n [l.getD k.toNat default] (k + 1) else L n (acc ++ [l.getD k.toNat default]) (k + 1))) else endJ acc) :
    ∀ f acc (k : Nat), l.length - k < f → L f acc (k : Int) = endJ (((l.drop k).filter p).foldl stepJ acc) := by
  intro f
  induction f with
  | zero => intro acc k h; omega
  | succ f ih =>
    intro acc k h
    rw [hL]
    by_cases hk : k < l.length
    · rw [decide_eq_true (show (k : Int) < (l.length : Int) by omega), drop_cons l k hk, List.filter_cons, Int.toNat_natCast]
      have i := fun acc => ih acc (k + 1) (by omega)
      have e : ((k : Nat) : Int) + 1 = ((k + 1 : Nat) : Int) := by omega
      rw [e]
      simp only [cond_true]
      cases hp : p (l.getD k default)
      · simp only [Bool.not_false, cond_true, Bool.false_eq_true, if_false]
        exact i acc
      · simp only [Bool.not_true, cond_false, if_true, List.foldl_cons, i]
        generalize l.getD k default = x
        unfold stepJ
        cases (bif decide ((0 : Int) < (((acc.length : Nat) : Int))) then decide ((x.Priority : Int) < ((acc.getD 0 default).Priority)) else false)
        · simp only [cond_false]
          cases (bif decide ((0 : Int) < (((acc.length : Nat) : Int))) then decide ((((acc.getD 0 default).Priority) : Int) < x.Priority) else false)
          · rfl
          · rfl
        · rfl
    · rw [decide_eq_false (show ¬ (k : Int) < (l.length : Int) by omega), List.drop_eq_nil_of_le (by omega)]
      rfl
/-- What a list of rules of the greatest priority answers: its first rule, and those behind it. -/
def confR (r0 : TRule) : List TRule → Ans
  | [] => (r0.Value, r0.Name, 0)
  | r :: l => if r.Value = r0.Value then confR r0 l else (0, (r0.Name ++ (({ data := #[47] } : ByteArray))) ++ r.Name, 41)
def selR : List TRule → Ans
  | [] => (0, ({ data := #[] } : ByteArray), 0)
  | r :: l => confR r l
theorem ix_conf (r0 : TRule) (t xs : List TRule) : ∀ f (k : Nat), xs.length - k < f →
    (bif decide ((0 : Int) ≤ (FixR_l0 xs (r0 :: t) f k)) then ((0, (r0.Name ++ (({ data := #[47] } : ByteArray))) ++ ((xs.getD ((FixR_l0 xs (r0 :: t) f k).toNat) default).Name), 41) : Ans) else ((r0.Value, r0.Name, 0))) = confR r0 (xs.drop k) := by
  intro f
  induction f with
  | zero => intro k h; omega
  | succ f ih =>
    intro k h
    have e : FixR_l0 xs (r0 :: t) (f + 1) (k : Int) = bif decide ((k : Int) < ((xs.length : Int))) then (bif Fre63 (xs.getD (k : Int).toNat default) (r0 :: t) then (k : Int) else ((FixR_l0 xs (r0 :: t) f) (((k + 1 : Nat) : Int)))) else ((-1)) := rfl
    rw [e]
    by_cases hk : k < xs.length
    · rw [decide_eq_true (show (k : Int) < (xs.length : Int) by omega), drop_cons xs k hk, Int.toNat_natCast]
      simp only [cond_true]
      by_cases hv : (xs.getD k default).Value = r0.Value
      · have h63 : Fre63 (xs.getD k default) (r0 :: t) = false := by
          show (!decide ((xs.getD k default).Value = r0.Value)) = false
          rw [decide_eq_true hv]; rfl
        rw [h63]
        simp only [cond_false]
        rw [ih (k + 1) (by omega)]
        exact (if_pos hv).symm
      · have h63 : Fre63 (xs.getD k default) (r0 :: t) = true := by
          show (!decide ((xs.getD k default).Value = r0.Value)) = true
          rw [decide_eq_false hv]; rfl
        rw [h63]
        simp only [cond_true, Int.toNat_natCast]
        rw [decide_eq_true (show (0 : Int) ≤ (k : Int) by omega)]
        exact (if_neg hv).symm
    · rw [decide_eq_false (show ¬ (k : Int) < (xs.length : Int) by omega), List.drop_eq_nil_of_le (by omega)]
      rfl
theorem endJ_sel : ∀ t : List TRule, endJ t = selR t
  | [] => rfl
  | r0 :: t => by
    unfold endJ
    rw [decide_eq_false (show ¬ ((((r0 :: t).length : Nat) : Int)) = 0 by simp only [List.length_cons]; omega)]
    have h := ix_conf r0 t (r0 :: t) ((((((r0 :: t).length : Int))) - 0).toNat + 1) 0 (by omega)
    refine h.trans ?_
    show (if r0.Value = r0.Value then confR r0 t else _) = confR r0 t
    exact if_pos rfl
theorem res_l1 (l : List TRule) (v5 v6 : Int) (K0 : Int → Int → Ans) : ∀ f (k : Nat) (v7 : TRule) (v8 : Bool), l.length - k < f →
    FrResult_l1 l v5 v6 K0 f v7 v8 (k : Int) = bif v8 then confR v7 ((l.drop k).filter fun r => decide (r.Priority = v5)) else (match (l.drop k).filter fun r => decide (r.Priority = v5) with | [] => (v7.Value, v7.Name, 0) | r :: t => confR r t) := by
  intro f
  induction f with
  | zero => intro k v7 v8 h; omega
  | succ f ih =>
    intro k v7 v8 h
    unfold FrResult_l1
    have e : ((k : Nat) : Int) + 1 = ((k + 1 : Nat) : Int) := by omega
    rw [e]
    by_cases hk : k < l.length
    · have i := fun v7 v8 => ih (k + 1) v7 v8 (by omega)
      rw [decide_eq_true (show (k : Int) < (l.length : Int) by omega), drop_cons l k hk, Int.toNat_natCast]
      simp only [cond_true]
      by_cases hp : (l.getD k default).Priority = v5
      · rw [decide_eq_true hp, List.filter_cons_of_pos (by simpa using hp)]
        simp only [Bool.not_true, cond_false, i]
        cases v8
        · rfl
        · simp only [Bool.not_true, cond_false, cond_true]
          by_cases hv : (l.getD k default).Value = v7.Value
          · rw [decide_eq_true hv]
            exact (if_pos hv).symm
          · rw [decide_eq_false hv]
            exact (if_neg hv).symm
      · rw [decide_eq_false hp, List.filter_cons_of_neg (by simpa using hp)]
        simp only [Bool.not_false, cond_true]
        exact i v7 v8
    · rw [decide_eq_false (show ¬ (k : Int) < (l.length : Int) by omega), List.drop_eq_nil_of_le (by omega)]
      cases v8 <;> rfl
def maxP (v : Int) (l : List TRule) : Int := l.foldl (fun a r => max a r.Priority) v
theorem res_l0 (l : List TRule) : ∀ f (k : Nat) (v : Int), l.length - k < f → FrResult_l0 l f v (k : Int) = selR (l.filter fun r => decide (r.Priority = maxP v (l.drop k))) := by
  intro f
  induction f with
  | zero => intro k v h; omega
  | succ f ih =>
    intro k v h
    unfold FrResult_l0
    have e : ((k : Nat) : Int) + 1 = ((k + 1 : Nat) : Int) := by omega
    by_cases hk : k < l.length
    · rw [decide_eq_true (show (k : Int) < (l.length : Int) by omega), drop_cons l k hk, Int.toNat_natCast, e]
      exact ih (k + 1) _ (by omega)
    · rw [decide_eq_false (show ¬ (k : Int) < (l.length : Int) by omega), List.drop_eq_nil_of_le (by omega)]
      refine (res_l1 l v (k : Int) (FrResult_l0 l f) _ 0 _ false (by omega)).trans ?_
      show (match l.filter (fun r => decide (r.Priority = v)) with | [] => _ | r :: t => confR r t) = selR (l.filter fun r => decide (r.Priority = v))
      cases l.filter (fun r => decide (r.Priority = v)) <;> rfl
theorem maxP_ge (l : List TRule) : ∀ v, v ≤ maxP v l := by
  induction l with
  | nil => intro v; exact Int.le_refl v
  | cons r l ih => intro v; have := ih (max v r.Priority); show v ≤ maxP (max v r.Priority) l; omega
theorem tops (l : List TRule) : ∀ (acc : List TRule) (P : Int), acc ≠ [] → (∀ r ∈ acc, r.Priority = P) →
    l.foldl stepJ acc = if maxP P l = P then acc ++ l.filter (fun r => decide (r.Priority = P)) else l.filter fun r => decide (r.Priority = maxP P l) := by
  induction l with
  | nil => intro acc P h0 h; simp [maxP]
  | cons x l ih =>
    intro acc P h0 h
    have hP : (acc.getD 0 default).Priority = P := by
      cases acc with
      | nil => exact absurd rfl h0
      | cons a t => exact h a (by simp)
    have hl : (0 : Int) < (((acc.length : Nat) : Int)) := by
      cases acc with
      | nil => exact absurd rfl h0
      | cons a t => simp only [List.length_cons]; omega
    rw [List.foldl_cons]
    have hs : stepJ acc x = if x.Priority < P then acc else if P < x.Priority then [x] else acc ++ [x] := by
      unfold stepJ
      rw [decide_eq_true hl, hP]
      by_cases h1 : x.Priority < P
      · rw [decide_eq_true h1, if_pos h1]; rfl
      · rw [decide_eq_false h1, if_neg h1]
        by_cases h2 : P < x.Priority
        · rw [decide_eq_true h2, if_pos h2]; rfl
        · rw [decide_eq_false h2, if_neg h2]; rfl
    have hm : maxP P (x :: l) = maxP (max P x.Priority) l := rfl
    rw [hs, hm]
    by_cases h1 : x.Priority < P
    · rw [if_pos h1, show max P x.Priority = P by omega, ih acc P h0 h]
      have hg := maxP_ge l P
      by_cases hM : maxP P l = P
      · rw [if_pos hM, if_pos hM, List.filter_cons_of_neg (by simp; omega)]
      · rw [if_neg hM, if_neg hM, List.filter_cons_of_neg (by simp; omega)]
    · rw [if_neg h1]
      by_cases h2 : P < x.Priority
      · rw [if_pos h2, show max P x.Priority = x.Priority by omega, ih [x] x.Priority (by simp) (by simp)]
        have hg := maxP_ge l x.Priority
        rw [if_neg (show ¬ maxP x.Priority l = P by omega)]
        by_cases hM : maxP x.Priority l = x.Priority
        · rw [if_pos hM, hM, List.filter_cons_of_pos (by simp)]; rfl
        · rw [if_neg hM, List.filter_cons_of_neg (by simp; omega)]
      · have hx : x.Priority = P := by omega
        rw [if_neg h2, show max P x.Priority = P by omega, ih (acc ++ [x]) P (by simp) (by
          intro r hr
          rcases List.mem_append.1 hr with hr | hr
          · exact h r hr
          · rw [List.mem_singleton.1 hr]; exact hx)]
        by_cases hM : maxP P l = P
        · rw [if_pos hM, if_pos hM, List.filter_cons_of_pos (by simp [hx]), List.append_assoc]; rfl
        · have hg := maxP_ge l P
          rw [if_neg hM, if_neg hM, List.filter_cons_of_neg (by simp; omega)]
/-- What some rules answer. -/
def Sres (rs : List TRule) : Ans := selR (rs.foldl stepJ [])
theorem rResult_eq : ∀ rs : List TRule, FrResult rs = Sres rs
  | [] => rfl
  | a :: l => by
    unfold FrResult
    rw [decide_eq_false (show ¬ (((a :: l).length : Int)) = 0 by simp only [List.length_cons]; omega)]
    refine (res_l0 (a :: l) (((((a :: l).length : Int)) - 1).toNat + 1) 1 a.Priority (by simp)).trans ?_
    show selR _ = selR (l.foldl stepJ [a])
    rw [tops l [a] a.Priority (by simp) (by simp)]
    show selR ((a :: l).filter fun r => decide (r.Priority = maxP a.Priority l)) = _
    have hg := maxP_ge l a.Priority
    by_cases hM : maxP a.Priority l = a.Priority
    · rw [if_pos hM, hM, List.filter_cons_of_pos (by simp)]; rfl
    · rw [if_neg hM, List.filter_cons_of_neg (by simp; omega)]
theorem resC_eq (n : Nat) (l : List TRule) (p q : TAsked) : FresC n l p q = Sres (l.filter fun r => Fcl34 n r p q) := by
  have h := res_gen l (fun r => Fcl34 n r p q) (FresC_l0 n l p q) (fun _ _ _ => rfl) (((((l.length : Int))) - 0).toNat + 1) [] 0 (by omega)
  exact h.trans (endJ_sel _)
theorem resV_eq (n : Nat) (l : List TRule) (what : Int) (b : TBoard) (it : TItem) (layer : Int) : FresV n l what b it layer = Sres (l.filter fun r => Fva37 n r what b it layer) := by
  have h := res_gen l (fun r => Fva37 n r what b it layer) (FresV_l0 n l what b it layer) (fun _ _ _ => rfl) (((((l.length : Int))) - 0).toNat + 1) [] 0 (by omega)
  exact h.trans (endJ_sel _)
theorem coll_gen (l : List TRule) (p : TRule → Bool) (L : Nat → List TRule → Int → Ans)
    (hL : ∀ n acc k, L (n + 1) acc k = bif decide (k < (l.length : Int)) then (bif p (l.getD k.toNat default) then L n (acc ++ [l.getD k.toNat default]) (k + 1) else L n acc (k + 1)) else FrResult acc) :
    ∀ f acc (k : Nat), l.length - k < f → L f acc (k : Int) = FrResult (acc ++ (l.drop k).filter p) := by
  intro f
  induction f with
  | zero => intro acc k h; omega
  | succ f ih =>
    intro acc k h
    rw [hL]
    have e : ((k : Nat) : Int) + 1 = ((k + 1 : Nat) : Int) := by omega
    rw [e]
    by_cases hk : k < l.length
    · rw [decide_eq_true (show (k : Int) < (l.length : Int) by omega), drop_cons l k hk, List.filter_cons, Int.toNat_natCast]
      simp only [cond_true, fun acc => ih acc (k + 1) (by omega)]
      cases hp : p (l.getD k default)
      · simp
      · simp [List.append_assoc]
    · rw [decide_eq_false (show ¬ (k : Int) < (l.length : Int) by omega), List.drop_eq_nil_of_le (by omega)]
      simp
theorem filter_eq (l : List TRule) {p q : TRule → Bool} (h : ∀ r, p r = q r) : l.filter p = l.filter q := by rw [show p = q from funext h]
theorem rValue_eq (m : Nat) (b : TBoard) (what : Int) (it : TItem) (layer : Int) : FrValue m b what it layer = Sres (b.Rules.filter fun r => Fva37 m r what b it layer) := by
  have h := coll_gen b.Rules (fun r => bif decide (r.What = what) then Fhold m b r.A it layer else false) (FrValue_l0 m b what it layer) (fun _ _ _ => rfl) (((((b.Rules.length : Int))) - 0).toNat + 1) [] 0 (by omega)
  refine h.trans ((rResult_eq _).trans (congrArg Sres ?_))
  refine filter_eq b.Rules fun r => ?_
  show _ = (bif decide ((r.What : Int) = what) then Feval m (TAsked.mk b it layer) r.A else false)
  rw [eval_hold]
theorem rClear_eq (m : Nat) (b : TBoard) (ix iy : TItem) (layer : Int) : FrClear m b ix iy layer = bif wjClear_0 ix iy then ((0, ({ data := #[] } : ByteArray), 0)) else Sres (b.Rules.filter fun r => Fcl34 m r ⟨b, ix, layer⟩ ⟨b, iy, layer⟩) := by
  unfold FrClear
  rw [show wrClear_0 ix iy = wjClear_0 ix iy from rfl]
  cases wjClear_0 ix iy
  · have h := coll_gen b.Rules (fun r => bif !decide (r.What = 1) then false else (bif (bif Fhold m b r.A ix layer then Fhold m b r.B iy layer else false) then true else (bif Fhold m b r.A iy layer then Fhold m b r.B ix layer else false)))
      (FrClear_l0 m b ix iy layer) (fun n acc k => by
        show (bif _ then (bif !decide ((((b.Rules.getD k.toNat default).What) : Int) = 1) then _ else (bif (bif (bif Fhold m b (b.Rules.getD k.toNat default).A ix layer then Fhold m b (b.Rules.getD k.toNat default).B iy layer else false) then true else (bif Fhold m b (b.Rules.getD k.toNat default).A iy layer then Fhold m b (b.Rules.getD k.toNat default).B ix layer else false)) then _ else _)) else _) = _
        cases decide (k < (b.Rules.length : Int))
        · rfl
        · cases h1 : decide ((((b.Rules.getD k.toNat default).What) : Int) = 1)
          · simp only [h1, Bool.not_false, cond_true, cond_false]
          · simp only [h1, Bool.not_true, cond_true, cond_false]) (((((b.Rules.length : Int))) - 0).toNat + 1) [] 0 (by omega)
    refine h.trans ((rResult_eq _).trans (congrArg Sres ?_))
    refine filter_eq b.Rules fun r => ?_
    show _ = (bif decide ((r.What : Int) = 1) then bif bif Feval m ⟨b, ix, layer⟩ r.A then Feval m ⟨b, iy, layer⟩ r.B else false then true else bif Feval m ⟨b, iy, layer⟩ r.A then Feval m ⟨b, ix, layer⟩ r.B else false else false)
    simp only [eval_hold]
    cases decide (r.What = 1) <;> rfl
  · rfl
theorem jClear_eq (m : Nat) (b : TBoard) (ix iy : TItem) (layer : Int) : FjClear m b ix iy layer = bif wjClear_0 ix iy then ((0, ({ data := #[] } : ByteArray), 0)) else Sres (b.Rules.filter fun r => Fcl34 m r ⟨b, ix, layer⟩ ⟨b, iy, layer⟩) := by
  unfold FjClear
  rw [resC_eq]
theorem jValue_eq (m : Nat) (b : TBoard) (what : Int) (it : TItem) (layer : Int) : FjValue m b what it layer = Sres (b.Rules.filter fun r => Fva37 m r what b it layer) := by
  unfold FjValue
  rw [resV_eq]
theorem clear_alike (m : Nat) (b : TBoard) (ix iy : TItem) (layer : Int) : FjClear m b ix iy layer = FrClear m b ix iy layer := (jClear_eq m b ix iy layer).trans (rClear_eq m b ix iy layer).symm
theorem value_alike (m : Nat) (b : TBoard) (what : Int) (it : TItem) (layer : Int) : FjValue m b what it layer = FrValue m b what it layer := (jValue_eq m b what it layer).trans (rValue_eq m b what it layer).symm
theorem most_alike (b : TBoard) : FjMost b = FrMost b := by
  have h : ∀ n a k, FjMost_l0 b n a k = FrMost_l0 b n a k := by
    intro n
    induction n with
    | zero => intro a k; rfl
    | succ n ih => intro a k; unfold FjMost_l0 FrMost_l0; rw [ih]
  exact h _ _ _
theorem sanity_true : Fsanity = true := by decide +kernel
end Go.Proofs.Ytoojlpcimogehaa
