/-
  No statement is proved in this text. What JudgeTop computes is true.
-/
import Derived.Test.YtoojlpcimogehaaProg
import Derived.Test.YtoojlpcimogehaaJudgeTopW
import Derived.Test.YtoojlpcimogehaaPr21
namespace Go.Proofs.Ytoojlpcimogehaa
open Go.RowKit
set_option linter.unusedVariables false
set_option linter.unusedSimpArgs false
theorem ite_arms {α : Type} {c : Prop} [Decidable c] {a a' b b' : α} (h1 : a = a') (h2 : b = b') : (if c then a else b) = (if c then a' else b') := by rw [h1, h2]
section
variable (b b' : TBoard) (it : TItem) (layer : Int) (hc : b.Classes = b'.Classes)
include hc
theorem coCl_cls (c : TCond) : FcoCl b.Classes c ⟨b, it, layer⟩ = FcoCl b'.Classes c ⟨b', it, layer⟩ := by
  rw [← hc]
  have e1 := srch_any b.Classes (fun x => Fop31 x c ⟨b, it, layer⟩) (FixCl_l0 b.Classes c ⟨b, it, layer⟩) (fun _ _ => rfl) (((((b.Classes.length : Int))) - 0).toNat + 1) 0 (by omega)
  have e2 := srch_any b.Classes (fun x => Fop31 x c ⟨b', it, layer⟩) (FixCl_l0 b.Classes c ⟨b', it, layer⟩) (fun _ _ => rfl) (((((b.Classes.length : Int))) - 0).toNat + 1) 0 (by omega)
  exact e1.trans e2.symm
theorem evS_cls (K : TAsked → TCond → Bool) (hK : ∀ c, K ⟨b, it, layer⟩ c = K ⟨b', it, layer⟩ c) (c : TCond) : FevS K ⟨b, it, layer⟩ c = FevS K ⟨b', it, layer⟩ c := by
  unfold FevS
  refine ite_arms rfl (ite_arms rfl (ite_arms ?_ (ite_arms rfl (ite_arms rfl (ite_arms rfl (ite_arms rfl (ite_arms ?_ (ite_arms ?_ (ite_arms ?_ rfl)))))))))
  · exact coCl_cls b b' it layer hc (TCond.mk 3 c.Text c.N c.Box c.L)
  · show (bif decide ((((c.L.length : Int)) : Int) = 1) then !(K ⟨b, it, layer⟩ (c.L.getD 0 default)) else false) = (bif decide ((((c.L.length : Int)) : Int) = 1) then !(K ⟨b', it, layer⟩ (c.L.getD 0 default)) else false)
    rw [hK]
  · show (!(FcoEb K c.L ⟨b, it, layer⟩)) = (!(FcoEb K c.L ⟨b', it, layer⟩))
    rw [coEb_any, coEb_any]
    exact congrArg (!·) (any_eq c.L fun x => by rw [hK])
  · show FcoEa K c.L ⟨b, it, layer⟩ = FcoEa K c.L ⟨b', it, layer⟩
    rw [coEa_any, coEa_any]
    exact any_eq c.L fun x => hK x
theorem evZ_cls (c : TCond) : FevZ ⟨b, it, layer⟩ c = FevZ ⟨b', it, layer⟩ c := by
  unfold FevZ
  refine ite_arms rfl (ite_arms rfl (ite_arms ?_ (ite_arms rfl (ite_arms rfl (ite_arms rfl (ite_arms rfl (ite_arms rfl (ite_arms rfl (ite_arms rfl rfl)))))))))
  exact coCl_cls b b' it layer hc (TCond.mk 3 c.Text c.N c.Box [])
theorem eval_cls : ∀ (n : Nat) (c : TCond), Feval n ⟨b, it, layer⟩ c = Feval n ⟨b', it, layer⟩ c
  | 0, c => evZ_cls b b' it layer hc c
  | n + 1, c => evS_cls b b' it layer hc (Feval n) (eval_cls n) c
theorem cl34_cls (n : Nat) (r : TRule) (iy : TItem) : Fcl34 n r ⟨b, it, layer⟩ ⟨b, iy, layer⟩ = Fcl34 n r ⟨b', it, layer⟩ ⟨b', iy, layer⟩ := by
  show (bif decide ((r.What : Int) = 1) then bif bif Feval n _ r.A then Feval n _ r.B else false then true else bif Feval n _ r.A then Feval n _ r.B else false else false) = (bif decide ((r.What : Int) = 1) then bif bif Feval n _ r.A then Feval n _ r.B else false then true else bif Feval n _ r.A then Feval n _ r.B else false else false)
  simp only [eval_cls b b' it layer hc, eval_cls b b' iy layer hc]
end
def topR (p v : Int) : TRule := TRule.mk (({ data := #[116, 111, 112] } : ByteArray)) p 1 Falways Falways v
def topB (b : TBoard) (rs : List TRule) : TBoard := TBoard.mk b.Layers b.Outline b.Parts b.Nets b.Tracks b.Vias b.Pours b.Keeps b.Slots b.Classes rs b.Waivers b.Matches
theorem cl34_top (v w : Int) (p q : TAsked) : Fcl34 2 (topR v w) p q = true := rfl
theorem step_top (acc : List TRule) (r : TRule) (h : ∀ x ∈ acc, x.Priority < r.Priority) : stepJ acc r = [r] := by
  unfold stepJ
  cases acc with
  | nil => rfl
  | cons a t =>
    have h1 := h a (List.mem_cons_self ..)
    have e : ((a :: t).getD 0 default).Priority = a.Priority := rfl
    rw [e, decide_eq_true (show (0 : Int) < (((a :: t).length : Nat) : Int) by simp only [List.length_cons]; omega), decide_eq_false (show ¬ r.Priority < a.Priority by omega), decide_eq_true h1]
    rfl
theorem sres_top (rs : List TRule) (r : TRule) (h : ∀ x ∈ rs, x.Priority < r.Priority) : Sres (rs ++ [r]) = (r.Value, r.Name, 0) := by
  unfold Sres
  rw [List.foldl_append]
  show selR (stepJ (rs.foldl stepJ []) r) = _
  rw [step_top _ r fun x hx => by
    rcases mem_fold rs [] x hx with hx | hx
    · cases hx
    · exact h x hx]
  rfl
theorem sres_low (rs : List TRule) (r : TRule) (h : ∀ x ∈ rs, r.Priority < x.Priority) : rs = [] ∨ Sres (r :: rs) = Sres rs := by
  cases rs with
  | nil => exact .inl rfl
  | cons a t =>
    refine .inr ?_
    unfold Sres
    show selR (t.foldl stepJ (stepJ [r] a)) = selR (t.foldl stepJ (stepJ [] a))
    rw [step_top [r] a fun x hx => by rw [List.mem_singleton.1 hx]; exact h a (List.mem_cons_self ..)]
    rfl
theorem clear_top (l : List (List Int)) (x y : TItem) (layer v : Int) (hn : (bif (x.Net.toList == (({ data := #[] } : ByteArray)).toList) then true else !(x.Net.toList == y.Net.toList)) = true) :
    FjClear 2 (topB (FBoard l) ((FBoard l).Rules ++ [topR 9 v])) x y layer = (v, ({ data := #[116, 111, 112] } : ByteArray), 0) := by
  rw [jClear_eq]
  have h0 : wjClear_0 x y = false := by
    show (bif (x.Net.toList == y.Net.toList) then !(x.Net.toList == (({ data := #[] } : ByteArray)).toList) else false) = false
    cases h1 : (x.Net.toList == y.Net.toList)
    · rfl
    · cases h2 : (x.Net.toList == (({ data := #[] } : ByteArray)).toList)
      · rw [h1, h2] at hn; cases hn
      · rfl
  rw [h0]
  show Sres (((FBoard l).Rules ++ [topR 9 v]).filter _) = _
  rw [List.filter_append, show [topR 9 v].filter (fun r => Fcl34 2 r ⟨topB (FBoard l) ((FBoard l).Rules ++ [topR 9 v]), x, layer⟩ ⟨topB (FBoard l) ((FBoard l).Rules ++ [topR 9 v]), y, layer⟩) = [topR 9 v] from rfl]
  refine sres_top _ _ fun r hr => ?_
  have := (board_in l r (List.mem_filter.1 hr).1).2.2.1
  show r.Priority < 9
  omega
theorem clear_low (l : List (List Int)) (x y : TItem) (layer v : Int) :
    ((FjClear 2 (FBoard l) x y layer).2.1.toList == (({ data := #[] } : ByteArray)).toList) = true ∨ FjClear 2 (FBoard l) x y layer = FjClear 2 (topB (FBoard l) ([topR (-1) v] ++ (FBoard l).Rules)) x y layer := by
  rw [jClear_eq, jClear_eq]
  cases wjClear_0 x y
  · have e : ([topR (-1) v] ++ (FBoard l).Rules).filter (fun r => Fcl34 2 r ⟨topB (FBoard l) ([topR (-1) v] ++ (FBoard l).Rules), x, layer⟩ ⟨topB (FBoard l) ([topR (-1) v] ++ (FBoard l).Rules), y, layer⟩) = topR (-1) v :: (FBoard l).Rules.filter fun r => Fcl34 2 r ⟨FBoard l, x, layer⟩ ⟨FBoard l, y, layer⟩ := by
      rw [List.filter_append]
      refine congrArg (topR (-1) v :: ·) ?_
      exact filter_eq _ fun r => (cl34_cls (FBoard l) (topB (FBoard l) ([topR (-1) v] ++ (FBoard l).Rules)) x layer rfl 2 r y).symm
    show ((Sres ((FBoard l).Rules.filter fun r => Fcl34 2 r ⟨FBoard l, x, layer⟩ ⟨FBoard l, y, layer⟩)).2.1.toList == _) = true ∨ Sres _ = Sres (([topR (-1) v] ++ (FBoard l).Rules).filter (fun r => Fcl34 2 r ⟨topB (FBoard l) ([topR (-1) v] ++ (FBoard l).Rules), x, layer⟩ ⟨topB (FBoard l) ([topR (-1) v] ++ (FBoard l).Rules), y, layer⟩))
    rw [e]
    rcases sres_low ((FBoard l).Rules.filter fun r => Fcl34 2 r ⟨FBoard l, x, layer⟩ ⟨FBoard l, y, layer⟩) (topR (-1) v) (fun r hr => by
      have := (board_in l r (List.mem_filter.1 hr).1).2.1
      show -1 < r.Priority
      omega) with h | h
    · rw [h]; exact .inl (beq_self_eq_true (({ data := #[] } : ByteArray)).toList)
    · exact .inr h.symm
  · exact .inl (beq_self_eq_true (({ data := #[] } : ByteArray)).toList)
theorem top_fin (n s : Bool) (A B C : Ans) (v : Int) (hs : s = true) (hA : n = true → A = (v, ({ data := #[116, 111, 112] } : ByteArray), 0)) (hB : (B.2.1.toList == (({ data := #[] } : ByteArray)).toList) = true ∨ B = C) :
    (bif n then (bif bif bif !decide ((A.1 : Int) = v) then true else !((A.2.1).toList == (({ data := #[116, 111, 112] } : ByteArray)).toList) then true else !decide ((A.2.2 : Int) = 0) then (false) else (bif s then bif ((B.2.1).toList == (({ data := #[] } : ByteArray)).toList) then true else bif bif decide ((B.1 : Int) = C.1) then ((B.2.1).toList == (C.2.1).toList) else false then decide ((B.2.2 : Int) = C.2.2) else false else false)) else (bif s then bif ((B.2.1).toList == (({ data := #[] } : ByteArray)).toList) then true else bif bif decide ((B.1 : Int) = C.1) then ((B.2.1).toList == (C.2.1).toList) else false then decide ((B.2.2 : Int) = C.2.2) else false else false)) = true := by
  have h2 : (bif s then bif ((B.2.1).toList == (({ data := #[] } : ByteArray)).toList) then true else bif bif decide ((B.1 : Int) = C.1) then ((B.2.1).toList == (C.2.1).toList) else false then decide ((B.2.2 : Int) = C.2.2) else false else false) = true := by
    rw [hs]
    rcases hB with h | h
    · rw [h]; rfl
    · rw [h]
      cases ((C.2.1).toList == (({ data := #[] } : ByteArray)).toList) <;> simp
  rw [h2]
  cases n
  · rfl
  · rw [hA rfl]; simp
theorem judgeTop_true (l : List (List Int)) (m : TA24) (layer value : Int) : FJudgeTop l m layer value = true := by
  unfold FJudgeTop
  refine top_fin _ _ _ _ _ _ sanity_true ?_ ?_
  · exact clear_top (l.take (min ((l.length : Int)) 4 : Int).toNat) (FItem m.e0) (FItem m.e1) layer (Int.tmod (W64 value) 1000)
  · exact clear_low (l.take (min ((l.length : Int)) 4 : Int).toNat) (FItem m.e0) (FItem m.e1) layer (Int.tmod (W64 value) 1000)
end Go.Proofs.Ytoojlpcimogehaa
