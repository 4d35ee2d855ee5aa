/-
  No statement is proved in this text. It holds the plain law of conditions: both evaluations answer alike.
-/
import Derived.Test.YtoojlpcimogehaaProg
import Derived.Test.YtoojlpcimogehaaK21d
import Derived.Test.YtoojlpcimogehaaPl21
namespace Go.Proofs.Ytoojlpcimogehaa
open Go.RowKit
set_option linter.unusedVariables false
set_option linter.unusedSimpArgs false
theorem has_any (s : List ByteArray) (v : ByteArray) : FHas s v = s.any fun y => y.toList == v.toList :=
  srchB_any s (fun y => y.toList == v.toList) (FHas_l0 s v) (fun _ _ => rfl) _ 0 (by omega)
theorem conS_has (s : List ByteArray) (v : ByteArray) : FconS s v = FHas s v := by
  rw [conS_any, has_any]
  exact any_eq s fun y => Bool.beq_comm
theorem coCl_clsR (b : TBoard) (c : TCond) (q : TAsked) (h : q.b = b) : FcoCl b.Classes c q = FclsR b c.Text q.x.Net := by
  have e1 : FcoCl b.Classes c q = b.Classes.any fun x => Fop31 x c q := srch_any b.Classes (fun x => Fop31 x c q) (FixCl_l0 b.Classes c q) (fun _ _ => rfl) _ 0 (by omega)
  have e2 : FclsR b c.Text q.x.Net = b.Classes.any fun x => bif x.Name.toList == c.Text.toList then FHas x.Nets q.x.Net else false :=
    srchB_any b.Classes (fun x => bif x.Name.toList == c.Text.toList then FHas x.Nets q.x.Net else false) (FclsR_l0 b c.Text q.x.Net) (fun _ _ => rfl) _ 0 (by omega)
  rw [e1, e2]
  refine any_eq _ fun x => ?_
  show (bif x.Name.toList == c.Text.toList then FconS x.Nets q.x.Net else false) = _
  rw [conS_has]
/-- The hull of a rectangle and some edges. -/
def hullE (r : TRect) (e : TEdge) : TRect := ⟨min r.X0 (FedgeBox e).X0, min r.Y0 (FedgeBox e).Y0, max r.X1 (FedgeBox e).X1, max r.Y1 (FedgeBox e).Y1⟩
def outR (R : Int) (v : TRect) : TRect := TRect.mk (W64 (v.X0 - R)) (W64 (v.Y0 - R)) (W64 (v.X1 + R)) (W64 (v.Y1 + R))
theorem box_l (s : TShape) : ∀ f (r : TRect) (k : Nat), (s.Edges.drop 1).length - k < f → FBox_l0 s f r (k : Int) = outR s.R (((s.Edges.drop 1).drop k).foldl hullE r) := by
  intro f
  induction f with
  | zero => intro r k h; omega
  | succ f ih =>
    intro r k h
    have hlen : (((s.Edges.length : Nat) : Int) : Int).toNat - (1 : Int).toNat = (s.Edges.drop 1).length := by simp
    unfold FBox_l0
    rw [hlen]
    by_cases hk : k < (s.Edges.drop 1).length
    · rw [decide_eq_true (show (k : Int) < (((s.Edges.drop 1).length : Nat) : Int) by omega), drop_cons _ k hk, List.foldl_cons]
      exact ih _ (k + 1) (by omega)
    · rw [decide_eq_false (show ¬ (k : Int) < (((s.Edges.drop 1).length : Nat) : Int) by omega), List.drop_eq_nil_of_le (by omega)]
      rfl
theorem boxR_l (s : TShape) : ∀ f (r : TRect) (k : Nat), s.Edges.length - k < f → FBoxR_l0 s f r (k : Int) = outR s.R ((s.Edges.drop k).foldl hullE r) := by
  intro f
  induction f with
  | zero => intro r k h; omega
  | succ f ih =>
    intro r k h
    unfold FBoxR_l0
    by_cases hk : k < s.Edges.length
    · rw [decide_eq_true (show (k : Int) < (s.Edges.length : Int) by omega), drop_cons _ k hk, List.foldl_cons]
      exact ih _ (k + 1) (by omega)
    · rw [decide_eq_false (show ¬ (k : Int) < (s.Edges.length : Int) by omega), List.drop_eq_nil_of_le (by omega)]
      rfl
theorem box_boxR (s : TShape) : FBox s = FBoxR s := by
  unfold FBox FBoxR
  by_cases h0 : (s.Edges.length : Int) = 0
  · rw [decide_eq_true h0]; rfl
  · rw [decide_eq_false h0]
    have e1 := box_l s (((((((s.Edges.length : Nat) : Int) : Int).toNat - (1 : Int).toNat : Nat) : Int) - 0).toNat + 1) (FedgeBox (s.Edges.getD 0 default)) 0 (by simp)
    have e2 := boxR_l s (((((s.Edges.length : Int))) - 1).toNat + 1) (Fref06Box (s.Edges.getD 0 default)) 1 (by omega)
    exact e1.trans e2.symm
theorem op7_eq (b : TBoard) (c : TCond) (it : TItem) (layer : Int) : Fop7 ⟨b, it, layer⟩ c = (bif bif bif decide ((c.Box.X0 : Int) ≤ ((FBoxR it.Shape).X0)) then decide ((c.Box.Y0 : Int) ≤ ((FBoxR it.Shape).Y0)) else false then decide ((((FBoxR it.Shape).X1) : Int) ≤ c.Box.X1) else false then decide ((((FBoxR it.Shape).Y1) : Int) ≤ c.Box.Y1) else false) := by
  unfold Fop7
  simp only [box_boxR]
  have e1 : ∀ a b : Int, decide (min a b = b) = decide (b ≤ a) := fun a b => decide_eq_decide.2 (by omega)
  have e2 : ∀ a b : Int, decide (max a b = b) = decide (a ≤ b) := fun a b => decide_eq_decide.2 (by omega)
  simp only [e1, e2]
section
variable (K1 : TAsked → TCond → Bool) (K2 : TBoard → TCond → TItem → Int → Bool) (b : TBoard) (it : TItem) (layer : Int)
theorem hoS_or (c : TCond) (hop : c.Op = 10) (f : Nat) (hf : c.L.length < f) : FhoS_l0 K2 b c it layer f 0 = c.L.any fun x => K2 b x it layer :=
  srchB_any c.L (fun x => K2 b x it layer) (FhoS_l0 K2 b c it layer) (fun n k => by
    show (bif _ then (bif ((K2 b (c.L.getD k.toNat default) it layer) == (decide ((c.Op : Int) = 10))) then (K2 b (c.L.getD k.toNat default) it layer) else _) else (decide ((c.Op : Int) = 9))) = _
    rw [decide_eq_true hop, decide_eq_false (show ¬ c.Op = 9 by omega)]
    cases K2 b (c.L.getD k.toNat default) it layer <;> rfl) f 0 (by omega)
theorem hoS_and (c : TCond) (hop : c.Op = 9) (f : Nat) (hf : c.L.length < f) : FhoS_l0 K2 b c it layer f 0 = !(c.L.any fun x => !(K2 b x it layer)) := by
  have := srchB_any c.L (fun x => !(K2 b x it layer)) (fun n k => !(FhoS_l0 K2 b c it layer n k)) (fun n k => by
    show (!(bif _ then (bif ((K2 b (c.L.getD k.toNat default) it layer) == (decide ((c.Op : Int) = 10))) then (K2 b (c.L.getD k.toNat default) it layer) else _) else (decide ((c.Op : Int) = 9)))) = _
    rw [decide_eq_true hop, decide_eq_false (show ¬ c.Op = 10 by omega)]
    cases decide (k < (c.L.length : Int)) <;> cases K2 b (c.L.getD k.toNat default) it layer <;> rfl) f 0 (by omega)
  rw [show c.L = c.L.drop 0 from rfl, ← this]
  simp
end
theorem opN {P : Prop} {o : Int} (h1 : o = 1 → P) (h2 : o = 2 → P) (h3 : o = 3 → P) (h4 : o = 4 → P) (h5 : o = 5 → P) (h6 : o = 6 → P) (h7 : o = 7 → P) (h8 : o = 8 → P) (h9 : o = 9 → P) (h10 : o = 10 → P) (hN : (o < 1 ∨ 10 < o) → P) : P := by
  rcases (show o = 1 ∨ o = 2 ∨ o = 3 ∨ o = 4 ∨ o = 5 ∨ o = 6 ∨ o = 7 ∨ o = 8 ∨ o = 9 ∨ o = 10 ∨ (o < 1 ∨ 10 < o) by omega) with h | h | h | h | h | h | h | h | h | h | h
  · exact h1 h
  · exact h2 h
  · exact h3 h
  · exact h4 h
  · exact h5 h
  · exact h6 h
  · exact h7 h
  · exact h8 h
  · exact h9 h
  · exact h10 h
  · exact hN h
theorem dec_ne {o a b : Int} (h : o = a) (hab : a ≠ b) : decide (o = b) = false := decide_eq_false (fun e => hab (h.symm.trans e))
theorem evS_hoS (K1 : TAsked → TCond → Bool) (K2 : TBoard → TCond → TItem → Int → Bool) (b : TBoard) (it : TItem) (layer : Int) (hK : ∀ c, K1 ⟨b, it, layer⟩ c = K2 b c it layer) (c : TCond) :
    FevS K1 ⟨b, it, layer⟩ c = FhoS K2 b c it layer := by
  obtain ⟨o, t, m, r, l⟩ := c
  refine opN (o := o) ?_ ?_ ?_ ?_ ?_ ?_ ?_ ?_ ?_ ?_ ?_
  · rintro rfl; rfl
  · rintro rfl; rfl
  · rintro rfl; exact coCl_clsR b (.mk 3 t m r l) ⟨b, it, layer⟩ rfl
  · rintro rfl; rfl
  · rintro rfl; rfl
  · rintro rfl; rfl
  · rintro rfl; exact op7_eq b (.mk 7 t m r l) it layer
  · rintro rfl
    show (bif decide ((((l.length : Int)) : Int) = 1) then !(K1 ⟨b, it, layer⟩ (l.getD 0 default)) else false) = (bif decide ((((l.length : Int)) : Int) = 1) then !(K2 b (l.getD 0 default) it layer) else false)
    rw [hK]
  · rintro rfl
    have e := hoS_and K2 b it layer (.mk 9 t m r l) rfl (((((l.length : Int))) - 0).toNat + 1) (by show l.length < _; omega)
    refine Eq.trans ?_ e.symm
    show (!(FcoEb K1 l ⟨b, it, layer⟩)) = _
    rw [coEb_any]
    refine congrArg (!·) (any_eq l fun x => ?_)
    rw [hK]
  · rintro rfl
    have e := hoS_or K2 b it layer (.mk 10 t m r l) rfl (((((l.length : Int))) - 0).toNat + 1) (by show l.length < _; omega)
    refine Eq.trans ?_ e.symm
    show FcoEa K1 l ⟨b, it, layer⟩ = _
    rw [coEa_any]
    exact any_eq l fun x => hK x
  · intro h
    unfold FevS FhoS
    have d : ∀ k : Int, 1 ≤ k → k ≤ 10 → ¬ TCond.Op (.mk o t m r l) = k := fun k h1 h2 e => by
      have e : o = k := e
      omega
    have q : ∀ k : Int, 1 ≤ k → k ≤ 10 → decide (TCond.Op (.mk o t m r l) = k) = false := fun k h1 h2 => decide_eq_false (d k h1 h2)
    rw [if_neg (d 1 (by decide) (by decide)), if_neg (d 2 (by decide) (by decide)), if_neg (d 3 (by decide) (by decide)), if_neg (d 4 (by decide) (by decide)), if_neg (d 5 (by decide) (by decide)), if_neg (d 6 (by decide) (by decide)), if_neg (d 7 (by decide) (by decide)), if_neg (d 8 (by decide) (by decide)), if_neg (d 9 (by decide) (by decide)), if_neg (d 10 (by decide) (by decide))]
    rw [q 1 (by decide) (by decide), q 2 (by decide) (by decide), q 3 (by decide) (by decide), q 4 (by decide) (by decide), q 5 (by decide) (by decide), q 6 (by decide) (by decide), q 7 (by decide) (by decide), q 8 (by decide) (by decide), q 9 (by decide) (by decide), q 10 (by decide) (by decide)]
    rfl
theorem evZ_hoZ (b : TBoard) (it : TItem) (layer : Int) (c : TCond) : FevZ ⟨b, it, layer⟩ c = FhoZ b c it layer := by
  obtain ⟨o, t, m, r, l⟩ := c
  refine opN (o := o) ?_ ?_ ?_ ?_ ?_ ?_ ?_ ?_ ?_ ?_ ?_
  · rintro rfl; rfl
  · rintro rfl; rfl
  · rintro rfl; exact coCl_clsR b (.mk 3 t m r []) ⟨b, it, layer⟩ rfl
  · rintro rfl; rfl
  · rintro rfl; rfl
  · rintro rfl; rfl
  · rintro rfl; exact op7_eq b (.mk 7 t m r []) it layer
  · rintro rfl; rfl
  · rintro rfl; rfl
  · rintro rfl; rfl
  · intro h
    unfold FevZ FhoZ
    have d : ∀ k : Int, 1 ≤ k → k ≤ 10 → ¬ TCond.Op (.mk o t m r l) = k := fun k h1 h2 e => by
      have e : o = k := e
      omega
    have q : ∀ k : Int, 1 ≤ k → k ≤ 10 → decide (TCond.Op (.mk o t m r l) = k) = false := fun k h1 h2 => decide_eq_false (d k h1 h2)
    rw [if_neg (d 1 (by decide) (by decide)), if_neg (d 2 (by decide) (by decide)), if_neg (d 3 (by decide) (by decide)), if_neg (d 4 (by decide) (by decide)), if_neg (d 5 (by decide) (by decide)), if_neg (d 6 (by decide) (by decide)), if_neg (d 7 (by decide) (by decide)), if_neg (d 8 (by decide) (by decide)), if_neg (d 9 (by decide) (by decide)), if_neg (d 10 (by decide) (by decide))]
    rw [q 1 (by decide) (by decide), q 2 (by decide) (by decide), q 3 (by decide) (by decide), q 4 (by decide) (by decide), q 5 (by decide) (by decide), q 6 (by decide) (by decide), q 7 (by decide) (by decide), q 8 (by decide) (by decide), q 9 (by decide) (by decide), q 10 (by decide) (by decide)]
    rfl
theorem eval_hold (b : TBoard) (it : TItem) (layer : Int) : ∀ (n : Nat) (c : TCond), Feval n ⟨b, it, layer⟩ c = Fhold n b c it layer
  | 0, c => evZ_hoZ b it layer c
  | n + 1, c => evS_hoS (Feval n) (Fhold n) b it layer (eval_hold b it layer n) c
end Go.Proofs.Ytoojlpcimogehaa
