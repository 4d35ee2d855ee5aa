/-
  No statement is proved in this text. It holds that the law EdgeBoxes answers true.
-/
import Derived.Test.YtmhhigaelofbmaaGeo4
import Derived.Test.YtmhhigaelofbmaaEdgeBoxesW
namespace Go.Proofs.Ytmhhigaelofbmaa
open Go.RowKit
set_option linter.unusedVariables false

theorem on_ends {e : TEdge} (h : OkE e) : OnE e e.A ∧ OnE e e.B := by
  unfold OnE InB OnC
  refine ⟨⟨h, by omega, ?_⟩, h, by omega, ?_⟩
  · split
    · unfold cr; grind
    · rfl
  · split
    · unfold cr; grind
    · rename_i hk; exact d2_ends h hk
def want (e : TEdge) (p : TPoint) : Int := bif bif decide (e.B.Y ≤ p.Y) then decide (p.Y < e.A.Y) else false then -1 else (bif bif decide (e.A.Y ≤ p.Y) then decide (p.Y < e.B.Y) else false then 1 else 0)
theorem want_in {e : TEdge} {p : TPoint} (h : OkE e) (hr : InR e p) : want e p = up e := by
  unfold want up InR at *
  simp only [cnd_and]
  simp only [cnd_if, Bool.and_eq_true, decide_eq_true_eq]
  split
  · rw [if_neg (by omega), if_pos (by omega)]
  · split
    · rw [if_pos (by omega)]
    · omega
theorem want_out {e : TEdge} {p : TPoint} (hr : ¬ (min e.A.Y e.B.Y ≤ p.Y ∧ p.Y < max e.A.Y e.B.Y)) : want e p = 0 := by
  unfold want
  simp only [cnd_and]
  simp only [cnd_if, Bool.and_eq_true, decide_eq_true_eq]
  rw [if_neg (by omega), if_neg (by omega)]
theorem want_y (e : TEdge) (p q : TPoint) (h : p.Y = q.Y) : want e p = want e q := by unfold want; rw [h]
theorem ray_left {e : TEdge} {y x : Int} (h : OkE e) (hx : x < min e.A.X e.B.X) : RayM e ⟨x, y⟩ = want e ⟨x, y⟩ := by
  unfold RayM
  by_cases hr : InR e ⟨x, y⟩
  · rw [want_in h hr, if_pos ⟨h, hr, .inl hx⟩]
  · rw [if_neg (fun k => hr k.2.1), want_out]
    unfold InR at hr
    simp only at *
    omega
theorem ray_right {e : TEdge} {y : Int} : RayM e ⟨max e.A.X e.B.X, y⟩ = 0 := by
  unfold RayM
  rw [if_neg]
  rintro ⟨_, ⟨_, h⟩, _⟩
  simp only at h
  omega
theorem ray_want {e : TEdge} {p : TPoint} (h : OkE e) : RayM e p = 0 ∨ RayM e p = want e p := by
  unfold RayM
  split
  · rename_i k; rw [want_in h k.2.1]; exact .inr rfl
  · exact .inl rfl
theorem edgeBoxes_true (l m : List Int) : FEdgeBoxes l m = true := by
  have hok := (made_ok l).1
  have hr := hok.1
  unfold FEdgeBoxes
  generalize FMade l = e at *
  generalize FAt06 e m = p
  have h1 := on_ends hok
  have e1 : (FedgeBox e).X0 = min e.A.X e.B.X := rfl
  have e2 : (FedgeBox e).X1 = max e.A.X e.B.X := rfl
  have e3 : (FedgeBox e).Y0 = min e.A.Y e.B.Y := rfl
  have e4 : (FedgeBox e).Y1 = max e.A.Y e.B.Y := rfl
  have hw : W64 (min e.A.X e.B.X - 1) = min e.A.X e.B.X - 1 := by
    obtain ⟨ha, hb, hc⟩ := hr
    unfold RP C27 at *
    exact W64_id (by omega) (by omega)
  have hf := fun x => show (bif bif decide (e.B.Y ≤ p.Y) then decide (p.Y < e.A.Y) else false then (-1 : Int) else (bif bif decide (e.A.Y ≤ p.Y) then decide (p.Y < e.B.Y) else false then 1 else 0)) = want e ⟨x, p.Y⟩ from rfl
  have hl := ray_left (y := p.Y) (x := min e.A.X e.B.X - 1) hok (by omega)
  have hn := ray_want (p := p) hok
  simp only [on_eq, ray_eq, e1, e2, e3, e4, hw, h1.1, h1.2, decide_true, Bool.not_true, cond_false, ray_right, sane, cond_true, hl, cond_true, hf (min e.A.X e.B.X - 1)]
  have hq : want e ⟨min e.A.X e.B.X - 1, p.Y⟩ = want e p := rfl
  rw [hq]
  have h5 : (bif decide (RayM e p = 0) then true else decide (RayM e p = want e p)) = true := by
    rw [cnd_or, Bool.or_eq_true, decide_eq_true_eq, decide_eq_true_eq]; exact hn
  rw [h5]
  have h6 : (bif decide (OnE e p) then bif bif bif decide (p.X < min e.A.X e.B.X) then true else decide (max e.A.X e.B.X < p.X) then true else decide (p.Y < min e.A.Y e.B.Y) then true else decide (max e.A.Y e.B.Y < p.Y) else false) = false := by
    rw [cnd_and, Bool.and_eq_false_iff]
    by_cases ho : OnE e p
    · right
      have := ho.2.1
      unfold InB at this
      simp only [cnd_or, Bool.or_eq_false_iff, decide_eq_false_iff_not]
      omega
    · left; simpa using ho
  rw [h6]
  rfl
end Go.Proofs.Ytmhhigaelofbmaa
