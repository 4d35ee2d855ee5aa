/-
  No statement is proved in this text. It holds that the law EdgeReverse answers true.
-/
import Derived.Test.YtmhhigaelofbmaaGeo4
import Derived.Test.YtmhhigaelofbmaaEdgeReverseW
namespace Go.Proofs.Ytmhhigaelofbmaa
open Go.RowKit

theorem up_small (e : TEdge) (p : TPoint) : W64 (0 - RayM e p) = - RayM e p := by
  have : -1 ≤ RayM e p ∧ RayM e p ≤ 1 := by
    unfold RayM up
    split
    · split
      · omega
      · split <;> omega
    · omega
  rw [W64_id (by omega) (by omega)]
  omega
theorem edgeReverse_true (l m : List Int) (raw : TEdge) : FEdgeReverse l m raw = true := by
  have hb : ∀ b : Bool, (b == b) = true := fun b => by cases b <;> rfl
  have ho : ∀ e p, decide (OnE (RevM e) p) = decide (OnE e p) := fun e p => by rw [decide_eq_decide]; exact rev_on e p
  unfold FEdgeReverse
  simp only [rev_eq, rev_rev, check_eq, rev_check, rad_eq, rev_rad, on_eq, ho, ray_eq, rev_ray, up_small, hb, decide_true, Bool.not_true, cond_false, Bool.and_true, sane]
end Go.Proofs.Ytmhhigaelofbmaa
