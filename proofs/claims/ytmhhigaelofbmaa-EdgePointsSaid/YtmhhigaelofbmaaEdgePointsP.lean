/-
  No statement is proved in this text. It holds that the law EdgePoints answers true.
-/
import Derived.Test.YtmhhigaelofbmaaGeo3
import Derived.Test.YtmhhigaelofbmaaEdgePointsW
namespace Go.Proofs.Ytmhhigaelofbmaa
open Go.RowKit

theorem edgePoints_true (l m : List Int) (e : TEdge) (p : TPoint) : FEdgePoints l m e p = true := by
  have h1 : Fsanity = true := by decide +kernel
  have hb : ∀ b : Bool, (b == b) = true := fun b => by cases b <;> rfl
  unfold FEdgePoints
  simp only [on_eq, on6_eq, ray_eq, ray6_eq, hb, decide_true, Bool.not_true, cond_false, h1]
end Go.Proofs.Ytmhhigaelofbmaa
