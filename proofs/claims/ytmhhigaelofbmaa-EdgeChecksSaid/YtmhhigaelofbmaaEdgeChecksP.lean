/-
  No statement is proved in this text. It holds that the law EdgeChecks answers true.
-/
import Derived.Test.YtmhhigaelofbmaaGeo4
import Derived.Test.YtmhhigaelofbmaaEdgeChecksW
namespace Go.Proofs.Ytmhhigaelofbmaa
open Go.RowKit

theorem edgeChecks_true (l : List Int) (which by_ : Int) (raw : TEdge) : FEdgeChecks l which by_ raw = true := by
  have h1 : CheckM (FMade l) = 0 := if_pos (made_ok l).1
  unfold FEdgeChecks
  simp only [check_eq, check6_eq, rad_eq, rad6_eq, decide_true, Bool.not_true, cond_false, sane, cond_true, h1]
end Go.Proofs.Ytmhhigaelofbmaa
