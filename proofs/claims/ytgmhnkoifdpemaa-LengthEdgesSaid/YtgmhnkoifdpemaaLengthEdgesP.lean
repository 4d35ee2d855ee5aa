/-
  No statement is proved in this text. It shows in plain numbers that LengthEdges returns true.
-/
import Derived.Test.YtgmhnkoifdpemaaSane25
import Derived.Test.YtgmhnkoifdpemaaChk25
import Derived.Test.YtgmhnkoifdpemaaLengthEdgesW
namespace Go.Proofs.Ytgmhnkoifdpemaa
open Go.RowKit
set_option linter.unusedVariables false
set_option linter.unusedSimpArgs false

theorem edge_eq (e : TEdge) : FlenEdge e = FrefEdge e := by
  unfold FlenEdge FrefEdge
  rw [check_eq, check6_eq, rad_eq, rad6_eq, sqrt_eq (by unfold FvecDot; exact (w64_rng _).2)]
  rfl
theorem sum_l0 (s : TShape) : ∀ (n : Nat) (v k : Int), FsumE_l0 s.Edges n v k = FrefShape_l0 s n v k
  | 0, v, k => rfl
  | n + 1, v, k => by
    unfold FsumE_l0 FrefShape_l0
    rw [edge_eq, sum_l0 s n]
theorem shape_eq (s : TShape) : FlenShape s = FrefShape s := by
  unfold FlenShape FrefShape FsumE
  rw [checkR_eq, sum_l0]
theorem lengthEdges_true (c : TCase) (raw : TRaw) (f : Int) : FLengthEdges c raw f = true := by
  unfold FLengthEdges
  rw [sane25, edge_eq, edge_eq, shape_eq, shape_eq]
  simp
end Go.Proofs.Ytgmhnkoifdpemaa
