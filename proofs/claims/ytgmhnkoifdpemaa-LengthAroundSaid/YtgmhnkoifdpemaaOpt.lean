/-
  No statement is proved in this text. It opens the arguments of the laws.
-/
import Derived.Test.YtgmhnkoifdpemaaRows
import Derived.Test.YtgmhnkoifdpemaaOpn
import Derived.Test.YtgmhnkoifdpemaaBk1
namespace Go.Proofs.Ytgmhnkoifdpemaa
open Go.ChangeShapes Go.WideShapes Go.ChangeAt Go.RowKit
theorem own : ownKnob Try.prog.godebug = none := by kernel_rfl
theorem laidOut : laidOutB Try.prog = true := by kernel_rfl
def TPoint.ok (x : TPoint) : Prop := WF .i64 x.X ∧ WF .i64 x.Y ∧ True
set_option maxRecDepth 100000 in
theorem opT31 : Opens Try.prog 31 TPoint.c TPoint.ok := by
  refine opens_map (opens_struct Try.underlying31 (by kernel_rfl) (opensF_cons 1 (by kernel_rfl) rfl (opens_int Try.underlying3) (opensF_cons 1 (by kernel_rfl) rfl (opens_int Try.underlying3) opensF_nil))) ?_
  rintro ⟨a0, a1, _⟩ ⟨h0, h1, _⟩
  exact ⟨⟨a0, a1⟩, ⟨h0, h1, trivial⟩, rfl⟩
end Go.Proofs.Ytgmhnkoifdpemaa
