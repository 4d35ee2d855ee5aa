/-
  No statement is proved in this text. It shows that the examples of chapter 25 hold.
-/
import Derived.Test.YtgmhnkoifdpemaaL25s
import Derived.Test.YtgmhnkoifdpemaaSqp
namespace Go.Proofs.Ytgmhnkoifdpemaa
open Go.RowKit
theorem sane25 : Fsanity25 = true := by decide +kernel
end Go.Proofs.Ytgmhnkoifdpemaa
