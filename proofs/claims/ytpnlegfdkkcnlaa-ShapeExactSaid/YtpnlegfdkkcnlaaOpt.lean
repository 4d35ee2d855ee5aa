/-
  No statement is proved in this text. It opens the arguments of the laws.
-/
import Derived.Test.YtpnlegfdkkcnlaaRows
import Derived.Test.YtpnlegfdkkcnlaaOpn
import Derived.Test.YtpnlegfdkkcnlaaBk1
namespace Go.Proofs.Ytpnlegfdkkcnlaa
open Go.ChangeShapes Go.WideShapes Go.ChangeAt Go.RowKit
theorem own : ownKnob Try.prog.godebug = none := by kernel_rfl
theorem laidOut : laidOutB Try.prog = true := by kernel_rfl

end Go.Proofs.Ytpnlegfdkkcnlaa
