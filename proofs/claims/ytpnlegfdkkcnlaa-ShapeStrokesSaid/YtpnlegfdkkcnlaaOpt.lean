/-
  No statement is proved in this text. It opens the arguments of the laws.
-/
import Derived.Test.YtpnlegfdkkcnlaaRows
import Derived.Test.YtpnlegfdkkcnlaaOpn
import Derived.Test.YtpnlegfdkkcnlaaBk1
namespace Go.Proofs.Ytpnlegfdkkcnlaa
open Go.ChangeShapes Go.WideShapes Go.ChangeAt Go.RowKit
theorem own : ownKnob Try.prog.godebug = none := by kernel_rfl
theorem laidOut : laidOutB Try.prog = true := by kernel_rfl
theorem opT22 : Opens Try.prog 22 (fun xs : List Int => [lst 1 (fun x => [.i x]) xs]) (fun xs => xs.length ≤ maxLen ∧ ∀ x ∈ xs, WF .i64 x) := opens_slice 1 Try.underlying22 (by kernel_rfl) (by decide) (opens_int Try.underlying3)
end Go.Proofs.Ytpnlegfdkkcnlaa
