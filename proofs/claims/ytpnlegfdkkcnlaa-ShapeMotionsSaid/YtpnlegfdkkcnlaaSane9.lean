/-
  No statement is proved in this text. It shows that the examples of the chapter hold.
-/
import Derived.Test.YtpnlegfdkkcnlaaK9s
namespace Go.Proofs.Ytpnlegfdkkcnlaa
theorem sane9 : Fsanity9 = true := by decide +kernel
end Go.Proofs.Ytpnlegfdkkcnlaa
