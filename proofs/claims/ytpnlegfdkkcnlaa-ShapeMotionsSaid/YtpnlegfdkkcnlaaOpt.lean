/-
  No statement is proved in this text. It opens the arguments of the laws.
-/
import Derived.Test.YtpnlegfdkkcnlaaRows
import Derived.Test.YtpnlegfdkkcnlaaOpn
import Derived.Test.YtpnlegfdkkcnlaaBk1
namespace Go.Proofs.Ytpnlegfdkkcnlaa
open Go.ChangeShapes Go.WideShapes Go.ChangeAt Go.RowKit
theorem own : ownKnob Try.prog.godebug = none := by kernel_rfl
theorem laidOut : laidOutB Try.prog = true := by kernel_rfl
theorem opT22 : Opens Try.prog 22 (fun xs : List Int => [lst 1 (fun x => [.i x]) xs]) (fun xs => xs.length ≤ maxLen ∧ ∀ x ∈ xs, WF .i64 x) := opens_slice 1 Try.underlying22 (by kernel_rfl) (by decide) (opens_int Try.underlying3)
def TA59.ok (x : TA59) : Prop := WF .u8 x.e0 ∧ WF .u8 x.e1 ∧ True
theorem opT59 : Opens Try.prog 59 TA59.c TA59.ok := by
  refine opens_map (opens_array Try.underlying59 (by kernel_rfl) (opens_int Try.underlying5)) ?_
  rintro xs ⟨hl, hx⟩
  match xs, hl with
  | [a0, a1], _ => exact ⟨⟨a0, a1⟩, ⟨hx _ (by simp), hx _ (by simp), trivial⟩, rfl⟩
def TPoint.ok (x : TPoint) : Prop := WF .i64 x.X ∧ WF .i64 x.Y ∧ True
set_option maxRecDepth 100000 in
theorem opT29 : Opens Try.prog 29 TPoint.c TPoint.ok := by
  refine opens_map (opens_struct Try.underlying29 (by kernel_rfl) (opensF_cons 1 (by kernel_rfl) rfl (opens_int Try.underlying3) (opensF_cons 1 (by kernel_rfl) rfl (opens_int Try.underlying3) opensF_nil))) ?_
  rintro ⟨a0, a1, _⟩ ⟨h0, h1, _⟩
  exact ⟨⟨a0, a1⟩, ⟨h0, h1, trivial⟩, rfl⟩
def TMotion.ok (x : TMotion) : Prop := TPoint.ok x.At ∧ WF .i64 x.Turn ∧ True ∧ True
set_option maxRecDepth 100000 in
theorem opT39 : Opens Try.prog 39 TMotion.c TMotion.ok := by
  refine opens_map (opens_struct Try.underlying39 (by kernel_rfl) (opensF_cons 2 (by kernel_rfl) rfl opT29 (opensF_cons 1 (by kernel_rfl) rfl (opens_int Try.underlying3) (opensF_cons 1 (by kernel_rfl) rfl (opens_bool Try.underlying4) opensF_nil)))) ?_
  rintro ⟨a0, a1, a2, _⟩ ⟨h0, h1, h2, _⟩
  exact ⟨⟨a0, a1, a2⟩, ⟨h0, h1, h2, trivial⟩, rfl⟩
end Go.Proofs.Ytpnlegfdkkcnlaa
