/-
  No statement is proved in this text. It opens the arguments of the laws.
-/
import Derived.Test.YtoojlpcimogehaaRows
import Derived.Test.YtoojlpcimogehaaOpn
import Derived.Test.YtoojlpcimogehaaBk1
namespace Go.Proofs.Ytoojlpcimogehaa
open Go.ChangeShapes Go.WideShapes Go.ChangeAt Go.RowKit
theorem own : ownKnob Try.prog.godebug = none := by kernel_rfl
theorem laidOut : laidOutB Try.prog = true := by kernel_rfl
theorem opT23 : Opens Try.prog 23 (fun xs : List Int => [lst 1 (fun x => [.i x]) xs]) (fun xs => xs.length ≤ maxLen ∧ ∀ x ∈ xs, WF .i64 x) := opens_slice 1 Try.underlying23 (by kernel_rfl) (by decide) (opens_int Try.underlying3)
theorem opT22 : Opens Try.prog 22 (fun xs : List (List Int) => [lst 1 (fun x => [lst 1 (fun x => [.i x]) x]) xs]) (fun xs => xs.length ≤ maxLen ∧ ∀ x ∈ xs, (x.length ≤ maxLen ∧ ∀ y ∈ x, WF .i64 y)) := opens_slice 1 Try.underlying22 (by kernel_rfl) (by decide) opT23
def TA24.ok (x : TA24) : Prop := (x.e0.length ≤ maxLen ∧ ∀ y ∈ x.e0, WF .i64 y) ∧ (x.e1.length ≤ maxLen ∧ ∀ y ∈ x.e1, WF .i64 y) ∧ True
theorem opT24 : Opens Try.prog 24 TA24.c TA24.ok := by
  refine opens_map (opens_array Try.underlying24 (by kernel_rfl) opT23) ?_
  rintro xs ⟨hl, hx⟩
  match xs, hl with
  | [a0, a1], _ => exact ⟨⟨a0, a1⟩, ⟨hx _ (by simp), hx _ (by simp), trivial⟩, rfl⟩
end Go.Proofs.Ytoojlpcimogehaa
