/-
  No statement is proved in this text. It opens the arguments of the laws.
-/
import Derived.Test.YtoojlpcimogehaaRows
import Derived.Test.YtoojlpcimogehaaOpn
import Derived.Test.YtoojlpcimogehaaBk1
namespace Go.Proofs.Ytoojlpcimogehaa
open Go.ChangeShapes Go.WideShapes Go.ChangeAt Go.RowKit
theorem own : ownKnob Try.prog.godebug = none := by kernel_rfl
theorem laidOut : laidOutB Try.prog = true := by kernel_rfl
def TRect.ok (x : TRect) : Prop := WF .i64 x.X0 ∧ WF .i64 x.Y0 ∧ WF .i64 x.X1 ∧ WF .i64 x.Y1 ∧ True
set_option maxRecDepth 100000 in
theorem opT55 : Opens Try.prog 55 TRect.c TRect.ok := by
  refine opens_map (opens_struct Try.underlying55 (by kernel_rfl) (opensF_cons 1 (by kernel_rfl) rfl (opens_int Try.underlying3) (opensF_cons 1 (by kernel_rfl) rfl (opens_int Try.underlying3) (opensF_cons 1 (by kernel_rfl) rfl (opens_int Try.underlying3) (opensF_cons 1 (by kernel_rfl) rfl (opens_int Try.underlying3) opensF_nil))))) ?_
  rintro ⟨a0, a1, a2, a3, _⟩ ⟨h0, h1, h2, h3, _⟩
  exact ⟨⟨a0, a1, a2, a3⟩, ⟨h0, h1, h2, h3, trivial⟩, rfl⟩
theorem opT23 : Opens Try.prog 23 (fun xs : List Int => [lst 1 (fun x => [.i x]) xs]) (fun xs => xs.length ≤ maxLen ∧ ∀ x ∈ xs, WF .i64 x) := opens_slice 1 Try.underlying23 (by kernel_rfl) (by decide) (opens_int Try.underlying3)
theorem opT22 : Opens Try.prog 22 (fun xs : List (List Int) => [lst 1 (fun x => [lst 1 (fun x => [.i x]) x]) xs]) (fun xs => xs.length ≤ maxLen ∧ ∀ x ∈ xs, (x.length ≤ maxLen ∧ ∀ y ∈ x, WF .i64 y)) := opens_slice 1 Try.underlying22 (by kernel_rfl) (by decide) opT23
def TA24.ok (x : TA24) : Prop := (x.e0.length ≤ maxLen ∧ ∀ y ∈ x.e0, WF .i64 y) ∧ (x.e1.length ≤ maxLen ∧ ∀ y ∈ x.e1, WF .i64 y) ∧ True
theorem opT24 : Opens Try.prog 24 TA24.c TA24.ok := by
  refine opens_map (opens_array Try.underlying24 (by kernel_rfl) opT23) ?_
  rintro xs ⟨hl, hx⟩
  match xs, hl with
  | [a0, a1], _ => exact ⟨⟨a0, a1⟩, ⟨hx _ (by simp), hx _ (by simp), trivial⟩, rfl⟩
def TWaiver.ok (x : TWaiver) : Prop := WF .i64 x.A ∧ WF .i64 x.B ∧ x.Rule.size ≤ maxLen ∧ True
set_option maxRecDepth 100000 in
theorem opT68 : Opens Try.prog 68 TWaiver.c TWaiver.ok := by
  refine opens_map (opens_struct Try.underlying68 (by kernel_rfl) (opensF_cons 1 (by kernel_rfl) rfl (opens_int Try.underlying3) (opensF_cons 1 (by kernel_rfl) rfl (opens_int Try.underlying3) (opensF_cons 1 (by kernel_rfl) rfl (opens_string Try.underlying9) opensF_nil)))) ?_
  rintro ⟨a0, a1, a2, _⟩ ⟨h0, h1, h2, _⟩
  exact ⟨⟨a0, a1, a2⟩, ⟨h0, h1, h2, trivial⟩, rfl⟩
theorem opT38 : Opens Try.prog 38 (fun xs : List TWaiver => [lst 3 TWaiver.c xs]) (fun xs => xs.length ≤ maxLen ∧ ∀ x ∈ xs, TWaiver.ok x) := opens_slice 3 Try.underlying38 (by kernel_rfl) (by decide) opT68
end Go.Proofs.Ytoojlpcimogehaa
