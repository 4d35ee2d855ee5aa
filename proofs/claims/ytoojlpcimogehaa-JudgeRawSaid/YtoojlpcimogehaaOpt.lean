/-
  No statement is proved in this text. It opens the arguments of the laws.
-/
import Derived.Test.YtoojlpcimogehaaRows
import Derived.Test.YtoojlpcimogehaaOpn
import Derived.Test.YtoojlpcimogehaaBk1
namespace Go.Proofs.Ytoojlpcimogehaa
open Go.ChangeShapes Go.WideShapes Go.ChangeAt Go.RowKit
theorem own : ownKnob Try.prog.godebug = none := by kernel_rfl
theorem laidOut : laidOutB Try.prog = true := by kernel_rfl
def TRect.ok (x : TRect) : Prop := WF .i64 x.X0 ∧ WF .i64 x.Y0 ∧ WF .i64 x.X1 ∧ WF .i64 x.Y1 ∧ True
set_option maxRecDepth 100000 in
theorem opT55 : Opens Try.prog 55 TRect.c TRect.ok := by
  refine opens_map (opens_struct Try.underlying55 (by kernel_rfl) (opensF_cons 1 (by kernel_rfl) rfl (opens_int Try.underlying3) (opensF_cons 1 (by kernel_rfl) rfl (opens_int Try.underlying3) (opensF_cons 1 (by kernel_rfl) rfl (opens_int Try.underlying3) (opensF_cons 1 (by kernel_rfl) rfl (opens_int Try.underlying3) opensF_nil))))) ?_
  rintro ⟨a0, a1, a2, a3, _⟩ ⟨h0, h1, h2, h3, _⟩
  exact ⟨⟨a0, a1, a2, a3⟩, ⟨h0, h1, h2, h3, trivial⟩, rfl⟩
theorem opT23 : Opens Try.prog 23 (fun xs : List Int => [lst 1 (fun x => [.i x]) xs]) (fun xs => xs.length ≤ maxLen ∧ ∀ x ∈ xs, WF .i64 x) := opens_slice 1 Try.underlying23 (by kernel_rfl) (by decide) (opens_int Try.underlying3)
theorem opT22 : Opens Try.prog 22 (fun xs : List (List Int) => [lst 1 (fun x => [lst 1 (fun x => [.i x]) x]) xs]) (fun xs => xs.length ≤ maxLen ∧ ∀ x ∈ xs, (x.length ≤ maxLen ∧ ∀ y ∈ x, WF .i64 y)) := opens_slice 1 Try.underlying22 (by kernel_rfl) (by decide) opT23
def TA24.ok (x : TA24) : Prop := (x.e0.length ≤ maxLen ∧ ∀ y ∈ x.e0, WF .i64 y) ∧ (x.e1.length ≤ maxLen ∧ ∀ y ∈ x.e1, WF .i64 y) ∧ True
theorem opT24 : Opens Try.prog 24 TA24.c TA24.ok := by
  refine opens_map (opens_array Try.underlying24 (by kernel_rfl) opT23) ?_
  rintro xs ⟨hl, hx⟩
  match xs, hl with
  | [a0, a1], _ => exact ⟨⟨a0, a1⟩, ⟨hx _ (by simp), hx _ (by simp), trivial⟩, rfl⟩
def TWaiver.ok (x : TWaiver) : Prop := WF .i64 x.A ∧ WF .i64 x.B ∧ x.Rule.size ≤ maxLen ∧ True
set_option maxRecDepth 100000 in
theorem opT68 : Opens Try.prog 68 TWaiver.c TWaiver.ok := by
  refine opens_map (opens_struct Try.underlying68 (by kernel_rfl) (opensF_cons 1 (by kernel_rfl) rfl (opens_int Try.underlying3) (opensF_cons 1 (by kernel_rfl) rfl (opens_int Try.underlying3) (opensF_cons 1 (by kernel_rfl) rfl (opens_string Try.underlying9) opensF_nil)))) ?_
  rintro ⟨a0, a1, a2, _⟩ ⟨h0, h1, h2, _⟩
  exact ⟨⟨a0, a1, a2⟩, ⟨h0, h1, h2, trivial⟩, rfl⟩
theorem opT38 : Opens Try.prog 38 (fun xs : List TWaiver => [lst 3 TWaiver.c xs]) (fun xs => xs.length ≤ maxLen ∧ ∀ x ∈ xs, TWaiver.ok x) := opens_slice 3 Try.underlying38 (by kernel_rfl) (by decide) opT68
def TPoint.ok (x : TPoint) : Prop := WF .i64 x.X ∧ WF .i64 x.Y ∧ True
set_option maxRecDepth 100000 in
theorem opT102 : Opens Try.prog 102 TPoint.c TPoint.ok := by
  refine opens_map (opens_struct Try.underlying102 (by kernel_rfl) (opensF_cons 1 (by kernel_rfl) rfl (opens_int Try.underlying3) (opensF_cons 1 (by kernel_rfl) rfl (opens_int Try.underlying3) opensF_nil))) ?_
  rintro ⟨a0, a1, _⟩ ⟨h0, h1, _⟩
  exact ⟨⟨a0, a1⟩, ⟨h0, h1, trivial⟩, rfl⟩
def TEdge.ok (x : TEdge) : Prop := WF .i64 x.Kind ∧ TPoint.ok x.A ∧ TPoint.ok x.B ∧ TPoint.ok x.C ∧ True
set_option maxRecDepth 100000 in
theorem opT124 : Opens Try.prog 124 TEdge.c TEdge.ok := by
  refine opens_map (opens_struct Try.underlying124 (by kernel_rfl) (opensF_cons 1 (by kernel_rfl) rfl (opens_int Try.underlying3) (opensF_cons 2 (by kernel_rfl) rfl opT102 (opensF_cons 2 (by kernel_rfl) rfl opT102 (opensF_cons 2 (by kernel_rfl) rfl opT102 opensF_nil))))) ?_
  rintro ⟨a0, a1, a2, a3, _⟩ ⟨h0, h1, h2, h3, _⟩
  exact ⟨⟨a0, a1, a2, a3⟩, ⟨h0, h1, h2, h3, trivial⟩, rfl⟩
theorem opT26 : Opens Try.prog 26 (fun xs : List TEdge => [lst 7 TEdge.c xs]) (fun xs => xs.length ≤ maxLen ∧ ∀ x ∈ xs, TEdge.ok x) := opens_slice 7 Try.underlying26 (by kernel_rfl) (by decide) opT124
def TShape.ok (x : TShape) : Prop := WF .i64 x.Kind ∧ (x.Edges.length ≤ maxLen ∧ ∀ y ∈ x.Edges, TEdge.ok y) ∧ WF .i64 x.R ∧ True
set_option maxRecDepth 100000 in
theorem opT28 : Opens Try.prog 28 TShape.c TShape.ok := by
  refine opens_map (opens_struct Try.underlying28 (by kernel_rfl) (opensF_cons 1 (by kernel_rfl) rfl (opens_int Try.underlying3) (opensF_cons 1 (by kernel_rfl) rfl opT26 (opensF_cons 1 (by kernel_rfl) rfl (opens_int Try.underlying3) opensF_nil)))) ?_
  rintro ⟨a0, a1, a2, _⟩ ⟨h0, h1, h2, _⟩
  exact ⟨⟨a0, a1, a2⟩, ⟨h0, h1, h2, trivial⟩, rfl⟩
def TItem.ok (x : TItem) : Prop := WF .i64 x.Id ∧ x.Pad.size ≤ maxLen ∧ WF .i64 x.Kind ∧ x.Net.size ≤ maxLen ∧ WF .i64 x.From ∧ WF .i64 x.To ∧ TShape.ok x.Shape ∧ True
set_option maxRecDepth 100000 in
theorem opT44 : Opens Try.prog 44 TItem.c TItem.ok := by
  refine opens_map (opens_struct Try.underlying44 (by kernel_rfl) (opensF_cons 1 (by kernel_rfl) rfl (opens_int Try.underlying3) (opensF_cons 1 (by kernel_rfl) rfl (opens_string Try.underlying9) (opensF_cons 1 (by kernel_rfl) rfl (opens_int Try.underlying3) (opensF_cons 1 (by kernel_rfl) rfl (opens_string Try.underlying9) (opensF_cons 1 (by kernel_rfl) rfl (opens_int Try.underlying3) (opensF_cons 1 (by kernel_rfl) rfl (opens_int Try.underlying3) (opensF_cons 3 (by kernel_rfl) rfl opT28 opensF_nil)))))))) ?_
  rintro ⟨a0, a1, a2, a3, a4, a5, a6, _⟩ ⟨h0, h1, h2, h3, h4, h5, h6, _⟩
  exact ⟨⟨a0, a1, a2, a3, a4, a5, a6⟩, ⟨h0, h1, h2, h3, h4, h5, h6, trivial⟩, rfl⟩
end Go.Proofs.Ytoojlpcimogehaa
