/-
  No statement is proved in this text. It opens the arguments of the laws.
-/
import Derived.Test.YtgmhnkoifdpemaaRows
import Derived.Test.YtgmhnkoifdpemaaOpn
import Derived.Test.YtgmhnkoifdpemaaBk1
namespace Go.Proofs.Ytgmhnkoifdpemaa
open Go.ChangeShapes Go.WideShapes Go.ChangeAt Go.RowKit
theorem own : ownKnob Try.prog.godebug = none := by kernel_rfl
theorem laidOut : laidOutB Try.prog = true := by kernel_rfl
def TPoint.ok (x : TPoint) : Prop := WF .i64 x.X ∧ WF .i64 x.Y ∧ True
set_option maxRecDepth 100000 in
theorem opT31 : Opens Try.prog 31 TPoint.c TPoint.ok := by
  refine opens_map (opens_struct Try.underlying31 (by kernel_rfl) (opensF_cons 1 (by kernel_rfl) rfl (opens_int Try.underlying3) (opensF_cons 1 (by kernel_rfl) rfl (opens_int Try.underlying3) opensF_nil))) ?_
  rintro ⟨a0, a1, _⟩ ⟨h0, h1, _⟩
  exact ⟨⟨a0, a1⟩, ⟨h0, h1, trivial⟩, rfl⟩
theorem opT23 : Opens Try.prog 23 (fun xs : List Int => [lst 1 (fun x => [.i x]) xs]) (fun xs => xs.length ≤ maxLen ∧ ∀ x ∈ xs, WF .i64 x) := opens_slice 1 Try.underlying23 (by kernel_rfl) (by decide) (opens_int Try.underlying3)
theorem opT26 : Opens Try.prog 26 (fun xs : List (List Int) => [lst 1 (fun x => [lst 1 (fun x => [.i x]) x]) xs]) (fun xs => xs.length ≤ maxLen ∧ ∀ x ∈ xs, (x.length ≤ maxLen ∧ ∀ y ∈ x, WF .i64 y)) := opens_slice 1 Try.underlying26 (by kernel_rfl) (by decide) opT23
def TA27.ok (x : TA27) : Prop := WF .i64 x.e0 ∧ WF .i64 x.e1 ∧ WF .i64 x.e2 ∧ True
theorem opT27 : Opens Try.prog 27 TA27.c TA27.ok := by
  refine opens_map (opens_array Try.underlying27 (by kernel_rfl) (opens_int Try.underlying3)) ?_
  rintro xs ⟨hl, hx⟩
  match xs, hl with
  | [a0, a1, a2], _ => exact ⟨⟨a0, a1, a2⟩, ⟨hx _ (by simp), hx _ (by simp), hx _ (by simp), trivial⟩, rfl⟩
def TCase.ok (x : TCase) : Prop := (x.Shape.length ≤ maxLen ∧ ∀ y ∈ x.Shape, WF .i64 y) ∧ (x.Edge.length ≤ maxLen ∧ ∀ y ∈ x.Edge, WF .i64 y) ∧ (x.Board.length ≤ maxLen ∧ ∀ y ∈ x.Board, (y.length ≤ maxLen ∧ ∀ z ∈ y, WF .i64 z)) ∧ TA27.ok x.Odd ∧ True
set_option maxRecDepth 100000 in
theorem opT29 : Opens Try.prog 29 TCase.c TCase.ok := by
  refine opens_map (opens_struct Try.underlying29 (by kernel_rfl) (opensF_cons 1 (by kernel_rfl) rfl opT23 (opensF_cons 1 (by kernel_rfl) rfl opT23 (opensF_cons 1 (by kernel_rfl) rfl opT26 (opensF_cons 3 (by kernel_rfl) rfl opT27 opensF_nil))))) ?_
  rintro ⟨a0, a1, a2, a3, _⟩ ⟨h0, h1, h2, h3, _⟩
  exact ⟨⟨a0, a1, a2, a3⟩, ⟨h0, h1, h2, h3, trivial⟩, rfl⟩
def TEdge.ok (x : TEdge) : Prop := WF .i64 x.Kind ∧ TPoint.ok x.A ∧ TPoint.ok x.B ∧ TPoint.ok x.C ∧ True
set_option maxRecDepth 100000 in
theorem opT33 : Opens Try.prog 33 TEdge.c TEdge.ok := by
  refine opens_map (opens_struct Try.underlying33 (by kernel_rfl) (opensF_cons 1 (by kernel_rfl) rfl (opens_int Try.underlying3) (opensF_cons 2 (by kernel_rfl) rfl opT31 (opensF_cons 2 (by kernel_rfl) rfl opT31 (opensF_cons 2 (by kernel_rfl) rfl opT31 opensF_nil))))) ?_
  rintro ⟨a0, a1, a2, a3, _⟩ ⟨h0, h1, h2, h3, _⟩
  exact ⟨⟨a0, a1, a2, a3⟩, ⟨h0, h1, h2, h3, trivial⟩, rfl⟩
theorem opT34 : Opens Try.prog 34 (fun xs : List TEdge => [lst 7 TEdge.c xs]) (fun xs => xs.length ≤ maxLen ∧ ∀ x ∈ xs, TEdge.ok x) := opens_slice 7 Try.underlying34 (by kernel_rfl) (by decide) opT33
def TShape.ok (x : TShape) : Prop := WF .i64 x.Kind ∧ (x.Edges.length ≤ maxLen ∧ ∀ y ∈ x.Edges, TEdge.ok y) ∧ WF .i64 x.R ∧ True
set_option maxRecDepth 100000 in
theorem opT36 : Opens Try.prog 36 TShape.c TShape.ok := by
  refine opens_map (opens_struct Try.underlying36 (by kernel_rfl) (opensF_cons 1 (by kernel_rfl) rfl (opens_int Try.underlying3) (opensF_cons 1 (by kernel_rfl) rfl opT34 (opensF_cons 1 (by kernel_rfl) rfl (opens_int Try.underlying3) opensF_nil)))) ?_
  rintro ⟨a0, a1, a2, _⟩ ⟨h0, h1, h2, _⟩
  exact ⟨⟨a0, a1, a2⟩, ⟨h0, h1, h2, trivial⟩, rfl⟩
def TRaw.ok (x : TRaw) : Prop := TEdge.ok x.Edge ∧ TShape.ok x.Shape ∧ True
set_option maxRecDepth 100000 in
theorem opT38 : Opens Try.prog 38 TRaw.c TRaw.ok := by
  refine opens_map (opens_struct Try.underlying38 (by kernel_rfl) (opensF_cons 7 (by kernel_rfl) rfl opT33 (opensF_cons 3 (by kernel_rfl) rfl opT36 opensF_nil))) ?_
  rintro ⟨a0, a1, _⟩ ⟨h0, h1, _⟩
  exact ⟨⟨a0, a1⟩, ⟨h0, h1, trivial⟩, rfl⟩
end Go.Proofs.Ytgmhnkoifdpemaa
