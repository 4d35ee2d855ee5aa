/-
  No statement is proved in this text. It opens the arguments of the laws.
-/
import Derived.Test.YtmhhigaelofbmaaRows
import Derived.Test.YtmhhigaelofbmaaOpn
import Derived.Test.YtmhhigaelofbmaaBk1
namespace Go.Proofs.Ytmhhigaelofbmaa
open Go.ChangeShapes Go.WideShapes Go.ChangeAt Go.RowKit
theorem own : ownKnob Try.prog.godebug = none := by kernel_rfl
theorem laidOut : laidOutB Try.prog = true := by kernel_rfl
theorem opT22 : Opens Try.prog 22 (fun xs : List Int => [lst 1 (fun x => [.i x]) xs]) (fun xs => xs.length ≤ maxLen ∧ ∀ x ∈ xs, WF .i64 x) := opens_slice 1 Try.underlying22 (by kernel_rfl) (by decide) (opens_int Try.underlying3)
def TPoint.ok (x : TPoint) : Prop := WF .i64 x.X ∧ WF .i64 x.Y ∧ True
theorem opT24 : Opens Try.prog 24 TPoint.c TPoint.ok := by
  refine opens_map (opens_struct Try.underlying24 (by kernel_rfl) (opensF_cons 1 (by kernel_rfl) rfl (opens_int Try.underlying3) (opensF_cons 1 (by kernel_rfl) rfl (opens_int Try.underlying3) opensF_nil))) ?_
  rintro ⟨a0, a1, _⟩ ⟨h0, h1, _⟩
  exact ⟨⟨a0, a1⟩, ⟨h0, h1, trivial⟩, rfl⟩
def TEdge.ok (x : TEdge) : Prop := WF .i64 x.Kind ∧ TPoint.ok x.A ∧ TPoint.ok x.B ∧ TPoint.ok x.C ∧ True
theorem opT26 : Opens Try.prog 26 TEdge.c TEdge.ok := by
  refine opens_map (opens_struct Try.underlying26 (by kernel_rfl) (opensF_cons 1 (by kernel_rfl) rfl (opens_int Try.underlying3) (opensF_cons 2 (by kernel_rfl) rfl opT24 (opensF_cons 2 (by kernel_rfl) rfl opT24 (opensF_cons 2 (by kernel_rfl) rfl opT24 opensF_nil))))) ?_
  rintro ⟨a0, a1, a2, a3, _⟩ ⟨h0, h1, h2, h3, _⟩
  exact ⟨⟨a0, a1, a2, a3⟩, ⟨h0, h1, h2, h3, trivial⟩, rfl⟩
def TMotion.ok (x : TMotion) : Prop := TPoint.ok x.At ∧ WF .i64 x.Turn ∧ True ∧ True
theorem opT55 : Opens Try.prog 55 TMotion.c TMotion.ok := by
  refine opens_map (opens_struct Try.underlying55 (by kernel_rfl) (opensF_cons 2 (by kernel_rfl) rfl opT24 (opensF_cons 1 (by kernel_rfl) rfl (opens_int Try.underlying3) (opensF_cons 1 (by kernel_rfl) rfl (opens_bool Try.underlying4) opensF_nil)))) ?_
  rintro ⟨a0, a1, a2, _⟩ ⟨h0, h1, h2, _⟩
  exact ⟨⟨a0, a1, a2⟩, ⟨h0, h1, h2, trivial⟩, rfl⟩
def TA46.ok (x : TA46) : Prop := WF .u8 x.e0 ∧ WF .u8 x.e1 ∧ True
theorem opT46 : Opens Try.prog 46 TA46.c TA46.ok := by
  refine opens_map (opens_array Try.underlying46 (by kernel_rfl) (opens_int Try.underlying5)) ?_
  rintro xs ⟨hl, hx⟩
  match xs, hl with
  | [a0, a1], _ => exact ⟨⟨a0, a1⟩, ⟨hx _ (by simp), hx _ (by simp), trivial⟩, rfl⟩
end Go.Proofs.Ytmhhigaelofbmaa
