/-
  No statement is proved in this text. It holds what a store of four or seven cells into a new variable does.
-/
import Derived.Test.YtmhhigaelofbmaaDraw
namespace Go.Proofs.Ytmhhigaelofbmaa
open Go.RowKit
/-! ### Whole blocks, for a walk that knows its own variables -/
theorem blk_set (w : World) (b b' k : Nat) (v : Value) : (w.setCell ⟨b, k, none⟩ v).heap[b']? = if b = b' then (w.heap[b']?).map (fun | .cells c e f => .cells (c.setIfInBounds k v) e f | o => o) else w.heap[b']? := by
  simp only [World.setCell, Array.getElem?_modify]
  rfl
theorem blk_alloc (w : World) (o : Obj) (b : Nat) : (w.alloc o).heap[b]? = if b = w.heap.size then some o else w.heap[b]? := by
  show (w.heap.push o)[b]? = _
  rw [Array.getElem?_push]
theorem blk_self (w : World) (b k : Nat) (v : Value) : (w.setCell ⟨b, k, none⟩ v).heap[b]? = (w.heap[b]?).map (fun | .cells c e f => .cells (c.setIfInBounds k v) e f | o => o) := by
  rw [blk_set]; simp only [if_true]
theorem blk_other (w : World) (b b' k : Nat) (v : Value) (h : b ≠ b') : (w.setCell ⟨b, k, none⟩ v).heap[b']? = w.heap[b']? := by
  rw [blk_set]; simp only [h, if_false]
theorem blk_old (w : World) (o : Obj) (b : Nat) (h : b < w.heap.size) : (w.alloc o).heap[b]? = w.heap[b]? := by
  rw [blk_alloc, if_neg (by omega)]
theorem blk_new (w : World) (o : Obj) (b : Nat) (h : b = w.heap.size) : (w.alloc o).heap[b]? = some o := by
  rw [blk_alloc, if_pos h]
theorem blk_drew (w : World) (b : Nat) : w.drew.heap[b]? = w.heap[b]? := rfl

theorem setAt_four {w : World} {b : Nat} {x0 x1 x2 x3 y0 y1 y2 y3 : Value} {T : TypeId} (h : w.heap[b]? = some (.cells #[x0, x1, x2, x3] T)) :
    SetAt w b (.cells #[y0, y1, y2, y3] T) ((((w.setCell ⟨b, 0, none⟩ y0).setCell ⟨b, 1, none⟩ y1).setCell ⟨b, 2, none⟩ y2).setCell ⟨b, 3, none⟩ y3) := by
  have h0 : SetAt w b (.cells #[y0, x1, x2, x3] T) (w.setCell ⟨b, 0, none⟩ y0) := setAt_one h 0 y0
  have h1 : SetAt (w.setCell ⟨b, 0, none⟩ y0) b (.cells #[y0, y1, x2, x3] T) ((w.setCell ⟨b, 0, none⟩ y0).setCell ⟨b, 1, none⟩ y1) := setAt_one h0.here 1 y1
  have h2 : SetAt ((w.setCell ⟨b, 0, none⟩ y0).setCell ⟨b, 1, none⟩ y1) b (.cells #[y0, y1, y2, x3] T) (((w.setCell ⟨b, 0, none⟩ y0).setCell ⟨b, 1, none⟩ y1).setCell ⟨b, 2, none⟩ y2) := setAt_one h1.here 2 y2
  have h3 : SetAt (((w.setCell ⟨b, 0, none⟩ y0).setCell ⟨b, 1, none⟩ y1).setCell ⟨b, 2, none⟩ y2) b (.cells #[y0, y1, y2, y3] T) ((((w.setCell ⟨b, 0, none⟩ y0).setCell ⟨b, 1, none⟩ y1).setCell ⟨b, 2, none⟩ y2).setCell ⟨b, 3, none⟩ y3) := setAt_one h2.here 3 y3
  exact setAt_trans (setAt_trans (setAt_trans h0 h1) h2) h3
theorem setAt_seven {w : World} {b : Nat} {x0 x1 x2 x3 x4 x5 x6 y0 y1 y2 y3 y4 y5 y6 : Value} {T : TypeId} (h : w.heap[b]? = some (.cells #[x0, x1, x2, x3, x4, x5, x6] T)) :
    SetAt w b (.cells #[y0, y1, y2, y3, y4, y5, y6] T) (((((((w.setCell ⟨b, 0, none⟩ y0).setCell ⟨b, 1, none⟩ y1).setCell ⟨b, 2, none⟩ y2).setCell ⟨b, 3, none⟩ y3).setCell ⟨b, 4, none⟩ y4).setCell ⟨b, 5, none⟩ y5).setCell ⟨b, 6, none⟩ y6) := by
  have h0 : SetAt w b (.cells #[y0, x1, x2, x3, x4, x5, x6] T) (w.setCell ⟨b, 0, none⟩ y0) := setAt_one h 0 y0
  have h1 : SetAt (w.setCell ⟨b, 0, none⟩ y0) b (.cells #[y0, y1, x2, x3, x4, x5, x6] T) ((w.setCell ⟨b, 0, none⟩ y0).setCell ⟨b, 1, none⟩ y1) := setAt_one h0.here 1 y1
  have h2 : SetAt ((w.setCell ⟨b, 0, none⟩ y0).setCell ⟨b, 1, none⟩ y1) b (.cells #[y0, y1, y2, x3, x4, x5, x6] T) (((w.setCell ⟨b, 0, none⟩ y0).setCell ⟨b, 1, none⟩ y1).setCell ⟨b, 2, none⟩ y2) := setAt_one h1.here 2 y2
  have h3 : SetAt (((w.setCell ⟨b, 0, none⟩ y0).setCell ⟨b, 1, none⟩ y1).setCell ⟨b, 2, none⟩ y2) b (.cells #[y0, y1, y2, y3, x4, x5, x6] T) ((((w.setCell ⟨b, 0, none⟩ y0).setCell ⟨b, 1, none⟩ y1).setCell ⟨b, 2, none⟩ y2).setCell ⟨b, 3, none⟩ y3) := setAt_one h2.here 3 y3
  have h4 : SetAt ((((w.setCell ⟨b, 0, none⟩ y0).setCell ⟨b, 1, none⟩ y1).setCell ⟨b, 2, none⟩ y2).setCell ⟨b, 3, none⟩ y3) b (.cells #[y0, y1, y2, y3, y4, x5, x6] T) (((((w.setCell ⟨b, 0, none⟩ y0).setCell ⟨b, 1, none⟩ y1).setCell ⟨b, 2, none⟩ y2).setCell ⟨b, 3, none⟩ y3).setCell ⟨b, 4, none⟩ y4) := setAt_one h3.here 4 y4
  have h5 : SetAt (((((w.setCell ⟨b, 0, none⟩ y0).setCell ⟨b, 1, none⟩ y1).setCell ⟨b, 2, none⟩ y2).setCell ⟨b, 3, none⟩ y3).setCell ⟨b, 4, none⟩ y4) b (.cells #[y0, y1, y2, y3, y4, y5, x6] T) ((((((w.setCell ⟨b, 0, none⟩ y0).setCell ⟨b, 1, none⟩ y1).setCell ⟨b, 2, none⟩ y2).setCell ⟨b, 3, none⟩ y3).setCell ⟨b, 4, none⟩ y4).setCell ⟨b, 5, none⟩ y5) := setAt_one h4.here 5 y5
  have h6 : SetAt ((((((w.setCell ⟨b, 0, none⟩ y0).setCell ⟨b, 1, none⟩ y1).setCell ⟨b, 2, none⟩ y2).setCell ⟨b, 3, none⟩ y3).setCell ⟨b, 4, none⟩ y4).setCell ⟨b, 5, none⟩ y5) b (.cells #[y0, y1, y2, y3, y4, y5, y6] T) (((((((w.setCell ⟨b, 0, none⟩ y0).setCell ⟨b, 1, none⟩ y1).setCell ⟨b, 2, none⟩ y2).setCell ⟨b, 3, none⟩ y3).setCell ⟨b, 4, none⟩ y4).setCell ⟨b, 5, none⟩ y5).setCell ⟨b, 6, none⟩ y6) := setAt_one h5.here 6 y6
  exact setAt_trans (setAt_trans (setAt_trans (setAt_trans (setAt_trans (setAt_trans h0 h1) h2) h3) h4) h5) h6
end Go.Proofs.Ytmhhigaelofbmaa
