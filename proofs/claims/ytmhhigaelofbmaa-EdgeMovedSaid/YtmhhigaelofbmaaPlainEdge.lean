/-
  No statement is proved in this text. It holds the plain functions that chapter 6 computes, with the wraps of Go's int.
-/
import Derived.Test.YtmhhigaelofbmaaPlainVec
namespace Go.Proofs.Ytmhhigaelofbmaa
open Go.RowKit

theorem and4 (a b c : Bool) : (a = false) ∨ (a = true ∧ b = false) ∨ (a = true ∧ b = true ∧ c = false) ∨ (a = true ∧ b = true ∧ c = true) := by
  cases a <;> cases b <;> cases c <;> simp
theorem and2 (a b : Bool) : (a = false) ∨ (a = true ∧ b = false) ∨ (a = true ∧ b = true) := by
  cases a <;> cases b <;> simp

namespace E
/-- The lesser and the greater of two numbers, as words that no rule opens. -/
def mn (a b : Int) : Int := min a b
def mx (a b : Int) : Int := max a b
def up (ay by' : Int) : Int := if ay < by' then 1 else if by' < ay then -1 else 0
def power (ax ay cx cy px py : Int) : Int := V.sub (V.dot (V.sub px cx) (V.sub py cy) (V.sub px cx) (V.sub py cy)) (V.dot (V.sub ax cx) (V.sub ay cy) (V.sub ax cx) (V.sub ay cy))
def odd (x y : Int) : Bool := (decide (x = 0)) != (decide (y = 0))
def quL (ax ay bx by' cx cy : Int) : Bool := odd (V.sub ax cx) (V.sub ay cy) && (decide (V.sub bx cx = V.neg (V.sub ay cy)) && decide (V.sub by' cy = V.sub ax cx))
def quR (ax ay bx by' cx cy : Int) : Bool := odd (V.sub ax cx) (V.sub ay cy) && (decide (V.sub bx cx = V.sub ay cy) && decide (V.sub by' cy = V.neg (V.sub ax cx)))
def qu (ax ay bx by' cx cy t : Int) : Bool := odd (V.sub ax cx) (V.sub ay cy) && (decide (V.sub bx cx = V.applyX 0 t false (V.sub ax cx) (V.sub ay cy)) && decide (V.sub by' cy = V.applyY 0 t false (V.sub ax cx) (V.sub ay cy)))
def lone (cx cy : Int) : Bool := decide (cx = 0) && decide (cy = 0)
def form (k ax ay bx by' cx cy : Int) : Bool := if k = 1 then lone cx cy else if k = 2 then quL ax ay bx by' cx cy else if k = 3 then quR ax ay bx by' cx cy else false
def rights (ax ay bx by' cx cy : Int) : Bool := V.right ax ay && (V.right bx by' && V.right cx cy)
def ok (k ax ay bx by' cx cy : Int) : Bool := rights ax ay bx by' cx cy && form k ax ay bx by' cx cy
def kind (k : Int) : Bool := decide (1 ≤ k) && decide (k ≤ 3)
def check (k ax ay bx by' cx cy : Int) : Int := if ok k ax ay bx by' cx cy then 0 else if kind k && !(rights ax ay bx by' cx cy) then 10 else 11
def rad (ax ay cx cy : Int) : Int := max (max (max (V.sub ax cx) (V.neg (V.sub ax cx))) (V.sub ay cy)) (V.neg (V.sub ay cy))
def radius (k ax ay bx by' cx cy : Int) : Int := if ok k ax ay bx by' cx cy then (if k = 1 then 0 else rad ax ay cx cy) else 0
def inBox (ax ay bx by' px py : Int) : Bool := decide (mn ax bx ≤ px) && (decide (px ≤ mx ax bx) && (decide (mn ay by' ≤ py) && decide (py ≤ mx ay by')))
def on_ (k ax ay bx by' cx cy px py : Int) : Bool := if k = 1 then decide (V.side ax ay bx by' px py = 0) else decide (power ax ay cx cy px py = 0)
def on (k ax ay bx by' cx cy px py : Int) : Bool := ok k ax ay bx by' cx cy && (inBox ax ay bx by' px py && on_ k ax ay bx by' cx cy px py)
def beside (ax ay bx cx cy px py : Int) : Bool := if cx < ax ∨ cx < bx then decide (px < cx) || decide (power ax ay cx cy px py < 0) else decide (px < cx) && decide (0 < power ax ay cx cy px py)
def above (ax ay bx by' px py : Int) : Bool := decide (V.side ax ay bx by' px py = up ay by')
def rightOf (k ax ay bx by' cx cy px py : Int) : Bool := if k = 1 then above ax ay bx by' px py else beside ax ay bx cx cy px py
def off (ax ay bx by' px py : Int) : Bool := decide (py < mn ay by') || (decide (mx ay by' ≤ py) || decide (mx ax bx ≤ px))
def ray (k ax ay bx by' cx cy px py : Int) : Int := if ok k ax ay bx by' cx cy then (if off ax ay bx by' px py then 0 else if px < mn ax bx then up ay by' else if rightOf k ax ay bx by' cx cy px py then up ay by' else 0) else 0
def other (k : Int) : Int := if k = 2 then 3 else if k = 3 then 2 else k
def moveC (k : Int) (m : Bool) : Int := if m then other k else k

theorem sub_add0 (a c : Int) : V.add (V.sub a c) 0 = V.sub a c := by unfold V.add V.sub wrap64; omega
theorem neg_add0 (a : Int) : V.add (V.neg a) 0 = V.neg a := by unfold V.add V.neg wrap64; omega
theorem qu1 (ax ay bx by' cx cy : Int) : qu ax ay bx by' cx cy 1 = quL ax ay bx by' cx cy := by
  unfold qu quL V.applyX V.applyY V.turnX V.turnY V.mir
  simp [sub_add0, neg_add0]
theorem qu3 (ax ay bx by' cx cy : Int) : qu ax ay bx by' cx cy 3 = quR ax ay bx by' cx cy := by
  unfold qu quR V.applyX V.applyY V.turnX V.turnY V.mir
  simp [sub_add0, neg_add0]
theorem r_up (a b : Int) : R64 (up a b) := by unfold up; split <;> (try split) <;> exact r64_small _ (by omega)
attribute [irreducible] mn mx up power odd quL quR qu lone form rights ok kind check rad radius inBox on_ on beside above rightOf off ray other moveC
end E
end Go.Proofs.Ytmhhigaelofbmaa
