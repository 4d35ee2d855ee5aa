/-
  No cell of these rows narrows 'for every input' (looked for: loops, veiled, ifaces, maps, wideKeys, modest, calm, conditions, laid).
  DERIVED. THE GIVEN ROWS OF THIS SEAT. 8 by the template 'for every input the law returns true; each argument reads behind the call as it read before'; 0 by the template 'total and deterministic' (their statements: YtpnlegfdkkcnlaaTotals.lean).
  GIVEN WITH THE SEED: the statements are not yours to turn. If you find one false, say at which input.
  Laid BY PROGRAM, IN A SANDBOX (cutbox-rows.mjs): the forced cells as the released guide's own fill.sh prints them over the translation 3b70293234c07e10… (all of the seat's roots in one cut). By AI agents, Wed Nov 11 2026. No macro, syntax, notation, axiom, sorry.
-/
import Derived.Test.YtpnlegfdkkcnlaaChecked
import GoSem.Claim
import GoSem.ClaimJoined
import GoSem.ClaimMapViews
import Derived.JoinedTies
import Derived.KernelRfl
namespace Go.Proofs.Ytpnlegfdkkcnlaa
/- THE CELL 'sum', in the pinned program and in every row, IS THE sha256 OF THE DUMP (.gsa) THAT YtpnlegfdkkcnlaaProg.lean LOADS. Nothing in Lean hashes anything: it is a label: what it is worth is what the hold of that sum in a sandbox is worth. -/
noncomputable def Try.pinned : Pinned := { name := "ytpnlegfdkkcnlaa", sum := "3b70293234c07e10ec24ab8b7f3b65ead3a81d362a63ac5fda4ac330f82bd808", checked := Try.checked }
namespace Rows
def none {H : Type} : Left H := { results := [], args := [] }

/-- 'etchantlaw09.ShapePoints': WHATEVER THE INPUT: true; the input reads as it did. -/
def shapePointsSpec : ChangeSpec := { name := "shapePoints", fn := fun _ => fun
  | [d1, d2, d3] => { results := [.lit (.bool true)], args := [d1, d2, d3] }
  | _ => none }
def shapePointsRow : OpenClaim := { program := "ytpnlegfdkkcnlaa", sum := "3b70293234c07e10ec24ab8b7f3b65ead3a81d362a63ac5fda4ac330f82bd808", func := "etchant/etchantlaw09.ShapePoints", spec := "shapePoints", unfollowed := true, recurses := true, apart := false }
def ShapePointsSaid : Prop := shapePointsRow.holds Try.pinned (OpenSpec.ofChange shapePointsSpec)

/-- ITS FALSE NEIGHBOUR: 'it returns false'. Refute it at one input. -/
def shapePointsWrong : ChangeSpec := { name := "shapePoints", fn := fun _ => fun
  | [d1, d2, d3] => { results := [.lit (.bool false)], args := [d1, d2, d3] }
  | _ => none }
def ShapePointsWrongFalsely : Prop := shapePointsRow.holds Try.pinned (OpenSpec.ofChange shapePointsWrong)

/-- 'etchantlaw09.ShapeStrokes': WHATEVER THE INPUT: true; the input reads as it did. -/
def shapeStrokesSpec : ChangeSpec := { name := "shapeStrokes", fn := fun _ => fun
  | [d1, d2, d3] => { results := [.lit (.bool true)], args := [d1, d2, d3] }
  | _ => none }
def shapeStrokesRow : OpenClaim := { program := "ytpnlegfdkkcnlaa", sum := "3b70293234c07e10ec24ab8b7f3b65ead3a81d362a63ac5fda4ac330f82bd808", func := "etchant/etchantlaw09.ShapeStrokes", spec := "shapeStrokes", unfollowed := true, recurses := true, apart := false }
def ShapeStrokesSaid : Prop := shapeStrokesRow.holds Try.pinned (OpenSpec.ofChange shapeStrokesSpec)

/-- ITS FALSE NEIGHBOUR: 'it returns false'. Refute it at one input. -/
def shapeStrokesWrong : ChangeSpec := { name := "shapeStrokes", fn := fun _ => fun
  | [d1, d2, d3] => { results := [.lit (.bool false)], args := [d1, d2, d3] }
  | _ => none }
def ShapeStrokesWrongFalsely : Prop := shapeStrokesRow.holds Try.pinned (OpenSpec.ofChange shapeStrokesWrong)

/-- 'etchantlaw09.ShapeExact': WHATEVER THE INPUT: true; the input reads as it did. -/
def shapeExactSpec : ChangeSpec := { name := "shapeExact", fn := fun _ => fun
  | [d1, d2, d3] => { results := [.lit (.bool true)], args := [d1, d2, d3] }
  | _ => none }
def shapeExactRow : OpenClaim := { program := "ytpnlegfdkkcnlaa", sum := "3b70293234c07e10ec24ab8b7f3b65ead3a81d362a63ac5fda4ac330f82bd808", func := "etchant/etchantlaw09.ShapeExact", spec := "shapeExact", unfollowed := true, recurses := true, apart := false }
def ShapeExactSaid : Prop := shapeExactRow.holds Try.pinned (OpenSpec.ofChange shapeExactSpec)

/-- ITS FALSE NEIGHBOUR: 'it returns false'. Refute it at one input. -/
def shapeExactWrong : ChangeSpec := { name := "shapeExact", fn := fun _ => fun
  | [d1, d2, d3] => { results := [.lit (.bool false)], args := [d1, d2, d3] }
  | _ => none }
def ShapeExactWrongFalsely : Prop := shapeExactRow.holds Try.pinned (OpenSpec.ofChange shapeExactWrong)

/-- 'etchantlaw09.ShapeChecks': WHATEVER THE INPUT: true; the input reads as it did. -/
def shapeChecksSpec : ChangeSpec := { name := "shapeChecks", fn := fun _ => fun
  | [d1, d2, d3] => { results := [.lit (.bool true)], args := [d1, d2, d3] }
  | _ => none }
def shapeChecksRow : OpenClaim := { program := "ytpnlegfdkkcnlaa", sum := "3b70293234c07e10ec24ab8b7f3b65ead3a81d362a63ac5fda4ac330f82bd808", func := "etchant/etchantlaw09.ShapeChecks", spec := "shapeChecks", unfollowed := true, recurses := true, apart := false }
def ShapeChecksSaid : Prop := shapeChecksRow.holds Try.pinned (OpenSpec.ofChange shapeChecksSpec)

/-- ITS FALSE NEIGHBOUR: 'it returns false'. Refute it at one input. -/
def shapeChecksWrong : ChangeSpec := { name := "shapeChecks", fn := fun _ => fun
  | [d1, d2, d3] => { results := [.lit (.bool false)], args := [d1, d2, d3] }
  | _ => none }
def ShapeChecksWrongFalsely : Prop := shapeChecksRow.holds Try.pinned (OpenSpec.ofChange shapeChecksWrong)

/-- 'etchantlaw09.ShapeTurns': WHATEVER THE INPUT: true; the input reads as it did. -/
def shapeTurnsSpec : ChangeSpec := { name := "shapeTurns", fn := fun _ => fun
  | [d1, d2, d3] => { results := [.lit (.bool true)], args := [d1, d2, d3] }
  | _ => none }
def shapeTurnsRow : OpenClaim := { program := "ytpnlegfdkkcnlaa", sum := "3b70293234c07e10ec24ab8b7f3b65ead3a81d362a63ac5fda4ac330f82bd808", func := "etchant/etchantlaw09.ShapeTurns", spec := "shapeTurns", unfollowed := true, recurses := true, apart := false }
def ShapeTurnsSaid : Prop := shapeTurnsRow.holds Try.pinned (OpenSpec.ofChange shapeTurnsSpec)

/-- ITS FALSE NEIGHBOUR: 'it returns false'. Refute it at one input. -/
def shapeTurnsWrong : ChangeSpec := { name := "shapeTurns", fn := fun _ => fun
  | [d1, d2, d3] => { results := [.lit (.bool false)], args := [d1, d2, d3] }
  | _ => none }
def ShapeTurnsWrongFalsely : Prop := shapeTurnsRow.holds Try.pinned (OpenSpec.ofChange shapeTurnsWrong)

/-- 'etchantlaw09.ShapeBoxes': WHATEVER THE INPUT: true; the input reads as it did. -/
def shapeBoxesSpec : ChangeSpec := { name := "shapeBoxes", fn := fun _ => fun
  | [d1, d2, d3, d4] => { results := [.lit (.bool true)], args := [d1, d2, d3, d4] }
  | _ => none }
def shapeBoxesRow : OpenClaim := { program := "ytpnlegfdkkcnlaa", sum := "3b70293234c07e10ec24ab8b7f3b65ead3a81d362a63ac5fda4ac330f82bd808", func := "etchant/etchantlaw09.ShapeBoxes", spec := "shapeBoxes", unfollowed := true, recurses := true, apart := false }
def ShapeBoxesSaid : Prop := shapeBoxesRow.holds Try.pinned (OpenSpec.ofChange shapeBoxesSpec)

/-- ITS FALSE NEIGHBOUR: 'it returns false'. Refute it at one input. -/
def shapeBoxesWrong : ChangeSpec := { name := "shapeBoxes", fn := fun _ => fun
  | [d1, d2, d3, d4] => { results := [.lit (.bool false)], args := [d1, d2, d3, d4] }
  | _ => none }
def ShapeBoxesWrongFalsely : Prop := shapeBoxesRow.holds Try.pinned (OpenSpec.ofChange shapeBoxesWrong)

/-- 'etchantlaw09.ShapeMotions': WHATEVER THE INPUT: true; the input reads as it did. -/
def shapeMotionsSpec : ChangeSpec := { name := "shapeMotions", fn := fun _ => fun
  | [d1, d2, d3] => { results := [.lit (.bool true)], args := [d1, d2, d3] }
  | _ => none }
def shapeMotionsRow : OpenClaim := { program := "ytpnlegfdkkcnlaa", sum := "3b70293234c07e10ec24ab8b7f3b65ead3a81d362a63ac5fda4ac330f82bd808", func := "etchant/etchantlaw09.ShapeMotions", spec := "shapeMotions", unfollowed := true, recurses := true, apart := false }
def ShapeMotionsSaid : Prop := shapeMotionsRow.holds Try.pinned (OpenSpec.ofChange shapeMotionsSpec)

/-- ITS FALSE NEIGHBOUR: 'it returns false'. Refute it at one input. -/
def shapeMotionsWrong : ChangeSpec := { name := "shapeMotions", fn := fun _ => fun
  | [d1, d2, d3] => { results := [.lit (.bool false)], args := [d1, d2, d3] }
  | _ => none }
def ShapeMotionsWrongFalsely : Prop := shapeMotionsRow.holds Try.pinned (OpenSpec.ofChange shapeMotionsWrong)

/-- 'etchantlaw09.ShapeRaw': WHATEVER THE INPUT: true; the input reads as it did. -/
def shapeRawSpec : ChangeSpec := { name := "shapeRaw", fn := fun _ => fun
  | [d1, d2, d3, d4] => { results := [.lit (.bool true)], args := [d1, d2, d3, d4] }
  | _ => none }
def shapeRawRow : OpenClaim := { program := "ytpnlegfdkkcnlaa", sum := "3b70293234c07e10ec24ab8b7f3b65ead3a81d362a63ac5fda4ac330f82bd808", func := "etchant/etchantlaw09.ShapeRaw", spec := "shapeRaw", unfollowed := true, recurses := true, apart := false }
def ShapeRawSaid : Prop := shapeRawRow.holds Try.pinned (OpenSpec.ofChange shapeRawSpec)

/-- ITS FALSE NEIGHBOUR: 'it returns false'. Refute it at one input. -/
def shapeRawWrong : ChangeSpec := { name := "shapeRaw", fn := fun _ => fun
  | [d1, d2, d3, d4] => { results := [.lit (.bool false)], args := [d1, d2, d3, d4] }
  | _ => none }
def ShapeRawWrongFalsely : Prop := shapeRawRow.holds Try.pinned (OpenSpec.ofChange shapeRawWrong)

/- THE SECOND FORM. 'bulk': how many values and letters a reading holds, each counted each time it is reached (what is shared counts as often as it is met; a slice's spare places count too). A statement '..UptoSaid' is the law's where the arguments, and the package variables that the reading takes, are together of bulk at most 1048576: NARROWER than '..Said'. Prove '..Said' where nothing that the law and all that it calls make is longer than what came in: it says more and counts as full. Else prove '..UptoSaid'. A law counts once. -/
mutual
def uptoBulk {H : Type} : DataW H → Nat
  | .lit (.string bytes) => bytes.length + 1
  | .lit _ => 1
  | .nil => 1
  | .ptr d => uptoBulk d + 1
  | .slice elems spare => uptoBulkAll elems + uptoBulkAll spare + 1
  | .agg parts => uptoBulkAll parts + 1
  | .iface _ d => uptoBulk d + 1
  | .map entries => uptoBulkEntries entries + 1
  | .held _ => 1
def uptoBulkAll {H : Type} : List (DataW H) → Nat
  | [] => 0
  | d :: r => uptoBulk d + uptoBulkAll r
def uptoBulkEntries {H : Type} : List (Lit × DataW H) → Nat
  | [] => 0
  | x :: r => uptoBulkEntry x + uptoBulkEntries r
def uptoBulkEntry {H : Type} : Lit × DataW H → Nat
  | (.string bytes, d) => bytes.length + uptoBulk d + 1
  | (_, d) => uptoBulk d + 1
 end
def uptoSmall : (H : Type) → List (DataW H) → Bool := fun _ ds => decide (uptoBulkAll ds ≤ 1048576)
def OpenSpec.upto (s : _root_.Go.ChangeSpec) : _root_.Go.OpenSpec := { _root_.Go.OpenSpec.ofChange s with cond := some uptoSmall }

/-- 'etchantlaw09.ShapePoints', WHERE WHAT IT READS IS OF BULK AT MOST 1048576: true; the input reads as it did. -/
def shapePointsUptoRow : OpenClaim := { program := "ytpnlegfdkkcnlaa", sum := "3b70293234c07e10ec24ab8b7f3b65ead3a81d362a63ac5fda4ac330f82bd808", func := "etchant/etchantlaw09.ShapePoints", spec := "shapePoints", unfollowed := true, recurses := true, apart := false, narrowed := true }
def ShapePointsUptoSaid : Prop := shapePointsUptoRow.holds Try.pinned (OpenSpec.upto shapePointsSpec)

/-- 'etchantlaw09.ShapeStrokes', WHERE WHAT IT READS IS OF BULK AT MOST 1048576: true; the input reads as it did. -/
def shapeStrokesUptoRow : OpenClaim := { program := "ytpnlegfdkkcnlaa", sum := "3b70293234c07e10ec24ab8b7f3b65ead3a81d362a63ac5fda4ac330f82bd808", func := "etchant/etchantlaw09.ShapeStrokes", spec := "shapeStrokes", unfollowed := true, recurses := true, apart := false, narrowed := true }
def ShapeStrokesUptoSaid : Prop := shapeStrokesUptoRow.holds Try.pinned (OpenSpec.upto shapeStrokesSpec)

/-- 'etchantlaw09.ShapeExact', WHERE WHAT IT READS IS OF BULK AT MOST 1048576: true; the input reads as it did. -/
def shapeExactUptoRow : OpenClaim := { program := "ytpnlegfdkkcnlaa", sum := "3b70293234c07e10ec24ab8b7f3b65ead3a81d362a63ac5fda4ac330f82bd808", func := "etchant/etchantlaw09.ShapeExact", spec := "shapeExact", unfollowed := true, recurses := true, apart := false, narrowed := true }
def ShapeExactUptoSaid : Prop := shapeExactUptoRow.holds Try.pinned (OpenSpec.upto shapeExactSpec)

/-- 'etchantlaw09.ShapeChecks', WHERE WHAT IT READS IS OF BULK AT MOST 1048576: true; the input reads as it did. -/
def shapeChecksUptoRow : OpenClaim := { program := "ytpnlegfdkkcnlaa", sum := "3b70293234c07e10ec24ab8b7f3b65ead3a81d362a63ac5fda4ac330f82bd808", func := "etchant/etchantlaw09.ShapeChecks", spec := "shapeChecks", unfollowed := true, recurses := true, apart := false, narrowed := true }
def ShapeChecksUptoSaid : Prop := shapeChecksUptoRow.holds Try.pinned (OpenSpec.upto shapeChecksSpec)

/-- 'etchantlaw09.ShapeTurns', WHERE WHAT IT READS IS OF BULK AT MOST 1048576: true; the input reads as it did. -/
def shapeTurnsUptoRow : OpenClaim := { program := "ytpnlegfdkkcnlaa", sum := "3b70293234c07e10ec24ab8b7f3b65ead3a81d362a63ac5fda4ac330f82bd808", func := "etchant/etchantlaw09.ShapeTurns", spec := "shapeTurns", unfollowed := true, recurses := true, apart := false, narrowed := true }
def ShapeTurnsUptoSaid : Prop := shapeTurnsUptoRow.holds Try.pinned (OpenSpec.upto shapeTurnsSpec)

/-- 'etchantlaw09.ShapeBoxes', WHERE WHAT IT READS IS OF BULK AT MOST 1048576: true; the input reads as it did. -/
def shapeBoxesUptoRow : OpenClaim := { program := "ytpnlegfdkkcnlaa", sum := "3b70293234c07e10ec24ab8b7f3b65ead3a81d362a63ac5fda4ac330f82bd808", func := "etchant/etchantlaw09.ShapeBoxes", spec := "shapeBoxes", unfollowed := true, recurses := true, apart := false, narrowed := true }
def ShapeBoxesUptoSaid : Prop := shapeBoxesUptoRow.holds Try.pinned (OpenSpec.upto shapeBoxesSpec)

/-- 'etchantlaw09.ShapeMotions', WHERE WHAT IT READS IS OF BULK AT MOST 1048576: true; the input reads as it did. -/
def shapeMotionsUptoRow : OpenClaim := { program := "ytpnlegfdkkcnlaa", sum := "3b70293234c07e10ec24ab8b7f3b65ead3a81d362a63ac5fda4ac330f82bd808", func := "etchant/etchantlaw09.ShapeMotions", spec := "shapeMotions", unfollowed := true, recurses := true, apart := false, narrowed := true }
def ShapeMotionsUptoSaid : Prop := shapeMotionsUptoRow.holds Try.pinned (OpenSpec.upto shapeMotionsSpec)

/-- 'etchantlaw09.ShapeRaw', WHERE WHAT IT READS IS OF BULK AT MOST 1048576: true; the input reads as it did. -/
def shapeRawUptoRow : OpenClaim := { program := "ytpnlegfdkkcnlaa", sum := "3b70293234c07e10ec24ab8b7f3b65ead3a81d362a63ac5fda4ac330f82bd808", func := "etchant/etchantlaw09.ShapeRaw", spec := "shapeRaw", unfollowed := true, recurses := true, apart := false, narrowed := true }
def ShapeRawUptoSaid : Prop := shapeRawUptoRow.holds Try.pinned (OpenSpec.upto shapeRawSpec)

end Rows
end Go.Proofs.Ytpnlegfdkkcnlaa
