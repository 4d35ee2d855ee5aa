/-
  No cell of these rows narrows 'for every input' (looked for: loops, veiled, ifaces, maps, wideKeys, modest, calm, conditions, laid).
  DERIVED. THE GIVEN ROWS OF THIS SEAT. 8 by the template 'for every input the law returns true; each argument reads behind the call as it read before'; 0 by the template 'total and deterministic' (their statements: YtmhhigaelofbmaaTotals.lean).
  GIVEN WITH THE SEED: the statements are not yours to turn. If you find one false, say at which input.
  Laid BY PROGRAM, IN A SANDBOX (cutbox-rows.mjs): the forced cells as the released guide's own fill.sh prints them over the translation 55ab43685c3386d0… (all of the seat's roots in one cut). By AI agents, Wed Nov 11 2026. No macro, syntax, notation, axiom, sorry.
-/
import Derived.Test.YtmhhigaelofbmaaChecked
import GoSem.Claim
import GoSem.ClaimJoined
import GoSem.ClaimMapViews
import Derived.JoinedTies
import Derived.KernelRfl
namespace Go.Proofs.Ytmhhigaelofbmaa
/- THE CELL 'sum', in the pinned program and in every row, IS THE sha256 OF THE DUMP (.gsa) THAT YtmhhigaelofbmaaProg.lean LOADS. Nothing in Lean hashes anything: it is a label: what it is worth is what the hold of that sum in a sandbox is worth. -/
noncomputable def Try.pinned : Pinned := { name := "ytmhhigaelofbmaa", sum := "55ab43685c3386d0b172ca66c6029891b8266f671f9bae8375b2a9e3e40d267e", checked := Try.checked }
namespace Rows
def none {H : Type} : Left H := { results := [], args := [] }

/-- 'etchantlaw06.EdgeChecks': WHATEVER THE INPUT: true; the input reads as it did. -/
def edgeChecksSpec : ChangeSpec := { name := "edgeChecks", fn := fun _ => fun
  | [d1, d2, d3, d4] => { results := [.lit (.bool true)], args := [d1, d2, d3, d4] }
  | _ => none }
def edgeChecksRow : OpenClaim := { program := "ytmhhigaelofbmaa", sum := "55ab43685c3386d0b172ca66c6029891b8266f671f9bae8375b2a9e3e40d267e", func := "etchant/etchantlaw06.EdgeChecks", spec := "edgeChecks", unfollowed := true, recurses := true, apart := false }
def EdgeChecksSaid : Prop := edgeChecksRow.holds Try.pinned (OpenSpec.ofChange edgeChecksSpec)

/-- ITS FALSE NEIGHBOUR: 'it returns false'. Refute it at one input. -/
def edgeChecksWrong : ChangeSpec := { name := "edgeChecks", fn := fun _ => fun
  | [d1, d2, d3, d4] => { results := [.lit (.bool false)], args := [d1, d2, d3, d4] }
  | _ => none }
def EdgeChecksWrongFalsely : Prop := edgeChecksRow.holds Try.pinned (OpenSpec.ofChange edgeChecksWrong)

/-- 'etchantlaw06.EdgePoints': WHATEVER THE INPUT: true; the input reads as it did. -/
def edgePointsSpec : ChangeSpec := { name := "edgePoints", fn := fun _ => fun
  | [d1, d2, d3, d4] => { results := [.lit (.bool true)], args := [d1, d2, d3, d4] }
  | _ => none }
def edgePointsRow : OpenClaim := { program := "ytmhhigaelofbmaa", sum := "55ab43685c3386d0b172ca66c6029891b8266f671f9bae8375b2a9e3e40d267e", func := "etchant/etchantlaw06.EdgePoints", spec := "edgePoints", unfollowed := true, recurses := true, apart := false }
def EdgePointsSaid : Prop := edgePointsRow.holds Try.pinned (OpenSpec.ofChange edgePointsSpec)

/-- ITS FALSE NEIGHBOUR: 'it returns false'. Refute it at one input. -/
def edgePointsWrong : ChangeSpec := { name := "edgePoints", fn := fun _ => fun
  | [d1, d2, d3, d4] => { results := [.lit (.bool false)], args := [d1, d2, d3, d4] }
  | _ => none }
def EdgePointsWrongFalsely : Prop := edgePointsRow.holds Try.pinned (OpenSpec.ofChange edgePointsWrong)

/-- 'etchantlaw06.EdgeReverse': WHATEVER THE INPUT: true; the input reads as it did. -/
def edgeReverseSpec : ChangeSpec := { name := "edgeReverse", fn := fun _ => fun
  | [d1, d2, d3] => { results := [.lit (.bool true)], args := [d1, d2, d3] }
  | _ => none }
def edgeReverseRow : OpenClaim := { program := "ytmhhigaelofbmaa", sum := "55ab43685c3386d0b172ca66c6029891b8266f671f9bae8375b2a9e3e40d267e", func := "etchant/etchantlaw06.EdgeReverse", spec := "edgeReverse", unfollowed := true, recurses := true, apart := false }
def EdgeReverseSaid : Prop := edgeReverseRow.holds Try.pinned (OpenSpec.ofChange edgeReverseSpec)

/-- ITS FALSE NEIGHBOUR: 'it returns false'. Refute it at one input. -/
def edgeReverseWrong : ChangeSpec := { name := "edgeReverse", fn := fun _ => fun
  | [d1, d2, d3] => { results := [.lit (.bool false)], args := [d1, d2, d3] }
  | _ => none }
def EdgeReverseWrongFalsely : Prop := edgeReverseRow.holds Try.pinned (OpenSpec.ofChange edgeReverseWrong)

/-- 'etchantlaw06.EdgeBoxes': WHATEVER THE INPUT: true; the input reads as it did. -/
def edgeBoxesSpec : ChangeSpec := { name := "edgeBoxes", fn := fun _ => fun
  | [d1, d2] => { results := [.lit (.bool true)], args := [d1, d2] }
  | _ => none }
def edgeBoxesRow : OpenClaim := { program := "ytmhhigaelofbmaa", sum := "55ab43685c3386d0b172ca66c6029891b8266f671f9bae8375b2a9e3e40d267e", func := "etchant/etchantlaw06.EdgeBoxes", spec := "edgeBoxes", unfollowed := true, recurses := true, apart := false }
def EdgeBoxesSaid : Prop := edgeBoxesRow.holds Try.pinned (OpenSpec.ofChange edgeBoxesSpec)

/-- ITS FALSE NEIGHBOUR: 'it returns false'. Refute it at one input. -/
def edgeBoxesWrong : ChangeSpec := { name := "edgeBoxes", fn := fun _ => fun
  | [d1, d2] => { results := [.lit (.bool false)], args := [d1, d2] }
  | _ => none }
def EdgeBoxesWrongFalsely : Prop := edgeBoxesRow.holds Try.pinned (OpenSpec.ofChange edgeBoxesWrong)

/-- 'etchantlaw06.EdgeDivides': WHATEVER THE INPUT: true; the input reads as it did. -/
def edgeDividesSpec : ChangeSpec := { name := "edgeDivides", fn := fun _ => fun
  | [d1, d2, d3] => { results := [.lit (.bool true)], args := [d1, d2, d3] }
  | _ => none }
def edgeDividesRow : OpenClaim := { program := "ytmhhigaelofbmaa", sum := "55ab43685c3386d0b172ca66c6029891b8266f671f9bae8375b2a9e3e40d267e", func := "etchant/etchantlaw06.EdgeDivides", spec := "edgeDivides", unfollowed := true, recurses := true, apart := false }
def EdgeDividesSaid : Prop := edgeDividesRow.holds Try.pinned (OpenSpec.ofChange edgeDividesSpec)

/-- ITS FALSE NEIGHBOUR: 'it returns false'. Refute it at one input. -/
def edgeDividesWrong : ChangeSpec := { name := "edgeDivides", fn := fun _ => fun
  | [d1, d2, d3] => { results := [.lit (.bool false)], args := [d1, d2, d3] }
  | _ => none }
def EdgeDividesWrongFalsely : Prop := edgeDividesRow.holds Try.pinned (OpenSpec.ofChange edgeDividesWrong)

/-- 'etchantlaw06.EdgeCircles': WHATEVER THE INPUT: true; the input reads as it did. -/
def edgeCirclesSpec : ChangeSpec := { name := "edgeCircles", fn := fun _ => fun
  | [d1, d2, d3] => { results := [.lit (.bool true)], args := [d1, d2, d3] }
  | _ => none }
def edgeCirclesRow : OpenClaim := { program := "ytmhhigaelofbmaa", sum := "55ab43685c3386d0b172ca66c6029891b8266f671f9bae8375b2a9e3e40d267e", func := "etchant/etchantlaw06.EdgeCircles", spec := "edgeCircles", unfollowed := true, recurses := true, apart := false }
def EdgeCirclesSaid : Prop := edgeCirclesRow.holds Try.pinned (OpenSpec.ofChange edgeCirclesSpec)

/-- ITS FALSE NEIGHBOUR: 'it returns false'. Refute it at one input. -/
def edgeCirclesWrong : ChangeSpec := { name := "edgeCircles", fn := fun _ => fun
  | [d1, d2, d3] => { results := [.lit (.bool false)], args := [d1, d2, d3] }
  | _ => none }
def EdgeCirclesWrongFalsely : Prop := edgeCirclesRow.holds Try.pinned (OpenSpec.ofChange edgeCirclesWrong)

/-- 'etchantlaw06.EdgeMoved': WHATEVER THE INPUT: true; the input reads as it did. -/
def edgeMovedSpec : ChangeSpec := { name := "edgeMoved", fn := fun _ => fun
  | [d1, d2] => { results := [.lit (.bool true)], args := [d1, d2] }
  | _ => none }
def edgeMovedRow : OpenClaim := { program := "ytmhhigaelofbmaa", sum := "55ab43685c3386d0b172ca66c6029891b8266f671f9bae8375b2a9e3e40d267e", func := "etchant/etchantlaw06.EdgeMoved", spec := "edgeMoved", unfollowed := true, recurses := true, apart := false }
def EdgeMovedSaid : Prop := edgeMovedRow.holds Try.pinned (OpenSpec.ofChange edgeMovedSpec)

/-- ITS FALSE NEIGHBOUR: 'it returns false'. Refute it at one input. -/
def edgeMovedWrong : ChangeSpec := { name := "edgeMoved", fn := fun _ => fun
  | [d1, d2] => { results := [.lit (.bool false)], args := [d1, d2] }
  | _ => none }
def EdgeMovedWrongFalsely : Prop := edgeMovedRow.holds Try.pinned (OpenSpec.ofChange edgeMovedWrong)

/-- 'etchantlaw06.EdgeMotions': WHATEVER THE INPUT: true; the input reads as it did. -/
def edgeMotionsSpec : ChangeSpec := { name := "edgeMotions", fn := fun _ => fun
  | [d1, d2, d3] => { results := [.lit (.bool true)], args := [d1, d2, d3] }
  | _ => none }
def edgeMotionsRow : OpenClaim := { program := "ytmhhigaelofbmaa", sum := "55ab43685c3386d0b172ca66c6029891b8266f671f9bae8375b2a9e3e40d267e", func := "etchant/etchantlaw06.EdgeMotions", spec := "edgeMotions", unfollowed := true, recurses := true, apart := false }
def EdgeMotionsSaid : Prop := edgeMotionsRow.holds Try.pinned (OpenSpec.ofChange edgeMotionsSpec)

/-- ITS FALSE NEIGHBOUR: 'it returns false'. Refute it at one input. -/
def edgeMotionsWrong : ChangeSpec := { name := "edgeMotions", fn := fun _ => fun
  | [d1, d2, d3] => { results := [.lit (.bool false)], args := [d1, d2, d3] }
  | _ => none }
def EdgeMotionsWrongFalsely : Prop := edgeMotionsRow.holds Try.pinned (OpenSpec.ofChange edgeMotionsWrong)

/- THE SECOND FORM. 'bulk': how many values and letters a reading holds, each counted each time it is reached (what is shared counts as often as it is met; a slice's spare places count too). A statement '..UptoSaid' is the law's where the arguments, and the package variables that the reading takes, are together of bulk at most 1048576: NARROWER than '..Said'. Prove '..Said' where nothing that the law and all that it calls make is longer than what came in: it says more and counts as full. Else prove '..UptoSaid'. A law counts once. -/
mutual
def uptoBulk {H : Type} : DataW H → Nat
  | .lit (.string bytes) => bytes.length + 1
  | .lit _ => 1
  | .nil => 1
  | .ptr d => uptoBulk d + 1
  | .slice elems spare => uptoBulkAll elems + uptoBulkAll spare + 1
  | .agg parts => uptoBulkAll parts + 1
  | .iface _ d => uptoBulk d + 1
  | .map entries => uptoBulkEntries entries + 1
  | .held _ => 1
def uptoBulkAll {H : Type} : List (DataW H) → Nat
  | [] => 0
  | d :: r => uptoBulk d + uptoBulkAll r
def uptoBulkEntries {H : Type} : List (Lit × DataW H) → Nat
  | [] => 0
  | x :: r => uptoBulkEntry x + uptoBulkEntries r
def uptoBulkEntry {H : Type} : Lit × DataW H → Nat
  | (.string bytes, d) => bytes.length + uptoBulk d + 1
  | (_, d) => uptoBulk d + 1
 end
def uptoSmall : (H : Type) → List (DataW H) → Bool := fun _ ds => decide (uptoBulkAll ds ≤ 1048576)
def OpenSpec.upto (s : _root_.Go.ChangeSpec) : _root_.Go.OpenSpec := { _root_.Go.OpenSpec.ofChange s with cond := some uptoSmall }

/-- 'etchantlaw06.EdgeChecks', WHERE WHAT IT READS IS OF BULK AT MOST 1048576: true; the input reads as it did. -/
def edgeChecksUptoRow : OpenClaim := { program := "ytmhhigaelofbmaa", sum := "55ab43685c3386d0b172ca66c6029891b8266f671f9bae8375b2a9e3e40d267e", func := "etchant/etchantlaw06.EdgeChecks", spec := "edgeChecks", unfollowed := true, recurses := true, apart := false, narrowed := true }
def EdgeChecksUptoSaid : Prop := edgeChecksUptoRow.holds Try.pinned (OpenSpec.upto edgeChecksSpec)

/-- 'etchantlaw06.EdgePoints', WHERE WHAT IT READS IS OF BULK AT MOST 1048576: true; the input reads as it did. -/
def edgePointsUptoRow : OpenClaim := { program := "ytmhhigaelofbmaa", sum := "55ab43685c3386d0b172ca66c6029891b8266f671f9bae8375b2a9e3e40d267e", func := "etchant/etchantlaw06.EdgePoints", spec := "edgePoints", unfollowed := true, recurses := true, apart := false, narrowed := true }
def EdgePointsUptoSaid : Prop := edgePointsUptoRow.holds Try.pinned (OpenSpec.upto edgePointsSpec)

/-- 'etchantlaw06.EdgeReverse', WHERE WHAT IT READS IS OF BULK AT MOST 1048576: true; the input reads as it did. -/
def edgeReverseUptoRow : OpenClaim := { program := "ytmhhigaelofbmaa", sum := "55ab43685c3386d0b172ca66c6029891b8266f671f9bae8375b2a9e3e40d267e", func := "etchant/etchantlaw06.EdgeReverse", spec := "edgeReverse", unfollowed := true, recurses := true, apart := false, narrowed := true }
def EdgeReverseUptoSaid : Prop := edgeReverseUptoRow.holds Try.pinned (OpenSpec.upto edgeReverseSpec)

/-- 'etchantlaw06.EdgeBoxes', WHERE WHAT IT READS IS OF BULK AT MOST 1048576: true; the input reads as it did. -/
def edgeBoxesUptoRow : OpenClaim := { program := "ytmhhigaelofbmaa", sum := "55ab43685c3386d0b172ca66c6029891b8266f671f9bae8375b2a9e3e40d267e", func := "etchant/etchantlaw06.EdgeBoxes", spec := "edgeBoxes", unfollowed := true, recurses := true, apart := false, narrowed := true }
def EdgeBoxesUptoSaid : Prop := edgeBoxesUptoRow.holds Try.pinned (OpenSpec.upto edgeBoxesSpec)

/-- 'etchantlaw06.EdgeDivides', WHERE WHAT IT READS IS OF BULK AT MOST 1048576: true; the input reads as it did. -/
def edgeDividesUptoRow : OpenClaim := { program := "ytmhhigaelofbmaa", sum := "55ab43685c3386d0b172ca66c6029891b8266f671f9bae8375b2a9e3e40d267e", func := "etchant/etchantlaw06.EdgeDivides", spec := "edgeDivides", unfollowed := true, recurses := true, apart := false, narrowed := true }
def EdgeDividesUptoSaid : Prop := edgeDividesUptoRow.holds Try.pinned (OpenSpec.upto edgeDividesSpec)

/-- 'etchantlaw06.EdgeCircles', WHERE WHAT IT READS IS OF BULK AT MOST 1048576: true; the input reads as it did. -/
def edgeCirclesUptoRow : OpenClaim := { program := "ytmhhigaelofbmaa", sum := "55ab43685c3386d0b172ca66c6029891b8266f671f9bae8375b2a9e3e40d267e", func := "etchant/etchantlaw06.EdgeCircles", spec := "edgeCircles", unfollowed := true, recurses := true, apart := false, narrowed := true }
def EdgeCirclesUptoSaid : Prop := edgeCirclesUptoRow.holds Try.pinned (OpenSpec.upto edgeCirclesSpec)

/-- 'etchantlaw06.EdgeMoved', WHERE WHAT IT READS IS OF BULK AT MOST 1048576: true; the input reads as it did. -/
def edgeMovedUptoRow : OpenClaim := { program := "ytmhhigaelofbmaa", sum := "55ab43685c3386d0b172ca66c6029891b8266f671f9bae8375b2a9e3e40d267e", func := "etchant/etchantlaw06.EdgeMoved", spec := "edgeMoved", unfollowed := true, recurses := true, apart := false, narrowed := true }
def EdgeMovedUptoSaid : Prop := edgeMovedUptoRow.holds Try.pinned (OpenSpec.upto edgeMovedSpec)

/-- 'etchantlaw06.EdgeMotions', WHERE WHAT IT READS IS OF BULK AT MOST 1048576: true; the input reads as it did. -/
def edgeMotionsUptoRow : OpenClaim := { program := "ytmhhigaelofbmaa", sum := "55ab43685c3386d0b172ca66c6029891b8266f671f9bae8375b2a9e3e40d267e", func := "etchant/etchantlaw06.EdgeMotions", spec := "edgeMotions", unfollowed := true, recurses := true, apart := false, narrowed := true }
def EdgeMotionsUptoSaid : Prop := edgeMotionsUptoRow.holds Try.pinned (OpenSpec.upto edgeMotionsSpec)

end Rows
end Go.Proofs.Ytmhhigaelofbmaa
