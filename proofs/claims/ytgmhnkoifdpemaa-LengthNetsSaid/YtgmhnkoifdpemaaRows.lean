/-
  NARROWER THAN 'FOR EVERY INPUT', by the rows' own cells (each row's printed sentence says how): LengthNets: loops.
  DERIVED. THE GIVEN ROWS OF THIS SEAT. 6 by the template 'for every input the law returns true; each argument reads behind the call as it read before'; 0 by the template 'total and deterministic' (their statements: YtgmhnkoifdpemaaTotals.lean).
  GIVEN WITH THE SEED: the statements are not yours to turn. If you find one false, say at which input.
  Laid BY PROGRAM, IN A SANDBOX (cutbox-rows.mjs): the forced cells as the released guide's own fill.sh prints them over the translation 6ee8c7f8def1e293… (all of the seat's roots in one cut). By AI agents, Wed Nov 11 2026. No macro, syntax, notation, axiom, sorry.
-/
import Derived.Test.YtgmhnkoifdpemaaChecked
import GoSem.Claim
import GoSem.ClaimJoined
import GoSem.ClaimMapViews
import Derived.JoinedTies
import Derived.KernelRfl
namespace Go.Proofs.Ytgmhnkoifdpemaa
/- THE CELL 'sum', in the pinned program and in every row, IS THE sha256 OF THE DUMP (.gsa) THAT YtgmhnkoifdpemaaProg.lean LOADS. Nothing in Lean hashes anything: it is a label: what it is worth is what the hold of that sum in a sandbox is worth. -/
noncomputable def Try.pinned : Pinned := { name := "ytgmhnkoifdpemaa", sum := "6ee8c7f8def1e293c1da26e1317666cb375c095d6048b268d471a7433a24b908", checked := Try.checked }
namespace Rows
def none {H : Type} : Left H := { results := [], args := [] }

/-- 'etchantlaw25.LengthSqrt': WHATEVER THE INPUT: true; the input reads as it did. -/
def lengthSqrtSpec : ChangeSpec := { name := "lengthSqrt", fn := fun _ => fun
  | [d] => { results := [.lit (.bool true)], args := [d] }
  | _ => none }
def lengthSqrtRow : OpenClaim := { program := "ytgmhnkoifdpemaa", sum := "6ee8c7f8def1e293c1da26e1317666cb375c095d6048b268d471a7433a24b908", func := "etchant/etchantlaw25.LengthSqrt", spec := "lengthSqrt", inPlace := ["math.sqrt"], unfollowed := true, recurses := true, apart := false }
def LengthSqrtSaid : Prop := lengthSqrtRow.holds Try.pinned (OpenSpec.ofChange lengthSqrtSpec)

/-- ITS FALSE NEIGHBOUR: 'it returns false'. Refute it at one input. -/
def lengthSqrtWrong : ChangeSpec := { name := "lengthSqrt", fn := fun _ => fun
  | [d] => { results := [.lit (.bool false)], args := [d] }
  | _ => none }
def LengthSqrtWrongFalsely : Prop := lengthSqrtRow.holds Try.pinned (OpenSpec.ofChange lengthSqrtWrong)

/-- 'etchantlaw25.LengthEdges': WHATEVER THE INPUT: true; the input reads as it did. -/
def lengthEdgesSpec : ChangeSpec := { name := "lengthEdges", fn := fun _ => fun
  | [d1, d2, d3] => { results := [.lit (.bool true)], args := [d1, d2, d3] }
  | _ => none }
def lengthEdgesRow : OpenClaim := { program := "ytgmhnkoifdpemaa", sum := "6ee8c7f8def1e293c1da26e1317666cb375c095d6048b268d471a7433a24b908", func := "etchant/etchantlaw25.LengthEdges", spec := "lengthEdges", inPlace := ["math.sqrt"], unfollowed := true, recurses := true, apart := false }
def LengthEdgesSaid : Prop := lengthEdgesRow.holds Try.pinned (OpenSpec.ofChange lengthEdgesSpec)

/-- ITS FALSE NEIGHBOUR: 'it returns false'. Refute it at one input. -/
def lengthEdgesWrong : ChangeSpec := { name := "lengthEdges", fn := fun _ => fun
  | [d1, d2, d3] => { results := [.lit (.bool false)], args := [d1, d2, d3] }
  | _ => none }
def LengthEdgesWrongFalsely : Prop := lengthEdgesRow.holds Try.pinned (OpenSpec.ofChange lengthEdgesWrong)

/-- 'etchantlaw25.LengthAround': WHATEVER THE INPUT: true; the input reads as it did. -/
def lengthAroundSpec : ChangeSpec := { name := "lengthAround", fn := fun _ => fun
  | [d1, d2, d3] => { results := [.lit (.bool true)], args := [d1, d2, d3] }
  | _ => none }
def lengthAroundRow : OpenClaim := { program := "ytgmhnkoifdpemaa", sum := "6ee8c7f8def1e293c1da26e1317666cb375c095d6048b268d471a7433a24b908", func := "etchant/etchantlaw25.LengthAround", spec := "lengthAround", inPlace := ["math.sqrt"], unfollowed := true, recurses := true, apart := false }
def LengthAroundSaid : Prop := lengthAroundRow.holds Try.pinned (OpenSpec.ofChange lengthAroundSpec)

/-- ITS FALSE NEIGHBOUR: 'it returns false'. Refute it at one input. -/
def lengthAroundWrong : ChangeSpec := { name := "lengthAround", fn := fun _ => fun
  | [d1, d2, d3] => { results := [.lit (.bool false)], args := [d1, d2, d3] }
  | _ => none }
def LengthAroundWrongFalsely : Prop := lengthAroundRow.holds Try.pinned (OpenSpec.ofChange lengthAroundWrong)

/-- 'etchantlaw25.LengthNets': WHATEVER THE INPUT: true; the input reads as it did. -/
def lengthNetsSpec : ChangeSpec := { name := "lengthNets", fn := fun _ => fun
  | [d1, d2, d3] => { results := [.lit (.bool true)], args := [d1, d2, d3] }
  | _ => none }
def lengthNetsRow : OpenClaim := { program := "ytgmhnkoifdpemaa", sum := "6ee8c7f8def1e293c1da26e1317666cb375c095d6048b268d471a7433a24b908", func := "etchant/etchantlaw25.LengthNets", spec := "lengthNets", inPlace := ["math.sqrt"], unfollowed := true, recurses := true, loops := true, apart := false }
def LengthNetsSaid : Prop := lengthNetsRow.holds Try.pinned (OpenSpec.ofChange lengthNetsSpec)

/-- ITS FALSE NEIGHBOUR: 'it returns false'. Refute it at one input. -/
def lengthNetsWrong : ChangeSpec := { name := "lengthNets", fn := fun _ => fun
  | [d1, d2, d3] => { results := [.lit (.bool false)], args := [d1, d2, d3] }
  | _ => none }
def LengthNetsWrongFalsely : Prop := lengthNetsRow.holds Try.pinned (OpenSpec.ofChange lengthNetsWrong)

/-- 'etchantlaw25.LengthSpread': WHATEVER THE INPUT: true; the input reads as it did. -/
def lengthSpreadSpec : ChangeSpec := { name := "lengthSpread", fn := fun _ => fun
  | [d1, d2] => { results := [.lit (.bool true)], args := [d1, d2] }
  | _ => none }
def lengthSpreadRow : OpenClaim := { program := "ytgmhnkoifdpemaa", sum := "6ee8c7f8def1e293c1da26e1317666cb375c095d6048b268d471a7433a24b908", func := "etchant/etchantlaw25.LengthSpread", spec := "lengthSpread", inPlace := ["math.sqrt"], unfollowed := true, recurses := true, apart := false }
def LengthSpreadSaid : Prop := lengthSpreadRow.holds Try.pinned (OpenSpec.ofChange lengthSpreadSpec)

/-- ITS FALSE NEIGHBOUR: 'it returns false'. Refute it at one input. -/
def lengthSpreadWrong : ChangeSpec := { name := "lengthSpread", fn := fun _ => fun
  | [d1, d2] => { results := [.lit (.bool false)], args := [d1, d2] }
  | _ => none }
def LengthSpreadWrongFalsely : Prop := lengthSpreadRow.holds Try.pinned (OpenSpec.ofChange lengthSpreadWrong)

/-- 'etchantlaw25.LengthTurns': WHATEVER THE INPUT: true; the input reads as it did. -/
def lengthTurnsSpec : ChangeSpec := { name := "lengthTurns", fn := fun _ => fun
  | [d1, d2] => { results := [.lit (.bool true)], args := [d1, d2] }
  | _ => none }
def lengthTurnsRow : OpenClaim := { program := "ytgmhnkoifdpemaa", sum := "6ee8c7f8def1e293c1da26e1317666cb375c095d6048b268d471a7433a24b908", func := "etchant/etchantlaw25.LengthTurns", spec := "lengthTurns", inPlace := ["math.sqrt"], unfollowed := true, recurses := true, apart := false }
def LengthTurnsSaid : Prop := lengthTurnsRow.holds Try.pinned (OpenSpec.ofChange lengthTurnsSpec)

/-- ITS FALSE NEIGHBOUR: 'it returns false'. Refute it at one input. -/
def lengthTurnsWrong : ChangeSpec := { name := "lengthTurns", fn := fun _ => fun
  | [d1, d2] => { results := [.lit (.bool false)], args := [d1, d2] }
  | _ => none }
def LengthTurnsWrongFalsely : Prop := lengthTurnsRow.holds Try.pinned (OpenSpec.ofChange lengthTurnsWrong)

/- THE SECOND FORM. 'bulk': how many values and letters a reading holds, each counted each time it is reached (what is shared counts as often as it is met; a slice's spare places count too). A statement '..UptoSaid' is the law's where the arguments, and the package variables that the reading takes, are together of bulk at most 1048576: NARROWER than '..Said'. Prove '..Said' where nothing that the law and all that it calls make is longer than what came in: it says more and counts as full. Else prove '..UptoSaid'. A law counts once. -/
mutual
def uptoBulk {H : Type} : DataW H → Nat
  | .lit (.string bytes) => bytes.length + 1
  | .lit _ => 1
  | .nil => 1
  | .ptr d => uptoBulk d + 1
  | .slice elems spare => uptoBulkAll elems + uptoBulkAll spare + 1
  | .agg parts => uptoBulkAll parts + 1
  | .iface _ d => uptoBulk d + 1
  | .map entries => uptoBulkEntries entries + 1
  | .held _ => 1
def uptoBulkAll {H : Type} : List (DataW H) → Nat
  | [] => 0
  | d :: r => uptoBulk d + uptoBulkAll r
def uptoBulkEntries {H : Type} : List (Lit × DataW H) → Nat
  | [] => 0
  | x :: r => uptoBulkEntry x + uptoBulkEntries r
def uptoBulkEntry {H : Type} : Lit × DataW H → Nat
  | (.string bytes, d) => bytes.length + uptoBulk d + 1
  | (_, d) => uptoBulk d + 1
 end
def uptoSmall : (H : Type) → List (DataW H) → Bool := fun _ ds => decide (uptoBulkAll ds ≤ 1048576)
def OpenSpec.upto (s : _root_.Go.ChangeSpec) : _root_.Go.OpenSpec := { _root_.Go.OpenSpec.ofChange s with cond := some uptoSmall }

/-- 'etchantlaw25.LengthSqrt', WHERE WHAT IT READS IS OF BULK AT MOST 1048576: true; the input reads as it did. -/
def lengthSqrtUptoRow : OpenClaim := { program := "ytgmhnkoifdpemaa", sum := "6ee8c7f8def1e293c1da26e1317666cb375c095d6048b268d471a7433a24b908", func := "etchant/etchantlaw25.LengthSqrt", spec := "lengthSqrt", inPlace := ["math.sqrt"], unfollowed := true, recurses := true, apart := false, narrowed := true }
def LengthSqrtUptoSaid : Prop := lengthSqrtUptoRow.holds Try.pinned (OpenSpec.upto lengthSqrtSpec)

/-- 'etchantlaw25.LengthEdges', WHERE WHAT IT READS IS OF BULK AT MOST 1048576: true; the input reads as it did. -/
def lengthEdgesUptoRow : OpenClaim := { program := "ytgmhnkoifdpemaa", sum := "6ee8c7f8def1e293c1da26e1317666cb375c095d6048b268d471a7433a24b908", func := "etchant/etchantlaw25.LengthEdges", spec := "lengthEdges", inPlace := ["math.sqrt"], unfollowed := true, recurses := true, apart := false, narrowed := true }
def LengthEdgesUptoSaid : Prop := lengthEdgesUptoRow.holds Try.pinned (OpenSpec.upto lengthEdgesSpec)

/-- 'etchantlaw25.LengthAround', WHERE WHAT IT READS IS OF BULK AT MOST 1048576: true; the input reads as it did. -/
def lengthAroundUptoRow : OpenClaim := { program := "ytgmhnkoifdpemaa", sum := "6ee8c7f8def1e293c1da26e1317666cb375c095d6048b268d471a7433a24b908", func := "etchant/etchantlaw25.LengthAround", spec := "lengthAround", inPlace := ["math.sqrt"], unfollowed := true, recurses := true, apart := false, narrowed := true }
def LengthAroundUptoSaid : Prop := lengthAroundUptoRow.holds Try.pinned (OpenSpec.upto lengthAroundSpec)

/-- 'etchantlaw25.LengthNets', WHERE WHAT IT READS IS OF BULK AT MOST 1048576: true; the input reads as it did. -/
def lengthNetsUptoRow : OpenClaim := { program := "ytgmhnkoifdpemaa", sum := "6ee8c7f8def1e293c1da26e1317666cb375c095d6048b268d471a7433a24b908", func := "etchant/etchantlaw25.LengthNets", spec := "lengthNets", inPlace := ["math.sqrt"], unfollowed := true, recurses := true, loops := true, apart := false, narrowed := true }
def LengthNetsUptoSaid : Prop := lengthNetsUptoRow.holds Try.pinned (OpenSpec.upto lengthNetsSpec)

/-- 'etchantlaw25.LengthSpread', WHERE WHAT IT READS IS OF BULK AT MOST 1048576: true; the input reads as it did. -/
def lengthSpreadUptoRow : OpenClaim := { program := "ytgmhnkoifdpemaa", sum := "6ee8c7f8def1e293c1da26e1317666cb375c095d6048b268d471a7433a24b908", func := "etchant/etchantlaw25.LengthSpread", spec := "lengthSpread", inPlace := ["math.sqrt"], unfollowed := true, recurses := true, apart := false, narrowed := true }
def LengthSpreadUptoSaid : Prop := lengthSpreadUptoRow.holds Try.pinned (OpenSpec.upto lengthSpreadSpec)

/-- 'etchantlaw25.LengthTurns', WHERE WHAT IT READS IS OF BULK AT MOST 1048576: true; the input reads as it did. -/
def lengthTurnsUptoRow : OpenClaim := { program := "ytgmhnkoifdpemaa", sum := "6ee8c7f8def1e293c1da26e1317666cb375c095d6048b268d471a7433a24b908", func := "etchant/etchantlaw25.LengthTurns", spec := "lengthTurns", inPlace := ["math.sqrt"], unfollowed := true, recurses := true, apart := false, narrowed := true }
def LengthTurnsUptoSaid : Prop := lengthTurnsUptoRow.holds Try.pinned (OpenSpec.upto lengthTurnsSpec)

end Rows
end Go.Proofs.Ytgmhnkoifdpemaa
