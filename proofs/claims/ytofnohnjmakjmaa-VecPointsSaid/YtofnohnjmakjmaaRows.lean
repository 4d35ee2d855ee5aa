/-
  No cell of these rows narrows 'for every input' (looked for: loops, veiled, ifaces, maps, wideKeys, modest, calm, conditions, laid).
  DERIVED. THE GIVEN ROWS OF THIS SEAT. 5 by the template 'for every input the law returns true; each argument reads behind the call as it read before'; 0 by the template 'total and deterministic' (their statements: YtofnohnjmakjmaaTotals.lean).
  GIVEN WITH THE SEED: the statements are not yours to turn. If you find one false, say at which input.
  Laid BY PROGRAM, IN A SANDBOX (cutbox-rows.mjs): the forced cells as the released guide's own fill.sh prints them over the translation 14fdc49c7fd44d31… (all of the seat's roots in one cut). By AI agents, Wed Nov 11 2026. No macro, syntax, notation, axiom, sorry.
-/
import Derived.Test.YtofnohnjmakjmaaChecked
import GoSem.Claim
import GoSem.ClaimJoined
import GoSem.ClaimMapViews
import Derived.JoinedTies
import Derived.KernelRfl
namespace Go.Proofs.Ytofnohnjmakjmaa
/- THE CELL 'sum', in the pinned program and in every row, IS THE sha256 OF THE DUMP (.gsa) THAT YtofnohnjmakjmaaProg.lean LOADS. Nothing in Lean hashes anything: it is a label: what it is worth is what the hold of that sum in a sandbox is worth. -/
noncomputable def Try.pinned : Pinned := { name := "ytofnohnjmakjmaa", sum := "14fdc49c7fd44d313882a4b25f7ad2cce8d1de73340c98cf90ed024798db6623", checked := Try.checked }
namespace Rows
def none {H : Type} : Left H := { results := [], args := [] }

/-- 'etchantlaw05.VecPoints': WHATEVER THE INPUT: true; the input reads as it did. -/
def vecPointsSpec : ChangeSpec := { name := "vecPoints", fn := fun _ => fun
  | [d] => { results := [.lit (.bool true)], args := [d] }
  | _ => none }
def vecPointsRow : OpenClaim := { program := "ytofnohnjmakjmaa", sum := "14fdc49c7fd44d313882a4b25f7ad2cce8d1de73340c98cf90ed024798db6623", func := "etchant/etchantlaw05.VecPoints", spec := "vecPoints", apart := false }
def VecPointsSaid : Prop := vecPointsRow.holds Try.pinned (OpenSpec.ofChange vecPointsSpec)

/-- ITS FALSE NEIGHBOUR: 'it returns false'. Refute it at one input. -/
def vecPointsWrong : ChangeSpec := { name := "vecPoints", fn := fun _ => fun
  | [d] => { results := [.lit (.bool false)], args := [d] }
  | _ => none }
def VecPointsWrongFalsely : Prop := vecPointsRow.holds Try.pinned (OpenSpec.ofChange vecPointsWrong)

/-- 'etchantlaw05.VecMotions': WHATEVER THE INPUT: true; the input reads as it did. -/
def vecMotionsSpec : ChangeSpec := { name := "vecMotions", fn := fun _ => fun
  | [d1, d2, d3] => { results := [.lit (.bool true)], args := [d1, d2, d3] }
  | _ => none }
def vecMotionsRow : OpenClaim := { program := "ytofnohnjmakjmaa", sum := "14fdc49c7fd44d313882a4b25f7ad2cce8d1de73340c98cf90ed024798db6623", func := "etchant/etchantlaw05.VecMotions", spec := "vecMotions", apart := false }
def VecMotionsSaid : Prop := vecMotionsRow.holds Try.pinned (OpenSpec.ofChange vecMotionsSpec)

/-- ITS FALSE NEIGHBOUR: 'it returns false'. Refute it at one input. -/
def vecMotionsWrong : ChangeSpec := { name := "vecMotions", fn := fun _ => fun
  | [d1, d2, d3] => { results := [.lit (.bool false)], args := [d1, d2, d3] }
  | _ => none }
def VecMotionsWrongFalsely : Prop := vecMotionsRow.holds Try.pinned (OpenSpec.ofChange vecMotionsWrong)

/-- 'etchantlaw05.VecComposes': WHATEVER THE INPUT: true; the input reads as it did. -/
def vecComposesSpec : ChangeSpec := { name := "vecComposes", fn := fun _ => fun
  | [d1, d2, d3] => { results := [.lit (.bool true)], args := [d1, d2, d3] }
  | _ => none }
def vecComposesRow : OpenClaim := { program := "ytofnohnjmakjmaa", sum := "14fdc49c7fd44d313882a4b25f7ad2cce8d1de73340c98cf90ed024798db6623", func := "etchant/etchantlaw05.VecComposes", spec := "vecComposes", apart := false }
def VecComposesSaid : Prop := vecComposesRow.holds Try.pinned (OpenSpec.ofChange vecComposesSpec)

/-- ITS FALSE NEIGHBOUR: 'it returns false'. Refute it at one input. -/
def vecComposesWrong : ChangeSpec := { name := "vecComposes", fn := fun _ => fun
  | [d1, d2, d3] => { results := [.lit (.bool false)], args := [d1, d2, d3] }
  | _ => none }
def VecComposesWrongFalsely : Prop := vecComposesRow.holds Try.pinned (OpenSpec.ofChange vecComposesWrong)

/-- 'etchantlaw05.VecKeeps': WHATEVER THE INPUT: true; the input reads as it did. -/
def vecKeepsSpec : ChangeSpec := { name := "vecKeeps", fn := fun _ => fun
  | [d1, d2] => { results := [.lit (.bool true)], args := [d1, d2] }
  | _ => none }
def vecKeepsRow : OpenClaim := { program := "ytofnohnjmakjmaa", sum := "14fdc49c7fd44d313882a4b25f7ad2cce8d1de73340c98cf90ed024798db6623", func := "etchant/etchantlaw05.VecKeeps", spec := "vecKeeps", apart := false }
def VecKeepsSaid : Prop := vecKeepsRow.holds Try.pinned (OpenSpec.ofChange vecKeepsSpec)

/-- ITS FALSE NEIGHBOUR: 'it returns false'. Refute it at one input. -/
def vecKeepsWrong : ChangeSpec := { name := "vecKeeps", fn := fun _ => fun
  | [d1, d2] => { results := [.lit (.bool false)], args := [d1, d2] }
  | _ => none }
def VecKeepsWrongFalsely : Prop := vecKeepsRow.holds Try.pinned (OpenSpec.ofChange vecKeepsWrong)

/-- 'etchantlaw05.VecQuarters': WHATEVER THE INPUT: true; the input reads as it did. -/
def vecQuartersSpec : ChangeSpec := { name := "vecQuarters", fn := fun _ => fun
  | [d1, d2, d3] => { results := [.lit (.bool true)], args := [d1, d2, d3] }
  | _ => none }
def vecQuartersRow : OpenClaim := { program := "ytofnohnjmakjmaa", sum := "14fdc49c7fd44d313882a4b25f7ad2cce8d1de73340c98cf90ed024798db6623", func := "etchant/etchantlaw05.VecQuarters", spec := "vecQuarters", apart := false }
def VecQuartersSaid : Prop := vecQuartersRow.holds Try.pinned (OpenSpec.ofChange vecQuartersSpec)

/-- ITS FALSE NEIGHBOUR: 'it returns false'. Refute it at one input. -/
def vecQuartersWrong : ChangeSpec := { name := "vecQuarters", fn := fun _ => fun
  | [d1, d2, d3] => { results := [.lit (.bool false)], args := [d1, d2, d3] }
  | _ => none }
def VecQuartersWrongFalsely : Prop := vecQuartersRow.holds Try.pinned (OpenSpec.ofChange vecQuartersWrong)

/- THE SECOND FORM. 'bulk': how many values and letters a reading holds, each counted each time it is reached (what is shared counts as often as it is met; a slice's spare places count too). A statement '..UptoSaid' is the law's where the arguments, and the package variables that the reading takes, are together of bulk at most 1048576: NARROWER than '..Said'. Prove '..Said' where nothing that the law and all that it calls make is longer than what came in: it says more and counts as full. Else prove '..UptoSaid'. A law counts once. -/
mutual
def uptoBulk {H : Type} : DataW H → Nat
  | .lit (.string bytes) => bytes.length + 1
  | .lit _ => 1
  | .nil => 1
  | .ptr d => uptoBulk d + 1
  | .slice elems spare => uptoBulkAll elems + uptoBulkAll spare + 1
  | .agg parts => uptoBulkAll parts + 1
  | .iface _ d => uptoBulk d + 1
  | .map entries => uptoBulkEntries entries + 1
  | .held _ => 1
def uptoBulkAll {H : Type} : List (DataW H) → Nat
  | [] => 0
  | d :: r => uptoBulk d + uptoBulkAll r
def uptoBulkEntries {H : Type} : List (Lit × DataW H) → Nat
  | [] => 0
  | x :: r => uptoBulkEntry x + uptoBulkEntries r
def uptoBulkEntry {H : Type} : Lit × DataW H → Nat
  | (.string bytes, d) => bytes.length + uptoBulk d + 1
  | (_, d) => uptoBulk d + 1
 end
def uptoSmall : (H : Type) → List (DataW H) → Bool := fun _ ds => decide (uptoBulkAll ds ≤ 1048576)
def OpenSpec.upto (s : _root_.Go.ChangeSpec) : _root_.Go.OpenSpec := { _root_.Go.OpenSpec.ofChange s with cond := some uptoSmall }

/-- 'etchantlaw05.VecPoints', WHERE WHAT IT READS IS OF BULK AT MOST 1048576: true; the input reads as it did. -/
def vecPointsUptoRow : OpenClaim := { program := "ytofnohnjmakjmaa", sum := "14fdc49c7fd44d313882a4b25f7ad2cce8d1de73340c98cf90ed024798db6623", func := "etchant/etchantlaw05.VecPoints", spec := "vecPoints", apart := false, narrowed := true }
def VecPointsUptoSaid : Prop := vecPointsUptoRow.holds Try.pinned (OpenSpec.upto vecPointsSpec)

/-- 'etchantlaw05.VecMotions', WHERE WHAT IT READS IS OF BULK AT MOST 1048576: true; the input reads as it did. -/
def vecMotionsUptoRow : OpenClaim := { program := "ytofnohnjmakjmaa", sum := "14fdc49c7fd44d313882a4b25f7ad2cce8d1de73340c98cf90ed024798db6623", func := "etchant/etchantlaw05.VecMotions", spec := "vecMotions", apart := false, narrowed := true }
def VecMotionsUptoSaid : Prop := vecMotionsUptoRow.holds Try.pinned (OpenSpec.upto vecMotionsSpec)

/-- 'etchantlaw05.VecComposes', WHERE WHAT IT READS IS OF BULK AT MOST 1048576: true; the input reads as it did. -/
def vecComposesUptoRow : OpenClaim := { program := "ytofnohnjmakjmaa", sum := "14fdc49c7fd44d313882a4b25f7ad2cce8d1de73340c98cf90ed024798db6623", func := "etchant/etchantlaw05.VecComposes", spec := "vecComposes", apart := false, narrowed := true }
def VecComposesUptoSaid : Prop := vecComposesUptoRow.holds Try.pinned (OpenSpec.upto vecComposesSpec)

/-- 'etchantlaw05.VecKeeps', WHERE WHAT IT READS IS OF BULK AT MOST 1048576: true; the input reads as it did. -/
def vecKeepsUptoRow : OpenClaim := { program := "ytofnohnjmakjmaa", sum := "14fdc49c7fd44d313882a4b25f7ad2cce8d1de73340c98cf90ed024798db6623", func := "etchant/etchantlaw05.VecKeeps", spec := "vecKeeps", apart := false, narrowed := true }
def VecKeepsUptoSaid : Prop := vecKeepsUptoRow.holds Try.pinned (OpenSpec.upto vecKeepsSpec)

/-- 'etchantlaw05.VecQuarters', WHERE WHAT IT READS IS OF BULK AT MOST 1048576: true; the input reads as it did. -/
def vecQuartersUptoRow : OpenClaim := { program := "ytofnohnjmakjmaa", sum := "14fdc49c7fd44d313882a4b25f7ad2cce8d1de73340c98cf90ed024798db6623", func := "etchant/etchantlaw05.VecQuarters", spec := "vecQuarters", apart := false, narrowed := true }
def VecQuartersUptoSaid : Prop := vecQuartersUptoRow.holds Try.pinned (OpenSpec.upto vecQuartersSpec)

end Rows
end Go.Proofs.Ytofnohnjmakjmaa
