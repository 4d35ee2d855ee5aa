/-
  NARROWER THAN 'FOR EVERY INPUT', by the rows' own cells (each row's printed sentence says how): ItemsAll: loops.
  DERIVED. THE GIVEN ROWS OF THIS SEAT. 6 by the template 'for every input the law returns true; each argument reads behind the call as it read before'; 0 by the template 'total and deterministic' (their statements: YtheobjkgllmnmaaGreatTotals.lean).
  GIVEN WITH THE SEED: the statements are not yours to turn. If you find one false, say at which input.
  Laid BY PROGRAM, IN A SANDBOX (cutbox-rows.mjs): the forced cells as the released guide's own fill.sh prints them over the translation 64bffaa71c70b87a… (all of the seat's roots in one cut). By AI agents, Wed Nov 11 2026. No macro, syntax, notation, axiom, sorry.
-/
import Derived.Test.YtheobjkgllmnmaaGreatChecked
import GoSem.Claim
import GoSem.ClaimJoined
import GoSem.ClaimMapViews
import Derived.JoinedTies
import Derived.KernelRfl
namespace Go.Proofs.YtheobjkgllmnmaaGreat
/- THE CELL 'sum', in the pinned program and in every row, IS THE sha256 OF THE DUMP (.gsa) THAT YtheobjkgllmnmaaGreatProg.lean LOADS. Nothing in Lean hashes anything: it is a label: what it is worth is what the hold of that sum in a sandbox is worth. -/
noncomputable def Tryz.pinned : Pinned := { name := "ytheobjkgllmnmaagreat", sum := "64bffaa71c70b87a15b0a64159c751174255017e7d39ae332b2fb1f87f129455", checked := Tryz.checked }
namespace Rows
def none {H : Type} : Left H := { results := [], args := [] }

/-- 'etchantlaw19.ItemsAll': WHATEVER THE INPUT: true; the input reads as it did. -/
def itemsAllSpec : ChangeSpec := { name := "itemsAll", fn := fun _ => fun
  | [d1, d2] => { results := [.lit (.bool true)], args := [d1, d2] }
  | _ => none }
def itemsAllRow : OpenClaim := { program := "ytheobjkgllmnmaagreat", sum := "64bffaa71c70b87a15b0a64159c751174255017e7d39ae332b2fb1f87f129455", func := "etchant/etchantlaw19.ItemsAll", spec := "itemsAll", unfollowed := true, recurses := true, loops := true, plainKeys := false, apart := false }
def ItemsAllSaid : Prop := itemsAllRow.holds Tryz.pinned (OpenSpec.ofChange itemsAllSpec)

/-- ITS FALSE NEIGHBOUR: 'it returns false'. Refute it at one input. -/
def itemsAllWrong : ChangeSpec := { name := "itemsAll", fn := fun _ => fun
  | [d1, d2] => { results := [.lit (.bool false)], args := [d1, d2] }
  | _ => none }
def ItemsAllWrongFalsely : Prop := itemsAllRow.holds Tryz.pinned (OpenSpec.ofChange itemsAllWrong)

/-- 'etchantlaw19.ItemsOn': WHATEVER THE INPUT: true; the input reads as it did. -/
def itemsOnSpec : ChangeSpec := { name := "itemsOn", fn := fun _ => fun
  | [d1, d2, d3] => { results := [.lit (.bool true)], args := [d1, d2, d3] }
  | _ => none }
def itemsOnRow : OpenClaim := { program := "ytheobjkgllmnmaagreat", sum := "64bffaa71c70b87a15b0a64159c751174255017e7d39ae332b2fb1f87f129455", func := "etchant/etchantlaw19.ItemsOn", spec := "itemsOn", unfollowed := true, recurses := true, plainKeys := false, apart := false }
def ItemsOnSaid : Prop := itemsOnRow.holds Tryz.pinned (OpenSpec.ofChange itemsOnSpec)

/-- ITS FALSE NEIGHBOUR: 'it returns false'. Refute it at one input. -/
def itemsOnWrong : ChangeSpec := { name := "itemsOn", fn := fun _ => fun
  | [d1, d2, d3] => { results := [.lit (.bool false)], args := [d1, d2, d3] }
  | _ => none }
def ItemsOnWrongFalsely : Prop := itemsOnRow.holds Tryz.pinned (OpenSpec.ofChange itemsOnWrong)

/-- 'etchantlaw19.ItemsOwn': WHATEVER THE INPUT: true; the input reads as it did. -/
def itemsOwnSpec : ChangeSpec := { name := "itemsOwn", fn := fun _ => fun
  | [d1, d2] => { results := [.lit (.bool true)], args := [d1, d2] }
  | _ => none }
def itemsOwnRow : OpenClaim := { program := "ytheobjkgllmnmaagreat", sum := "64bffaa71c70b87a15b0a64159c751174255017e7d39ae332b2fb1f87f129455", func := "etchant/etchantlaw19.ItemsOwn", spec := "itemsOwn", unfollowed := true, recurses := true, plainKeys := false, apart := false }
def ItemsOwnSaid : Prop := itemsOwnRow.holds Tryz.pinned (OpenSpec.ofChange itemsOwnSpec)

/-- ITS FALSE NEIGHBOUR: 'it returns false'. Refute it at one input. -/
def itemsOwnWrong : ChangeSpec := { name := "itemsOwn", fn := fun _ => fun
  | [d1, d2] => { results := [.lit (.bool false)], args := [d1, d2] }
  | _ => none }
def ItemsOwnWrongFalsely : Prop := itemsOwnRow.holds Tryz.pinned (OpenSpec.ofChange itemsOwnWrong)

/-- 'etchantlaw19.ItemsCount': WHATEVER THE INPUT: true; the input reads as it did. -/
def itemsCountSpec : ChangeSpec := { name := "itemsCount", fn := fun _ => fun
  | [d] => { results := [.lit (.bool true)], args := [d] }
  | _ => none }
def itemsCountRow : OpenClaim := { program := "ytheobjkgllmnmaagreat", sum := "64bffaa71c70b87a15b0a64159c751174255017e7d39ae332b2fb1f87f129455", func := "etchant/etchantlaw19.ItemsCount", spec := "itemsCount", unfollowed := true, recurses := true, plainKeys := false, apart := false }
def ItemsCountSaid : Prop := itemsCountRow.holds Tryz.pinned (OpenSpec.ofChange itemsCountSpec)

/-- ITS FALSE NEIGHBOUR: 'it returns false'. Refute it at one input. -/
def itemsCountWrong : ChangeSpec := { name := "itemsCount", fn := fun _ => fun
  | [d] => { results := [.lit (.bool false)], args := [d] }
  | _ => none }
def ItemsCountWrongFalsely : Prop := itemsCountRow.holds Tryz.pinned (OpenSpec.ofChange itemsCountWrong)

/-- 'etchantlaw19.ItemsCells': WHATEVER THE INPUT: true; the input reads as it did. -/
def itemsCellsSpec : ChangeSpec := { name := "itemsCells", fn := fun _ => fun
  | [d1, d2, d3] => { results := [.lit (.bool true)], args := [d1, d2, d3] }
  | _ => none }
def itemsCellsRow : OpenClaim := { program := "ytheobjkgllmnmaagreat", sum := "64bffaa71c70b87a15b0a64159c751174255017e7d39ae332b2fb1f87f129455", func := "etchant/etchantlaw19.ItemsCells", spec := "itemsCells", unfollowed := true, recurses := true, plainKeys := false, apart := false }
def ItemsCellsSaid : Prop := itemsCellsRow.holds Tryz.pinned (OpenSpec.ofChange itemsCellsSpec)

/-- ITS FALSE NEIGHBOUR: 'it returns false'. Refute it at one input. -/
def itemsCellsWrong : ChangeSpec := { name := "itemsCells", fn := fun _ => fun
  | [d1, d2, d3] => { results := [.lit (.bool false)], args := [d1, d2, d3] }
  | _ => none }
def ItemsCellsWrongFalsely : Prop := itemsCellsRow.holds Tryz.pinned (OpenSpec.ofChange itemsCellsWrong)

/-- 'etchantlaw19.ItemsPads': WHATEVER THE INPUT: true; the input reads as it did. -/
def itemsPadsSpec : ChangeSpec := { name := "itemsPads", fn := fun _ => fun
  | [d] => { results := [.lit (.bool true)], args := [d] }
  | _ => none }
def itemsPadsRow : OpenClaim := { program := "ytheobjkgllmnmaagreat", sum := "64bffaa71c70b87a15b0a64159c751174255017e7d39ae332b2fb1f87f129455", func := "etchant/etchantlaw19.ItemsPads", spec := "itemsPads", unfollowed := true, recurses := true, plainKeys := false, apart := false }
def ItemsPadsSaid : Prop := itemsPadsRow.holds Tryz.pinned (OpenSpec.ofChange itemsPadsSpec)

/-- ITS FALSE NEIGHBOUR: 'it returns false'. Refute it at one input. -/
def itemsPadsWrong : ChangeSpec := { name := "itemsPads", fn := fun _ => fun
  | [d] => { results := [.lit (.bool false)], args := [d] }
  | _ => none }
def ItemsPadsWrongFalsely : Prop := itemsPadsRow.holds Tryz.pinned (OpenSpec.ofChange itemsPadsWrong)

/- THE SECOND FORM. 'bulk': how many values and letters a reading holds, each counted each time it is reached (what is shared counts as often as it is met; a slice's spare places count too). A statement '..UptoSaid' is the law's where the arguments, and the package variables that the reading takes, are together of bulk at most 1048576: NARROWER than '..Said'. Prove '..Said' where nothing that the law and all that it calls make is longer than what came in: it says more and counts as full. Else prove '..UptoSaid'. A law counts once. -/
mutual
def uptoBulk {H : Type} : DataW H → Nat
  | .lit (.string bytes) => bytes.length + 1
  | .lit _ => 1
  | .nil => 1
  | .ptr d => uptoBulk d + 1
  | .slice elems spare => uptoBulkAll elems + uptoBulkAll spare + 1
  | .agg parts => uptoBulkAll parts + 1
  | .iface _ d => uptoBulk d + 1
  | .map entries => uptoBulkEntries entries + 1
  | .held _ => 1
def uptoBulkAll {H : Type} : List (DataW H) → Nat
  | [] => 0
  | d :: r => uptoBulk d + uptoBulkAll r
def uptoBulkEntries {H : Type} : List (Lit × DataW H) → Nat
  | [] => 0
  | x :: r => uptoBulkEntry x + uptoBulkEntries r
def uptoBulkEntry {H : Type} : Lit × DataW H → Nat
  | (.string bytes, d) => bytes.length + uptoBulk d + 1
  | (_, d) => uptoBulk d + 1
 end
def uptoSmall : (H : Type) → List (DataW H) → Bool := fun _ ds => decide (uptoBulkAll ds ≤ 1048576)
def OpenSpec.upto (s : _root_.Go.ChangeSpec) : _root_.Go.OpenSpec := { _root_.Go.OpenSpec.ofChange s with cond := some uptoSmall }

/-- 'etchantlaw19.ItemsAll', WHERE WHAT IT READS IS OF BULK AT MOST 1048576: true; the input reads as it did. -/
def itemsAllUptoRow : OpenClaim := { program := "ytheobjkgllmnmaagreat", sum := "64bffaa71c70b87a15b0a64159c751174255017e7d39ae332b2fb1f87f129455", func := "etchant/etchantlaw19.ItemsAll", spec := "itemsAll", unfollowed := true, recurses := true, loops := true, plainKeys := false, apart := false, narrowed := true }
def ItemsAllUptoSaid : Prop := itemsAllUptoRow.holds Tryz.pinned (OpenSpec.upto itemsAllSpec)

/-- 'etchantlaw19.ItemsOn', WHERE WHAT IT READS IS OF BULK AT MOST 1048576: true; the input reads as it did. -/
def itemsOnUptoRow : OpenClaim := { program := "ytheobjkgllmnmaagreat", sum := "64bffaa71c70b87a15b0a64159c751174255017e7d39ae332b2fb1f87f129455", func := "etchant/etchantlaw19.ItemsOn", spec := "itemsOn", unfollowed := true, recurses := true, plainKeys := false, apart := false, narrowed := true }
def ItemsOnUptoSaid : Prop := itemsOnUptoRow.holds Tryz.pinned (OpenSpec.upto itemsOnSpec)

/-- 'etchantlaw19.ItemsOwn', WHERE WHAT IT READS IS OF BULK AT MOST 1048576: true; the input reads as it did. -/
def itemsOwnUptoRow : OpenClaim := { program := "ytheobjkgllmnmaagreat", sum := "64bffaa71c70b87a15b0a64159c751174255017e7d39ae332b2fb1f87f129455", func := "etchant/etchantlaw19.ItemsOwn", spec := "itemsOwn", unfollowed := true, recurses := true, plainKeys := false, apart := false, narrowed := true }
def ItemsOwnUptoSaid : Prop := itemsOwnUptoRow.holds Tryz.pinned (OpenSpec.upto itemsOwnSpec)

/-- 'etchantlaw19.ItemsCount', WHERE WHAT IT READS IS OF BULK AT MOST 1048576: true; the input reads as it did. -/
def itemsCountUptoRow : OpenClaim := { program := "ytheobjkgllmnmaagreat", sum := "64bffaa71c70b87a15b0a64159c751174255017e7d39ae332b2fb1f87f129455", func := "etchant/etchantlaw19.ItemsCount", spec := "itemsCount", unfollowed := true, recurses := true, plainKeys := false, apart := false, narrowed := true }
def ItemsCountUptoSaid : Prop := itemsCountUptoRow.holds Tryz.pinned (OpenSpec.upto itemsCountSpec)

/-- 'etchantlaw19.ItemsCells', WHERE WHAT IT READS IS OF BULK AT MOST 1048576: true; the input reads as it did. -/
def itemsCellsUptoRow : OpenClaim := { program := "ytheobjkgllmnmaagreat", sum := "64bffaa71c70b87a15b0a64159c751174255017e7d39ae332b2fb1f87f129455", func := "etchant/etchantlaw19.ItemsCells", spec := "itemsCells", unfollowed := true, recurses := true, plainKeys := false, apart := false, narrowed := true }
def ItemsCellsUptoSaid : Prop := itemsCellsUptoRow.holds Tryz.pinned (OpenSpec.upto itemsCellsSpec)

/-- 'etchantlaw19.ItemsPads', WHERE WHAT IT READS IS OF BULK AT MOST 1048576: true; the input reads as it did. -/
def itemsPadsUptoRow : OpenClaim := { program := "ytheobjkgllmnmaagreat", sum := "64bffaa71c70b87a15b0a64159c751174255017e7d39ae332b2fb1f87f129455", func := "etchant/etchantlaw19.ItemsPads", spec := "itemsPads", unfollowed := true, recurses := true, plainKeys := false, apart := false, narrowed := true }
def ItemsPadsUptoSaid : Prop := itemsPadsUptoRow.holds Tryz.pinned (OpenSpec.upto itemsPadsSpec)

end Rows
end Go.Proofs.YtheobjkgllmnmaaGreat
