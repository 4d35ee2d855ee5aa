/-
  NARROWER THAN 'FOR EVERY INPUT', by the rows' own cells (each row's printed sentence says how): JudgeHolds: loops · JudgeRaw: loops.
  DERIVED. THE GIVEN ROWS OF THIS SEAT. 7 by the template 'for every input the law returns true; each argument reads behind the call as it read before'; 0 by the template 'total and deterministic' (their statements: YtoojlpcimogehaaTotals.lean).
  GIVEN WITH THE SEED: the statements are not yours to turn. If you find one false, say at which input.
  Laid BY PROGRAM, IN A SANDBOX (cutbox-rows.mjs): the forced cells as the released guide's own fill.sh prints them over the translation 84f89eb3f457ec50… (all of the seat's roots in one cut). By AI agents, Wed Nov 11 2026. No macro, syntax, notation, axiom, sorry.
-/
import Derived.Test.YtoojlpcimogehaaChecked
import GoSem.Claim
import GoSem.ClaimJoined
import GoSem.ClaimMapViews
import Derived.JoinedTies
import Derived.KernelRfl
namespace Go.Proofs.Ytoojlpcimogehaa
/- THE CELL 'sum', in the pinned program and in every row, IS THE sha256 OF THE DUMP (.gsa) THAT YtoojlpcimogehaaProg.lean LOADS. Nothing in Lean hashes anything: it is a label: what it is worth is what the hold of that sum in a sandbox is worth. -/
noncomputable def Try.pinned : Pinned := { name := "ytoojlpcimogehaa", sum := "84f89eb3f457ec50fee634fcaf5955decea7251f5a020313e4c4a85442b4320a", checked := Try.checked }
namespace Rows
def none {H : Type} : Left H := { results := [], args := [] }

/-- 'etchantlaw21.JudgeRules': WHATEVER THE INPUT: true; the input reads as it did. -/
def judgeRulesSpec : ChangeSpec := { name := "judgeRules", fn := fun _ => fun
  | [d1, d2, d3, d4] => { results := [.lit (.bool true)], args := [d1, d2, d3, d4] }
  | _ => none }
def judgeRulesRow : OpenClaim := { program := "ytoojlpcimogehaa", sum := "84f89eb3f457ec50fee634fcaf5955decea7251f5a020313e4c4a85442b4320a", func := "etchant/etchantlaw21.JudgeRules", spec := "judgeRules", unfollowed := true, recurses := true, apart := false }
def JudgeRulesSaid : Prop := judgeRulesRow.holds Try.pinned (OpenSpec.ofChange judgeRulesSpec)

/-- ITS FALSE NEIGHBOUR: 'it returns false'. Refute it at one input. -/
def judgeRulesWrong : ChangeSpec := { name := "judgeRules", fn := fun _ => fun
  | [d1, d2, d3, d4] => { results := [.lit (.bool false)], args := [d1, d2, d3, d4] }
  | _ => none }
def JudgeRulesWrongFalsely : Prop := judgeRulesRow.holds Try.pinned (OpenSpec.ofChange judgeRulesWrong)

/-- 'etchantlaw21.JudgeSymmetry': WHATEVER THE INPUT: true; the input reads as it did. -/
def judgeSymmetrySpec : ChangeSpec := { name := "judgeSymmetry", fn := fun _ => fun
  | [d1, d2, d3] => { results := [.lit (.bool true)], args := [d1, d2, d3] }
  | _ => none }
def judgeSymmetryRow : OpenClaim := { program := "ytoojlpcimogehaa", sum := "84f89eb3f457ec50fee634fcaf5955decea7251f5a020313e4c4a85442b4320a", func := "etchant/etchantlaw21.JudgeSymmetry", spec := "judgeSymmetry", unfollowed := true, recurses := true, apart := false }
def JudgeSymmetrySaid : Prop := judgeSymmetryRow.holds Try.pinned (OpenSpec.ofChange judgeSymmetrySpec)

/-- ITS FALSE NEIGHBOUR: 'it returns false'. Refute it at one input. -/
def judgeSymmetryWrong : ChangeSpec := { name := "judgeSymmetry", fn := fun _ => fun
  | [d1, d2, d3] => { results := [.lit (.bool false)], args := [d1, d2, d3] }
  | _ => none }
def JudgeSymmetryWrongFalsely : Prop := judgeSymmetryRow.holds Try.pinned (OpenSpec.ofChange judgeSymmetryWrong)

/-- 'etchantlaw21.JudgeTop': WHATEVER THE INPUT: true; the input reads as it did. -/
def judgeTopSpec : ChangeSpec := { name := "judgeTop", fn := fun _ => fun
  | [d1, d2, d3, d4] => { results := [.lit (.bool true)], args := [d1, d2, d3, d4] }
  | _ => none }
def judgeTopRow : OpenClaim := { program := "ytoojlpcimogehaa", sum := "84f89eb3f457ec50fee634fcaf5955decea7251f5a020313e4c4a85442b4320a", func := "etchant/etchantlaw21.JudgeTop", spec := "judgeTop", unfollowed := true, recurses := true, apart := false }
def JudgeTopSaid : Prop := judgeTopRow.holds Try.pinned (OpenSpec.ofChange judgeTopSpec)

/-- ITS FALSE NEIGHBOUR: 'it returns false'. Refute it at one input. -/
def judgeTopWrong : ChangeSpec := { name := "judgeTop", fn := fun _ => fun
  | [d1, d2, d3, d4] => { results := [.lit (.bool false)], args := [d1, d2, d3, d4] }
  | _ => none }
def JudgeTopWrongFalsely : Prop := judgeTopRow.holds Try.pinned (OpenSpec.ofChange judgeTopWrong)

/-- 'etchantlaw21.JudgeHolds': WHATEVER THE INPUT: true; the input reads as it did. -/
def judgeHoldsSpec : ChangeSpec := { name := "judgeHolds", fn := fun _ => fun
  | [d1, d2, d3, d4] => { results := [.lit (.bool true)], args := [d1, d2, d3, d4] }
  | _ => none }
def judgeHoldsRow : OpenClaim := { program := "ytoojlpcimogehaa", sum := "84f89eb3f457ec50fee634fcaf5955decea7251f5a020313e4c4a85442b4320a", func := "etchant/etchantlaw21.JudgeHolds", spec := "judgeHolds", unfollowed := true, recurses := true, loops := true, apart := false }
def JudgeHoldsSaid : Prop := judgeHoldsRow.holds Try.pinned (OpenSpec.ofChange judgeHoldsSpec)

/-- ITS FALSE NEIGHBOUR: 'it returns false'. Refute it at one input. -/
def judgeHoldsWrong : ChangeSpec := { name := "judgeHolds", fn := fun _ => fun
  | [d1, d2, d3, d4] => { results := [.lit (.bool false)], args := [d1, d2, d3, d4] }
  | _ => none }
def JudgeHoldsWrongFalsely : Prop := judgeHoldsRow.holds Try.pinned (OpenSpec.ofChange judgeHoldsWrong)

/-- 'etchantlaw21.JudgeWaived': WHATEVER THE INPUT: true; the input reads as it did. -/
def judgeWaivedSpec : ChangeSpec := { name := "judgeWaived", fn := fun _ => fun
  | [d1, d2, d3, d4] => { results := [.lit (.bool true)], args := [d1, d2, d3, d4] }
  | _ => none }
def judgeWaivedRow : OpenClaim := { program := "ytoojlpcimogehaa", sum := "84f89eb3f457ec50fee634fcaf5955decea7251f5a020313e4c4a85442b4320a", func := "etchant/etchantlaw21.JudgeWaived", spec := "judgeWaived", unfollowed := true, recurses := true, apart := false }
def JudgeWaivedSaid : Prop := judgeWaivedRow.holds Try.pinned (OpenSpec.ofChange judgeWaivedSpec)

/-- ITS FALSE NEIGHBOUR: 'it returns false'. Refute it at one input. -/
def judgeWaivedWrong : ChangeSpec := { name := "judgeWaived", fn := fun _ => fun
  | [d1, d2, d3, d4] => { results := [.lit (.bool false)], args := [d1, d2, d3, d4] }
  | _ => none }
def JudgeWaivedWrongFalsely : Prop := judgeWaivedRow.holds Try.pinned (OpenSpec.ofChange judgeWaivedWrong)

/-- 'etchantlaw21.JudgeLogic': WHATEVER THE INPUT: true; the input reads as it did. -/
def judgeLogicSpec : ChangeSpec := { name := "judgeLogic", fn := fun _ => fun
  | [d1, d2, d3] => { results := [.lit (.bool true)], args := [d1, d2, d3] }
  | _ => none }
def judgeLogicRow : OpenClaim := { program := "ytoojlpcimogehaa", sum := "84f89eb3f457ec50fee634fcaf5955decea7251f5a020313e4c4a85442b4320a", func := "etchant/etchantlaw21.JudgeLogic", spec := "judgeLogic", unfollowed := true, recurses := true, apart := false }
def JudgeLogicSaid : Prop := judgeLogicRow.holds Try.pinned (OpenSpec.ofChange judgeLogicSpec)

/-- ITS FALSE NEIGHBOUR: 'it returns false'. Refute it at one input. -/
def judgeLogicWrong : ChangeSpec := { name := "judgeLogic", fn := fun _ => fun
  | [d1, d2, d3] => { results := [.lit (.bool false)], args := [d1, d2, d3] }
  | _ => none }
def JudgeLogicWrongFalsely : Prop := judgeLogicRow.holds Try.pinned (OpenSpec.ofChange judgeLogicWrong)

/-- 'etchantlaw21.JudgeRaw': WHATEVER THE INPUT: true; the input reads as it did. -/
def judgeRawSpec : ChangeSpec := { name := "judgeRaw", fn := fun _ => fun
  | [d1, d2, d3, d4] => { results := [.lit (.bool true)], args := [d1, d2, d3, d4] }
  | _ => none }
def judgeRawRow : OpenClaim := { program := "ytoojlpcimogehaa", sum := "84f89eb3f457ec50fee634fcaf5955decea7251f5a020313e4c4a85442b4320a", func := "etchant/etchantlaw21.JudgeRaw", spec := "judgeRaw", unfollowed := true, recurses := true, loops := true, apart := false }
def JudgeRawSaid : Prop := judgeRawRow.holds Try.pinned (OpenSpec.ofChange judgeRawSpec)

/-- ITS FALSE NEIGHBOUR: 'it returns false'. Refute it at one input. -/
def judgeRawWrong : ChangeSpec := { name := "judgeRaw", fn := fun _ => fun
  | [d1, d2, d3, d4] => { results := [.lit (.bool false)], args := [d1, d2, d3, d4] }
  | _ => none }
def JudgeRawWrongFalsely : Prop := judgeRawRow.holds Try.pinned (OpenSpec.ofChange judgeRawWrong)

/- THE SECOND FORM. 'bulk': how many values and letters a reading holds, each counted each time it is reached (what is shared counts as often as it is met; a slice's spare places count too). A statement '..UptoSaid' is the law's where the arguments, and the package variables that the reading takes, are together of bulk at most 1048576: NARROWER than '..Said'. Prove '..Said' where nothing that the law and all that it calls make is longer than what came in: it says more and counts as full. Else prove '..UptoSaid'. A law counts once. -/
mutual
def uptoBulk {H : Type} : DataW H → Nat
  | .lit (.string bytes) => bytes.length + 1
  | .lit _ => 1
  | .nil => 1
  | .ptr d => uptoBulk d + 1
  | .slice elems spare => uptoBulkAll elems + uptoBulkAll spare + 1
  | .agg parts => uptoBulkAll parts + 1
  | .iface _ d => uptoBulk d + 1
  | .map entries => uptoBulkEntries entries + 1
  | .held _ => 1
def uptoBulkAll {H : Type} : List (DataW H) → Nat
  | [] => 0
  | d :: r => uptoBulk d + uptoBulkAll r
def uptoBulkEntries {H : Type} : List (Lit × DataW H) → Nat
  | [] => 0
  | x :: r => uptoBulkEntry x + uptoBulkEntries r
def uptoBulkEntry {H : Type} : Lit × DataW H → Nat
  | (.string bytes, d) => bytes.length + uptoBulk d + 1
  | (_, d) => uptoBulk d + 1
 end
def uptoSmall : (H : Type) → List (DataW H) → Bool := fun _ ds => decide (uptoBulkAll ds ≤ 1048576)
def OpenSpec.upto (s : _root_.Go.ChangeSpec) : _root_.Go.OpenSpec := { _root_.Go.OpenSpec.ofChange s with cond := some uptoSmall }

/-- 'etchantlaw21.JudgeRules', WHERE WHAT IT READS IS OF BULK AT MOST 1048576: true; the input reads as it did. -/
def judgeRulesUptoRow : OpenClaim := { program := "ytoojlpcimogehaa", sum := "84f89eb3f457ec50fee634fcaf5955decea7251f5a020313e4c4a85442b4320a", func := "etchant/etchantlaw21.JudgeRules", spec := "judgeRules", unfollowed := true, recurses := true, apart := false, narrowed := true }
def JudgeRulesUptoSaid : Prop := judgeRulesUptoRow.holds Try.pinned (OpenSpec.upto judgeRulesSpec)

/-- 'etchantlaw21.JudgeSymmetry', WHERE WHAT IT READS IS OF BULK AT MOST 1048576: true; the input reads as it did. -/
def judgeSymmetryUptoRow : OpenClaim := { program := "ytoojlpcimogehaa", sum := "84f89eb3f457ec50fee634fcaf5955decea7251f5a020313e4c4a85442b4320a", func := "etchant/etchantlaw21.JudgeSymmetry", spec := "judgeSymmetry", unfollowed := true, recurses := true, apart := false, narrowed := true }
def JudgeSymmetryUptoSaid : Prop := judgeSymmetryUptoRow.holds Try.pinned (OpenSpec.upto judgeSymmetrySpec)

/-- 'etchantlaw21.JudgeTop', WHERE WHAT IT READS IS OF BULK AT MOST 1048576: true; the input reads as it did. -/
def judgeTopUptoRow : OpenClaim := { program := "ytoojlpcimogehaa", sum := "84f89eb3f457ec50fee634fcaf5955decea7251f5a020313e4c4a85442b4320a", func := "etchant/etchantlaw21.JudgeTop", spec := "judgeTop", unfollowed := true, recurses := true, apart := false, narrowed := true }
def JudgeTopUptoSaid : Prop := judgeTopUptoRow.holds Try.pinned (OpenSpec.upto judgeTopSpec)

/-- 'etchantlaw21.JudgeHolds', WHERE WHAT IT READS IS OF BULK AT MOST 1048576: true; the input reads as it did. -/
def judgeHoldsUptoRow : OpenClaim := { program := "ytoojlpcimogehaa", sum := "84f89eb3f457ec50fee634fcaf5955decea7251f5a020313e4c4a85442b4320a", func := "etchant/etchantlaw21.JudgeHolds", spec := "judgeHolds", unfollowed := true, recurses := true, loops := true, apart := false, narrowed := true }
def JudgeHoldsUptoSaid : Prop := judgeHoldsUptoRow.holds Try.pinned (OpenSpec.upto judgeHoldsSpec)

/-- 'etchantlaw21.JudgeWaived', WHERE WHAT IT READS IS OF BULK AT MOST 1048576: true; the input reads as it did. -/
def judgeWaivedUptoRow : OpenClaim := { program := "ytoojlpcimogehaa", sum := "84f89eb3f457ec50fee634fcaf5955decea7251f5a020313e4c4a85442b4320a", func := "etchant/etchantlaw21.JudgeWaived", spec := "judgeWaived", unfollowed := true, recurses := true, apart := false, narrowed := true }
def JudgeWaivedUptoSaid : Prop := judgeWaivedUptoRow.holds Try.pinned (OpenSpec.upto judgeWaivedSpec)

/-- 'etchantlaw21.JudgeLogic', WHERE WHAT IT READS IS OF BULK AT MOST 1048576: true; the input reads as it did. -/
def judgeLogicUptoRow : OpenClaim := { program := "ytoojlpcimogehaa", sum := "84f89eb3f457ec50fee634fcaf5955decea7251f5a020313e4c4a85442b4320a", func := "etchant/etchantlaw21.JudgeLogic", spec := "judgeLogic", unfollowed := true, recurses := true, apart := false, narrowed := true }
def JudgeLogicUptoSaid : Prop := judgeLogicUptoRow.holds Try.pinned (OpenSpec.upto judgeLogicSpec)

/-- 'etchantlaw21.JudgeRaw', WHERE WHAT IT READS IS OF BULK AT MOST 1048576: true; the input reads as it did. -/
def judgeRawUptoRow : OpenClaim := { program := "ytoojlpcimogehaa", sum := "84f89eb3f457ec50fee634fcaf5955decea7251f5a020313e4c4a85442b4320a", func := "etchant/etchantlaw21.JudgeRaw", spec := "judgeRaw", unfollowed := true, recurses := true, loops := true, apart := false, narrowed := true }
def JudgeRawUptoSaid : Prop := judgeRawUptoRow.holds Try.pinned (OpenSpec.upto judgeRawSpec)

end Rows
end Go.Proofs.Ytoojlpcimogehaa
