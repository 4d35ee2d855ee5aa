/-
  No statement is proved in this text. It holds what functions return.
-/
import Derived.Test.YtoojlpcimogehaaProg
import Derived.Test.YtoojlpcimogehaaK9x
namespace Go.Proofs.Ytoojlpcimogehaa
open Go.RowKit
set_option linter.unusedVariables false
set_option linter.unusedSimpArgs false
def opsK (i : Nat) : Value := .int .i64 ((i : Int) + 1)
def opsV (i : Nat) (_ : Nat) : Cl := match i with
  | 0 => .clo 51 0 (fun _ => default)
  | 1 => .clo 52 0 (fun _ => default)
  | 2 => .clo 53 0 (fun _ => default)
  | 3 => .clo 57 0 (fun _ => default)
  | 4 => .clo 58 0 (fun _ => default)
  | 5 => .clo 59 0 (fun _ => default)
  | 6 => .clo 60 0 (fun _ => default)
  | _ => .val .nilFunc
def opsMap : Cl := .mp true 1 7 opsK opsV
theorem ops_at {k : Int} (i : Nat) (hi : i < 7) (hk : k = (i : Int) + 1) : LookOk (.int .i64) 7 opsK (.int .i64 k) true i := by
  subst hk
  refine ⟨rfl, fun _ _ => rfl, fun _ => ⟨hi, rfl, fun j hj h => ?_⟩, fun h => by cases h⟩
  unfold opsK at h
  injection h with _ h
  omega
theorem ops_no {k : Int} (h : k < 1 ∨ 7 < k) : LookOk (.int .i64) 7 opsK (.int .i64 k) false 0 := by
  refine ⟨rfl, fun _ _ => rfl, fun h => (by cases h), fun _ j hj e => ?_⟩
  unfold opsK at e
  injection e with _ e
  omega
end Go.Proofs.Ytoojlpcimogehaa
