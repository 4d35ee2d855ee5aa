/-
  No statement is proved in this text. It opens conditions, which hold themselves.
-/
import Derived.Test.YtoojlpcimogehaaOpt
import Derived.Test.YtoojlpcimogehaaOpnR
import Derived.Test.YtoojlpcimogehaaK21n
namespace Go.Proofs.Ytoojlpcimogehaa
open Go.ChangeShapes Go.WideShapes Go.ChangeAt Go.RowKit
set_option linter.unusedVariables false
/-- What is known of a condition that was read. -/
def okC : Nat → TCond → Prop
  | 0, _ => False
  | n + 1, c => WF .i64 c.Op ∧ c.Text.size ≤ maxLen ∧ WF .i64 c.N ∧ TRect.ok c.Box ∧ c.L.length ≤ maxLen ∧ ∀ y ∈ c.L, okC n y
def lvC : Nat → Nat
  | 0 => 0
  | 1 => 1
  | n + 2 => lvC n + 1
set_option maxRecDepth 100000 in
theorem opC {S : Bool} : ∀ n, OpensA S n Try.prog 58 (condC (LL (lvC n))) (okC (lvC n))
  | 0 => opensA_zero Try.underlying58
  | 1 => by
      refine opensA_map (opensA_struct (fuel := 0) Try.underlying58 (by kernel_rfl) (opensFA_cons 1 (by kernel_rfl) rfl (opensA_of (opens_int Try.underlying3) 0) (opensFA_cons 1 (by kernel_rfl) rfl (opensA_of (opens_string Try.underlying9) 0) (opensFA_cons 1 (by kernel_rfl) rfl (opensA_of (opens_int Try.underlying3) 0) (opensFA_cons 4 (by kernel_rfl) rfl (opensA_of opT55 0) (opensFA_cons 1 (by kernel_rfl) rfl (opens_slice_at (c := condC (LL 0)) (ok := okC 0) 8 Try.underlying56 (by kernel_rfl) (by decide) 0 (fun k hk => by omega)) opensFA_nil)))))) ?_
      rintro ⟨o, t, n, r, l, _⟩ ⟨h1, h2, h3, h4, h5, _⟩
      exact ⟨.mk o t n r l, ⟨h1, h2, h3, h4, h5⟩, rfl⟩
  | n + 2 => by
      refine opensA_map (opensA_struct (fuel := (n + 1)) Try.underlying58 (by kernel_rfl) (opensFA_cons 1 (by kernel_rfl) rfl (opensA_of (opens_int Try.underlying3) (n + 1)) (opensFA_cons 1 (by kernel_rfl) rfl (opensA_of (opens_string Try.underlying9) (n + 1)) (opensFA_cons 1 (by kernel_rfl) rfl (opensA_of (opens_int Try.underlying3) (n + 1)) (opensFA_cons 4 (by kernel_rfl) rfl (opensA_of opT55 (n + 1)) (opensFA_cons 1 (by kernel_rfl) rfl (opens_slice_at (c := condC (LL (lvC n))) (ok := okC (lvC n)) 8 Try.underlying56 (by kernel_rfl) (by decide) (n + 1) (fun k hk => by cases hk; exact opC n)) opensFA_nil)))))) ?_
      rintro ⟨o, t, n, r, l, _⟩ ⟨h1, h2, h3, h4, h5, _⟩
      exact ⟨.mk o t n r l, ⟨h1, h2, h3, h4, h5⟩, rfl⟩
theorem opCond : Opens Try.prog 58 (fun p : Nat × TCond => condC (LL (lvC p.1)) p.2) (fun p => okC (lvC p.1) p.2) := opens_depth (opC (S := false))
theorem condD_ok : ∀ n c, okC n c → CondD n c
  | 0, _, h => h
  | n + 1, c, h => ⟨maxLen_i h.2.2.2.2.1, fun i hi => condD_ok n _ (h.2.2.2.2.2 _ (by
      rw [List.getD_eq_getElem?_getD, List.getElem?_eq_getElem hi]
      exact List.getElem_mem hi))⟩
end Go.Proofs.Ytoojlpcimogehaa
