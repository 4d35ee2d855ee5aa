/-
  No statement is proved in this text. It holds what functions return.
-/
import Derived.Test.YtgmhnkoifdpemaaProg
import Derived.Test.YtgmhnkoifdpemaaBk2b
namespace Go.Proofs.Ytgmhnkoifdpemaa
open Go.RowKit
set_option linter.unusedVariables false
set_option linter.unusedSimpArgs false
set_option maxRecDepth 100000 in
theorem pjoints  (l : (List TEdge)) (closed : Bool) : Pure Try.prog 73 [.one (lst 7 TEdge.c l), .one (.b closed)] (.av (.one (.clo 91 2 (listF [.eptr 1 1 (fun _ j => ([lst 7 TEdge.c l] : List Cl).getD j default) 0 0, .eptr 1 1 (fun _ j => ([.b closed] : List Cl).getD j default) 0 0])))) := by
  refine pure_of_awF Try.func73 rfl (by kernel_rfl) (by kernel_rfl) fun W0 M0 => ?_
  refine aw_seq ?_
  refine aw_region eqok [] [] [] [2, 3] [2, 3] [] ⟨[(2, tP 2 0), (3, tP 3 0)], [(2, .cells [lst 7 TEdge.c l] 34), (3, .cells [.b closed] 4)]⟩ .nil (by kernel_rfl) .nil ?_
  refine ath_n ?_
  refine aw_seq ?_
  refine aw_region eqok [] [] [] [4] [2, 3] [] ⟨[(4, .av (.one (.clo 91 2 (listF [.ptr 2 0, .ptr 3 0]))))], [(2, .cells [lst 7 TEdge.c l] 34), (3, .cells [.b closed] 4)]⟩ .nil (by kernel_rfl) .nil ?_
  refine ath_n ?_
  refine aw_ret ?_
  exact ⟨_, Cv.trans (cv_fix (⟨[(4, .av (.one (.clo 91 2 (listF [.eptr 1 1 (fun _ j => ([lst 7 TEdge.c l] : List Cl).getD j default) 0 0, .ptr 3 0]))))], [(3, .cells [.b closed] 4)]⟩) 2 [lst 7 TEdge.c l] 34 (K := none) (fun k x h => by cases h) (by kernel_rfl) (by kernel_rfl) (by kernel_rfl) (by kernel_rfl)) (Cv.trans (cv_fix (⟨[(4, .av (.one (.clo 91 2 (listF [.eptr 1 1 (fun _ j => ([lst 7 TEdge.c l] : List Cl).getD j default) 0 0, .eptr 1 1 (fun _ j => ([.b closed] : List Cl).getD j default) 0 0]))))], []⟩) 3 [.b closed] 4 (K := none) (fun k x h => by cases h) (by kernel_rfl) (by kernel_rfl) (by kernel_rfl) (by kernel_rfl)) (Cv.refl _)), .inl rfl, .av (.one (.clo 91 2 (listF [.eptr 1 1 (fun _ j => ([lst 7 TEdge.c l] : List Cl).getD j default) 0 0, .eptr 1 1 (fun _ j => ([.b closed] : List Cl).getD j default) 0 0]))), by kernel_rfl, tve_eq rfl⟩
end Go.Proofs.Ytgmhnkoifdpemaa
