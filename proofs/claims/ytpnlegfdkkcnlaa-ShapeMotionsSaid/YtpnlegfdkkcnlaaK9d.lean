/-
  No statement is proved in this text. It holds what functions return.
-/
import Derived.Test.YtpnlegfdkkcnlaaProg
import Derived.Test.YtpnlegfdkkcnlaaK9c
namespace Go.Proofs.Ytpnlegfdkkcnlaa
open Go.RowKit
set_option linter.unusedVariables false
set_option linter.unusedSimpArgs false
def andK (k : IntKind) (a b : Int) : Int := k.wrap ((BitVec.ofInt k.bits a &&& BitVec.ofInt k.bits b).toNat)
def FvecWithin (x0 : TPoint) (x1 : TPoint) (x2 : TPoint) : Bool := decide ((0 : Int) ≤ (min (FvecCross x1 x0) (FvecCross x0 x2)))
def cvecWithin (x0 : TPoint) (x1 : TPoint) (x2 : TPoint) : FuncId × List Av × Ef := (73, [.agg (TPoint.c x0), .agg (TPoint.c x1), .agg (TPoint.c x2)], .val [] (.av (.one (.b (FvecWithin x0 x1 x2)))))
set_option maxRecDepth 100000 in
theorem pvecWithin (x0 : TPoint) (x1 : TPoint) (x2 : TPoint) : Pure Try.prog 73 (cvecWithin x0 x1 x2).2.1 (.av (.one (.b (FvecWithin x0 x1 x2)))) := by
  refine pure_of_awF Try.func73 rfl (by kernel_rfl) (by kernel_rfl) fun W0 M0 => ?_
  refine aw_seq ?_
  refine aw_region eqok [] [] [] [3, 4, 5] [3, 4, 5] [] ⟨[(3, tP 3 0), (4, tP 4 0), (5, tP 5 0)], [(3, .cells (TPoint.c x0) 29), (4, .cells (TPoint.c x1) 29), (5, .cells (TPoint.c x2) 29)]⟩ .nil (by kernel_rfl) .nil ?_
  refine ath_n ?_
  refine aw_seq ?_
  refine aw_draw mixed eqok [] [] [(9, cvecCross x1 x0), (12, cvecCross x0 x2)] [6] [] [Same (cvecCross x1 x0).2.1, Same (cvecCross x0 x2).2.1] ⟨[(6, tB (decide ((0 : Int) ≤ (min (FvecCross x1 x0) (FvecCross x0 x2)))))], []⟩ (.cons (okvecCross x1 x0) (.cons (okvecCross x0 x2) .nil)) (by kernel_rfl) (by kernel_rfl) (.cons rfl (.cons rfl .nil)) ?_
  refine ath_n ?_
  refine aw_ret ?_
  exact ⟨_, Cv.refl _, .inl rfl, .av (.one (.b (decide ((0 : Int) ≤ (min (FvecCross x1 x0) (FvecCross x0 x2)))))), by kernel_rfl, tve_eq (by rfl)⟩
theorem okvecWithin (x0 : TPoint) (x1 : TPoint) (x2 : TPoint) : CallOk Try.prog (cvecWithin x0 x1 x2).1 (cvecWithin x0 x1 x2).2.1 (cvecWithin x0 x1 x2).2.2 := callOk_pure (fun _ _ => by kernel_rfl) fun _ => pvecWithin x0 x1 x2 
def Fref05Within (x0 : TPoint) (x1 : TPoint) (x2 : TPoint) : Bool := bif decide ((0 : Int) ≤ (Fref05Cross x1 x0)) then decide ((0 : Int) ≤ (Fref05Cross x0 x2)) else false
def cref05Within (x0 : TPoint) (x1 : TPoint) (x2 : TPoint) : FuncId × List Av × Ef := (97, [.agg (TPoint.c x0), .agg (TPoint.c x1), .agg (TPoint.c x2)], .val [] (.av (.one (.b (Fref05Within x0 x1 x2)))))
set_option maxRecDepth 100000 in
theorem pref05Within (x0 : TPoint) (x1 : TPoint) (x2 : TPoint) : Pure Try.prog 97 (cref05Within x0 x1 x2).2.1 (.av (.one (.b (Fref05Within x0 x1 x2)))) := by
  refine pure_of_awF Try.func97 rfl (by kernel_rfl) (by kernel_rfl) fun W0 M0 => ?_
  refine aw_seq ?_
  refine aw_region eqok [] [] [] [3, 4, 5] [3, 4, 5] [] ⟨[(3, tP 3 0), (4, tP 4 0), (5, tP 5 0)], [(3, .cells (TPoint.c x0) 29), (4, .cells (TPoint.c x1) 29), (5, .cells (TPoint.c x2) 29)]⟩ .nil (by kernel_rfl) .nil ?_
  refine ath_n ?_
  refine aw_seq ?_
  refine aw_region eqok [] [] [(9, cref05Cross x1 x0), (14, cref05Cross x0 x2)] [6] [] [Same (cref05Cross x1 x0).2.1, ((decide ((0 : Int) ≤ (Fref05Cross x1 x0))) = true) → ((decide ((0 : Int) ≤ (Fref05Cross x1 x0))) = true), ((decide ((0 : Int) ≤ (Fref05Cross x1 x0))) = true) → ((decide ((0 : Int) ≤ (Fref05Cross x1 x0))) = true), ((decide ((0 : Int) ≤ (Fref05Cross x1 x0))) = true) → (Same (cref05Cross x0 x2).2.1), ((decide ((0 : Int) ≤ (Fref05Cross x1 x0))) = true) → ((decide ((0 : Int) ≤ (Fref05Cross x1 x0))) = true), (decide ((0 : Int) ≤ (Fref05Cross x1 x0))) = true → ((decide ((0 : Int) ≤ (Fref05Cross x1 x0))) = true)] ⟨[(6, tB (bif decide ((0 : Int) ≤ (Fref05Cross x1 x0)) then decide ((0 : Int) ≤ (Fref05Cross x0 x2)) else false))], []⟩ (.cons (okref05Cross x1 x0) (.cons (okref05Cross x0 x2) .nil)) (by kernel_rfl) (.cons rfl (.cons id (.cons id (.cons (fun _ => rfl) (.cons id (.cons id .nil)))))) ?_
  refine ath_n ?_
  refine aw_ret ?_
  exact ⟨_, Cv.refl _, .inl rfl, .av (.one (.b (bif decide ((0 : Int) ≤ (Fref05Cross x1 x0)) then decide ((0 : Int) ≤ (Fref05Cross x0 x2)) else false))), by kernel_rfl, tve_eq (by rfl)⟩
theorem okref05Within (x0 : TPoint) (x1 : TPoint) (x2 : TPoint) : CallOk Try.prog (cref05Within x0 x1 x2).1 (cref05Within x0 x1 x2).2.1 (cref05Within x0 x1 x2).2.2 := callOk_pure (fun _ _ => by kernel_rfl) fun _ => pref05Within x0 x1 x2 
def FsqS (x0 : TPoint) (x1 : TPoint) : Int := FvecDot (FvecSub x0 x1) (FvecSub x0 x1)
def csqS (x0 : TPoint) (x1 : TPoint) : FuncId × List Av × Ef := (70, [.agg (TPoint.c x0), .agg (TPoint.c x1)], .val [] (.av (.one (.i (FsqS x0 x1)))))
set_option maxRecDepth 100000 in
theorem psqS (x0 : TPoint) (x1 : TPoint) : Pure Try.prog 70 (csqS x0 x1).2.1 (.av (.one (.i (FsqS x0 x1)))) := by
  refine pure_of_awF Try.func70 rfl (by kernel_rfl) (by kernel_rfl) fun W0 M0 => ?_
  refine aw_seq ?_
  refine aw_region eqok [] [] [] [2, 3] [2, 3] [] ⟨[(2, tP 2 0), (3, tP 3 0)], [(2, .cells (TPoint.c x0) 29), (3, .cells (TPoint.c x1) 29)]⟩ .nil (by kernel_rfl) .nil ?_
  refine ath_n ?_
  refine aw_seq ?_
  refine aw_region eqok [] [] [(8, cvecSub x0 x1)] [5] [5] [Same (cvecSub x0 x1).2.1] ⟨[(5, tP 5 0)], [(5, .cells (TPoint.c (FvecSub x0 x1)) 29)]⟩ (.cons (okvecSub x0 x1) .nil) (by kernel_rfl) (.cons rfl .nil) ?_
  refine ath_n ?_
  refine aw_seq ?_
  refine aw_region eqok [] [] [(11, cvecDot (FvecSub x0 x1) (FvecSub x0 x1))] [4] [] [Same (cvecDot (FvecSub x0 x1) (FvecSub x0 x1)).2.1] ⟨[(4, tI (FvecDot (FvecSub x0 x1) (FvecSub x0 x1)))], []⟩ (.cons (okvecDot (FvecSub x0 x1) (FvecSub x0 x1)) .nil) (by kernel_rfl) (.cons rfl .nil) ?_
  refine ath_n ?_
  refine aw_ret ?_
  exact ⟨_, Cv.refl _, .inl rfl, .av (.one (.i (FvecDot (FvecSub x0 x1) (FvecSub x0 x1)))), by kernel_rfl, tve_eq (by rfl)⟩
theorem oksqS (x0 : TPoint) (x1 : TPoint) : CallOk Try.prog (csqS x0 x1).1 (csqS x0 x1).2.1 (csqS x0 x1).2.2 := callOk_pure (fun _ _ => by kernel_rfl) fun _ => psqS x0 x1 
def FMul64 (x0 : Int) (x1 : Int) : (Int × Int) := (IntKind.u64.wrap ((IntKind.u64.wrap ((IntKind.u64.wrap ((Int.fdiv x0 4294967296) * (Int.fdiv x1 4294967296))) + (Int.fdiv (IntKind.u64.wrap ((IntKind.u64.wrap ((Int.fdiv x0 4294967296) * (andK .u64 x1 4294967295))) + (Int.fdiv (IntKind.u64.wrap ((andK .u64 x0 4294967295) * (andK .u64 x1 4294967295))) 4294967296))) 4294967296))) + (Int.fdiv (IntKind.u64.wrap ((andK .u64 (IntKind.u64.wrap ((IntKind.u64.wrap ((Int.fdiv x0 4294967296) * (andK .u64 x1 4294967295))) + (Int.fdiv (IntKind.u64.wrap ((andK .u64 x0 4294967295) * (andK .u64 x1 4294967295))) 4294967296))) 4294967295) + (IntKind.u64.wrap ((andK .u64 x0 4294967295) * (Int.fdiv x1 4294967296))))) 4294967296)), IntKind.u64.wrap (x0 * x1))
def cMul64 (x0 : Int) (x1 : Int) : FuncId × List Av × Ef := (89, [.one (.val (.int .u64 x0)), .one (.val (.int .u64 x1))], .val [] (.tup [.one (.val (.int .u64 ((FMul64 x0 x1).1))), .one (.val (.int .u64 ((FMul64 x0 x1).2)))]))
set_option maxRecDepth 100000 in
theorem pMul64 (x0 : Int) (x1 : Int) : Pure Try.prog 89 (cMul64 x0 x1).2.1 (.tup [.one (.val (.int .u64 ((FMul64 x0 x1).1))), .one (.val (.int .u64 ((FMul64 x0 x1).2)))]) := by
  refine pure_of_awF Try.func89 rfl (by kernel_rfl) (by kernel_rfl) fun W0 M0 => ?_
  refine aw_seq ?_
  refine aw_region eqok [] [] [] [0, 1] [] [] ⟨[(0, .av (.one (.val (.int .u64 x0)))), (1, .av (.one (.val (.int .u64 x1))))], []⟩ .nil (by kernel_rfl) .nil ?_
  refine ath_n ?_
  refine aw_seq ?_
  refine aw_region eqok [] [] [] [0, 1, 6] [] [] ⟨[(0, .av (.one (.val (.int .u64 x0)))), (1, .av (.one (.val (.int .u64 x1)))), (6, .av (.one (.val (.int .u64 (andK .u64 x0 4294967295)))))], []⟩ .nil (by kernel_rfl) .nil ?_
  refine ath_n ?_
  refine aw_seq ?_
  refine aw_region eqok [] [] [] [0, 1, 6, 7] [] [0 ≤ (32 : Int)] ⟨[(0, .av (.one (.val (.int .u64 x0)))), (1, .av (.one (.val (.int .u64 x1)))), (6, .av (.one (.val (.int .u64 (andK .u64 x0 4294967295))))), (7, .av (.one (.val (.int .u64 (Int.fdiv x0 4294967296)))))], []⟩ .nil (by kernel_rfl) (.cons (by decide) .nil) ?_
  refine ath_n ?_
  refine aw_seq ?_
  refine aw_region eqok [] [] [] [0, 1, 6, 7, 8] [] [] ⟨[(0, .av (.one (.val (.int .u64 x0)))), (1, .av (.one (.val (.int .u64 x1)))), (6, .av (.one (.val (.int .u64 (andK .u64 x0 4294967295))))), (7, .av (.one (.val (.int .u64 (Int.fdiv x0 4294967296))))), (8, .av (.one (.val (.int .u64 (andK .u64 x1 4294967295)))))], []⟩ .nil (by kernel_rfl) .nil ?_
  refine ath_n ?_
  refine aw_seq ?_
  refine aw_region eqok [] [] [] [0, 1, 6, 7, 8, 9] [] [0 ≤ (32 : Int)] ⟨[(0, .av (.one (.val (.int .u64 x0)))), (1, .av (.one (.val (.int .u64 x1)))), (6, .av (.one (.val (.int .u64 (andK .u64 x0 4294967295))))), (7, .av (.one (.val (.int .u64 (Int.fdiv x0 4294967296))))), (8, .av (.one (.val (.int .u64 (andK .u64 x1 4294967295))))), (9, .av (.one (.val (.int .u64 (Int.fdiv x1 4294967296)))))], []⟩ .nil (by kernel_rfl) (.cons (by decide) .nil) ?_
  refine ath_n ?_
  refine aw_seq ?_
  refine aw_region eqok [] [] [] [0, 1, 6, 7, 8, 9, 10] [] [] ⟨[(0, .av (.one (.val (.int .u64 x0)))), (1, .av (.one (.val (.int .u64 x1)))), (6, .av (.one (.val (.int .u64 (andK .u64 x0 4294967295))))), (7, .av (.one (.val (.int .u64 (Int.fdiv x0 4294967296))))), (8, .av (.one (.val (.int .u64 (andK .u64 x1 4294967295))))), (9, .av (.one (.val (.int .u64 (Int.fdiv x1 4294967296))))), (10, .av (.one (.val (.int .u64 (IntKind.u64.wrap ((andK .u64 x0 4294967295) * (andK .u64 x1 4294967295)))))))], []⟩ .nil (by kernel_rfl) .nil ?_
  refine ath_n ?_
  refine aw_seq ?_
  refine aw_region eqok [] [] [] [0, 1, 6, 7, 9, 11] [] [0 ≤ (32 : Int)] ⟨[(0, .av (.one (.val (.int .u64 x0)))), (1, .av (.one (.val (.int .u64 x1)))), (6, .av (.one (.val (.int .u64 (andK .u64 x0 4294967295))))), (7, .av (.one (.val (.int .u64 (Int.fdiv x0 4294967296))))), (9, .av (.one (.val (.int .u64 (Int.fdiv x1 4294967296))))), (11, .av (.one (.val (.int .u64 (IntKind.u64.wrap ((IntKind.u64.wrap ((Int.fdiv x0 4294967296) * (andK .u64 x1 4294967295))) + (Int.fdiv (IntKind.u64.wrap ((andK .u64 x0 4294967295) * (andK .u64 x1 4294967295))) 4294967296)))))))], []⟩ .nil (by kernel_rfl) (.cons (by decide) .nil) ?_
  refine ath_n ?_
  refine aw_seq ?_
  refine aw_region eqok [] [] [] [0, 1, 6, 7, 9, 11, 12] [] [] ⟨[(0, .av (.one (.val (.int .u64 x0)))), (1, .av (.one (.val (.int .u64 x1)))), (6, .av (.one (.val (.int .u64 (andK .u64 x0 4294967295))))), (7, .av (.one (.val (.int .u64 (Int.fdiv x0 4294967296))))), (9, .av (.one (.val (.int .u64 (Int.fdiv x1 4294967296))))), (11, .av (.one (.val (.int .u64 (IntKind.u64.wrap ((IntKind.u64.wrap ((Int.fdiv x0 4294967296) * (andK .u64 x1 4294967295))) + (Int.fdiv (IntKind.u64.wrap ((andK .u64 x0 4294967295) * (andK .u64 x1 4294967295))) 4294967296))))))), (12, .av (.one (.val (.int .u64 (andK .u64 (IntKind.u64.wrap ((IntKind.u64.wrap ((Int.fdiv x0 4294967296) * (andK .u64 x1 4294967295))) + (Int.fdiv (IntKind.u64.wrap ((andK .u64 x0 4294967295) * (andK .u64 x1 4294967295))) 4294967296))) 4294967295)))))], []⟩ .nil (by kernel_rfl) .nil ?_
  refine ath_n ?_
  refine aw_seq ?_
  refine aw_region eqok [] [] [] [0, 1, 6, 7, 9, 12, 13] [] [0 ≤ (32 : Int)] ⟨[(0, .av (.one (.val (.int .u64 x0)))), (1, .av (.one (.val (.int .u64 x1)))), (6, .av (.one (.val (.int .u64 (andK .u64 x0 4294967295))))), (7, .av (.one (.val (.int .u64 (Int.fdiv x0 4294967296))))), (9, .av (.one (.val (.int .u64 (Int.fdiv x1 4294967296))))), (12, .av (.one (.val (.int .u64 (andK .u64 (IntKind.u64.wrap ((IntKind.u64.wrap ((Int.fdiv x0 4294967296) * (andK .u64 x1 4294967295))) + (Int.fdiv (IntKind.u64.wrap ((andK .u64 x0 4294967295) * (andK .u64 x1 4294967295))) 4294967296))) 4294967295))))), (13, .av (.one (.val (.int .u64 (Int.fdiv (IntKind.u64.wrap ((IntKind.u64.wrap ((Int.fdiv x0 4294967296) * (andK .u64 x1 4294967295))) + (Int.fdiv (IntKind.u64.wrap ((andK .u64 x0 4294967295) * (andK .u64 x1 4294967295))) 4294967296))) 4294967296)))))], []⟩ .nil (by kernel_rfl) (.cons (by decide) .nil) ?_
  refine ath_n ?_
  refine aw_seq ?_
  refine aw_region eqok [] [] [] [0, 1, 7, 9, 12, 13] [] [] ⟨[(0, .av (.one (.val (.int .u64 x0)))), (1, .av (.one (.val (.int .u64 x1)))), (7, .av (.one (.val (.int .u64 (Int.fdiv x0 4294967296))))), (9, .av (.one (.val (.int .u64 (Int.fdiv x1 4294967296))))), (12, .av (.one (.val (.int .u64 (IntKind.u64.wrap ((andK .u64 (IntKind.u64.wrap ((IntKind.u64.wrap ((Int.fdiv x0 4294967296) * (andK .u64 x1 4294967295))) + (Int.fdiv (IntKind.u64.wrap ((andK .u64 x0 4294967295) * (andK .u64 x1 4294967295))) 4294967296))) 4294967295) + (IntKind.u64.wrap ((andK .u64 x0 4294967295) * (Int.fdiv x1 4294967296))))))))), (13, .av (.one (.val (.int .u64 (Int.fdiv (IntKind.u64.wrap ((IntKind.u64.wrap ((Int.fdiv x0 4294967296) * (andK .u64 x1 4294967295))) + (Int.fdiv (IntKind.u64.wrap ((andK .u64 x0 4294967295) * (andK .u64 x1 4294967295))) 4294967296))) 4294967296)))))], []⟩ .nil (by kernel_rfl) .nil ?_
  refine ath_n ?_
  refine aw_seq ?_
  refine aw_region eqok [] [] [] [0, 1, 4] [] [0 ≤ (32 : Int)] ⟨[(0, .av (.one (.val (.int .u64 x0)))), (1, .av (.one (.val (.int .u64 x1)))), (4, .av (.one (.val (.int .u64 (IntKind.u64.wrap ((IntKind.u64.wrap ((IntKind.u64.wrap ((Int.fdiv x0 4294967296) * (Int.fdiv x1 4294967296))) + (Int.fdiv (IntKind.u64.wrap ((IntKind.u64.wrap ((Int.fdiv x0 4294967296) * (andK .u64 x1 4294967295))) + (Int.fdiv (IntKind.u64.wrap ((andK .u64 x0 4294967295) * (andK .u64 x1 4294967295))) 4294967296))) 4294967296))) + (Int.fdiv (IntKind.u64.wrap ((andK .u64 (IntKind.u64.wrap ((IntKind.u64.wrap ((Int.fdiv x0 4294967296) * (andK .u64 x1 4294967295))) + (Int.fdiv (IntKind.u64.wrap ((andK .u64 x0 4294967295) * (andK .u64 x1 4294967295))) 4294967296))) 4294967295) + (IntKind.u64.wrap ((andK .u64 x0 4294967295) * (Int.fdiv x1 4294967296))))) 4294967296)))))))], []⟩ .nil (by kernel_rfl) (.cons (by decide) .nil) ?_
  refine ath_n ?_
  refine aw_seq ?_
  refine aw_region eqok [] [] [] [4, 5] [] [] ⟨[(4, .av (.one (.val (.int .u64 (IntKind.u64.wrap ((IntKind.u64.wrap ((IntKind.u64.wrap ((Int.fdiv x0 4294967296) * (Int.fdiv x1 4294967296))) + (Int.fdiv (IntKind.u64.wrap ((IntKind.u64.wrap ((Int.fdiv x0 4294967296) * (andK .u64 x1 4294967295))) + (Int.fdiv (IntKind.u64.wrap ((andK .u64 x0 4294967295) * (andK .u64 x1 4294967295))) 4294967296))) 4294967296))) + (Int.fdiv (IntKind.u64.wrap ((andK .u64 (IntKind.u64.wrap ((IntKind.u64.wrap ((Int.fdiv x0 4294967296) * (andK .u64 x1 4294967295))) + (Int.fdiv (IntKind.u64.wrap ((andK .u64 x0 4294967295) * (andK .u64 x1 4294967295))) 4294967296))) 4294967295) + (IntKind.u64.wrap ((andK .u64 x0 4294967295) * (Int.fdiv x1 4294967296))))) 4294967296))))))), (5, .av (.one (.val (.int .u64 (IntKind.u64.wrap (x0 * x1))))))], []⟩ .nil (by kernel_rfl) .nil ?_
  refine ath_n ?_
  refine aw_ret ?_
  exact ⟨_, Cv.refl _, .inl rfl, .tup [.one (.val (.int .u64 (IntKind.u64.wrap ((IntKind.u64.wrap ((IntKind.u64.wrap ((Int.fdiv x0 4294967296) * (Int.fdiv x1 4294967296))) + (Int.fdiv (IntKind.u64.wrap ((IntKind.u64.wrap ((Int.fdiv x0 4294967296) * (andK .u64 x1 4294967295))) + (Int.fdiv (IntKind.u64.wrap ((andK .u64 x0 4294967295) * (andK .u64 x1 4294967295))) 4294967296))) 4294967296))) + (Int.fdiv (IntKind.u64.wrap ((andK .u64 (IntKind.u64.wrap ((IntKind.u64.wrap ((Int.fdiv x0 4294967296) * (andK .u64 x1 4294967295))) + (Int.fdiv (IntKind.u64.wrap ((andK .u64 x0 4294967295) * (andK .u64 x1 4294967295))) 4294967296))) 4294967295) + (IntKind.u64.wrap ((andK .u64 x0 4294967295) * (Int.fdiv x1 4294967296))))) 4294967296))))), .one (.val (.int .u64 (IntKind.u64.wrap (x0 * x1))))], by kernel_rfl, tve_eq (by rfl)⟩
theorem okMul64 (x0 : Int) (x1 : Int) : CallOk Try.prog (cMul64 x0 x1).1 (cMul64 x0 x1).2.1 (cMul64 x0 x1).2.2 := callOk_pure (fun _ _ => by kernel_rfl) fun _ => pMul64 x0 x1 
def FproductS (x0 : Int) (x1 : Int) : TWide := TWide.mk ((FMul64 (IntKind.u64.wrap (x0)) (IntKind.u64.wrap (x1))).1) ((FMul64 (IntKind.u64.wrap (x0)) (IntKind.u64.wrap (x1))).2)
def cproductS (x0 : Int) (x1 : Int) : FuncId × List Av × Ef := (76, [.one (.i x0), .one (.i x1)], .val [] (.av (.agg (TWide.c (FproductS x0 x1)))))
set_option maxRecDepth 100000 in
theorem pproductS (x0 : Int) (x1 : Int) : Pure Try.prog 76 (cproductS x0 x1).2.1 (.av (.agg (TWide.c (FproductS x0 x1)))) := by
  refine pure_of_awF Try.func76 rfl (by kernel_rfl) (by kernel_rfl) fun W0 M0 => ?_
  refine aw_seq ?_
  refine aw_region eqok [] [] [] [0, 1, 4] [4] [] ⟨[(0, tI x0), (1, tI x1), (4, tP 4 0)], [(4, .cells [.val (.int .u64 0), .val (.int .u64 0)] 109)]⟩ .nil (by kernel_rfl) .nil ?_
  refine ath_n ?_
  refine aw_seq ?_
  refine aw_region eqok [] [] [(12, cMul64 (IntKind.u64.wrap (x0)) (IntKind.u64.wrap (x1)))] [4, 5, 6] [4] [Same (cMul64 (IntKind.u64.wrap (x0)) (IntKind.u64.wrap (x1))).2.1] ⟨[(4, tP 4 0), (5, .av (.one (.val (.int .u64 ((FMul64 (IntKind.u64.wrap (x0)) (IntKind.u64.wrap (x1))).1))))), (6, .av (.one (.val (.int .u64 ((FMul64 (IntKind.u64.wrap (x0)) (IntKind.u64.wrap (x1))).2)))))], [(4, .cells [.val (.int .u64 0), .val (.int .u64 0)] 109)]⟩ (.cons (okMul64 (IntKind.u64.wrap (x0)) (IntKind.u64.wrap (x1))) .nil) (by kernel_rfl) (.cons rfl .nil) ?_
  refine ath_n ?_
  refine aw_seq ?_
  refine aw_region eqok [] [] [] [4] [4] [] ⟨[(4, tP 4 0)], [(4, .cells [.val (.int .u64 ((FMul64 (IntKind.u64.wrap (x0)) (IntKind.u64.wrap (x1))).1)), .val (.int .u64 ((FMul64 (IntKind.u64.wrap (x0)) (IntKind.u64.wrap (x1))).2))] 109)]⟩ .nil (by kernel_rfl) .nil ?_
  refine ath_n ?_
  refine aw_ret ?_
  exact ⟨_, Cv.refl _, .inl rfl, .av (.agg [.val (.int .u64 ((FMul64 (IntKind.u64.wrap (x0)) (IntKind.u64.wrap (x1))).1)), .val (.int .u64 ((FMul64 (IntKind.u64.wrap (x0)) (IntKind.u64.wrap (x1))).2))]), by kernel_rfl, tve_eq (by rfl)⟩
theorem okproductS (x0 : Int) (x1 : Int) : CallOk Try.prog (cproductS x0 x1).1 (cproductS x0 x1).2.1 (cproductS x0 x1).2.2 := callOk_pure (fun _ _ => by kernel_rfl) fun _ => pproductS x0 x1 
def FatMost (x0 : TWide) (x1 : TWide) : Bool := bif bif (decide (x0.e0 = x1.e0) && (decide (x0.e1 = x1.e1) && true)) then true else decide ((x0.e0 : Int) < x1.e0) then true else bif decide ((x0.e0 : Int) = x1.e0) then decide ((x0.e1 : Int) < x1.e1) else false
def catMost (x0 : TWide) (x1 : TWide) : FuncId × List Av × Ef := (77, [.agg (TWide.c x0), .agg (TWide.c x1)], .val [] (.av (.one (.b (FatMost x0 x1)))))
set_option maxRecDepth 100000 in
theorem patMost (x0 : TWide) (x1 : TWide) : Pure Try.prog 77 (catMost x0 x1).2.1 (.av (.one (.b (FatMost x0 x1)))) := by
  refine pure_of_awF Try.func77 rfl (by kernel_rfl) (by kernel_rfl) fun W0 M0 => ?_
  refine aw_seq ?_
  refine aw_region eqok [] [] [] [2, 3] [2, 3] [] ⟨[(2, tP 2 0), (3, tP 3 0)], [(2, .cells (TWide.c x0) 109), (3, .cells (TWide.c x1) 109)]⟩ .nil (by kernel_rfl) .nil ?_
  refine ath_n ?_
  refine aw_seq ?_
  refine aw_region eqok [] [] [] [4] [] [(((decide (x0.e0 = x1.e0) && (decide (x0.e1 = x1.e1) && true))) = false) → (0 ≤ (0 : Int) ∧ (0 : Int) < (2 : Int)), (((decide (x0.e0 = x1.e0) && (decide (x0.e1 = x1.e1) && true))) = false) → (((decide (x0.e0 = x1.e0) && (decide (x0.e1 = x1.e1) && true))) = false), (((decide (x0.e0 = x1.e0) && (decide (x0.e1 = x1.e1) && true))) = false) → (0 ≤ (0 : Int) ∧ (0 : Int) < (2 : Int)), (((decide (x0.e0 = x1.e0) && (decide (x0.e1 = x1.e1) && true))) = false) → (((decide (x0.e0 = x1.e0) && (decide (x0.e1 = x1.e1) && true))) = false), (((decide (x0.e0 = x1.e0) && (decide (x0.e1 = x1.e1) && true))) = false) → (((decide (x0.e0 = x1.e0) && (decide (x0.e1 = x1.e1) && true))) = false), (((decide (x0.e0 = x1.e0) && (decide (x0.e1 = x1.e1) && true))) = false) → (((decide (x0.e0 = x1.e0) && (decide (x0.e1 = x1.e1) && true))) = false), ((decide (x0.e0 = x1.e0) && (decide (x0.e1 = x1.e1) && true))) = false → (((decide (x0.e0 = x1.e0) && (decide (x0.e1 = x1.e1) && true))) = false), ((bif (decide (x0.e0 = x1.e0) && (decide (x0.e1 = x1.e1) && true)) then true else decide ((x0.e0 : Int) < x1.e0)) = false) → (0 ≤ (0 : Int) ∧ (0 : Int) < (2 : Int)), ((bif (decide (x0.e0 = x1.e0) && (decide (x0.e1 = x1.e1) && true)) then true else decide ((x0.e0 : Int) < x1.e0)) = false) → ((bif (decide (x0.e0 = x1.e0) && (decide (x0.e1 = x1.e1) && true)) then true else decide ((x0.e0 : Int) < x1.e0)) = false), ((bif (decide (x0.e0 = x1.e0) && (decide (x0.e1 = x1.e1) && true)) then true else decide ((x0.e0 : Int) < x1.e0)) = false) → (0 ≤ (0 : Int) ∧ (0 : Int) < (2 : Int)), ((bif (decide (x0.e0 = x1.e0) && (decide (x0.e1 = x1.e1) && true)) then true else decide ((x0.e0 : Int) < x1.e0)) = false) → ((bif (decide (x0.e0 = x1.e0) && (decide (x0.e1 = x1.e1) && true)) then true else decide ((x0.e0 : Int) < x1.e0)) = false), ((bif (decide (x0.e0 = x1.e0) && (decide (x0.e1 = x1.e1) && true)) then true else decide ((x0.e0 : Int) < x1.e0)) = false) → ((bif (decide (x0.e0 = x1.e0) && (decide (x0.e1 = x1.e1) && true)) then true else decide ((x0.e0 : Int) < x1.e0)) = false), ((bif (decide (x0.e0 = x1.e0) && (decide (x0.e1 = x1.e1) && true)) then true else decide ((x0.e0 : Int) < x1.e0)) = false) → ((bif (decide (x0.e0 = x1.e0) && (decide (x0.e1 = x1.e1) && true)) then true else decide ((x0.e0 : Int) < x1.e0)) = false), ((bif (decide (x0.e0 = x1.e0) && (decide (x0.e1 = x1.e1) && true)) then true else decide ((x0.e0 : Int) < x1.e0)) = false) → ((bif (decide (x0.e0 = x1.e0) && (decide (x0.e1 = x1.e1) && true)) then true else decide ((x0.e0 : Int) < x1.e0)) = false), (((bif (decide (x0.e0 = x1.e0) && (decide (x0.e1 = x1.e1) && true)) then true else decide ((x0.e0 : Int) < x1.e0)) = false) ∧ (decide ((x0.e0 : Int) = x1.e0)) = true) → (0 ≤ (1 : Int) ∧ (1 : Int) < (2 : Int)), (((bif (decide (x0.e0 = x1.e0) && (decide (x0.e1 = x1.e1) && true)) then true else decide ((x0.e0 : Int) < x1.e0)) = false) ∧ (decide ((x0.e0 : Int) = x1.e0)) = true) → (((bif (decide (x0.e0 = x1.e0) && (decide (x0.e1 = x1.e1) && true)) then true else decide ((x0.e0 : Int) < x1.e0)) = false) ∧ (decide ((x0.e0 : Int) = x1.e0)) = true), (((bif (decide (x0.e0 = x1.e0) && (decide (x0.e1 = x1.e1) && true)) then true else decide ((x0.e0 : Int) < x1.e0)) = false) ∧ (decide ((x0.e0 : Int) = x1.e0)) = true) → (0 ≤ (1 : Int) ∧ (1 : Int) < (2 : Int)), (((bif (decide (x0.e0 = x1.e0) && (decide (x0.e1 = x1.e1) && true)) then true else decide ((x0.e0 : Int) < x1.e0)) = false) ∧ (decide ((x0.e0 : Int) = x1.e0)) = true) → (((bif (decide (x0.e0 = x1.e0) && (decide (x0.e1 = x1.e1) && true)) then true else decide ((x0.e0 : Int) < x1.e0)) = false) ∧ (decide ((x0.e0 : Int) = x1.e0)) = true), (((bif (decide (x0.e0 = x1.e0) && (decide (x0.e1 = x1.e1) && true)) then true else decide ((x0.e0 : Int) < x1.e0)) = false) ∧ (decide ((x0.e0 : Int) = x1.e0)) = true) → (((bif (decide (x0.e0 = x1.e0) && (decide (x0.e1 = x1.e1) && true)) then true else decide ((x0.e0 : Int) < x1.e0)) = false) ∧ (decide ((x0.e0 : Int) = x1.e0)) = true), (((bif (decide (x0.e0 = x1.e0) && (decide (x0.e1 = x1.e1) && true)) then true else decide ((x0.e0 : Int) < x1.e0)) = false) ∧ (decide ((x0.e0 : Int) = x1.e0)) = true) → (((bif (decide (x0.e0 = x1.e0) && (decide (x0.e1 = x1.e1) && true)) then true else decide ((x0.e0 : Int) < x1.e0)) = false) ∧ (decide ((x0.e0 : Int) = x1.e0)) = true), ((bif (decide (x0.e0 = x1.e0) && (decide (x0.e1 = x1.e1) && true)) then true else decide ((x0.e0 : Int) < x1.e0)) = false) → ((bif (decide (x0.e0 = x1.e0) && (decide (x0.e1 = x1.e1) && true)) then true else decide ((x0.e0 : Int) < x1.e0)) = false), ((bif (decide (x0.e0 = x1.e0) && (decide (x0.e1 = x1.e1) && true)) then true else decide ((x0.e0 : Int) < x1.e0)) = false) → ((decide ((x0.e0 : Int) = x1.e0)) = true → (((bif (decide (x0.e0 = x1.e0) && (decide (x0.e1 = x1.e1) && true)) then true else decide ((x0.e0 : Int) < x1.e0)) = false) ∧ (decide ((x0.e0 : Int) = x1.e0)) = true)), (bif (decide (x0.e0 = x1.e0) && (decide (x0.e1 = x1.e1) && true)) then true else decide ((x0.e0 : Int) < x1.e0)) = false → ((bif (decide (x0.e0 = x1.e0) && (decide (x0.e1 = x1.e1) && true)) then true else decide ((x0.e0 : Int) < x1.e0)) = false)] ⟨[(4, tB (bif bif (decide (x0.e0 = x1.e0) && (decide (x0.e1 = x1.e1) && true)) then true else decide ((x0.e0 : Int) < x1.e0) then true else bif decide ((x0.e0 : Int) = x1.e0) then decide ((x0.e1 : Int) < x1.e1) else false))], []⟩ .nil (by kernel_rfl) (.cons (fun _ => (by decide)) (.cons id (.cons (fun _ => (by decide)) (.cons id (.cons id (.cons id (.cons id (.cons (fun _ => (by decide)) (.cons id (.cons (fun _ => (by decide)) (.cons id (.cons id (.cons id (.cons id (.cons (fun _ => (by decide)) (.cons id (.cons (fun _ => (by decide)) (.cons id (.cons id (.cons id (.cons id (.cons (by intros; first | assumption | exact ⟨by assumption, by assumption⟩ | simp_all) (.cons id .nil))))))))))))))))))))))) ?_
  refine ath_n ?_
  refine aw_ret ?_
  exact ⟨_, Cv.refl _, .inl rfl, .av (.one (.b (bif bif (decide (x0.e0 = x1.e0) && (decide (x0.e1 = x1.e1) && true)) then true else decide ((x0.e0 : Int) < x1.e0) then true else bif decide ((x0.e0 : Int) = x1.e0) then decide ((x0.e1 : Int) < x1.e1) else false))), by kernel_rfl, tve_eq (by rfl)⟩
theorem okatMost (x0 : TWide) (x1 : TWide) : CallOk Try.prog (catMost x0 x1).1 (catMost x0 x1).2.1 (catMost x0 x1).2.2 := callOk_pure (fun _ _ => by kernel_rfl) fun _ => patMost x0 x1 
def wnearS_0 (x0 : TEdge) : TPoint := bif decide ((x0.Kind : Int) = 3) then (FvecSub x0.B x0.C) else (FvecSub x0.A x0.C)
def wnearS_1 (x0 : TEdge) : TPoint := bif decide ((x0.Kind : Int) = 3) then (FvecSub x0.A x0.C) else (FvecSub x0.B x0.C)
def wnearS_2 (x1 : TPoint) (x0 : TEdge) : Bool := FvecWithin (FvecSub x1 x0.C) (wnearS_0 x0) (wnearS_1 x0)
def wnearS_3 (x0 : TEdge) (x1 : TPoint) : TWide := FproductS (max (FvecCross (FvecSub x0.B x0.A) (FvecSub x1 x0.A)) (W64 (0 - (FvecCross (FvecSub x0.B x0.A) (FvecSub x1 x0.A))))) (max (FvecCross (FvecSub x0.B x0.A) (FvecSub x1 x0.A)) (W64 (0 - (FvecCross (FvecSub x0.B x0.A) (FvecSub x1 x0.A)))))
def wnearS_4 (x2 : Int) (x0 : TEdge) : TWide := FproductS (W64 (x2 * x2)) (FvecDot (FvecSub x0.B x0.A) (FvecSub x0.B x0.A))
def wnearS_5 (x0 : TEdge) (x1 : TPoint) (x2 : Int) : Bool := FatMost (wnearS_3 x0 x1) (wnearS_4 x2 x0)
def FnearS (x0 : TEdge) (x1 : TPoint) (x2 : Int) : Bool := bif bif decide (((FsqS x1 x0.A) : Int) ≤ (W64 (x2 * x2))) then true else decide (((FsqS x1 x0.B) : Int) ≤ (W64 (x2 * x2))) then (true) else (bif !decide ((x0.Kind : Int) = 1) then (bif bif wnearS_2 x1 x0 then decide (((FsqS x1 x0.C) : Int) ≤ (W64 ((W64 ((FRadius x0) + x2)) * (W64 ((FRadius x0) + x2))))) else false then decide (((W64 ((max (W64 ((FRadius x0) - x2)) 0) * (max (W64 ((FRadius x0) - x2)) 0))) : Int) ≤ (FsqS x1 x0.C)) else false) else (bif bif decide (((FvecDot (FvecSub x1 x0.A) (FvecSub x0.B x0.A)) : Int) ≤ 0) then true else decide (((FvecDot (FvecSub x0.B x0.A) (FvecSub x0.B x0.A)) : Int) ≤ (FvecDot (FvecSub x1 x0.A) (FvecSub x0.B x0.A))) then (false) else (wnearS_5 x0 x1 x2)))
def cnearS (x0 : TEdge) (x1 : TPoint) (x2 : Int) : FuncId × List Av × Ef := (47, [.agg (TEdge.c x0), .agg (TPoint.c x1), .one (.i x2)], .val [] (.av (.one (.b (FnearS x0 x1 x2)))))
set_option maxRecDepth 100000 in
theorem pnearS (x0 : TEdge) (x1 : TPoint) (x2 : Int) : Pure Try.prog 47 (cnearS x0 x1 x2).2.1 (.av (.one (.b (FnearS x0 x1 x2)))) := by
  refine pure_of_awF Try.func47 rfl (by kernel_rfl) (by kernel_rfl) fun W0 M0 => ?_
  refine aw_seq ?_
  refine aw_region eqok [] [] [] [2, 3, 4] [3, 4] [] ⟨[(2, tI x2), (3, tP 3 0), (4, tP 4 0)], [(3, .cells (TEdge.c x0) 35), (4, .cells (TPoint.c x1) 29)]⟩ .nil (by kernel_rfl) .nil ?_
  refine ath_n ?_
  refine aw_seq ?_
  refine aw_seq ?_
  refine aw_region eqok [] [] [(19, csqS x1 x0.A), (28, csqS x1 x0.B)] [2, 3, 4, 33] [3, 4] [Same (csqS x1 x0.A).2.1, ((decide (((FsqS x1 x0.A) : Int) ≤ (W64 (x2 * x2)))) = false) → ((decide (((FsqS x1 x0.A) : Int) ≤ (W64 (x2 * x2)))) = false), ((decide (((FsqS x1 x0.A) : Int) ≤ (W64 (x2 * x2)))) = false) → ((decide (((FsqS x1 x0.A) : Int) ≤ (W64 (x2 * x2)))) = false), ((decide (((FsqS x1 x0.A) : Int) ≤ (W64 (x2 * x2)))) = false) → ((decide (((FsqS x1 x0.A) : Int) ≤ (W64 (x2 * x2)))) = false), ((decide (((FsqS x1 x0.A) : Int) ≤ (W64 (x2 * x2)))) = false) → (Same (csqS x1 x0.B).2.1), ((decide (((FsqS x1 x0.A) : Int) ≤ (W64 (x2 * x2)))) = false) → ((decide (((FsqS x1 x0.A) : Int) ≤ (W64 (x2 * x2)))) = false), ((decide (((FsqS x1 x0.A) : Int) ≤ (W64 (x2 * x2)))) = false) → ((decide (((FsqS x1 x0.A) : Int) ≤ (W64 (x2 * x2)))) = false), ((decide (((FsqS x1 x0.A) : Int) ≤ (W64 (x2 * x2)))) = false) → ((decide (((FsqS x1 x0.A) : Int) ≤ (W64 (x2 * x2)))) = false), ((decide (((FsqS x1 x0.A) : Int) ≤ (W64 (x2 * x2)))) = false) → ((decide (((FsqS x1 x0.A) : Int) ≤ (W64 (x2 * x2)))) = false), (decide (((FsqS x1 x0.A) : Int) ≤ (W64 (x2 * x2)))) = false → ((decide (((FsqS x1 x0.A) : Int) ≤ (W64 (x2 * x2)))) = false)] ⟨[(2, tI x2), (3, tP 3 0), (4, tP 4 0), (33, tB (bif decide (((FsqS x1 x0.A) : Int) ≤ (W64 (x2 * x2))) then true else decide (((FsqS x1 x0.B) : Int) ≤ (W64 (x2 * x2)))))], [(3, .cells (TEdge.c x0) 35), (4, .cells (TPoint.c x1) 29)]⟩ (.cons (oksqS x1 x0.A) (.cons (oksqS x1 x0.B) .nil)) (by kernel_rfl) (.cons rfl (.cons id (.cons id (.cons id (.cons (fun _ => rfl) (.cons id (.cons id (.cons id (.cons id (.cons id .nil)))))))))) ?_
  refine ath_n ?_
  refine aw_cond (bif decide (((FsqS x1 x0.A) : Int) ≤ (W64 (x2 * x2))) then true else decide (((FsqS x1 x0.B) : Int) ≤ (W64 (x2 * x2)))) (by kernel_rfl) (fun h1 => ?_) (fun h1 => ?_)
  · refine aw_seq ?_
    refine aw_region eqok [] [] [] [6] [] [] ⟨[(6, tB true)], []⟩ .nil (by kernel_rfl) .nil ?_
    refine ath_n ?_
    refine aw_ret ?_
    refine ath_r ?_
    exact ⟨_, Cv.refl _, .inl rfl, .av (.one (.b true)), by kernel_rfl, tve_eq (by first | (simp only [FnearS, h1, cond_true, cond_false]; done) | (simp only [FnearS, h1, cond_true, cond_false]; rfl))⟩
  · refine aw_skip ?_
    refine ath_n ?_
    refine aw_seq ?_
    refine aw_seq ?_
    refine aw_region eqok [] [] [] [2, 3, 4, 36] [3, 4] [] ⟨[(2, tI x2), (3, tP 3 0), (4, tP 4 0), (36, tB (!decide ((x0.Kind : Int) = 1)))], [(3, .cells (TEdge.c x0) 35), (4, .cells (TPoint.c x1) 29)]⟩ .nil (by kernel_rfl) .nil ?_
    refine ath_n ?_
    refine aw_cond (!decide ((x0.Kind : Int) = 1)) (by kernel_rfl) (fun h2 => ?_) (fun h2 => ?_)
    · have g2 := of_not_decide_true h2
      refine aw_seq ?_
      refine aw_draw mixed eqok [] [] [(41, cvecSub x0.A x0.C), (46, cvecSub x0.B x0.C)] [2, 3, 4, 7, 8] [3, 4, 7, 8] [Same (cvecSub x0.A x0.C).2.1, Same (cvecSub x0.B x0.C).2.1] ⟨[(2, tI x2), (3, tP 3 0), (4, tP 4 0), (7, tP 7 0), (8, tP 8 0)], [(3, .cells (TEdge.c x0) 35), (4, .cells (TPoint.c x1) 29), (7, .cells (TPoint.c (FvecSub x0.A x0.C)) 29), (8, .cells (TPoint.c (FvecSub x0.B x0.C)) 29)]⟩ (.cons (okvecSub x0.A x0.C) (.cons (okvecSub x0.B x0.C) .nil)) (by kernel_rfl) (by kernel_rfl) (.cons rfl (.cons rfl .nil)) ?_
      refine ath_n ?_
      refine aw_seq ?_
      refine aw_seq ?_
      refine aw_region eqok [] [] [] [2, 3, 4, 7, 8, 49] [3, 4, 7, 8] [] ⟨[(2, tI x2), (3, tP 3 0), (4, tP 4 0), (7, tP 7 0), (8, tP 8 0), (49, tB (decide ((x0.Kind : Int) = 3)))], [(3, .cells (TEdge.c x0) 35), (4, .cells (TPoint.c x1) 29), (7, .cells (TPoint.c (FvecSub x0.A x0.C)) 29), (8, .cells (TPoint.c (FvecSub x0.B x0.C)) 29)]⟩ .nil (by kernel_rfl) .nil ?_
      refine ath_n ?_
      refine aw_joinC (⟨[(2, tI x2), (3, tP 3 0), (4, tP 4 0), (7, tP 7 0), (8, tP 8 0)], [(3, .cells (TEdge.c x0) 35), (4, .cells (TPoint.c x1) 29), (7, .cells (TPoint.c (bif decide ((x0.Kind : Int) = 3) then (FvecSub x0.B x0.C) else (FvecSub x0.A x0.C))) 29), (8, .cells (TPoint.c (bif decide ((x0.Kind : Int) = 3) then (FvecSub x0.A x0.C) else (FvecSub x0.B x0.C))) 29)]⟩) ?_ ?_
      · refine aw_cond (decide ((x0.Kind : Int) = 3)) (by kernel_rfl) (fun h3 => ?_) (fun h3 => ?_)
        · have g3 := of_decide_eq_true h3
          refine aw_region eqok [] [] [] [2, 3, 4, 7, 8] [3, 4, 7, 8] [] ⟨[(2, tI x2), (3, tP 3 0), (4, tP 4 0), (7, tP 7 0), (8, tP 8 0)], [(3, .cells (TEdge.c x0) 35), (4, .cells (TPoint.c x1) 29), (7, .cells (TPoint.c (FvecSub x0.B x0.C)) 29), (8, .cells (TPoint.c (FvecSub x0.A x0.C)) 29)]⟩ .nil (by kernel_rfl) .nil ?_
          refine ath_n ?_
          refine cv_eq ?_
          first | rfl | (simp only [h3, cond_true, cond_false]; done) | (simp only [h3, cond_true, cond_false]; rfl)
        · have g3 := of_decide_eq_false h3
          refine aw_skip ?_
          refine ath_n ?_
          refine Cv.trans (cv_keep [2, 3, 4, 7, 8] [3, 4, 7, 8] (⟨[(2, tI x2), (3, tP 3 0), (4, tP 4 0), (7, tP 7 0), (8, tP 8 0)], [(3, .cells (TEdge.c x0) 35), (4, .cells (TPoint.c x1) 29), (7, .cells (TPoint.c (FvecSub x0.A x0.C)) 29), (8, .cells (TPoint.c (FvecSub x0.B x0.C)) 29)]⟩) (by kernel_rfl)) (cv_eq ?_)
          first | rfl | (simp only [h3, cond_true, cond_false]; done) | (simp only [h3, cond_true, cond_false]; rfl)
      refine aw_seq ?_
      refine aw_draw mixed eqok [] [] [(55, csqS x1 x0.C), (57, cRadius x0)] [2, 3, 4, 7, 8, 9, 10] [3, 4, 7, 8] [Same (csqS x1 x0.C).2.1, Same (cRadius x0).2.1] ⟨[(2, tI x2), (3, tP 3 0), (4, tP 4 0), (7, tP 7 0), (8, tP 8 0), (9, tI (FsqS x1 x0.C)), (10, tI (FRadius x0))], [(3, .cells (TEdge.c x0) 35), (4, .cells (TPoint.c x1) 29), (7, .cells (TPoint.c (bif decide ((x0.Kind : Int) = 3) then (FvecSub x0.B x0.C) else (FvecSub x0.A x0.C))) 29), (8, .cells (TPoint.c (bif decide ((x0.Kind : Int) = 3) then (FvecSub x0.A x0.C) else (FvecSub x0.B x0.C))) 29)]⟩ (.cons (oksqS x1 x0.C) (.cons (okRadius x0) .nil)) (by kernel_rfl) (by kernel_rfl) (.cons rfl (.cons rfl .nil)) ?_
      refine ath_n ?_
      refine aw_seq ?_
      refine aw_region eqok [] [] [] [2, 3, 4, 7, 8, 9, 10, 11] [3, 4, 7, 8] [] ⟨[(2, tI x2), (3, tP 3 0), (4, tP 4 0), (7, tP 7 0), (8, tP 8 0), (9, tI (FsqS x1 x0.C)), (10, tI (FRadius x0)), (11, tI (max (W64 ((FRadius x0) - x2)) 0))], [(3, .cells (TEdge.c x0) 35), (4, .cells (TPoint.c x1) 29), (7, .cells (TPoint.c (bif decide ((x0.Kind : Int) = 3) then (FvecSub x0.B x0.C) else (FvecSub x0.A x0.C))) 29), (8, .cells (TPoint.c (bif decide ((x0.Kind : Int) = 3) then (FvecSub x0.A x0.C) else (FvecSub x0.B x0.C))) 29)]⟩ .nil (by kernel_rfl) .nil ?_
      refine ath_n ?_
      refine aw_seq ?_
      refine aw_draw mixed eqok [] [] [(65, cvecSub x1 x0.C), (68, cvecWithin (FvecSub x1 x0.C) (wnearS_0 x0) (wnearS_1 x0))] [6] [] [Same (cvecSub x1 x0.C).2.1, Same (cvecWithin (FvecSub x1 x0.C) (wnearS_0 x0) (wnearS_1 x0)).2.1, ((wnearS_2 x1 x0) = true) → ((wnearS_2 x1 x0) = true), ((wnearS_2 x1 x0) = true) → ((wnearS_2 x1 x0) = true), ((wnearS_2 x1 x0) = true) → ((wnearS_2 x1 x0) = true), ((wnearS_2 x1 x0) = true) → ((wnearS_2 x1 x0) = true), ((wnearS_2 x1 x0) = true) → ((wnearS_2 x1 x0) = true), ((wnearS_2 x1 x0) = true) → ((wnearS_2 x1 x0) = true), ((wnearS_2 x1 x0) = true) → ((wnearS_2 x1 x0) = true), ((wnearS_2 x1 x0) = true) → ((wnearS_2 x1 x0) = true), (wnearS_2 x1 x0) = true → ((wnearS_2 x1 x0) = true), ((bif wnearS_2 x1 x0 then decide (((FsqS x1 x0.C) : Int) ≤ (W64 ((W64 ((FRadius x0) + x2)) * (W64 ((FRadius x0) + x2))))) else false) = true) → ((bif wnearS_2 x1 x0 then decide (((FsqS x1 x0.C) : Int) ≤ (W64 ((W64 ((FRadius x0) + x2)) * (W64 ((FRadius x0) + x2))))) else false) = true), ((bif wnearS_2 x1 x0 then decide (((FsqS x1 x0.C) : Int) ≤ (W64 ((W64 ((FRadius x0) + x2)) * (W64 ((FRadius x0) + x2))))) else false) = true) → ((bif wnearS_2 x1 x0 then decide (((FsqS x1 x0.C) : Int) ≤ (W64 ((W64 ((FRadius x0) + x2)) * (W64 ((FRadius x0) + x2))))) else false) = true), ((bif wnearS_2 x1 x0 then decide (((FsqS x1 x0.C) : Int) ≤ (W64 ((W64 ((FRadius x0) + x2)) * (W64 ((FRadius x0) + x2))))) else false) = true) → ((bif wnearS_2 x1 x0 then decide (((FsqS x1 x0.C) : Int) ≤ (W64 ((W64 ((FRadius x0) + x2)) * (W64 ((FRadius x0) + x2))))) else false) = true), ((bif wnearS_2 x1 x0 then decide (((FsqS x1 x0.C) : Int) ≤ (W64 ((W64 ((FRadius x0) + x2)) * (W64 ((FRadius x0) + x2))))) else false) = true) → ((bif wnearS_2 x1 x0 then decide (((FsqS x1 x0.C) : Int) ≤ (W64 ((W64 ((FRadius x0) + x2)) * (W64 ((FRadius x0) + x2))))) else false) = true), (bif wnearS_2 x1 x0 then decide (((FsqS x1 x0.C) : Int) ≤ (W64 ((W64 ((FRadius x0) + x2)) * (W64 ((FRadius x0) + x2))))) else false) = true → ((bif wnearS_2 x1 x0 then decide (((FsqS x1 x0.C) : Int) ≤ (W64 ((W64 ((FRadius x0) + x2)) * (W64 ((FRadius x0) + x2))))) else false) = true)] ⟨[(6, tB (bif bif wnearS_2 x1 x0 then decide (((FsqS x1 x0.C) : Int) ≤ (W64 ((W64 ((FRadius x0) + x2)) * (W64 ((FRadius x0) + x2))))) else false then decide (((W64 ((max (W64 ((FRadius x0) - x2)) 0) * (max (W64 ((FRadius x0) - x2)) 0))) : Int) ≤ (FsqS x1 x0.C)) else false))], []⟩ (.cons (okvecSub x1 x0.C) (.cons (okvecWithin (FvecSub x1 x0.C) (wnearS_0 x0) (wnearS_1 x0)) .nil)) (by kernel_rfl) (by kernel_rfl) (.cons rfl (.cons rfl (.cons id (.cons id (.cons id (.cons id (.cons id (.cons id (.cons id (.cons id (.cons id (.cons id (.cons id (.cons id (.cons id (.cons id .nil)))))))))))))))) ?_
      refine ath_n ?_
      refine aw_ret ?_
      refine ath_r ?_
      exact ⟨_, Cv.refl _, .inl rfl, .av (.one (.b (bif bif wnearS_2 x1 x0 then decide (((FsqS x1 x0.C) : Int) ≤ (W64 ((W64 ((FRadius x0) + x2)) * (W64 ((FRadius x0) + x2))))) else false then decide (((W64 ((max (W64 ((FRadius x0) - x2)) 0) * (max (W64 ((FRadius x0) - x2)) 0))) : Int) ≤ (FsqS x1 x0.C)) else false))), by kernel_rfl, tve_eq (by first | (simp only [FnearS, h1, h2, cond_true, cond_false]; done) | (simp only [FnearS, h1, h2, cond_true, cond_false]; rfl))⟩
    · have g2 := of_not_decide_false h2
      refine aw_skip ?_
      refine ath_n ?_
      refine aw_seq ?_
      refine aw_region eqok [] [] [(91, cvecSub x0.B x0.A)] [2, 3, 4, 12] [3, 4, 12] [Same (cvecSub x0.B x0.A).2.1] ⟨[(2, tI x2), (3, tP 3 0), (4, tP 4 0), (12, tP 12 0)], [(3, .cells (TEdge.c x0) 35), (4, .cells (TPoint.c x1) 29), (12, .cells (TPoint.c (FvecSub x0.B x0.A)) 29)]⟩ (.cons (okvecSub x0.B x0.A) .nil) (by kernel_rfl) (.cons rfl .nil) ?_
      refine ath_n ?_
      refine aw_seq ?_
      refine aw_draw mixed eqok [] [] [(95, cvecSub x1 x0.A), (97, cvecDot (FvecSub x1 x0.A) (FvecSub x0.B x0.A)), (100, cvecDot (FvecSub x0.B x0.A) (FvecSub x0.B x0.A))] [2, 3, 4, 12, 13, 14] [3, 4, 12] [Same (cvecSub x1 x0.A).2.1, Same (cvecDot (FvecSub x1 x0.A) (FvecSub x0.B x0.A)).2.1, Same (cvecDot (FvecSub x0.B x0.A) (FvecSub x0.B x0.A)).2.1] ⟨[(2, tI x2), (3, tP 3 0), (4, tP 4 0), (12, tP 12 0), (13, tI (FvecDot (FvecSub x1 x0.A) (FvecSub x0.B x0.A))), (14, tI (FvecDot (FvecSub x0.B x0.A) (FvecSub x0.B x0.A)))], [(3, .cells (TEdge.c x0) 35), (4, .cells (TPoint.c x1) 29), (12, .cells (TPoint.c (FvecSub x0.B x0.A)) 29)]⟩ (.cons (okvecSub x1 x0.A) (.cons (okvecDot (FvecSub x1 x0.A) (FvecSub x0.B x0.A)) (.cons (okvecDot (FvecSub x0.B x0.A) (FvecSub x0.B x0.A)) .nil))) (by kernel_rfl) (by kernel_rfl) (.cons rfl (.cons rfl (.cons rfl .nil))) ?_
      refine ath_n ?_
      refine aw_seq ?_
      refine aw_seq ?_
      refine aw_region eqok [] [] [] [2, 3, 4, 12, 14, 107] [3, 4, 12] [((decide (((FvecDot (FvecSub x1 x0.A) (FvecSub x0.B x0.A)) : Int) ≤ 0)) = false) → ((decide (((FvecDot (FvecSub x1 x0.A) (FvecSub x0.B x0.A)) : Int) ≤ 0)) = false), ((decide (((FvecDot (FvecSub x1 x0.A) (FvecSub x0.B x0.A)) : Int) ≤ 0)) = false) → ((decide (((FvecDot (FvecSub x1 x0.A) (FvecSub x0.B x0.A)) : Int) ≤ 0)) = false), (decide (((FvecDot (FvecSub x1 x0.A) (FvecSub x0.B x0.A)) : Int) ≤ 0)) = false → ((decide (((FvecDot (FvecSub x1 x0.A) (FvecSub x0.B x0.A)) : Int) ≤ 0)) = false)] ⟨[(2, tI x2), (3, tP 3 0), (4, tP 4 0), (12, tP 12 0), (14, tI (FvecDot (FvecSub x0.B x0.A) (FvecSub x0.B x0.A))), (107, tB (bif decide (((FvecDot (FvecSub x1 x0.A) (FvecSub x0.B x0.A)) : Int) ≤ 0) then true else decide (((FvecDot (FvecSub x0.B x0.A) (FvecSub x0.B x0.A)) : Int) ≤ (FvecDot (FvecSub x1 x0.A) (FvecSub x0.B x0.A)))))], [(3, .cells (TEdge.c x0) 35), (4, .cells (TPoint.c x1) 29), (12, .cells (TPoint.c (FvecSub x0.B x0.A)) 29)]⟩ .nil (by kernel_rfl) (.cons id (.cons id (.cons id .nil))) ?_
      refine ath_n ?_
      refine aw_cond (bif decide (((FvecDot (FvecSub x1 x0.A) (FvecSub x0.B x0.A)) : Int) ≤ 0) then true else decide (((FvecDot (FvecSub x0.B x0.A) (FvecSub x0.B x0.A)) : Int) ≤ (FvecDot (FvecSub x1 x0.A) (FvecSub x0.B x0.A)))) (by kernel_rfl) (fun h3 => ?_) (fun h3 => ?_)
      · refine aw_seq ?_
        refine aw_region eqok [] [] [] [6] [] [] ⟨[(6, tB false)], []⟩ .nil (by kernel_rfl) .nil ?_
        refine ath_n ?_
        refine aw_ret ?_
        refine ath_r ?_
        exact ⟨_, Cv.refl _, .inl rfl, .av (.one (.b false)), by kernel_rfl, tve_eq (by first | (simp only [FnearS, h1, h2, h3, cond_true, cond_false]; done) | (simp only [FnearS, h1, h2, h3, cond_true, cond_false]; rfl))⟩
      · refine aw_skip ?_
        refine ath_n ?_
        refine aw_seq ?_
        refine aw_draw mixed eqok [] [] [(112, cvecSub x1 x0.A), (113, cvecCross (FvecSub x0.B x0.A) (FvecSub x1 x0.A))] [2, 14, 15] [] [Same (cvecSub x1 x0.A).2.1, Same (cvecCross (FvecSub x0.B x0.A) (FvecSub x1 x0.A)).2.1] ⟨[(2, tI x2), (14, tI (FvecDot (FvecSub x0.B x0.A) (FvecSub x0.B x0.A))), (15, tI (FvecCross (FvecSub x0.B x0.A) (FvecSub x1 x0.A)))], []⟩ (.cons (okvecSub x1 x0.A) (.cons (okvecCross (FvecSub x0.B x0.A) (FvecSub x1 x0.A)) .nil)) (by kernel_rfl) (by kernel_rfl) (.cons rfl (.cons rfl .nil)) ?_
        refine ath_n ?_
        refine aw_seq ?_
        refine aw_region eqok [] [] [] [2, 14, 15] [] [] ⟨[(2, tI x2), (14, tI (FvecDot (FvecSub x0.B x0.A) (FvecSub x0.B x0.A))), (15, tI (max (FvecCross (FvecSub x0.B x0.A) (FvecSub x1 x0.A)) (W64 (0 - (FvecCross (FvecSub x0.B x0.A) (FvecSub x1 x0.A))))))], []⟩ .nil (by kernel_rfl) .nil ?_
        refine ath_n ?_
        refine aw_seq ?_
        refine aw_region eqok [] [] [(120, cproductS (max (FvecCross (FvecSub x0.B x0.A) (FvecSub x1 x0.A)) (W64 (0 - (FvecCross (FvecSub x0.B x0.A) (FvecSub x1 x0.A))))) (max (FvecCross (FvecSub x0.B x0.A) (FvecSub x1 x0.A)) (W64 (0 - (FvecCross (FvecSub x0.B x0.A) (FvecSub x1 x0.A)))))), (125, cproductS (W64 (x2 * x2)) (FvecDot (FvecSub x0.B x0.A) (FvecSub x0.B x0.A))), (126, catMost (wnearS_3 x0 x1) (wnearS_4 x2 x0))] [6] [] [Same (cproductS (max (FvecCross (FvecSub x0.B x0.A) (FvecSub x1 x0.A)) (W64 (0 - (FvecCross (FvecSub x0.B x0.A) (FvecSub x1 x0.A))))) (max (FvecCross (FvecSub x0.B x0.A) (FvecSub x1 x0.A)) (W64 (0 - (FvecCross (FvecSub x0.B x0.A) (FvecSub x1 x0.A)))))).2.1, Same (cproductS (W64 (x2 * x2)) (FvecDot (FvecSub x0.B x0.A) (FvecSub x0.B x0.A))).2.1, Same (catMost (wnearS_3 x0 x1) (wnearS_4 x2 x0)).2.1] ⟨[(6, tB (wnearS_5 x0 x1 x2))], []⟩ (.cons (okproductS (max (FvecCross (FvecSub x0.B x0.A) (FvecSub x1 x0.A)) (W64 (0 - (FvecCross (FvecSub x0.B x0.A) (FvecSub x1 x0.A))))) (max (FvecCross (FvecSub x0.B x0.A) (FvecSub x1 x0.A)) (W64 (0 - (FvecCross (FvecSub x0.B x0.A) (FvecSub x1 x0.A)))))) (.cons (okproductS (W64 (x2 * x2)) (FvecDot (FvecSub x0.B x0.A) (FvecSub x0.B x0.A))) (.cons (okatMost (wnearS_3 x0 x1) (wnearS_4 x2 x0)) .nil))) (by kernel_rfl) (.cons rfl (.cons rfl (.cons rfl .nil))) ?_
        refine ath_n ?_
        refine aw_ret ?_
        exact ⟨_, Cv.refl _, .inl rfl, .av (.one (.b (wnearS_5 x0 x1 x2))), by kernel_rfl, tve_eq (by first | (simp only [FnearS, h1, h2, h3, cond_true, cond_false]; done) | (simp only [FnearS, h1, h2, h3, cond_true, cond_false]; rfl))⟩
theorem oknearS (x0 : TEdge) (x1 : TPoint) (x2 : Int) : CallOk Try.prog (cnearS x0 x1 x2).1 (cnearS x0 x1 x2).2.1 (cnearS x0 x1 x2).2.2 := callOk_pure (fun _ _ => by kernel_rfl) fun _ => pnearS x0 x1 x2 
end Go.Proofs.Ytpnlegfdkkcnlaa
