/-
  No statement is proved in this text. It holds what functions return.
-/
import Derived.Test.YtpnlegfdkkcnlaaProg
import Derived.Test.YtpnlegfdkkcnlaaK9d
import Derived.Test.YtpnlegfdkkcnlaaK9x
namespace Go.Proofs.Ytpnlegfdkkcnlaa
open Go.RowKit
set_option linter.unusedVariables false
set_option linter.unusedSimpArgs false
def Fin46 (x : TEdge) (p : TPoint) (s : TShape) : Bool := FnearS x p s.R
set_option maxRecDepth 100000 in
theorem pin46  (x : TEdge) (p : TPoint) (s : TShape) : Pure Try.prog 46 [.agg (TEdge.c x), .one (.eptr 2 1 (fun _ j => ((TPoint.c p) : List Cl).getD j default) 0 0), .one (.eptr 3 1 (fun _ j => ((TShape.c s) : List Cl).getD j default) 0 0)] (.av (.one (.b (Fin46 x p s)))) := by
  refine pure_of_awF Try.func46 rfl (by kernel_rfl) (by kernel_rfl) fun W0 M0 => ?_
  refine aw_seq ?_
  refine aw_region eqok [] [] [] [1, 2, 3] [3] [] ⟨[(1, .av (.one (.eptr 2 1 (fun _ j => ((TPoint.c p) : List Cl).getD j default) 0 0))), (2, .av (.one (.eptr 3 1 (fun _ j => ((TShape.c s) : List Cl).getD j default) 0 0))), (3, tP 3 0)], [(3, .cells (TEdge.c x) 35)]⟩ .nil (by kernel_rfl) .nil ?_
  refine ath_n ?_
  refine aw_seq ?_
  refine aw_region eqok [] [] [(9, cnearS x p s.R)] [4] [] [Same (cnearS x p s.R).2.1] ⟨[(4, tB (FnearS x p s.R))], []⟩ (.cons (oknearS x p s.R) .nil) (by kernel_rfl) (.cons rfl .nil) ?_
  refine ath_n ?_
  refine aw_ret ?_
  exact ⟨_, Cv.refl _, .inl rfl, .av (.one (.b (FnearS x p s.R))), by kernel_rfl, tve_eq (by rfl)⟩
def wixI_1 (xs : (List TEdge)) (v8 : Int) (p : TPoint) (s : TShape) : FuncId × List Av × Ef := (46, [.agg (TEdge.c (xs.getD v8.toNat default)), .one (.eptr 2 1 (fun _ j => ((TPoint.c p) : List Cl).getD j default) 0 0), .one (.eptr 3 1 (fun _ j => ((TShape.c s) : List Cl).getD j default) 0 0)], .val [] (tB (Fin46 (xs.getD v8.toNat default) p s)))
def FixI_l0 (xs : (List TEdge)) (p : TPoint) (s : TShape) : Nat → Int → Int
  | 0, _ => default
  | n0 + 1, v8 => bif decide ((v8 : Int) < ((xs.length : Int))) then (bif Fin46 (xs.getD v8.toNat default) p s then (v8) else ((FixI_l0 xs p s n0) (v8 + 1))) else ((-1))
def FixI (xs : (List TEdge)) (p : TPoint) (s : TShape) : Int := FixI_l0 xs p s (((((xs.length : Int))) - 0).toNat + 1) 0
set_option maxRecDepth 100000 in
theorem pixI  (xs : (List TEdge)) (p : TPoint) (s : TShape) (hx : (xs.length : Int) ≤ 9223372036854775807) : Pure Try.prog 69 [.one (lst 7 TEdge.c xs), .one (.clo 46 2 (listF [.eptr 2 1 (fun _ j => ((TPoint.c p) : List Cl).getD j default) 0 0, .eptr 3 1 (fun _ j => ((TShape.c s) : List Cl).getD j default) 0 0]))] (.av (.one (.i (FixI xs p s)))) := by
  refine pure_of_awF Try.func69 rfl (by kernel_rfl) (by kernel_rfl) fun W0 M0 => ?_
  refine aw_seq ?_
  refine aw_region eqok [] [] [] [0, 1] [] [] ⟨[(0, .av (.one (lst 7 TEdge.c xs))), (1, .av (.one (.clo 46 2 (listF [.eptr 2 1 (fun _ j => ((TPoint.c p) : List Cl).getD j default) 0 0, .eptr 3 1 (fun _ j => ((TShape.c s) : List Cl).getD j default) 0 0]))))], []⟩ .nil (by kernel_rfl) .nil ?_
  refine ath_n ?_
  refine aw_seq ?_
  refine aw_seq ?_
  refine aw_region eqok [] [] [] [0, 1, 7, 8] [] [] ⟨[(0, .av (.one (lst 7 TEdge.c xs))), (1, .av (.one (.clo 46 2 (listF [.eptr 2 1 (fun _ j => ((TPoint.c p) : List Cl).getD j default) 0 0, .eptr 3 1 (fun _ j => ((TShape.c s) : List Cl).getD j default) 0 0])))), (7, tI ((xs.length : Int))), (8, tI 0)], []⟩ .nil (by kernel_rfl) .nil ?_
  refine ath_n ?_
  refine aw_block ?_
  refine aw_loopC (ι := Nat × Int) (fun x => ⟨[(0, .av (.one (lst 7 TEdge.c xs))), (1, .av (.one (.clo 46 2 (listF [.eptr 2 1 (fun _ j => ((TPoint.c p) : List Cl).getD j default) 0 0, .eptr 3 1 (fun _ j => ((TShape.c s) : List Cl).getD j default) 0 0])))), (7, tI ((xs.length : Int))), (8, tI x.2)], []⟩) (fun x => ((((xs.length : Int))) - x.2).toNat < x.1 ∧ (0 ≤ x.2 ∧ (x.2 ≤ ((xs.length : Int)) ∨ x.2 = 0)) ∧ FixI_l0 xs p s x.1 x.2 = FixI xs p s) (fun x => x.1) ?_ (((((xs.length : Int))) - 0).toNat + 1, 0) ⟨Nat.lt_succ_self _, ⟨(by show 0 ≤ 0; first | trivial | omega | (simp only [List.length_append, List.length_cons, List.length_nil]; omega) | (simp only [List.length_set, List.length_append, List.length_cons, List.length_nil]; omega) | (simp only [W64_def]; omega) | (simp; omega) | simp), (by show (0 ≤ ((xs.length : Int)) ∨ 0 = 0); first | trivial | omega | (simp only [List.length_append, List.length_cons, List.length_nil]; omega) | (simp only [List.length_set, List.length_append, List.length_cons, List.length_nil]; omega) | (simp only [W64_def]; omega) | (simp; omega) | simp)⟩, (by simp only [FixI, cond_true, cond_false])⟩
  rintro ⟨n0, v8⟩ ⟨hn, hinv, hF⟩
  have hm0 : ((((xs.length : Int))) - v8).toNat < n0 := hn; have hinv0 : 0 ≤ v8 ∧ (v8 ≤ ((xs.length : Int)) ∨ v8 = 0) := hinv; have hF0 : FixI_l0 xs p s n0 v8 = FixI xs p s := hF; clear hn hinv hF
  cases n0 with
  | zero => exact absurd hm0 (Nat.not_lt_zero _)
  | succ n0 =>
    refine aw_seq ?_
    refine aw_region eqok [] [] [] [0, 1, 7, 8, 9] [] [] ⟨[(0, .av (.one (lst 7 TEdge.c xs))), (1, .av (.one (.clo 46 2 (listF [.eptr 2 1 (fun _ j => ((TPoint.c p) : List Cl).getD j default) 0 0, .eptr 3 1 (fun _ j => ((TShape.c s) : List Cl).getD j default) 0 0])))), (7, tI ((xs.length : Int))), (8, tI v8), (9, tB (decide ((v8 : Int) < ((xs.length : Int)))))], []⟩ .nil (by kernel_rfl) .nil ?_
    refine ath_n ?_
    refine aw_seq ?_
    refine aw_cond (decide ((v8 : Int) < ((xs.length : Int)))) (by kernel_rfl) (fun h1 => ?_) (fun h1 => ?_)
    · have g1 := of_decide_eq_true h1
      refine aw_skip ?_
      refine ath_n ?_
      refine aw_seq ?_
      refine aw_block ?_
      refine aw_seq ?_
      refine aw_region eqok [] [] [] [0, 1, 5, 7, 8] [] [] ⟨[(0, .av (.one (lst 7 TEdge.c xs))), (1, .av (.one (.clo 46 2 (listF [.eptr 2 1 (fun _ j => ((TPoint.c p) : List Cl).getD j default) 0 0, .eptr 3 1 (fun _ j => ((TShape.c s) : List Cl).getD j default) 0 0])))), (5, tI v8), (7, tI ((xs.length : Int))), (8, tI v8)], []⟩ .nil (by kernel_rfl) .nil ?_
      refine ath_n ?_
      refine aw_seq ?_
      refine aw_region eqok [] [] [(16, (wixI_1 xs v8 p s))] [0, 1, 5, 7, 8, 16] [] [0 ≤ (v8 : Int) ∧ (v8 : Int) < ((xs.length : Nat) : Int), Same (wixI_1 xs v8 p s).2.1] ⟨[(0, .av (.one (lst 7 TEdge.c xs))), (1, .av (.one (.clo 46 2 (listF [.eptr 2 1 (fun _ j => ((TPoint.c p) : List Cl).getD j default) 0 0, .eptr 3 1 (fun _ j => ((TShape.c s) : List Cl).getD j default) 0 0])))), (5, tI v8), (7, tI ((xs.length : Int))), (8, tI v8), (16, tB (Fin46 (xs.getD v8.toNat default) p s))], []⟩ (.cons (callOk_pure (fun _ _ => by kernel_rfl) fun _ => pin46 (xs.getD v8.toNat default) p s) .nil) (by kernel_rfl) (.cons (by first | decide | omega | exact idx_tmod (by first | omega | (simp only [W64_def]; omega)) (by omega) | (simp only [W64_def]; omega) | (constructor <;> omega) | (simp only [List.length_append, List.length_cons, List.length_nil]; omega) | (simp only [List.length_append, List.length_cons, List.length_nil, List.length_drop, List.length_take] at *; omega)) (.cons rfl .nil)) ?_
      refine ath_n ?_
      refine aw_cond (Fin46 (xs.getD v8.toNat default) p s) (by kernel_rfl) (fun h2 => ?_) (fun h2 => ?_)
      · refine aw_seq ?_
        refine aw_region eqok [] [] [] [4] [] [] ⟨[(4, tI v8)], []⟩ .nil (by kernel_rfl) .nil ?_
        refine ath_n ?_
        refine aw_ret ?_
        refine abl_r ?_
        refine ath_r ?_
        refine ath_r ?_
        refine abl_r ?_
        refine ath_r ?_
        exact ⟨_, Cv.refl _, .inl rfl, .av (.one (.i v8)), by kernel_rfl, tve_eq (by rw [← hF0]; first | (simp only [FixI_l0, h1, h2, cond_true, cond_false]; done) | (simp only [FixI_l0, h1, h2, cond_true, cond_false]; rfl))⟩
      · refine aw_skip ?_
        refine abl_n ?_
        refine ath_n ?_
        refine aw_region eqok [] [] [] [0, 1, 7, 8] [] [] ⟨[(0, .av (.one (lst 7 TEdge.c xs))), (1, .av (.one (.clo 46 2 (listF [.eptr 2 1 (fun _ j => ((TPoint.c p) : List Cl).getD j default) 0 0, .eptr 3 1 (fun _ j => ((TShape.c s) : List Cl).getD j default) 0 0])))), (7, tI ((xs.length : Int))), (8, tI (W64 (v8 + 1)))], []⟩ .nil (by kernel_rfl) .nil ?_
        (try rw [(show W64 (v8 + 1) = v8 + 1 from W64_id (by omega) (by first | omega | (simp only [List.length_drop, List.length_take] at *; omega)))])
        refine ath_n ?_
        refine ⟨(n0, v8 + 1), ⟨?_, ?_, (by rw [← hF0]; simp only [FixI_l0, h1, h2, cond_true, cond_false])⟩, Nat.lt_succ_self _, cv_eq (by kernel_rfl)⟩
        · show ((((xs.length : Int))) - (v8 + 1)).toNat < n0; omega
        · exact ⟨(by show 0 ≤ (v8 + 1); first | trivial | omega | (simp only [List.length_append, List.length_cons, List.length_nil]; omega) | (simp only [List.length_set, List.length_append, List.length_cons, List.length_nil]; omega) | (simp only [W64_def]; omega) | (simp; omega) | simp), (by show ((v8 + 1) ≤ ((xs.length : Int)) ∨ (v8 + 1) = 0); first | trivial | omega | (simp only [List.length_append, List.length_cons, List.length_nil]; omega) | (simp only [List.length_set, List.length_append, List.length_cons, List.length_nil]; omega) | (simp only [W64_def]; omega) | (simp; omega) | simp)⟩
    · have g1 := of_decide_eq_false h1
      refine aw_exit ?_
      refine ath_e ?_
      refine ath_e ?_
      refine abl_hit ?_
      refine ath_n ?_
      refine aw_seq ?_
      refine aw_region eqok [] [] [] [4] [] [] ⟨[(4, tI ((-1)))], []⟩ .nil (by kernel_rfl) .nil ?_
      refine ath_n ?_
      refine aw_ret ?_
      exact ⟨_, Cv.refl _, .inl rfl, .av (.one (.i ((-1)))), by kernel_rfl, tve_eq (by rw [← hF0]; first | (simp only [FixI_l0, h1, cond_true, cond_false]; done) | (simp only [FixI_l0, h1, cond_true, cond_false]; rfl))⟩
def wcoI_0 (xs : (List TEdge)) (p : TPoint) (s : TShape) : FuncId × List Av × Ef := (69, [.one (lst 7 TEdge.c xs), .one (.clo 46 2 (listF [.eptr 2 1 (fun _ j => ((TPoint.c p) : List Cl).getD j default) 0 0, .eptr 3 1 (fun _ j => ((TShape.c s) : List Cl).getD j default) 0 0]))], .val [] (tI (FixI xs p s)))
def FcoI (xs : (List TEdge)) (p : TPoint) (s : TShape) : Bool := decide ((0 : Int) ≤ (FixI xs p s))
set_option maxRecDepth 100000 in
theorem pcoI  (xs : (List TEdge)) (p : TPoint) (s : TShape) (hx : (xs.length : Int) ≤ 9223372036854775807) : Pure Try.prog 45 [.one (lst 7 TEdge.c xs), .one (.clo 46 2 (listF [.eptr 2 1 (fun _ j => ((TPoint.c p) : List Cl).getD j default) 0 0, .eptr 3 1 (fun _ j => ((TShape.c s) : List Cl).getD j default) 0 0]))] (.av (.one (.b (FcoI xs p s)))) := by
  refine pure_of_awF Try.func45 rfl (by kernel_rfl) (by kernel_rfl) fun W0 M0 => ?_
  refine aw_seq ?_
  refine aw_region eqok [] [] [] [0, 1] [] [] ⟨[(0, .av (.one (lst 7 TEdge.c xs))), (1, .av (.one (.clo 46 2 (listF [.eptr 2 1 (fun _ j => ((TPoint.c p) : List Cl).getD j default) 0 0, .eptr 3 1 (fun _ j => ((TShape.c s) : List Cl).getD j default) 0 0]))))], []⟩ .nil (by kernel_rfl) .nil ?_
  refine ath_n ?_
  refine aw_seq ?_
  refine aw_region eqok [] [] [(7, (wcoI_0 xs p s))] [4] [] [Same (wcoI_0 xs p s).2.1] ⟨[(4, tB (decide ((0 : Int) ≤ (FixI xs p s))))], []⟩ (.cons (callOk_pure (fun _ _ => by kernel_rfl) fun _ => pixI xs p s (by first | with_reducible assumption | omega | decide | (simp only [List.length_cons, List.length_nil, List.length_append]; omega) | assumption)) .nil) (by kernel_rfl) (.cons rfl .nil) ?_
  refine ath_n ?_
  refine aw_ret ?_
  exact ⟨_, Cv.refl _, .inl rfl, .av (.one (.b (decide ((0 : Int) ≤ (FixI xs p s))))), by kernel_rfl, tve_eq (by rfl)⟩
def wInsideS_0 (s : TShape) (p : TPoint) : FuncId × List Av × Ef := (45, [.one (lst 7 TEdge.c s.Edges), .one (.clo 46 2 (listF [.ptr 3 0, .ptr 2 0]))], rdI [3, 2] [.cells (TPoint.c p) 29, .cells (TShape.c s) 26] (tB (FcoI s.Edges p s)))
def FInsideS_l0 (s : TShape) (p : TPoint) : Nat → Int → Int → Bool
  | 0, _, _ => default
  | n0 + 1, v6, v49 => bif decide ((v49 : Int) < ((s.Edges.length : Int))) then ((FInsideS_l0 s p n0) (W64 (v6 + (FRay (s.Edges.getD v49.toNat default) p))) (v49 + 1)) else (bif decide ((s.Kind : Int) = 2) then !decide ((v6 : Int) = 0) else false)
def FInsideS (s : TShape) (p : TPoint) : Bool := bif bif bif bif bif !decide (((FCheckS s) : Int) = 0) then true else decide ((p.X : Int) < ((FBox s).X0)) then true else decide ((((FBox s).X1) : Int) < p.X) then true else decide ((p.Y : Int) < ((FBox s).Y0)) then true else decide ((((FBox s).Y1) : Int) < p.Y) then (false) else (bif FcoI s.Edges p s then (true) else (FInsideS_l0 s p (((((s.Edges.length : Int))) - 0).toNat + 1) 0 0))
def cInsideS (s : TShape) (p : TPoint) : FuncId × List Av × Ef := (15, [.agg (TShape.c s), .agg (TPoint.c p)], .val [] (.av (.one (.b (FInsideS s p)))))
set_option maxRecDepth 100000 in
theorem pInsideS (s : TShape) (p : TPoint) (hl : (s.Edges.length : Int) ≤ 1000000) : Pure Try.prog 15 (cInsideS s p).2.1 (.av (.one (.b (FInsideS s p)))) := by
  refine pure_of_awF Try.func15 rfl (by kernel_rfl) (by kernel_rfl) fun W0 M0 => ?_
  refine aw_seq ?_
  refine aw_region eqok [] [] [] [2, 3] [2, 3] [] ⟨[(2, tP 2 0), (3, tP 3 0)], [(2, .cells (TShape.c s) 26), (3, .cells (TPoint.c p) 29)]⟩ .nil (by kernel_rfl) .nil ?_
  refine ath_n ?_
  refine aw_seq ?_
  refine aw_region eqok [] [] [(10, cBox s)] [2, 3, 5] [2, 3, 5] [Same (cBox s).2.1] ⟨[(2, tP 2 0), (3, tP 3 0), (5, tP 5 0)], [(2, .cells (TShape.c s) 26), (3, .cells (TPoint.c p) 29), (5, .cells (TRect.c (FBox s)) 54)]⟩ (.cons (okBox s (by first | with_reducible assumption | omega | decide | (simp only [List.length_cons, List.length_nil, List.length_append]; omega) | assumption)) .nil) (by kernel_rfl) (.cons rfl .nil) ?_
  refine ath_n ?_
  refine aw_seq ?_
  refine aw_seq ?_
  refine aw_region eqok [] [] [(12, cCheckS s)] [2, 3, 41] [2, 3] [Same (cCheckS s).2.1, ((!decide (((FCheckS s) : Int) = 0)) = false) → ((!decide (((FCheckS s) : Int) = 0)) = false), ((!decide (((FCheckS s) : Int) = 0)) = false) → ((!decide (((FCheckS s) : Int) = 0)) = false), ((!decide (((FCheckS s) : Int) = 0)) = false) → ((!decide (((FCheckS s) : Int) = 0)) = false), ((!decide (((FCheckS s) : Int) = 0)) = false) → ((!decide (((FCheckS s) : Int) = 0)) = false), (!decide (((FCheckS s) : Int) = 0)) = false → ((!decide (((FCheckS s) : Int) = 0)) = false), ((bif !decide (((FCheckS s) : Int) = 0) then true else decide ((p.X : Int) < ((FBox s).X0))) = false) → ((bif !decide (((FCheckS s) : Int) = 0) then true else decide ((p.X : Int) < ((FBox s).X0))) = false), ((bif !decide (((FCheckS s) : Int) = 0) then true else decide ((p.X : Int) < ((FBox s).X0))) = false) → ((bif !decide (((FCheckS s) : Int) = 0) then true else decide ((p.X : Int) < ((FBox s).X0))) = false), ((bif !decide (((FCheckS s) : Int) = 0) then true else decide ((p.X : Int) < ((FBox s).X0))) = false) → ((bif !decide (((FCheckS s) : Int) = 0) then true else decide ((p.X : Int) < ((FBox s).X0))) = false), ((bif !decide (((FCheckS s) : Int) = 0) then true else decide ((p.X : Int) < ((FBox s).X0))) = false) → ((bif !decide (((FCheckS s) : Int) = 0) then true else decide ((p.X : Int) < ((FBox s).X0))) = false), (bif !decide (((FCheckS s) : Int) = 0) then true else decide ((p.X : Int) < ((FBox s).X0))) = false → ((bif !decide (((FCheckS s) : Int) = 0) then true else decide ((p.X : Int) < ((FBox s).X0))) = false), ((bif bif !decide (((FCheckS s) : Int) = 0) then true else decide ((p.X : Int) < ((FBox s).X0)) then true else decide ((((FBox s).X1) : Int) < p.X)) = false) → ((bif bif !decide (((FCheckS s) : Int) = 0) then true else decide ((p.X : Int) < ((FBox s).X0)) then true else decide ((((FBox s).X1) : Int) < p.X)) = false), ((bif bif !decide (((FCheckS s) : Int) = 0) then true else decide ((p.X : Int) < ((FBox s).X0)) then true else decide ((((FBox s).X1) : Int) < p.X)) = false) → ((bif bif !decide (((FCheckS s) : Int) = 0) then true else decide ((p.X : Int) < ((FBox s).X0)) then true else decide ((((FBox s).X1) : Int) < p.X)) = false), ((bif bif !decide (((FCheckS s) : Int) = 0) then true else decide ((p.X : Int) < ((FBox s).X0)) then true else decide ((((FBox s).X1) : Int) < p.X)) = false) → ((bif bif !decide (((FCheckS s) : Int) = 0) then true else decide ((p.X : Int) < ((FBox s).X0)) then true else decide ((((FBox s).X1) : Int) < p.X)) = false), ((bif bif !decide (((FCheckS s) : Int) = 0) then true else decide ((p.X : Int) < ((FBox s).X0)) then true else decide ((((FBox s).X1) : Int) < p.X)) = false) → ((bif bif !decide (((FCheckS s) : Int) = 0) then true else decide ((p.X : Int) < ((FBox s).X0)) then true else decide ((((FBox s).X1) : Int) < p.X)) = false), (bif bif !decide (((FCheckS s) : Int) = 0) then true else decide ((p.X : Int) < ((FBox s).X0)) then true else decide ((((FBox s).X1) : Int) < p.X)) = false → ((bif bif !decide (((FCheckS s) : Int) = 0) then true else decide ((p.X : Int) < ((FBox s).X0)) then true else decide ((((FBox s).X1) : Int) < p.X)) = false), ((bif bif bif !decide (((FCheckS s) : Int) = 0) then true else decide ((p.X : Int) < ((FBox s).X0)) then true else decide ((((FBox s).X1) : Int) < p.X) then true else decide ((p.Y : Int) < ((FBox s).Y0))) = false) → ((bif bif bif !decide (((FCheckS s) : Int) = 0) then true else decide ((p.X : Int) < ((FBox s).X0)) then true else decide ((((FBox s).X1) : Int) < p.X) then true else decide ((p.Y : Int) < ((FBox s).Y0))) = false), ((bif bif bif !decide (((FCheckS s) : Int) = 0) then true else decide ((p.X : Int) < ((FBox s).X0)) then true else decide ((((FBox s).X1) : Int) < p.X) then true else decide ((p.Y : Int) < ((FBox s).Y0))) = false) → ((bif bif bif !decide (((FCheckS s) : Int) = 0) then true else decide ((p.X : Int) < ((FBox s).X0)) then true else decide ((((FBox s).X1) : Int) < p.X) then true else decide ((p.Y : Int) < ((FBox s).Y0))) = false), ((bif bif bif !decide (((FCheckS s) : Int) = 0) then true else decide ((p.X : Int) < ((FBox s).X0)) then true else decide ((((FBox s).X1) : Int) < p.X) then true else decide ((p.Y : Int) < ((FBox s).Y0))) = false) → ((bif bif bif !decide (((FCheckS s) : Int) = 0) then true else decide ((p.X : Int) < ((FBox s).X0)) then true else decide ((((FBox s).X1) : Int) < p.X) then true else decide ((p.Y : Int) < ((FBox s).Y0))) = false), ((bif bif bif !decide (((FCheckS s) : Int) = 0) then true else decide ((p.X : Int) < ((FBox s).X0)) then true else decide ((((FBox s).X1) : Int) < p.X) then true else decide ((p.Y : Int) < ((FBox s).Y0))) = false) → ((bif bif bif !decide (((FCheckS s) : Int) = 0) then true else decide ((p.X : Int) < ((FBox s).X0)) then true else decide ((((FBox s).X1) : Int) < p.X) then true else decide ((p.Y : Int) < ((FBox s).Y0))) = false), (bif bif bif !decide (((FCheckS s) : Int) = 0) then true else decide ((p.X : Int) < ((FBox s).X0)) then true else decide ((((FBox s).X1) : Int) < p.X) then true else decide ((p.Y : Int) < ((FBox s).Y0))) = false → ((bif bif bif !decide (((FCheckS s) : Int) = 0) then true else decide ((p.X : Int) < ((FBox s).X0)) then true else decide ((((FBox s).X1) : Int) < p.X) then true else decide ((p.Y : Int) < ((FBox s).Y0))) = false)] ⟨[(2, tP 2 0), (3, tP 3 0), (41, tB (bif bif bif bif !decide (((FCheckS s) : Int) = 0) then true else decide ((p.X : Int) < ((FBox s).X0)) then true else decide ((((FBox s).X1) : Int) < p.X) then true else decide ((p.Y : Int) < ((FBox s).Y0)) then true else decide ((((FBox s).Y1) : Int) < p.Y)))], [(2, .cells (TShape.c s) 26), (3, .cells (TPoint.c p) 29)]⟩ (.cons (okCheckS s (by first | with_reducible assumption | omega | decide | (simp only [List.length_cons, List.length_nil, List.length_append]; omega) | assumption)) .nil) (by kernel_rfl) (.cons rfl (.cons id (.cons id (.cons id (.cons id (.cons id (.cons id (.cons id (.cons id (.cons id (.cons id (.cons id (.cons id (.cons id (.cons id (.cons id (.cons id (.cons id (.cons id (.cons id (.cons id .nil))))))))))))))))))))) ?_
  refine ath_n ?_
  refine aw_cond (bif bif bif bif !decide (((FCheckS s) : Int) = 0) then true else decide ((p.X : Int) < ((FBox s).X0)) then true else decide ((((FBox s).X1) : Int) < p.X) then true else decide ((p.Y : Int) < ((FBox s).Y0)) then true else decide ((((FBox s).Y1) : Int) < p.Y)) (by kernel_rfl) (fun h1 => ?_) (fun h1 => ?_)
  · refine aw_seq ?_
    refine aw_region eqok [] [] [] [4] [] [] ⟨[(4, tB false)], []⟩ .nil (by kernel_rfl) .nil ?_
    refine ath_n ?_
    refine aw_ret ?_
    refine ath_r ?_
    exact ⟨_, Cv.refl _, .inl rfl, .av (.one (.b false)), by kernel_rfl, tve_eq (by first | (simp only [FInsideS, h1, cond_true, cond_false]; done) | (simp only [FInsideS, h1, cond_true, cond_false]; rfl))⟩
  · refine aw_skip ?_
    refine ath_n ?_
    refine aw_seq ?_
    refine aw_seq ?_
    refine aw_region eqok [] [] [(45, (wInsideS_0 s p))] [2, 3, 45] [2, 3] [Same (wInsideS_0 s p).2.1, SameBs [.cells (TPoint.c p) 29, .cells (TShape.c s) 26]] ⟨[(2, tP 2 0), (3, tP 3 0), (45, tB (FcoI s.Edges p s))], [(2, .cells (TShape.c s) 26), (3, .cells (TPoint.c p) 29)]⟩ (.cons (callOk_rd (fun _ _ => by kernel_rfl) (by kernel_rfl) (by kernel_rfl) (pure_ce (pcoI s.Edges p s (by first | with_reducible assumption | omega | decide | (simp only [List.length_cons, List.length_nil, List.length_append]; omega) | assumption)) (.cons (AvE.refl _) (.cons (.one (.clo 46 2 _ _ (tab_get (by kernel_rfl)))) .nil)))) .nil) (by kernel_rfl) (.cons rfl (.cons rfl .nil)) ?_
    refine ath_n ?_
    refine aw_cond (FcoI s.Edges p s) (by kernel_rfl) (fun h2 => ?_) (fun h2 => ?_)
    · refine aw_seq ?_
      refine aw_region eqok [] [] [] [4] [] [] ⟨[(4, tB true)], []⟩ .nil (by kernel_rfl) .nil ?_
      refine ath_n ?_
      refine aw_ret ?_
      refine ath_r ?_
      exact ⟨_, Cv.refl _, .inl rfl, .av (.one (.b true)), by kernel_rfl, tve_eq (by first | (simp only [FInsideS, h1, h2, cond_true, cond_false]; done) | (simp only [FInsideS, h1, h2, cond_true, cond_false]; rfl))⟩
    · refine aw_skip ?_
      refine ath_n ?_
      refine aw_seq ?_
      refine aw_region eqok [] [] [] [2, 3, 6] [2, 3] [] ⟨[(2, tP 2 0), (3, tP 3 0), (6, tI 0)], [(2, .cells (TShape.c s) 26), (3, .cells (TPoint.c p) 29)]⟩ .nil (by kernel_rfl) .nil ?_
      refine ath_n ?_
      refine aw_seq ?_
      refine aw_seq ?_
      refine aw_region eqok [] [] [] [2, 3, 6, 47, 48, 49] [2, 3] [] ⟨[(2, tP 2 0), (3, tP 3 0), (6, tI 0), (47, .av (.one (lst 7 TEdge.c s.Edges))), (48, tI ((s.Edges.length : Int))), (49, tI 0)], [(2, .cells (TShape.c s) 26), (3, .cells (TPoint.c p) 29)]⟩ .nil (by kernel_rfl) .nil ?_
      refine ath_n ?_
      refine aw_block ?_
      refine aw_loopC (ι := Nat × Int × Int) (fun x => ⟨[(2, tP 2 0), (3, tP 3 0), (6, tI x.2.1), (47, .av (.one (lst 7 TEdge.c s.Edges))), (48, tI ((s.Edges.length : Int))), (49, tI x.2.2)], [(2, .cells (TShape.c s) 26), (3, .cells (TPoint.c p) 29)]⟩) (fun x => ((((s.Edges.length : Int))) - x.2.2).toNat < x.1 ∧ (0 ≤ x.2.2 ∧ (x.2.2 ≤ ((s.Edges.length : Int)) ∨ x.2.2 = 0)) ∧ FInsideS_l0 s p x.1 x.2.1 x.2.2 = FInsideS s p) (fun x => x.1) ?_ (((((s.Edges.length : Int))) - 0).toNat + 1, 0, 0) ⟨Nat.lt_succ_self _, ⟨(by show 0 ≤ 0; first | trivial | omega | (simp only [List.length_append, List.length_cons, List.length_nil]; omega) | (simp only [List.length_set, List.length_append, List.length_cons, List.length_nil]; omega) | (simp only [W64_def]; omega) | (simp; omega) | simp), (by show (0 ≤ ((s.Edges.length : Int)) ∨ 0 = 0); first | trivial | omega | (simp only [List.length_append, List.length_cons, List.length_nil]; omega) | (simp only [List.length_set, List.length_append, List.length_cons, List.length_nil]; omega) | (simp only [W64_def]; omega) | (simp; omega) | simp)⟩, (by simp only [FInsideS, h1, h2, cond_true, cond_false])⟩
      rintro ⟨n0, v6, v49⟩ ⟨hn, hinv, hF⟩
      have hm0 : ((((s.Edges.length : Int))) - v49).toNat < n0 := hn; have hinv0 : 0 ≤ v49 ∧ (v49 ≤ ((s.Edges.length : Int)) ∨ v49 = 0) := hinv; have hF0 : FInsideS_l0 s p n0 v6 v49 = FInsideS s p := hF; clear hn hinv hF
      cases n0 with
      | zero => exact absurd hm0 (Nat.not_lt_zero _)
      | succ n0 =>
        refine aw_seq ?_
        refine aw_region eqok [] [] [] [2, 3, 6, 47, 48, 49, 50] [2, 3] [] ⟨[(2, tP 2 0), (3, tP 3 0), (6, tI v6), (47, .av (.one (lst 7 TEdge.c s.Edges))), (48, tI ((s.Edges.length : Int))), (49, tI v49), (50, tB (decide ((v49 : Int) < ((s.Edges.length : Int)))))], [(2, .cells (TShape.c s) 26), (3, .cells (TPoint.c p) 29)]⟩ .nil (by kernel_rfl) .nil ?_
        refine ath_n ?_
        refine aw_seq ?_
        refine aw_cond (decide ((v49 : Int) < ((s.Edges.length : Int)))) (by kernel_rfl) (fun h3 => ?_) (fun h3 => ?_)
        · have g3 := of_decide_eq_true h3
          refine aw_skip ?_
          refine ath_n ?_
          refine aw_seq ?_
          refine aw_block ?_
          refine aw_seq ?_
          refine aw_region eqok [] [] [] [2, 3, 6, 8, 47, 48, 49] [2, 3, 8] [0 ≤ (v49 : Int) ∧ (v49 : Int) < ((s.Edges.length : Nat) : Int)] ⟨[(2, tP 2 0), (3, tP 3 0), (6, tI v6), (8, tP 8 0), (47, .av (.one (lst 7 TEdge.c s.Edges))), (48, tI ((s.Edges.length : Int))), (49, tI v49)], [(2, .cells (TShape.c s) 26), (3, .cells (TPoint.c p) 29), (8, .cells (TEdge.c (s.Edges.getD v49.toNat default)) 35)]⟩ .nil (by kernel_rfl) (.cons (by first | decide | omega | exact idx_tmod (by first | omega | (simp only [W64_def]; omega)) (by omega) | (simp only [W64_def]; omega) | (constructor <;> omega) | (simp only [List.length_append, List.length_cons, List.length_nil]; omega) | (simp only [List.length_append, List.length_cons, List.length_nil, List.length_drop, List.length_take] at *; omega)) .nil) ?_
          refine ath_n ?_
          refine aw_region eqok [] [] [(56, cRay (s.Edges.getD v49.toNat default) p)] [2, 3, 6, 47, 48, 49] [2, 3] [Same (cRay (s.Edges.getD v49.toNat default) p).2.1] ⟨[(2, tP 2 0), (3, tP 3 0), (6, tI (W64 (v6 + (FRay (s.Edges.getD v49.toNat default) p)))), (47, .av (.one (lst 7 TEdge.c s.Edges))), (48, tI ((s.Edges.length : Int))), (49, tI v49)], [(2, .cells (TShape.c s) 26), (3, .cells (TPoint.c p) 29)]⟩ (.cons (okRay (s.Edges.getD v49.toNat default) p) .nil) (by kernel_rfl) (.cons rfl .nil) ?_
          refine abl_n ?_
          refine ath_n ?_
          refine aw_region eqok [] [] [] [2, 3, 6, 47, 48, 49] [2, 3] [] ⟨[(2, tP 2 0), (3, tP 3 0), (6, tI (W64 (v6 + (FRay (s.Edges.getD v49.toNat default) p)))), (47, .av (.one (lst 7 TEdge.c s.Edges))), (48, tI ((s.Edges.length : Int))), (49, tI (W64 (v49 + 1)))], [(2, .cells (TShape.c s) 26), (3, .cells (TPoint.c p) 29)]⟩ .nil (by kernel_rfl) .nil ?_
          (try rw [(show W64 (v49 + 1) = v49 + 1 from W64_id (by omega) (by first | omega | (simp only [List.length_drop, List.length_take] at *; omega)))])
          refine ath_n ?_
          refine ⟨(n0, W64 (v6 + (FRay (s.Edges.getD v49.toNat default) p)), v49 + 1), ⟨?_, ?_, (by rw [← hF0]; simp only [FInsideS_l0, h3, cond_true, cond_false])⟩, Nat.lt_succ_self _, cv_eq (by kernel_rfl)⟩
          · show ((((s.Edges.length : Int))) - (v49 + 1)).toNat < n0; omega
          · exact ⟨(by show 0 ≤ (v49 + 1); first | trivial | omega | (simp only [List.length_append, List.length_cons, List.length_nil]; omega) | (simp only [List.length_set, List.length_append, List.length_cons, List.length_nil]; omega) | (simp only [W64_def]; omega) | (simp; omega) | simp), (by show ((v49 + 1) ≤ ((s.Edges.length : Int)) ∨ (v49 + 1) = 0); first | trivial | omega | (simp only [List.length_append, List.length_cons, List.length_nil]; omega) | (simp only [List.length_set, List.length_append, List.length_cons, List.length_nil]; omega) | (simp only [W64_def]; omega) | (simp; omega) | simp)⟩
        · have g3 := of_decide_eq_false h3
          refine aw_exit ?_
          refine ath_e ?_
          refine ath_e ?_
          refine abl_hit ?_
          refine ath_n ?_
          refine aw_seq ?_
          refine aw_region eqok [] [] [] [4] [] [((decide ((s.Kind : Int) = 2)) = true) → ((decide ((s.Kind : Int) = 2)) = true), (decide ((s.Kind : Int) = 2)) = true → ((decide ((s.Kind : Int) = 2)) = true)] ⟨[(4, tB (bif decide ((s.Kind : Int) = 2) then !decide ((v6 : Int) = 0) else false))], []⟩ .nil (by kernel_rfl) (.cons id (.cons id .nil)) ?_
          refine ath_n ?_
          refine aw_ret ?_
          exact ⟨_, Cv.refl _, .inl rfl, .av (.one (.b (bif decide ((s.Kind : Int) = 2) then !decide ((v6 : Int) = 0) else false))), by kernel_rfl, tve_eq (by rw [← hF0]; first | (simp only [FInsideS_l0, h3, cond_true, cond_false]; done) | (simp only [FInsideS_l0, h3, cond_true, cond_false]; rfl))⟩
theorem okInsideS (s : TShape) (p : TPoint) (hl : (s.Edges.length : Int) ≤ 1000000) : CallOk Try.prog (cInsideS s p).1 (cInsideS s p).2.1 (cInsideS s p).2.2 := callOk_pure (fun _ _ => by kernel_rfl) fun _ => pInsideS s p hl
def FequalE_l0 (p1 : (List TEdge)) (p2 : (List TEdge)) : Nat → Int → Bool
  | 0, _ => default
  | n0 + 1, v13 => bif decide ((v13 : Int) < ((p1.length : Int))) then (bif !(decide (((p1.getD v13.toNat default).Kind) = ((p2.getD v13.toNat default).Kind)) && (decide ((((p1.getD v13.toNat default).A).X) = (((p2.getD v13.toNat default).A).X)) && (decide ((((p1.getD v13.toNat default).A).Y) = (((p2.getD v13.toNat default).A).Y)) && (decide ((((p1.getD v13.toNat default).B).X) = (((p2.getD v13.toNat default).B).X)) && (decide ((((p1.getD v13.toNat default).B).Y) = (((p2.getD v13.toNat default).B).Y)) && (decide ((((p1.getD v13.toNat default).C).X) = (((p2.getD v13.toNat default).C).X)) && (decide ((((p1.getD v13.toNat default).C).Y) = (((p2.getD v13.toNat default).C).Y)) && true))))))) then (false) else ((FequalE_l0 p1 p2 n0) (v13 + 1))) else (true)
def FequalE (p1 : (List TEdge)) (p2 : (List TEdge)) : Bool := bif !decide ((((p1.length : Int)) : Int) = ((p2.length : Int))) then (false) else (FequalE_l0 p1 p2 (((((p1.length : Int))) - 0).toNat + 1) 0)
def cequalE (p1 : (List TEdge)) (p2 : (List TEdge)) : FuncId × List Av × Ef := (61, [.one (lst 7 TEdge.c p1), .one (lst 7 TEdge.c p2)], .val [] (.av (.one (.b (FequalE p1 p2)))))
set_option maxRecDepth 100000 in
theorem pequalE (p1 : (List TEdge)) (p2 : (List TEdge)) (h0 : (p1.length : Int) ≤ 1000000) : Pure Try.prog 61 (cequalE p1 p2).2.1 (.av (.one (.b (FequalE p1 p2)))) := by
  refine pure_of_awF Try.func61 rfl (by kernel_rfl) (by kernel_rfl) fun W0 M0 => ?_
  refine aw_seq ?_
  refine aw_region eqok [] [] [] [0, 1] [] [] ⟨[(0, .av (.one (lst 7 TEdge.c p1))), (1, .av (.one (lst 7 TEdge.c p2)))], []⟩ .nil (by kernel_rfl) .nil ?_
  refine ath_n ?_
  refine aw_seq ?_
  refine aw_seq ?_
  refine aw_region eqok [] [] [] [0, 1, 10] [] [] ⟨[(0, .av (.one (lst 7 TEdge.c p1))), (1, .av (.one (lst 7 TEdge.c p2))), (10, tB (!decide ((((p1.length : Int)) : Int) = ((p2.length : Int)))))], []⟩ .nil (by kernel_rfl) .nil ?_
  refine ath_n ?_
  refine aw_cond (!decide ((((p1.length : Int)) : Int) = ((p2.length : Int)))) (by kernel_rfl) (fun h1 => ?_) (fun h1 => ?_)
  · have g1 := of_not_decide_true h1
    refine aw_seq ?_
    refine aw_region eqok [] [] [] [4] [] [] ⟨[(4, tB false)], []⟩ .nil (by kernel_rfl) .nil ?_
    refine ath_n ?_
    refine aw_ret ?_
    refine ath_r ?_
    exact ⟨_, Cv.refl _, .inl rfl, .av (.one (.b false)), by kernel_rfl, tve_eq (by first | (simp only [FequalE, h1, cond_true, cond_false]; done) | (simp only [FequalE, h1, cond_true, cond_false]; rfl))⟩
  · have g1 := of_not_decide_false h1
    refine aw_skip ?_
    refine ath_n ?_
    refine aw_seq ?_
    refine aw_seq ?_
    refine aw_region eqok [] [] [] [0, 1, 12, 13] [] [] ⟨[(0, .av (.one (lst 7 TEdge.c p1))), (1, .av (.one (lst 7 TEdge.c p2))), (12, tI ((p1.length : Int))), (13, tI 0)], []⟩ .nil (by kernel_rfl) .nil ?_
    refine ath_n ?_
    refine aw_block ?_
    refine aw_loopC (ι := Nat × Int) (fun x => ⟨[(0, .av (.one (lst 7 TEdge.c p1))), (1, .av (.one (lst 7 TEdge.c p2))), (12, tI ((p1.length : Int))), (13, tI x.2)], []⟩) (fun x => ((((p1.length : Int))) - x.2).toNat < x.1 ∧ (0 ≤ x.2 ∧ (x.2 ≤ ((p1.length : Int)) ∨ x.2 = 0)) ∧ FequalE_l0 p1 p2 x.1 x.2 = FequalE p1 p2) (fun x => x.1) ?_ (((((p1.length : Int))) - 0).toNat + 1, 0) ⟨Nat.lt_succ_self _, ⟨(by show 0 ≤ 0; first | trivial | omega | (simp only [List.length_append, List.length_cons, List.length_nil]; omega) | (simp only [List.length_set, List.length_append, List.length_cons, List.length_nil]; omega) | (simp only [W64_def]; omega) | (simp; omega) | simp), (by show (0 ≤ ((p1.length : Int)) ∨ 0 = 0); first | trivial | omega | (simp only [List.length_append, List.length_cons, List.length_nil]; omega) | (simp only [List.length_set, List.length_append, List.length_cons, List.length_nil]; omega) | (simp only [W64_def]; omega) | (simp; omega) | simp)⟩, (by simp only [FequalE, h1, cond_true, cond_false])⟩
    rintro ⟨n0, v13⟩ ⟨hn, hinv, hF⟩
    have hm0 : ((((p1.length : Int))) - v13).toNat < n0 := hn; have hinv0 : 0 ≤ v13 ∧ (v13 ≤ ((p1.length : Int)) ∨ v13 = 0) := hinv; have hF0 : FequalE_l0 p1 p2 n0 v13 = FequalE p1 p2 := hF; clear hn hinv hF
    cases n0 with
    | zero => exact absurd hm0 (Nat.not_lt_zero _)
    | succ n0 =>
      refine aw_seq ?_
      refine aw_region eqok [] [] [] [0, 1, 12, 13, 14] [] [] ⟨[(0, .av (.one (lst 7 TEdge.c p1))), (1, .av (.one (lst 7 TEdge.c p2))), (12, tI ((p1.length : Int))), (13, tI v13), (14, tB (decide ((v13 : Int) < ((p1.length : Int)))))], []⟩ .nil (by kernel_rfl) .nil ?_
      refine ath_n ?_
      refine aw_seq ?_
      refine aw_cond (decide ((v13 : Int) < ((p1.length : Int)))) (by kernel_rfl) (fun h2 => ?_) (fun h2 => ?_)
      · have g2 := of_decide_eq_true h2
        refine aw_skip ?_
        refine ath_n ?_
        refine aw_seq ?_
        refine aw_block ?_
        refine aw_seq ?_
        refine aw_region eqok [] [] [] [0, 1, 5, 12, 13] [] [] ⟨[(0, .av (.one (lst 7 TEdge.c p1))), (1, .av (.one (lst 7 TEdge.c p2))), (5, tI v13), (12, tI ((p1.length : Int))), (13, tI v13)], []⟩ .nil (by kernel_rfl) .nil ?_
        refine ath_n ?_
        refine aw_seq ?_
        refine aw_draw mixed eqok [] [] [] [0, 1, 12, 13, 24] [] [0 ≤ (v13 : Int) ∧ (v13 : Int) < ((p1.length : Nat) : Int), 0 ≤ (v13 : Int) ∧ (v13 : Int) < ((p2.length : Nat) : Int)] ⟨[(0, .av (.one (lst 7 TEdge.c p1))), (1, .av (.one (lst 7 TEdge.c p2))), (12, tI ((p1.length : Int))), (13, tI v13), (24, tB (!(decide (((p1.getD v13.toNat default).Kind) = ((p2.getD v13.toNat default).Kind)) && (decide ((((p1.getD v13.toNat default).A).X) = (((p2.getD v13.toNat default).A).X)) && (decide ((((p1.getD v13.toNat default).A).Y) = (((p2.getD v13.toNat default).A).Y)) && (decide ((((p1.getD v13.toNat default).B).X) = (((p2.getD v13.toNat default).B).X)) && (decide ((((p1.getD v13.toNat default).B).Y) = (((p2.getD v13.toNat default).B).Y)) && (decide ((((p1.getD v13.toNat default).C).X) = (((p2.getD v13.toNat default).C).X)) && (decide ((((p1.getD v13.toNat default).C).Y) = (((p2.getD v13.toNat default).C).Y)) && true)))))))))], []⟩ .nil (by kernel_rfl) (by kernel_rfl) (.cons (by first | decide | omega | exact idx_tmod (by first | omega | (simp only [W64_def]; omega)) (by omega) | (simp only [W64_def]; omega) | (constructor <;> omega) | (simp only [List.length_append, List.length_cons, List.length_nil]; omega) | (simp only [List.length_append, List.length_cons, List.length_nil, List.length_drop, List.length_take] at *; omega)) (.cons (by first | decide | omega | exact idx_tmod (by first | omega | (simp only [W64_def]; omega)) (by omega) | (simp only [W64_def]; omega) | (constructor <;> omega) | (simp only [List.length_append, List.length_cons, List.length_nil]; omega) | (simp only [List.length_append, List.length_cons, List.length_nil, List.length_drop, List.length_take] at *; omega)) .nil)) ?_
        refine ath_n ?_
        refine aw_cond (!(decide (((p1.getD v13.toNat default).Kind) = ((p2.getD v13.toNat default).Kind)) && (decide ((((p1.getD v13.toNat default).A).X) = (((p2.getD v13.toNat default).A).X)) && (decide ((((p1.getD v13.toNat default).A).Y) = (((p2.getD v13.toNat default).A).Y)) && (decide ((((p1.getD v13.toNat default).B).X) = (((p2.getD v13.toNat default).B).X)) && (decide ((((p1.getD v13.toNat default).B).Y) = (((p2.getD v13.toNat default).B).Y)) && (decide ((((p1.getD v13.toNat default).C).X) = (((p2.getD v13.toNat default).C).X)) && (decide ((((p1.getD v13.toNat default).C).Y) = (((p2.getD v13.toNat default).C).Y)) && true)))))))) (by kernel_rfl) (fun h3 => ?_) (fun h3 => ?_)
        · refine aw_seq ?_
          refine aw_region eqok [] [] [] [4] [] [] ⟨[(4, tB false)], []⟩ .nil (by kernel_rfl) .nil ?_
          refine ath_n ?_
          refine aw_ret ?_
          refine abl_r ?_
          refine ath_r ?_
          refine ath_r ?_
          refine abl_r ?_
          refine ath_r ?_
          exact ⟨_, Cv.refl _, .inl rfl, .av (.one (.b false)), by kernel_rfl, tve_eq (by rw [← hF0]; first | (simp only [FequalE_l0, h2, h3, cond_true, cond_false]; done) | (simp only [FequalE_l0, h2, h3, cond_true, cond_false]; rfl))⟩
        · refine aw_skip ?_
          refine abl_n ?_
          refine ath_n ?_
          refine aw_region eqok [] [] [] [0, 1, 12, 13] [] [] ⟨[(0, .av (.one (lst 7 TEdge.c p1))), (1, .av (.one (lst 7 TEdge.c p2))), (12, tI ((p1.length : Int))), (13, tI (W64 (v13 + 1)))], []⟩ .nil (by kernel_rfl) .nil ?_
          (try rw [(show W64 (v13 + 1) = v13 + 1 from W64_id (by omega) (by first | omega | (simp only [List.length_drop, List.length_take] at *; omega)))])
          refine ath_n ?_
          refine ⟨(n0, v13 + 1), ⟨?_, ?_, (by rw [← hF0]; simp only [FequalE_l0, h2, h3, cond_true, cond_false])⟩, Nat.lt_succ_self _, cv_eq (by kernel_rfl)⟩
          · show ((((p1.length : Int))) - (v13 + 1)).toNat < n0; omega
          · exact ⟨(by show 0 ≤ (v13 + 1); first | trivial | omega | (simp only [List.length_append, List.length_cons, List.length_nil]; omega) | (simp only [List.length_set, List.length_append, List.length_cons, List.length_nil]; omega) | (simp only [W64_def]; omega) | (simp; omega) | simp), (by show ((v13 + 1) ≤ ((p1.length : Int)) ∨ (v13 + 1) = 0); first | trivial | omega | (simp only [List.length_append, List.length_cons, List.length_nil]; omega) | (simp only [List.length_set, List.length_append, List.length_cons, List.length_nil]; omega) | (simp only [W64_def]; omega) | (simp; omega) | simp)⟩
      · have g2 := of_decide_eq_false h2
        refine aw_exit ?_
        refine ath_e ?_
        refine ath_e ?_
        refine abl_hit ?_
        refine ath_n ?_
        refine aw_seq ?_
        refine aw_region eqok [] [] [] [4] [] [] ⟨[(4, tB true)], []⟩ .nil (by kernel_rfl) .nil ?_
        refine ath_n ?_
        refine aw_ret ?_
        exact ⟨_, Cv.refl _, .inl rfl, .av (.one (.b true)), by kernel_rfl, tve_eq (by rw [← hF0]; first | (simp only [FequalE_l0, h2, cond_true, cond_false]; done) | (simp only [FequalE_l0, h2, cond_true, cond_false]; rfl))⟩
theorem okequalE (p1 : (List TEdge)) (p2 : (List TEdge)) (h0 : (p1.length : Int) ≤ 1000000) : CallOk Try.prog (cequalE p1 p2).1 (cequalE p1 p2).2.1 (cequalE p1 p2).2.2 := callOk_pure (fun _ _ => by kernel_rfl) fun _ => pequalE p1 p2 h0
def FSameS (a : TShape) (b : TShape) : Bool := bif bif decide ((a.Kind : Int) = b.Kind) then decide ((a.R : Int) = b.R) else false then FequalE a.Edges b.Edges else false
def cSameS (a : TShape) (b : TShape) : FuncId × List Av × Ef := (27, [.agg (TShape.c a), .agg (TShape.c b)], .val [] (.av (.one (.b (FSameS a b)))))
set_option maxRecDepth 100000 in
theorem pSameS (a : TShape) (b : TShape) (h0 : (a.Edges.length : Int) ≤ 1000000) (h1 : (b.Edges.length : Int) ≤ 1000000) : Pure Try.prog 27 (cSameS a b).2.1 (.av (.one (.b (FSameS a b)))) := by
  refine pure_of_awF Try.func27 rfl (by kernel_rfl) (by kernel_rfl) fun W0 M0 => ?_
  refine aw_seq ?_
  refine aw_region eqok [] [] [] [2, 3] [2, 3] [] ⟨[(2, tP 2 0), (3, tP 3 0)], [(2, .cells (TShape.c a) 26), (3, .cells (TShape.c b) 26)]⟩ .nil (by kernel_rfl) .nil ?_
  refine ath_n ?_
  refine aw_seq ?_
  refine aw_region eqok [] [] [(22, cequalE a.Edges b.Edges)] [4] [] [((decide ((a.Kind : Int) = b.Kind)) = true) → ((decide ((a.Kind : Int) = b.Kind)) = true), ((decide ((a.Kind : Int) = b.Kind)) = true) → ((decide ((a.Kind : Int) = b.Kind)) = true), ((decide ((a.Kind : Int) = b.Kind)) = true) → ((decide ((a.Kind : Int) = b.Kind)) = true), ((decide ((a.Kind : Int) = b.Kind)) = true) → ((decide ((a.Kind : Int) = b.Kind)) = true), (decide ((a.Kind : Int) = b.Kind)) = true → ((decide ((a.Kind : Int) = b.Kind)) = true), ((bif decide ((a.Kind : Int) = b.Kind) then decide ((a.R : Int) = b.R) else false) = true) → ((bif decide ((a.Kind : Int) = b.Kind) then decide ((a.R : Int) = b.R) else false) = true), ((bif decide ((a.Kind : Int) = b.Kind) then decide ((a.R : Int) = b.R) else false) = true) → ((bif decide ((a.Kind : Int) = b.Kind) then decide ((a.R : Int) = b.R) else false) = true), ((bif decide ((a.Kind : Int) = b.Kind) then decide ((a.R : Int) = b.R) else false) = true) → ((bif decide ((a.Kind : Int) = b.Kind) then decide ((a.R : Int) = b.R) else false) = true), ((bif decide ((a.Kind : Int) = b.Kind) then decide ((a.R : Int) = b.R) else false) = true) → ((bif decide ((a.Kind : Int) = b.Kind) then decide ((a.R : Int) = b.R) else false) = true), ((bif decide ((a.Kind : Int) = b.Kind) then decide ((a.R : Int) = b.R) else false) = true) → (Same (cequalE a.Edges b.Edges).2.1), (bif decide ((a.Kind : Int) = b.Kind) then decide ((a.R : Int) = b.R) else false) = true → ((bif decide ((a.Kind : Int) = b.Kind) then decide ((a.R : Int) = b.R) else false) = true)] ⟨[(4, tB (bif bif decide ((a.Kind : Int) = b.Kind) then decide ((a.R : Int) = b.R) else false then FequalE a.Edges b.Edges else false))], []⟩ (.cons (okequalE a.Edges b.Edges (by first | with_reducible assumption | omega | decide | (simp only [List.length_cons, List.length_nil, List.length_append]; omega) | assumption)) .nil) (by kernel_rfl) (.cons id (.cons id (.cons id (.cons id (.cons id (.cons id (.cons id (.cons id (.cons id (.cons (fun _ => rfl) (.cons id .nil))))))))))) ?_
  refine ath_n ?_
  refine aw_ret ?_
  exact ⟨_, Cv.refl _, .inl rfl, .av (.one (.b (bif bif decide ((a.Kind : Int) = b.Kind) then decide ((a.R : Int) = b.R) else false then FequalE a.Edges b.Edges else false))), by kernel_rfl, tve_eq (by rfl)⟩
theorem okSameS (a : TShape) (b : TShape) (h0 : (a.Edges.length : Int) ≤ 1000000) (h1 : (b.Edges.length : Int) ≤ 1000000) : CallOk Try.prog (cSameS a b).1 (cSameS a b).2.1 (cSameS a b).2.2 := callOk_pure (fun _ _ => by kernel_rfl) fun _ => pSameS a b h0 h1
end Go.Proofs.Ytpnlegfdkkcnlaa
