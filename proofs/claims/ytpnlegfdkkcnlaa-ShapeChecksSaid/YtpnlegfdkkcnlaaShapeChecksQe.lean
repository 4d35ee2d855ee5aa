/-
  No statement is proved in this text. It holds a part of what the proof of ShapeChecks needs.
-/
import Derived.Test.YtpnlegfdkkcnlaaShapeChecksQd
namespace Go.Proofs.Ytpnlegfdkkcnlaa
set_option maxRecDepth 100000
open Go.RowKit
set_option linter.unusedVariables false
set_option linter.unusedSimpArgs false
def wBoxR_0 (s : TShape) (v4 : Int) : TRect := Fref06Box (s.Edges.getD v4.toNat default)
def FBoxR_l0 (s : TShape) : Nat → TRect → Int → TRect
 | 0, _, _ => default
 | n0 + 1, v3, v4 => bif decide ((v4 : Int) < ((s.Edges.length : Int))) then ((FBoxR_l0 s n0) (TRect.mk (min v3.X0 ((wBoxR_0 s v4).X0)) (min v3.Y0 ((wBoxR_0 s v4).Y0)) (max v3.X1 ((wBoxR_0 s v4).X1)) (max v3.Y1 ((wBoxR_0 s v4).Y1))) (v4 + 1)) else (TRect.mk (W64 (v3.X0 - s.R)) (W64 (v3.Y0 - s.R)) (W64 (v3.X1 + s.R)) (W64 (v3.Y1 + s.R)))
def FBoxR (s : TShape) : TRect := bif decide ((((s.Edges.length : Int)) : Int) = 0) then (TRect.mk 0 0 0 0) else (FBoxR_l0 s (((((s.Edges.length : Int))) - 1).toNat + 1) (Fref06Box (s.Edges.getD 0 default)) 1)
def cBoxR (s : TShape) : FuncId × List Av × Ef := (26, [.agg (TShape.c s)], .val [] (.av (.agg (TRect.c (FBoxR s)))))
theorem pBoxR (s : TShape) (h0 : (s.Edges.length : Int) ≤ 1000000) : Pure Try.prog 26 (cBoxR s).2.1 (.av (.agg (TRect.c (FBoxR s)))) := by
 refine pure_of_awF Try.func26 rfl (by kernel_rfl) (by kernel_rfl) fun W0 M0 => ?_
 refine aw_seq ?_
 refine aw_region eqok [] [] [] [1, 2] [1, 2] [] ⟨[(1, tP 1 0), (2, tP 2 0)], [(1, .cells (TShape.c s) 26), (2, .cells [.i 0, .i 0, .i 0, .i 0] 54)]⟩ .nil (by kernel_rfl) .nil <| ath_n ?_
 refine aw_seq <| aw_seq ?_
 refine aw_region eqok [] [] [] [1, 2, 9] [1, 2] [] ⟨[(1, tP 1 0), (2, tP 2 0), (9, tB (decide ((((s.Edges.length : Int)) : Int) = 0)))], [(1, .cells (TShape.c s) 26), (2, .cells [.i 0, .i 0, .i 0, .i 0] 54)]⟩ .nil (by kernel_rfl) .nil <| ath_n ?_
 refine aw_cond (decide ((((s.Edges.length : Int)) : Int) = 0)) (by kernel_rfl) (fun h1 => ?_) (fun h1 => ?_)
 ·have g1 := of_decide_eq_true h1
  refine aw_seq ?_
  refine aw_region eqok [] [] [] [2] [2] [] ⟨[(2, tP 2 0)], [(2, .cells [.i 0, .i 0, .i 0, .i 0] 54)]⟩ .nil (by kernel_rfl) .nil <| ath_n ?_
  refine aw_ret <| ath_r ?_
  exact ⟨_, Cv.refl _, .inl rfl, .av (.agg [.i 0, .i 0, .i 0, .i 0]), by kernel_rfl, tve_eq (by first | (simp only [FBoxR, h1, cond_true, cond_false]; done) | (simp only [FBoxR, h1, cond_true, cond_false]; rfl))⟩
 ·have g1 := of_decide_eq_false h1
  refine aw_skip <| ath_n <| aw_seq ?_
  refine aw_region eqok [] [] [(15, cref06Box (s.Edges.getD 0 default))] [1, 2, 3] [1, 2, 3] [0 ≤ (0 : Int) ∧ (0 : Int) < ((s.Edges.length : Nat) : Int), Same (cref06Box (s.Edges.getD 0 default)).2.1] ⟨[(1, tP 1 0), (2, tP 2 0), (3, tP 3 0)], [(1, .cells (TShape.c s) 26), (2, .cells [.i 0, .i 0, .i 0, .i 0] 54), (3, .cells (TRect.c (Fref06Box (s.Edges.getD 0 default))) 54)]⟩ (.cons (okref06Box (s.Edges.getD 0 default)) .nil) (by kernel_rfl) (.cons au1 (.cons rfl .nil)) <| ath_n ?_
  refine aw_seq <| aw_seq ?_
  refine aw_region eqok [] [] [] [1, 2, 3, 4] [1, 2, 3] [] ⟨[(1, tP 1 0), (2, tP 2 0), (3, tP 3 0), (4, tI 1)], [(1, .cells (TShape.c s) 26), (2, .cells [.i 0, .i 0, .i 0, .i 0] 54), (3, .cells (TRect.c (Fref06Box (s.Edges.getD 0 default))) 54)]⟩ .nil (by kernel_rfl) .nil <| ath_n <| aw_block ?_
  refine aw_loopC (ι := Nat × TRect × Int) (fun x => ⟨[(1, tP 1 0), (2, tP 2 0), (3, tP 3 0), (4, tI x.2.2)], [(1, .cells (TShape.c s) 26), (2, .cells [.i 0, .i 0, .i 0, .i 0] 54), (3, .cells (TRect.c x.2.1) 54)]⟩) (fun x => ((((s.Edges.length : Int))) - x.2.2).toNat < x.1 ∧ (1 ≤ x.2.2 ∧ (x.2.2 ≤ ((s.Edges.length : Int)) ∨ x.2.2 = 1)) ∧ FBoxR_l0 s x.1 x.2.1 x.2.2 = FBoxR s) (fun x => x.1) ?_ (((((s.Edges.length : Int))) - 1).toNat + 1, Fref06Box (s.Edges.getD 0 default), 1) ⟨Nat.lt_succ_self _, ⟨(by show 1 ≤ 1; first | trivial | omega | exact at0 | exact at1 | exact at2 | (simp; omega) | simp), (by show (1 ≤ ((s.Edges.length : Int)) ∨ 1 = 1); first | trivial | omega | exact at0 | exact at1 | exact at2 | (simp; omega) | simp)⟩, (by simp only [FBoxR, h1, cond_true, cond_false])⟩
  rintro ⟨n0, v3, v4⟩ ⟨hn, hinv, hF⟩
  have hm0 : ((((s.Edges.length : Int))) - v4).toNat < n0 := hn; have hinv0 : 1 ≤ v4 ∧ (v4 ≤ ((s.Edges.length : Int)) ∨ v4 = 1) := hinv; have hF0 : FBoxR_l0 s n0 v3 v4 = FBoxR s := hF; clear hn hinv hF
  cases n0 with
  | zero => exact absurd hm0 (Nat.not_lt_zero _)
  | succ n0 =>
   refine aw_seq <| aw_seq ?_
   refine aw_region eqok [] [] [] [1, 2, 3, 4, 20] [1, 2, 3] [] ⟨[(1, tP 1 0), (2, tP 2 0), (3, tP 3 0), (4, tI v4), (20, tB (decide ((v4 : Int) < ((s.Edges.length : Int)))))], [(1, .cells (TShape.c s) 26), (2, .cells [.i 0, .i 0, .i 0, .i 0] 54), (3, .cells (TRect.c v3) 54)]⟩ .nil (by kernel_rfl) .nil <| ath_n ?_
   refine aw_cond (decide ((v4 : Int) < ((s.Edges.length : Int)))) (by kernel_rfl) (fun h2 => ?_) (fun h2 => ?_)
   ·have g2 := of_decide_eq_true h2
    refine aw_skip <| ath_n ?_
    refine aw_seq <| aw_block <| aw_seq ?_
    refine aw_region eqok [] [] [(28, cref06Box (s.Edges.getD v4.toNat default))] [1, 2, 3, 4, 5] [1, 2, 3, 5] [0 ≤ (v4 : Int) ∧ (v4 : Int) < ((s.Edges.length : Nat) : Int), Same (cref06Box (s.Edges.getD v4.toNat default)).2.1] ⟨[(1, tP 1 0), (2, tP 2 0), (3, tP 3 0), (4, tI v4), (5, tP 5 0)], [(1, .cells (TShape.c s) 26), (2, .cells [.i 0, .i 0, .i 0, .i 0] 54), (3, .cells (TRect.c v3) 54), (5, .cells (TRect.c (wBoxR_0 s v4)) 54)]⟩ (.cons (okref06Box (s.Edges.getD v4.toNat default)) .nil) (by kernel_rfl) (.cons au1 (.cons rfl .nil)) <| ath_n ?_
    refine aw_region eqok [] [] [] [1, 2, 3, 4] [1, 2, 3] [] ⟨[(1, tP 1 0), (2, tP 2 0), (3, tP 3 0), (4, tI v4)], [(1, .cells (TShape.c s) 26), (2, .cells [.i 0, .i 0, .i 0, .i 0] 54), (3, .cells [.i (min v3.X0 ((wBoxR_0 s v4).X0)), .i (min v3.Y0 ((wBoxR_0 s v4).Y0)), .i (max v3.X1 ((wBoxR_0 s v4).X1)), .i (max v3.Y1 ((wBoxR_0 s v4).Y1))] 54)]⟩ .nil (by kernel_rfl) .nil <| abl_n <| ath_n ?_
    refine aw_region eqok [] [] [] [1, 2, 3, 4] [1, 2, 3] [] ⟨[(1, tP 1 0), (2, tP 2 0), (3, tP 3 0), (4, tI (W64 (v4 + 1)))], [(1, .cells (TShape.c s) 26), (2, .cells [.i 0, .i 0, .i 0, .i 0] 54), (3, .cells [.i (min v3.X0 ((wBoxR_0 s v4).X0)), .i (min v3.Y0 ((wBoxR_0 s v4).Y0)), .i (max v3.X1 ((wBoxR_0 s v4).X1)), .i (max v3.Y1 ((wBoxR_0 s v4).Y1))] 54)]⟩ .nil (by kernel_rfl) .nil ?_
    (try rw [(show W64 (v4 + 1) = v4 + 1 from W64_id (by omega) au7)])
    refine ath_n ?_
    refine ⟨(n0, TRect.mk (min v3.X0 ((wBoxR_0 s v4).X0)) (min v3.Y0 ((wBoxR_0 s v4).Y0)) (max v3.X1 ((wBoxR_0 s v4).X1)) (max v3.Y1 ((wBoxR_0 s v4).Y1)), v4 + 1), ⟨?_, ?_, (by rw [← hF0]; simp only [FBoxR_l0, h2, cond_true, cond_false])⟩, Nat.lt_succ_self _, cv_eq (by kernel_rfl)⟩
    ·show ((((s.Edges.length : Int))) - (v4 + 1)).toNat < n0; omega
    ·exact ⟨(by show 1 ≤ (v4 + 1); first | trivial | omega | exact at0 | exact at1 | exact at2 | (simp; omega) | simp), (by show ((v4 + 1) ≤ ((s.Edges.length : Int)) ∨ (v4 + 1) = 1); first | trivial | omega | exact at0 | exact at1 | exact at2 | (simp; omega) | simp)⟩
   ·have g2 := of_decide_eq_false h2
    refine aw_exit <| ath_e ?_
    refine ath_e <| abl_hit ?_
    refine ath_n <| aw_seq ?_
    refine aw_region eqok [] [] [] [2] [2] [] ⟨[(2, tP 2 0)], [(2, .cells [.i (W64 (v3.X0 - s.R)), .i (W64 (v3.Y0 - s.R)), .i (W64 (v3.X1 + s.R)), .i (W64 (v3.Y1 + s.R))] 54)]⟩ .nil (by kernel_rfl) .nil <| ath_n <| aw_ret ?_
    exact ⟨_, Cv.refl _, .inl rfl, .av (.agg [.i (W64 (v3.X0 - s.R)), .i (W64 (v3.Y0 - s.R)), .i (W64 (v3.X1 + s.R)), .i (W64 (v3.Y1 + s.R))]), by kernel_rfl, tve_eq (by rw [← hF0]; first | (simp only [FBoxR_l0, h2, cond_true, cond_false]; done) | (simp only [FBoxR_l0, h2, cond_true, cond_false]; rfl))⟩
theorem okBoxR (s : TShape) (h0 : (s.Edges.length : Int) ≤ 1000000) : CallOk Try.prog (cBoxR s).1 (cBoxR s).2.1 (cBoxR s).2.2 := callOk_pure (fun _ _ => by kernel_rfl) fun _ => pBoxR s h0
def FchainR_l0 (l : (List TEdge)) : Nat → Int → Bool
 | 0, _ => default
 | n0 + 1, k => bif decide ((k : Int) < ((l.length : Int))) then (bif !(decide ((((l.getD k.toNat default).A).X) = (((l.getD ((W64 (k - 1)).toNat) default).B).X)) && (decide ((((l.getD k.toNat default).A).Y) = (((l.getD ((W64 (k - 1)).toNat) default).B).Y)) && true)) then (false) else ((FchainR_l0 l n0) (k + 1))) else (true)
def FchainR (l : (List TEdge)) : Bool := FchainR_l0 l (((((l.length : Int))) - 1).toNat + 1) 1
def cchainR (l : (List TEdge)) : FuncId × List Av × Ef := (58, [.one (lst 7 TEdge.c l)], .val [] (.av (.one (.b (FchainR l)))))
theorem pchainR (l : (List TEdge)) (h0 : (l.length : Int) ≤ 1000000) : Pure Try.prog 58 (cchainR l).2.1 (.av (.one (.b (FchainR l)))) := by
 refine pure_of_awF Try.func58 rfl (by kernel_rfl) (by kernel_rfl) fun W0 M0 => ?_
 refine aw_seq ?_
 refine aw_region eqok [] [] [] [0] [] [] ⟨[(0, .av (.one (lst 7 TEdge.c l)))], []⟩ .nil (by kernel_rfl) .nil <| ath_n ?_
 refine aw_seq <| aw_seq ?_
 refine aw_region eqok [] [] [] [0, 3] [] [] ⟨[(0, .av (.one (lst 7 TEdge.c l))), (3, tI 1)], []⟩ .nil (by kernel_rfl) .nil <| ath_n <| aw_block ?_
 refine aw_loopC (ι := Nat × Int) (fun x => ⟨[(0, .av (.one (lst 7 TEdge.c l))), (3, tI x.2)], []⟩) (fun x => ((((l.length : Int))) - x.2).toNat < x.1 ∧ (1 ≤ x.2 ∧ (x.2 ≤ ((l.length : Int)) ∨ x.2 = 1)) ∧ FchainR_l0 l x.1 x.2 = FchainR l) (fun x => x.1) ?_ (((((l.length : Int))) - 1).toNat + 1, 1) ⟨Nat.lt_succ_self _, ⟨(by show 1 ≤ 1; first | trivial | omega | exact at0 | exact at1 | exact at2 | (simp; omega) | simp), (by show (1 ≤ ((l.length : Int)) ∨ 1 = 1); first | trivial | omega | exact at0 | exact at1 | exact at2 | (simp; omega) | simp)⟩, (by simp only [FchainR, cond_true, cond_false])⟩
 rintro ⟨n0, k⟩ ⟨hn, hinv, hF⟩
 have hm0 : ((((l.length : Int))) - k).toNat < n0 := hn; have hinv0 : 1 ≤ k ∧ (k ≤ ((l.length : Int)) ∨ k = 1) := hinv; have hF0 : FchainR_l0 l n0 k = FchainR l := hF; clear hn hinv hF
 cases n0 with
 | zero => exact absurd hm0 (Nat.not_lt_zero _)
 | succ n0 =>
  refine aw_seq <| aw_seq ?_
  refine aw_region eqok [] [] [] [0, 3, 7] [] [] ⟨[(0, .av (.one (lst 7 TEdge.c l))), (3, tI k), (7, tB (decide ((k : Int) < ((l.length : Int)))))], []⟩ .nil (by kernel_rfl) .nil <| ath_n ?_
  refine aw_cond (decide ((k : Int) < ((l.length : Int)))) (by kernel_rfl) (fun h1 => ?_) (fun h1 => ?_)
  ·have g1 := of_decide_eq_true h1
   refine aw_skip <| ath_n ?_
   refine aw_seq <| aw_block <| aw_seq ?_
   refine aw_draw mixed eqok [] [] [] [0, 3, 21] [] [0 ≤ (k : Int) ∧ (k : Int) < ((l.length : Nat) : Int), 0 ≤ (W64 (k - 1) : Int) ∧ (W64 (k - 1) : Int) < ((l.length : Nat) : Int)] ⟨[(0, .av (.one (lst 7 TEdge.c l))), (3, tI k), (21, tB (!(decide ((((l.getD k.toNat default).A).X) = (((l.getD ((W64 (k - 1)).toNat) default).B).X)) && (decide ((((l.getD k.toNat default).A).Y) = (((l.getD ((W64 (k - 1)).toNat) default).B).Y)) && true))))], []⟩ .nil (by kernel_rfl) (by kernel_rfl) (.cons au1 (.cons au1 .nil)) <| ath_n ?_
   refine aw_cond (!(decide ((((l.getD k.toNat default).A).X) = (((l.getD ((W64 (k - 1)).toNat) default).B).X)) && (decide ((((l.getD k.toNat default).A).Y) = (((l.getD ((W64 (k - 1)).toNat) default).B).Y)) && true))) (by kernel_rfl) (fun h2 => ?_) (fun h2 => ?_)
   ·refine aw_seq ?_
    refine aw_region eqok [] [] [] [2] [] [] ⟨[(2, tB false)], []⟩ .nil (by kernel_rfl) .nil <| ath_n ?_
    refine aw_ret <| abl_r ?_
    refine ath_r <| ath_r ?_
    refine abl_r <| ath_r ?_
    exact ⟨_, Cv.refl _, .inl rfl, .av (.one (.b false)), by kernel_rfl, tve_eq (by rw [← hF0]; first | (simp only [FchainR_l0, h1, h2, cond_true, cond_false]; done) | (simp only [FchainR_l0, h1, h2, cond_true, cond_false]; rfl))⟩
   ·refine aw_skip <| abl_n <| ath_n ?_
    refine aw_region eqok [] [] [] [0, 3] [] [] ⟨[(0, .av (.one (lst 7 TEdge.c l))), (3, tI (W64 (k + 1)))], []⟩ .nil (by kernel_rfl) .nil ?_
    (try rw [(show W64 (k + 1) = k + 1 from W64_id (by omega) au7)])
    refine ath_n ?_
    refine ⟨(n0, k + 1), ⟨?_, ?_, (by rw [← hF0]; simp only [FchainR_l0, h1, h2, cond_true, cond_false])⟩, Nat.lt_succ_self _, cv_eq (by kernel_rfl)⟩
    ·show ((((l.length : Int))) - (k + 1)).toNat < n0; omega
    ·exact ⟨(by show 1 ≤ (k + 1); first | trivial | omega | exact at0 | exact at1 | exact at2 | (simp; omega) | simp), (by show ((k + 1) ≤ ((l.length : Int)) ∨ (k + 1) = 1); first | trivial | omega | exact at0 | exact at1 | exact at2 | (simp; omega) | simp)⟩
  ·have g1 := of_decide_eq_false h1
   refine aw_exit <| ath_e ?_
   refine ath_e <| abl_hit ?_
   refine ath_n <| aw_seq ?_
   refine aw_region eqok [] [] [] [2] [] [] ⟨[(2, tB true)], []⟩ .nil (by kernel_rfl) .nil <| ath_n <| aw_ret ?_
   exact ⟨_, Cv.refl _, .inl rfl, .av (.one (.b true)), by kernel_rfl, tve_eq (by rw [← hF0]; first | (simp only [FchainR_l0, h1, cond_true, cond_false]; done) | (simp only [FchainR_l0, h1, cond_true, cond_false]; rfl))⟩
theorem okchainR (l : (List TEdge)) (h0 : (l.length : Int) ≤ 1000000) : CallOk Try.prog (cchainR l).1 (cchainR l).2.1 (cchainR l).2.2 := callOk_pure (fun _ _ => by kernel_rfl) fun _ => pchainR l h0
def wCheckR_0 (s : TShape) : TPoint := (s.Edges.getD ((W64 (((s.Edges.length : Int)) - 1)).toNat) default).B
def FCheckR_l0 (s : TShape) : Nat → Int → Int
 | 0, _ => default
 | n0 + 1, v4 => bif decide ((v4 : Int) < ((s.Edges.length : Int))) then (bif !decide (((Fref06Check (s.Edges.getD v4.toNat default)) : Int) = 0) then (Fref06Check (s.Edges.getD v4.toNat default)) else ((FCheckR_l0 s n0) (v4 + 1))) else (bif bif !(FchainR s.Edges) then true else bif decide ((s.Kind : Int) = 2) then !((decide ((((s.Edges.getD 0 default).A).X) = ((wCheckR_0 s).X)) && (decide ((((s.Edges.getD 0 default).A).Y) = ((wCheckR_0 s).Y)) && true))) else false then (12) else (bif bif bif bif decide ((s.Kind : Int) = 2) then !decide ((s.R : Int) = 0) else false then true else decide ((s.R : Int) < 0) then true else decide ((4194304 : Int) < s.R) then (3) else (0)))
def FCheckR (s : TShape) : Int := bif decide ((s.Kind : Int) = 1) then (bif decide ((((s.Edges.length : Int)) : Int) < 1) then (12) else (bif decide ((40 : Int) < ((s.Edges.length : Int))) then (2) else (FCheckR_l0 s (((((s.Edges.length : Int))) - 0).toNat + 1) 0))) else (bif decide ((s.Kind : Int) = 2) then (bif decide ((((s.Edges.length : Int)) : Int) < 2) then (12) else (bif decide ((40 : Int) < ((s.Edges.length : Int))) then (2) else (FCheckR_l0 s (((((s.Edges.length : Int))) - 0).toNat + 1) 0))) else (12))
def cCheckR (s : TShape) : FuncId × List Av × Ef := (24, [.agg (TShape.c s)], .val [] (.av (.one (.i (FCheckR s)))))
theorem pCheckR (s : TShape) (hl : (s.Edges.length : Int) ≤ 1000000) : Pure Try.prog 24 (cCheckR s).2.1 (.av (.one (.i (FCheckR s)))) := by
 refine pure_of_awF Try.func24 rfl (by kernel_rfl) (by kernel_rfl) fun W0 M0 => ?_
 refine aw_seq ?_
 refine aw_region eqok [] [] [] [1] [1] [] ⟨[(1, tP 1 0)], [(1, .cells (TShape.c s) 26)]⟩ .nil (by kernel_rfl) .nil <| ath_n <| aw_seq ?_
 refine aw_region eqok [] [] [] [1, 3] [1] [] ⟨[(1, tP 1 0), (3, tI 1)], [(1, .cells (TShape.c s) 26)]⟩ .nil (by kernel_rfl) .nil <| ath_n ?_
 refine aw_seq <| aw_seq ?_
 refine aw_region eqok [] [] [] [1, 3, 9] [1] [] ⟨[(1, tP 1 0), (3, tI 1), (9, tI s.Kind)], [(1, .cells (TShape.c s) 26)]⟩ .nil (by kernel_rfl) .nil <| ath_n ?_
 refine aw_block <| aw_seq ?_
 refine aw_region eqok [] [] [] [1, 3, 9, 10] [1] [] ⟨[(1, tP 1 0), (3, tI 1), (9, tI s.Kind), (10, tB (decide ((s.Kind : Int) = 1)))], [(1, .cells (TShape.c s) 26)]⟩ .nil (by kernel_rfl) .nil <| ath_n ?_
 refine aw_cond (decide ((s.Kind : Int) = 1)) (by kernel_rfl) (fun h1 => ?_) (fun h1 => ?_)
 ·have g1 := of_decide_eq_true h1
  refine aw_skip <| abl_n ?_
  refine ath_n <| aw_seq <| aw_seq ?_
  refine aw_region eqok [] [] [] [1, 18] [1] [] ⟨[(1, tP 1 0), (18, tB (decide ((((s.Edges.length : Int)) : Int) < 1)))], [(1, .cells (TShape.c s) 26)]⟩ .nil (by kernel_rfl) .nil <| ath_n ?_
  refine aw_cond (decide ((((s.Edges.length : Int)) : Int) < 1)) (by kernel_rfl) (fun h2 => ?_) (fun h2 => ?_)
  ·have g2 := of_decide_eq_true h2
   refine aw_seq ?_
   refine aw_region eqok [] [] [] [2] [] [] ⟨[(2, tI 12)], []⟩ .nil (by kernel_rfl) .nil <| ath_n ?_
   refine aw_ret <| ath_r ?_
   exact ⟨_, Cv.refl _, .inl rfl, .av (.one (.i 12)), by kernel_rfl, tve_eq (by first | (simp only [FCheckR, h1, h2, cond_true, cond_false]; done) | (simp only [FCheckR, h1, h2, cond_true, cond_false]; rfl))⟩
  ·have g2 := of_decide_eq_false h2
   refine aw_skip <| ath_n ?_
   refine aw_seq <| aw_seq ?_
   refine aw_region eqok [] [] [] [1, 22] [1] [] ⟨[(1, tP 1 0), (22, tB (decide ((40 : Int) < ((s.Edges.length : Int)))))], [(1, .cells (TShape.c s) 26)]⟩ .nil (by kernel_rfl) .nil <| ath_n ?_
   refine aw_cond (decide ((40 : Int) < ((s.Edges.length : Int)))) (by kernel_rfl) (fun h3 => ?_) (fun h3 => ?_)
   ·have g3 := of_decide_eq_true h3
    refine aw_seq ?_
    refine aw_region eqok [] [] [] [2] [] [] ⟨[(2, tI 2)], []⟩ .nil (by kernel_rfl) .nil <| ath_n ?_
    refine aw_ret <| ath_r ?_
    exact ⟨_, Cv.refl _, .inl rfl, .av (.one (.i 2)), by kernel_rfl, tve_eq (by first | (simp only [FCheckR, h1, h2, h3, cond_true, cond_false]; done) | (simp only [FCheckR, h1, h2, h3, cond_true, cond_false]; rfl))⟩
   ·have g3 := of_decide_eq_false h3
    refine aw_skip <| ath_n ?_
    refine aw_seq <| aw_seq ?_
    refine aw_region eqok [] [] [] [1, 4] [1] [] ⟨[(1, tP 1 0), (4, tI 0)], [(1, .cells (TShape.c s) 26)]⟩ .nil (by kernel_rfl) .nil <| ath_n <| aw_block ?_
    refine aw_loopC (ι := Nat × Int) (fun x => ⟨[(1, tP 1 0), (4, tI x.2)], [(1, .cells (TShape.c s) 26)]⟩) (fun x => ((((s.Edges.length : Int))) - x.2).toNat < x.1 ∧ (0 ≤ x.2 ∧ (x.2 ≤ ((s.Edges.length : Int)) ∨ x.2 = 0)) ∧ FCheckR_l0 s x.1 x.2 = FCheckR s) (fun x => x.1) ?_ (((((s.Edges.length : Int))) - 0).toNat + 1, 0) ⟨Nat.lt_succ_self _, ⟨(by show 0 ≤ 0; first | trivial | omega | exact at0 | exact at1 | exact at2 | (simp; omega) | simp), (by show (0 ≤ ((s.Edges.length : Int)) ∨ 0 = 0); first | trivial | omega | exact at0 | exact at1 | exact at2 | (simp; omega) | simp)⟩, (by simp only [FCheckR, h1, h2, h3, cond_true, cond_false])⟩
    rintro ⟨n0, v4⟩ ⟨hn, hinv, hF⟩
    have hm0 : ((((s.Edges.length : Int))) - v4).toNat < n0 := hn; have hinv0 : 0 ≤ v4 ∧ (v4 ≤ ((s.Edges.length : Int)) ∨ v4 = 0) := hinv; have hF0 : FCheckR_l0 s n0 v4 = FCheckR s := hF; clear hn hinv hF
    cases n0 with
    | zero => exact absurd hm0 (Nat.not_lt_zero _)
    | succ n0 =>
     refine aw_seq <| aw_seq ?_
     refine aw_region eqok [] [] [] [1, 4, 27] [1] [] ⟨[(1, tP 1 0), (4, tI v4), (27, tB (decide ((v4 : Int) < ((s.Edges.length : Int)))))], [(1, .cells (TShape.c s) 26)]⟩ .nil (by kernel_rfl) .nil <| ath_n ?_
     refine aw_cond (decide ((v4 : Int) < ((s.Edges.length : Int)))) (by kernel_rfl) (fun h4 => ?_) (fun h4 => ?_)
     ·have g4 := of_decide_eq_true h4
      refine aw_skip <| ath_n ?_
      refine aw_seq <| aw_block <| aw_seq ?_
      refine aw_region eqok [] [] [(35, cref06Check (s.Edges.getD v4.toNat default))] [1, 4, 5] [1] [0 ≤ (v4 : Int) ∧ (v4 : Int) < ((s.Edges.length : Nat) : Int), Same (cref06Check (s.Edges.getD v4.toNat default)).2.1] ⟨[(1, tP 1 0), (4, tI v4), (5, tI (Fref06Check (s.Edges.getD v4.toNat default)))], [(1, .cells (TShape.c s) 26)]⟩ (.cons (okref06Check (s.Edges.getD v4.toNat default)) .nil) (by kernel_rfl) (.cons au1 (.cons rfl .nil)) <| ath_n <| aw_seq ?_
      refine aw_region eqok [] [] [] [1, 4, 5, 37] [1] [] ⟨[(1, tP 1 0), (4, tI v4), (5, tI (Fref06Check (s.Edges.getD v4.toNat default))), (37, tB (!decide (((Fref06Check (s.Edges.getD v4.toNat default)) : Int) = 0)))], [(1, .cells (TShape.c s) 26)]⟩ .nil (by kernel_rfl) .nil <| ath_n ?_
      refine aw_cond (!decide (((Fref06Check (s.Edges.getD v4.toNat default)) : Int) = 0)) (by kernel_rfl) (fun h5 => ?_) (fun h5 => ?_)
      ·have g5 := of_not_decide_true h5
       refine aw_seq ?_
       refine aw_region eqok [] [] [] [2] [] [] ⟨[(2, tI (Fref06Check (s.Edges.getD v4.toNat default)))], []⟩ .nil (by kernel_rfl) .nil <| ath_n ?_
       refine aw_ret <| abl_r ?_
       refine ath_r <| ath_r ?_
       refine abl_r <| ath_r ?_
       exact ⟨_, Cv.refl _, .inl rfl, .av (.one (.i (Fref06Check (s.Edges.getD v4.toNat default)))), by kernel_rfl, tve_eq (by rw [← hF0]; first | (simp only [FCheckR_l0, h4, h5, cond_true, cond_false]; done) | (simp only [FCheckR_l0, h4, h5, cond_true, cond_false]; rfl))⟩
      ·have g5 := of_not_decide_false h5
       refine aw_skip <| abl_n <| ath_n ?_
       refine aw_region eqok [] [] [] [1, 4] [1] [] ⟨[(1, tP 1 0), (4, tI (W64 (v4 + 1)))], [(1, .cells (TShape.c s) 26)]⟩ .nil (by kernel_rfl) .nil ?_
       (try rw [(show W64 (v4 + 1) = v4 + 1 from W64_id (by omega) au7)])
       refine ath_n ?_
       refine ⟨(n0, v4 + 1), ⟨?_, ?_, (by rw [← hF0]; simp only [FCheckR_l0, h4, h5, cond_true, cond_false])⟩, Nat.lt_succ_self _, cv_eq (by kernel_rfl)⟩
       ·show ((((s.Edges.length : Int))) - (v4 + 1)).toNat < n0; omega
       ·exact ⟨(by show 0 ≤ (v4 + 1); first | trivial | omega | exact at0 | exact at1 | exact at2 | (simp; omega) | simp), (by show ((v4 + 1) ≤ ((s.Edges.length : Int)) ∨ (v4 + 1) = 0); first | trivial | omega | exact at0 | exact at1 | exact at2 | (simp; omega) | simp)⟩
     ·have g4 := of_decide_eq_false h4
      refine aw_exit <| ath_e ?_
      refine ath_e <| abl_hit ?_
      refine ath_n <| aw_seq ?_
      refine aw_region eqok [] [] [(41, cchainR s.Edges)] [1, 6] [1] [Same (cchainR s.Edges).2.1] ⟨[(1, tP 1 0), (6, tB (FchainR s.Edges))], [(1, .cells (TShape.c s) 26)]⟩ (.cons (okchainR s.Edges au0) .nil) (by kernel_rfl) (.cons rfl .nil) <| ath_n <| aw_seq ?_
      refine aw_draw mixed eqok [] [] [] [1, 6, 7] [1] [0 ≤ (0 : Int) ∧ (0 : Int) < ((s.Edges.length : Nat) : Int), 0 ≤ (W64 (((s.Edges.length : Int)) - 1) : Int) ∧ (W64 (((s.Edges.length : Int)) - 1) : Int) < ((s.Edges.length : Nat) : Int)] ⟨[(1, tP 1 0), (6, tB (FchainR s.Edges)), (7, tB ((decide ((((s.Edges.getD 0 default).A).X) = ((wCheckR_0 s).X)) && (decide ((((s.Edges.getD 0 default).A).Y) = ((wCheckR_0 s).Y)) && true))))], [(1, .cells (TShape.c s) 26)]⟩ .nil (by kernel_rfl) (by kernel_rfl) (.cons au1 (.cons au1 .nil)) <| ath_n ?_
      refine aw_seq <| aw_seq ?_
      refine aw_region eqok [] [] [] [1, 67] [1] [((!(FchainR s.Edges)) = false) → ((!(FchainR s.Edges)) = false), ((!(FchainR s.Edges)) = false) → ((!(FchainR s.Edges)) = false), ((!(FchainR s.Edges)) = false) → ((!(FchainR s.Edges)) = false), (((!(FchainR s.Edges)) = false) ∧ (decide ((s.Kind : Int) = 2)) = true) → (((!(FchainR s.Edges)) = false) ∧ (decide ((s.Kind : Int) = 2)) = true), ((!(FchainR s.Edges)) = false) → ((!(FchainR s.Edges)) = false), ((!(FchainR s.Edges)) = false) → ((decide ((s.Kind : Int) = 2)) = true → (((!(FchainR s.Edges)) = false) ∧ (decide ((s.Kind : Int) = 2)) = true)), (!(FchainR s.Edges)) = false → ((!(FchainR s.Edges)) = false)] ⟨[(1, tP 1 0), (67, tB (bif !(FchainR s.Edges) then true else bif decide ((s.Kind : Int) = 2) then !((decide ((((s.Edges.getD 0 default).A).X) = ((wCheckR_0 s).X)) && (decide ((((s.Edges.getD 0 default).A).Y) = ((wCheckR_0 s).Y)) && true))) else false))], [(1, .cells (TShape.c s) 26)]⟩ .nil (by kernel_rfl) (.cons id (.cons id (.cons id (.cons id (.cons id (.cons (by intros; first | assumption | exact ⟨by assumption, by assumption⟩ | simp_all) (.cons id .nil))))))) <| ath_n ?_
      refine aw_cond (bif !(FchainR s.Edges) then true else bif decide ((s.Kind : Int) = 2) then !((decide ((((s.Edges.getD 0 default).A).X) = ((wCheckR_0 s).X)) && (decide ((((s.Edges.getD 0 default).A).Y) = ((wCheckR_0 s).Y)) && true))) else false) (by kernel_rfl) (fun h5 => ?_) (fun h5 => ?_)
      ·refine aw_seq ?_
       refine aw_region eqok [] [] [] [2] [] [] ⟨[(2, tI 12)], []⟩ .nil (by kernel_rfl) .nil <| ath_n ?_
       refine aw_ret <| ath_r ?_
       exact ⟨_, Cv.refl _, .inl rfl, .av (.one (.i 12)), by kernel_rfl, tve_eq (by rw [← hF0]; first | (simp only [FCheckR_l0, h4, h5, cond_true, cond_false]; done) | (simp only [FCheckR_l0, h4, h5, cond_true, cond_false]; rfl))⟩
      ·refine aw_skip <| ath_n ?_
       refine aw_seq <| aw_seq ?_
       refine aw_region eqok [] [] [] [85] [] [((decide ((s.Kind : Int) = 2)) = true) → ((decide ((s.Kind : Int) = 2)) = true), ((decide ((s.Kind : Int) = 2)) = true) → ((decide ((s.Kind : Int) = 2)) = true), (decide ((s.Kind : Int) = 2)) = true → ((decide ((s.Kind : Int) = 2)) = true), ((bif decide ((s.Kind : Int) = 2) then !decide ((s.R : Int) = 0) else false) = false) → ((bif decide ((s.Kind : Int) = 2) then !decide ((s.R : Int) = 0) else false) = false), ((bif decide ((s.Kind : Int) = 2) then !decide ((s.R : Int) = 0) else false) = false) → ((bif decide ((s.Kind : Int) = 2) then !decide ((s.R : Int) = 0) else false) = false), (bif decide ((s.Kind : Int) = 2) then !decide ((s.R : Int) = 0) else false) = false → ((bif decide ((s.Kind : Int) = 2) then !decide ((s.R : Int) = 0) else false) = false), ((bif bif decide ((s.Kind : Int) = 2) then !decide ((s.R : Int) = 0) else false then true else decide ((s.R : Int) < 0)) = false) → ((bif bif decide ((s.Kind : Int) = 2) then !decide ((s.R : Int) = 0) else false then true else decide ((s.R : Int) < 0)) = false), ((bif bif decide ((s.Kind : Int) = 2) then !decide ((s.R : Int) = 0) else false then true else decide ((s.R : Int) < 0)) = false) → ((bif bif decide ((s.Kind : Int) = 2) then !decide ((s.R : Int) = 0) else false then true else decide ((s.R : Int) < 0)) = false), (bif bif decide ((s.Kind : Int) = 2) then !decide ((s.R : Int) = 0) else false then true else decide ((s.R : Int) < 0)) = false → ((bif bif decide ((s.Kind : Int) = 2) then !decide ((s.R : Int) = 0) else false then true else decide ((s.R : Int) < 0)) = false)] ⟨[(85, tB (bif bif bif decide ((s.Kind : Int) = 2) then !decide ((s.R : Int) = 0) else false then true else decide ((s.R : Int) < 0) then true else decide ((4194304 : Int) < s.R)))], []⟩ .nil (by kernel_rfl) (.cons id (.cons id (.cons id (.cons id (.cons id (.cons id (.cons id (.cons id (.cons id .nil))))))))) <| ath_n ?_
       refine aw_cond (bif bif bif decide ((s.Kind : Int) = 2) then !decide ((s.R : Int) = 0) else false then true else decide ((s.R : Int) < 0) then true else decide ((4194304 : Int) < s.R)) (by kernel_rfl) (fun h6 => ?_) (fun h6 => ?_)
       ·refine aw_seq ?_
        refine aw_region eqok [] [] [] [2] [] [] ⟨[(2, tI 3)], []⟩ .nil (by kernel_rfl) .nil <| ath_n ?_
        refine aw_ret <| ath_r ?_
        exact ⟨_, Cv.refl _, .inl rfl, .av (.one (.i 3)), by kernel_rfl, tve_eq (by rw [← hF0]; first | (simp only [FCheckR_l0, h4, h5, h6, cond_true, cond_false]; done) | (simp only [FCheckR_l0, h4, h5, h6, cond_true, cond_false]; rfl))⟩
       ·refine aw_skip <| ath_n <| aw_seq ?_
        refine aw_region eqok [] [] [] [2] [] [] ⟨[(2, tI 0)], []⟩ .nil (by kernel_rfl) .nil <| ath_n <| aw_ret ?_
        exact ⟨_, Cv.refl _, .inl rfl, .av (.one (.i 0)), by kernel_rfl, tve_eq (by rw [← hF0]; first | (simp only [FCheckR_l0, h4, h5, h6, cond_true, cond_false]; done) | (simp only [FCheckR_l0, h4, h5, h6, cond_true, cond_false]; rfl))⟩
 ·have g1 := of_decide_eq_false h1
  refine aw_seq ?_
  refine aw_region eqok [] [] [] [1, 12] [1] [] ⟨[(1, tP 1 0), (12, tB (decide ((s.Kind : Int) = 2)))], [(1, .cells (TShape.c s) 26)]⟩ .nil (by kernel_rfl) .nil <| ath_n ?_
  refine aw_cond (decide ((s.Kind : Int) = 2)) (by kernel_rfl) (fun h2 => ?_) (fun h2 => ?_)
  ·have g2 := of_decide_eq_true h2
   refine aw_region eqok [] [] [] [1, 3] [1] [] ⟨[(1, tP 1 0), (3, tI 2)], [(1, .cells (TShape.c s) 26)]⟩ .nil (by kernel_rfl) .nil <| abl_n ?_
   refine ath_n <| aw_seq <| aw_seq ?_
   refine aw_region eqok [] [] [] [1, 18] [1] [] ⟨[(1, tP 1 0), (18, tB (decide ((((s.Edges.length : Int)) : Int) < 2)))], [(1, .cells (TShape.c s) 26)]⟩ .nil (by kernel_rfl) .nil <| ath_n ?_
   refine aw_cond (decide ((((s.Edges.length : Int)) : Int) < 2)) (by kernel_rfl) (fun h3 => ?_) (fun h3 => ?_)
   ·have g3 := of_decide_eq_true h3
    refine aw_seq ?_
    refine aw_region eqok [] [] [] [2] [] [] ⟨[(2, tI 12)], []⟩ .nil (by kernel_rfl) .nil <| ath_n ?_
    refine aw_ret <| ath_r ?_
    exact ⟨_, Cv.refl _, .inl rfl, .av (.one (.i 12)), by kernel_rfl, tve_eq (by first | (simp only [FCheckR, h1, h2, h3, cond_true, cond_false]; done) | (simp only [FCheckR, h1, h2, h3, cond_true, cond_false]; rfl))⟩
   ·have g3 := of_decide_eq_false h3
    refine aw_skip <| ath_n ?_
    refine aw_seq <| aw_seq ?_
    refine aw_region eqok [] [] [] [1, 22] [1] [] ⟨[(1, tP 1 0), (22, tB (decide ((40 : Int) < ((s.Edges.length : Int)))))], [(1, .cells (TShape.c s) 26)]⟩ .nil (by kernel_rfl) .nil <| ath_n ?_
    refine aw_cond (decide ((40 : Int) < ((s.Edges.length : Int)))) (by kernel_rfl) (fun h4 => ?_) (fun h4 => ?_)
    ·have g4 := of_decide_eq_true h4
     refine aw_seq ?_
     refine aw_region eqok [] [] [] [2] [] [] ⟨[(2, tI 2)], []⟩ .nil (by kernel_rfl) .nil <| ath_n ?_
     refine aw_ret <| ath_r ?_
     exact ⟨_, Cv.refl _, .inl rfl, .av (.one (.i 2)), by kernel_rfl, tve_eq (by first | (simp only [FCheckR, h1, h2, h3, h4, cond_true, cond_false]; done) | (simp only [FCheckR, h1, h2, h3, h4, cond_true, cond_false]; rfl))⟩
    ·have g4 := of_decide_eq_false h4
     refine aw_skip <| ath_n ?_
     refine aw_seq <| aw_seq ?_
     refine aw_region eqok [] [] [] [1, 4] [1] [] ⟨[(1, tP 1 0), (4, tI 0)], [(1, .cells (TShape.c s) 26)]⟩ .nil (by kernel_rfl) .nil <| ath_n <| aw_block ?_
     refine aw_loopC (ι := Nat × Int) (fun x => ⟨[(1, tP 1 0), (4, tI x.2)], [(1, .cells (TShape.c s) 26)]⟩) (fun x => ((((s.Edges.length : Int))) - x.2).toNat < x.1 ∧ (0 ≤ x.2 ∧ (x.2 ≤ ((s.Edges.length : Int)) ∨ x.2 = 0)) ∧ FCheckR_l0 s x.1 x.2 = FCheckR s) (fun x => x.1) ?_ (((((s.Edges.length : Int))) - 0).toNat + 1, 0) ⟨Nat.lt_succ_self _, ⟨(by show 0 ≤ 0; first | trivial | omega | exact at0 | exact at1 | exact at2 | (simp; omega) | simp), (by show (0 ≤ ((s.Edges.length : Int)) ∨ 0 = 0); first | trivial | omega | exact at0 | exact at1 | exact at2 | (simp; omega) | simp)⟩, (by simp only [FCheckR, h1, h2, h3, h4, cond_true, cond_false])⟩
     rintro ⟨n1, v4⟩ ⟨hn, hinv, hF⟩
     have hm1 : ((((s.Edges.length : Int))) - v4).toNat < n1 := hn; have hinv1 : 0 ≤ v4 ∧ (v4 ≤ ((s.Edges.length : Int)) ∨ v4 = 0) := hinv; have hF1 : FCheckR_l0 s n1 v4 = FCheckR s := hF; clear hn hinv hF
     cases n1 with
     | zero => exact absurd hm1 (Nat.not_lt_zero _)
     | succ n1 =>
      refine aw_seq <| aw_seq ?_
      refine aw_region eqok [] [] [] [1, 4, 27] [1] [] ⟨[(1, tP 1 0), (4, tI v4), (27, tB (decide ((v4 : Int) < ((s.Edges.length : Int)))))], [(1, .cells (TShape.c s) 26)]⟩ .nil (by kernel_rfl) .nil <| ath_n ?_
      refine aw_cond (decide ((v4 : Int) < ((s.Edges.length : Int)))) (by kernel_rfl) (fun h5 => ?_) (fun h5 => ?_)
      ·have g5 := of_decide_eq_true h5
       refine aw_skip <| ath_n ?_
       refine aw_seq <| aw_block <| aw_seq ?_
       refine aw_region eqok [] [] [(35, cref06Check (s.Edges.getD v4.toNat default))] [1, 4, 5] [1] [0 ≤ (v4 : Int) ∧ (v4 : Int) < ((s.Edges.length : Nat) : Int), Same (cref06Check (s.Edges.getD v4.toNat default)).2.1] ⟨[(1, tP 1 0), (4, tI v4), (5, tI (Fref06Check (s.Edges.getD v4.toNat default)))], [(1, .cells (TShape.c s) 26)]⟩ (.cons (okref06Check (s.Edges.getD v4.toNat default)) .nil) (by kernel_rfl) (.cons au1 (.cons rfl .nil)) <| ath_n <| aw_seq ?_
       refine aw_region eqok [] [] [] [1, 4, 5, 37] [1] [] ⟨[(1, tP 1 0), (4, tI v4), (5, tI (Fref06Check (s.Edges.getD v4.toNat default))), (37, tB (!decide (((Fref06Check (s.Edges.getD v4.toNat default)) : Int) = 0)))], [(1, .cells (TShape.c s) 26)]⟩ .nil (by kernel_rfl) .nil <| ath_n ?_
       refine aw_cond (!decide (((Fref06Check (s.Edges.getD v4.toNat default)) : Int) = 0)) (by kernel_rfl) (fun h6 => ?_) (fun h6 => ?_)
       ·have g6 := of_not_decide_true h6
        refine aw_seq ?_
        refine aw_region eqok [] [] [] [2] [] [] ⟨[(2, tI (Fref06Check (s.Edges.getD v4.toNat default)))], []⟩ .nil (by kernel_rfl) .nil <| ath_n ?_
        refine aw_ret <| abl_r ?_
        refine ath_r <| ath_r ?_
        refine abl_r <| ath_r ?_
        exact ⟨_, Cv.refl _, .inl rfl, .av (.one (.i (Fref06Check (s.Edges.getD v4.toNat default)))), by kernel_rfl, tve_eq (by rw [← hF1]; first | (simp only [FCheckR_l0, h5, h6, cond_true, cond_false]; done) | (simp only [FCheckR_l0, h5, h6, cond_true, cond_false]; rfl))⟩
       ·have g6 := of_not_decide_false h6
        refine aw_skip <| abl_n <| ath_n ?_
        refine aw_region eqok [] [] [] [1, 4] [1] [] ⟨[(1, tP 1 0), (4, tI (W64 (v4 + 1)))], [(1, .cells (TShape.c s) 26)]⟩ .nil (by kernel_rfl) .nil ?_
        (try rw [(show W64 (v4 + 1) = v4 + 1 from W64_id (by omega) au7)])
        refine ath_n ?_
        refine ⟨(n1, v4 + 1), ⟨?_, ?_, (by rw [← hF1]; simp only [FCheckR_l0, h5, h6, cond_true, cond_false])⟩, Nat.lt_succ_self _, cv_eq (by kernel_rfl)⟩
        ·show ((((s.Edges.length : Int))) - (v4 + 1)).toNat < n1; omega
        ·exact ⟨(by show 0 ≤ (v4 + 1); first | trivial | omega | exact at0 | exact at1 | exact at2 | (simp; omega) | simp), (by show ((v4 + 1) ≤ ((s.Edges.length : Int)) ∨ (v4 + 1) = 0); first | trivial | omega | exact at0 | exact at1 | exact at2 | (simp; omega) | simp)⟩
      ·have g5 := of_decide_eq_false h5
       refine aw_exit <| ath_e ?_
       refine ath_e <| abl_hit ?_
       refine ath_n <| aw_seq ?_
       refine aw_region eqok [] [] [(41, cchainR s.Edges)] [1, 6] [1] [Same (cchainR s.Edges).2.1] ⟨[(1, tP 1 0), (6, tB (FchainR s.Edges))], [(1, .cells (TShape.c s) 26)]⟩ (.cons (okchainR s.Edges au0) .nil) (by kernel_rfl) (.cons rfl .nil) <| ath_n <| aw_seq ?_
       refine aw_draw mixed eqok [] [] [] [1, 6, 7] [1] [0 ≤ (0 : Int) ∧ (0 : Int) < ((s.Edges.length : Nat) : Int), 0 ≤ (W64 (((s.Edges.length : Int)) - 1) : Int) ∧ (W64 (((s.Edges.length : Int)) - 1) : Int) < ((s.Edges.length : Nat) : Int)] ⟨[(1, tP 1 0), (6, tB (FchainR s.Edges)), (7, tB ((decide ((((s.Edges.getD 0 default).A).X) = ((wCheckR_0 s).X)) && (decide ((((s.Edges.getD 0 default).A).Y) = ((wCheckR_0 s).Y)) && true))))], [(1, .cells (TShape.c s) 26)]⟩ .nil (by kernel_rfl) (by kernel_rfl) (.cons au1 (.cons au1 .nil)) <| ath_n ?_
       refine aw_seq <| aw_seq ?_
       refine aw_region eqok [] [] [] [1, 67] [1] [((!(FchainR s.Edges)) = false) → ((!(FchainR s.Edges)) = false), ((!(FchainR s.Edges)) = false) → ((!(FchainR s.Edges)) = false), ((!(FchainR s.Edges)) = false) → ((!(FchainR s.Edges)) = false), (((!(FchainR s.Edges)) = false) ∧ (decide ((s.Kind : Int) = 2)) = true) → (((!(FchainR s.Edges)) = false) ∧ (decide ((s.Kind : Int) = 2)) = true), ((!(FchainR s.Edges)) = false) → ((!(FchainR s.Edges)) = false), ((!(FchainR s.Edges)) = false) → ((decide ((s.Kind : Int) = 2)) = true → (((!(FchainR s.Edges)) = false) ∧ (decide ((s.Kind : Int) = 2)) = true)), (!(FchainR s.Edges)) = false → ((!(FchainR s.Edges)) = false)] ⟨[(1, tP 1 0), (67, tB (bif !(FchainR s.Edges) then true else bif decide ((s.Kind : Int) = 2) then !((decide ((((s.Edges.getD 0 default).A).X) = ((wCheckR_0 s).X)) && (decide ((((s.Edges.getD 0 default).A).Y) = ((wCheckR_0 s).Y)) && true))) else false))], [(1, .cells (TShape.c s) 26)]⟩ .nil (by kernel_rfl) (.cons id (.cons id (.cons id (.cons id (.cons id (.cons (by intros; first | assumption | exact ⟨by assumption, by assumption⟩ | simp_all) (.cons id .nil))))))) <| ath_n ?_
       refine aw_cond (bif !(FchainR s.Edges) then true else bif decide ((s.Kind : Int) = 2) then !((decide ((((s.Edges.getD 0 default).A).X) = ((wCheckR_0 s).X)) && (decide ((((s.Edges.getD 0 default).A).Y) = ((wCheckR_0 s).Y)) && true))) else false) (by kernel_rfl) (fun h6 => ?_) (fun h6 => ?_)
       ·refine aw_seq ?_
        refine aw_region eqok [] [] [] [2] [] [] ⟨[(2, tI 12)], []⟩ .nil (by kernel_rfl) .nil <| ath_n ?_
        refine aw_ret <| ath_r ?_
        exact ⟨_, Cv.refl _, .inl rfl, .av (.one (.i 12)), by kernel_rfl, tve_eq (by rw [← hF1]; first | (simp only [FCheckR_l0, h5, h6, cond_true, cond_false]; done) | (simp only [FCheckR_l0, h5, h6, cond_true, cond_false]; rfl))⟩
       ·refine aw_skip <| ath_n ?_
        refine aw_seq <| aw_seq ?_
        refine aw_region eqok [] [] [] [85] [] [((decide ((s.Kind : Int) = 2)) = true) → ((decide ((s.Kind : Int) = 2)) = true), ((decide ((s.Kind : Int) = 2)) = true) → ((decide ((s.Kind : Int) = 2)) = true), (decide ((s.Kind : Int) = 2)) = true → ((decide ((s.Kind : Int) = 2)) = true), ((bif decide ((s.Kind : Int) = 2) then !decide ((s.R : Int) = 0) else false) = false) → ((bif decide ((s.Kind : Int) = 2) then !decide ((s.R : Int) = 0) else false) = false), ((bif decide ((s.Kind : Int) = 2) then !decide ((s.R : Int) = 0) else false) = false) → ((bif decide ((s.Kind : Int) = 2) then !decide ((s.R : Int) = 0) else false) = false), (bif decide ((s.Kind : Int) = 2) then !decide ((s.R : Int) = 0) else false) = false → ((bif decide ((s.Kind : Int) = 2) then !decide ((s.R : Int) = 0) else false) = false), ((bif bif decide ((s.Kind : Int) = 2) then !decide ((s.R : Int) = 0) else false then true else decide ((s.R : Int) < 0)) = false) → ((bif bif decide ((s.Kind : Int) = 2) then !decide ((s.R : Int) = 0) else false then true else decide ((s.R : Int) < 0)) = false), ((bif bif decide ((s.Kind : Int) = 2) then !decide ((s.R : Int) = 0) else false then true else decide ((s.R : Int) < 0)) = false) → ((bif bif decide ((s.Kind : Int) = 2) then !decide ((s.R : Int) = 0) else false then true else decide ((s.R : Int) < 0)) = false), (bif bif decide ((s.Kind : Int) = 2) then !decide ((s.R : Int) = 0) else false then true else decide ((s.R : Int) < 0)) = false → ((bif bif decide ((s.Kind : Int) = 2) then !decide ((s.R : Int) = 0) else false then true else decide ((s.R : Int) < 0)) = false)] ⟨[(85, tB (bif bif bif decide ((s.Kind : Int) = 2) then !decide ((s.R : Int) = 0) else false then true else decide ((s.R : Int) < 0) then true else decide ((4194304 : Int) < s.R)))], []⟩ .nil (by kernel_rfl) (.cons id (.cons id (.cons id (.cons id (.cons id (.cons id (.cons id (.cons id (.cons id .nil))))))))) <| ath_n ?_
        refine aw_cond (bif bif bif decide ((s.Kind : Int) = 2) then !decide ((s.R : Int) = 0) else false then true else decide ((s.R : Int) < 0) then true else decide ((4194304 : Int) < s.R)) (by kernel_rfl) (fun h7 => ?_) (fun h7 => ?_)
        ·refine aw_seq ?_
         refine aw_region eqok [] [] [] [2] [] [] ⟨[(2, tI 3)], []⟩ .nil (by kernel_rfl) .nil <| ath_n ?_
         refine aw_ret <| ath_r ?_
         exact ⟨_, Cv.refl _, .inl rfl, .av (.one (.i 3)), by kernel_rfl, tve_eq (by rw [← hF1]; first | (simp only [FCheckR_l0, h5, h6, h7, cond_true, cond_false]; done) | (simp only [FCheckR_l0, h5, h6, h7, cond_true, cond_false]; rfl))⟩
        ·refine aw_skip <| ath_n <| aw_seq ?_
         refine aw_region eqok [] [] [] [2] [] [] ⟨[(2, tI 0)], []⟩ .nil (by kernel_rfl) .nil <| ath_n <| aw_ret ?_
         exact ⟨_, Cv.refl _, .inl rfl, .av (.one (.i 0)), by kernel_rfl, tve_eq (by rw [← hF1]; first | (simp only [FCheckR_l0, h5, h6, h7, cond_true, cond_false]; done) | (simp only [FCheckR_l0, h5, h6, h7, cond_true, cond_false]; rfl))⟩
  ·have g2 := of_decide_eq_false h2
   refine aw_seq ?_
   refine aw_region eqok [] [] [] [2] [] [] ⟨[(2, tI 12)], []⟩ .nil (by kernel_rfl) .nil <| ath_n ?_
   refine aw_ret <| abl_r <| ath_r ?_
   exact ⟨_, Cv.refl _, .inl rfl, .av (.one (.i 12)), by kernel_rfl, tve_eq (by first | (simp only [FCheckR, h1, h2, cond_true, cond_false]; done) | (simp only [FCheckR, h1, h2, cond_true, cond_false]; rfl))⟩
theorem okCheckR (s : TShape) (hl : (s.Edges.length : Int) ≤ 1000000) : CallOk Try.prog (cCheckR s).1 (cCheckR s).2.1 (cCheckR s).2.2 := callOk_pure (fun _ _ => by kernel_rfl) fun _ => pCheckR s hl
def FWithinR (x0 : TRect) (x1 : TPoint) : Bool := bif bif bif decide ((x0.X0 : Int) ≤ x1.X) then decide ((x1.X : Int) ≤ x0.X1) else false then decide ((x0.Y0 : Int) ≤ x1.Y) else false then decide ((x1.Y : Int) ≤ x0.Y1) else false
def cWithinR (x0 : TRect) (x1 : TPoint) : FuncId × List Av × Ef := (49, [.agg (TRect.c x0), .agg (TPoint.c x1)], .val [] (.av (.one (.b (FWithinR x0 x1)))))
theorem pWithinR (x0 : TRect) (x1 : TPoint) : Pure Try.prog 49 (cWithinR x0 x1).2.1 (.av (.one (.b (FWithinR x0 x1)))) := by
 refine pure_of_awF Try.func49 rfl (by kernel_rfl) (by kernel_rfl) fun W0 M0 => ?_
 refine aw_seq ?_
 refine aw_region eqok [] [] [] [2, 3] [2, 3] [] ⟨[(2, tP 2 0), (3, tP 3 0)], [(2, .cells (TRect.c x0) 54), (3, .cells (TPoint.c x1) 29)]⟩ .nil (by kernel_rfl) .nil <| ath_n <| aw_seq ?_
 refine aw_region eqok [] [] [] [4] [] [((decide ((x0.X0 : Int) ≤ x1.X)) = true) → ((decide ((x0.X0 : Int) ≤ x1.X)) = true), ((decide ((x0.X0 : Int) ≤ x1.X)) = true) → ((decide ((x0.X0 : Int) ≤ x1.X)) = true), ((decide ((x0.X0 : Int) ≤ x1.X)) = true) → ((decide ((x0.X0 : Int) ≤ x1.X)) = true), ((decide ((x0.X0 : Int) ≤ x1.X)) = true) → ((decide ((x0.X0 : Int) ≤ x1.X)) = true), (decide ((x0.X0 : Int) ≤ x1.X)) = true → ((decide ((x0.X0 : Int) ≤ x1.X)) = true), ((bif decide ((x0.X0 : Int) ≤ x1.X) then decide ((x1.X : Int) ≤ x0.X1) else false) = true) → ((bif decide ((x0.X0 : Int) ≤ x1.X) then decide ((x1.X : Int) ≤ x0.X1) else false) = true), ((bif decide ((x0.X0 : Int) ≤ x1.X) then decide ((x1.X : Int) ≤ x0.X1) else false) = true) → ((bif decide ((x0.X0 : Int) ≤ x1.X) then decide ((x1.X : Int) ≤ x0.X1) else false) = true), ((bif decide ((x0.X0 : Int) ≤ x1.X) then decide ((x1.X : Int) ≤ x0.X1) else false) = true) → ((bif decide ((x0.X0 : Int) ≤ x1.X) then decide ((x1.X : Int) ≤ x0.X1) else false) = true), ((bif decide ((x0.X0 : Int) ≤ x1.X) then decide ((x1.X : Int) ≤ x0.X1) else false) = true) → ((bif decide ((x0.X0 : Int) ≤ x1.X) then decide ((x1.X : Int) ≤ x0.X1) else false) = true), (bif decide ((x0.X0 : Int) ≤ x1.X) then decide ((x1.X : Int) ≤ x0.X1) else false) = true → ((bif decide ((x0.X0 : Int) ≤ x1.X) then decide ((x1.X : Int) ≤ x0.X1) else false) = true), ((bif bif decide ((x0.X0 : Int) ≤ x1.X) then decide ((x1.X : Int) ≤ x0.X1) else false then decide ((x0.Y0 : Int) ≤ x1.Y) else false) = true) → ((bif bif decide ((x0.X0 : Int) ≤ x1.X) then decide ((x1.X : Int) ≤ x0.X1) else false then decide ((x0.Y0 : Int) ≤ x1.Y) else false) = true), ((bif bif decide ((x0.X0 : Int) ≤ x1.X) then decide ((x1.X : Int) ≤ x0.X1) else false then decide ((x0.Y0 : Int) ≤ x1.Y) else false) = true) → ((bif bif decide ((x0.X0 : Int) ≤ x1.X) then decide ((x1.X : Int) ≤ x0.X1) else false then decide ((x0.Y0 : Int) ≤ x1.Y) else false) = true), ((bif bif decide ((x0.X0 : Int) ≤ x1.X) then decide ((x1.X : Int) ≤ x0.X1) else false then decide ((x0.Y0 : Int) ≤ x1.Y) else false) = true) → ((bif bif decide ((x0.X0 : Int) ≤ x1.X) then decide ((x1.X : Int) ≤ x0.X1) else false then decide ((x0.Y0 : Int) ≤ x1.Y) else false) = true), ((bif bif decide ((x0.X0 : Int) ≤ x1.X) then decide ((x1.X : Int) ≤ x0.X1) else false then decide ((x0.Y0 : Int) ≤ x1.Y) else false) = true) → ((bif bif decide ((x0.X0 : Int) ≤ x1.X) then decide ((x1.X : Int) ≤ x0.X1) else false then decide ((x0.Y0 : Int) ≤ x1.Y) else false) = true), (bif bif decide ((x0.X0 : Int) ≤ x1.X) then decide ((x1.X : Int) ≤ x0.X1) else false then decide ((x0.Y0 : Int) ≤ x1.Y) else false) = true → ((bif bif decide ((x0.X0 : Int) ≤ x1.X) then decide ((x1.X : Int) ≤ x0.X1) else false then decide ((x0.Y0 : Int) ≤ x1.Y) else false) = true)] ⟨[(4, tB (bif bif bif decide ((x0.X0 : Int) ≤ x1.X) then decide ((x1.X : Int) ≤ x0.X1) else false then decide ((x0.Y0 : Int) ≤ x1.Y) else false then decide ((x1.Y : Int) ≤ x0.Y1) else false))], []⟩ .nil (by kernel_rfl) (.cons id (.cons id (.cons id (.cons id (.cons id (.cons id (.cons id (.cons id (.cons id (.cons id (.cons id (.cons id (.cons id (.cons id (.cons id .nil))))))))))))))) <| ath_n <| aw_ret ?_
 exact ⟨_, Cv.refl _, .inl rfl, .av (.one (.b (bif bif bif decide ((x0.X0 : Int) ≤ x1.X) then decide ((x1.X : Int) ≤ x0.X1) else false then decide ((x0.Y0 : Int) ≤ x1.Y) else false then decide ((x1.Y : Int) ≤ x0.Y1) else false))), by kernel_rfl, tve_eq (by rfl)⟩
theorem okWithinR (x0 : TRect) (x1 : TPoint) : CallOk Try.prog (cWithinR x0 x1).1 (cWithinR x0 x1).2.1 (cWithinR x0 x1).2.2 := callOk_pure (fun _ _ => by kernel_rfl) fun _ => pWithinR x0 x1
def FfarR (x0 : TPoint) (x1 : TPoint) : Int := Fref05Dot (Fref05Sub x0 x1) (Fref05Sub x0 x1)
def cfarR (x0 : TPoint) (x1 : TPoint) : FuncId × List Av × Ef := (91, [.agg (TPoint.c x0), .agg (TPoint.c x1)], .val [] (.av (.one (.i (FfarR x0 x1)))))
theorem pfarR (x0 : TPoint) (x1 : TPoint) : Pure Try.prog 91 (cfarR x0 x1).2.1 (.av (.one (.i (FfarR x0 x1)))) := by
 refine pure_of_awF Try.func91 rfl (by kernel_rfl) (by kernel_rfl) fun W0 M0 => ?_
 refine aw_seq ?_
 refine aw_region eqok [] [] [] [2, 3] [2, 3] [] ⟨[(2, tP 2 0), (3, tP 3 0)], [(2, .cells (TPoint.c x0) 29), (3, .cells (TPoint.c x1) 29)]⟩ .nil (by kernel_rfl) .nil <| ath_n <| aw_seq ?_
 refine aw_region eqok [] [] [(8, cref05Sub x0 x1)] [5] [5] [Same (cref05Sub x0 x1).2.1] ⟨[(5, tP 5 0)], [(5, .cells (TPoint.c (Fref05Sub x0 x1)) 29)]⟩ (.cons (okref05Sub x0 x1) .nil) (by kernel_rfl) (.cons rfl .nil) <| ath_n <| aw_seq ?_
 refine aw_region eqok [] [] [(11, cref05Dot (Fref05Sub x0 x1) (Fref05Sub x0 x1))] [4] [] [Same (cref05Dot (Fref05Sub x0 x1) (Fref05Sub x0 x1)).2.1] ⟨[(4, tI (Fref05Dot (Fref05Sub x0 x1) (Fref05Sub x0 x1)))], []⟩ (.cons (okref05Dot (Fref05Sub x0 x1) (Fref05Sub x0 x1)) .nil) (by kernel_rfl) (.cons rfl .nil) <| ath_n <| aw_ret ?_
 exact ⟨_, Cv.refl _, .inl rfl, .av (.one (.i (Fref05Dot (Fref05Sub x0 x1) (Fref05Sub x0 x1)))), by kernel_rfl, tve_eq (by rfl)⟩
theorem okfarR (x0 : TPoint) (x1 : TPoint) : CallOk Try.prog (cfarR x0 x1).1 (cfarR x0 x1).2.1 (cfarR x0 x1).2.2 := callOk_pure (fun _ _ => by kernel_rfl) fun _ => pfarR x0 x1
end Go.Proofs.Ytpnlegfdkkcnlaa
namespace Go.Proofs.Ytpnlegfdkkcnlaa
set_option maxRecDepth 100000
open Go.RowKit
set_option linter.unusedVariables false
set_option linter.unusedSimpArgs false
def Ftrim_l0 (d : (List Int)) : Nat → List Int → (List Int)
 | 0, _ => default
 | n0 + 1, d' => bif bif decide ((0 : Int) < ((d'.length : Int))) then decide (((d'.getD ((((d'.length : Int)) - 1).toNat) default) : Int) = 0) else false then ((Ftrim_l0 d n0) (d'.take (W64 (((d'.length : Int)) - 1) : Int).toNat)) else (d')
def Ftrim (d : (List Int)) : (List Int) := Ftrim_l0 d (d.length + 1) d
def ctrim (d : (List Int)) : FuncId × List Av × Ef := (114, [.one (lst 1 cU d)], .val [] (.av (.one (lst 1 cU (Ftrim d)))))
theorem ptrim (d : (List Int)) (h0 : (d.length : Int) ≤ 1000000) : Pure Try.prog 114 (ctrim d).2.1 (.av (.one (lst 1 cU (Ftrim d)))) := by
 refine pure_of_awF Try.func114 rfl (by kernel_rfl) (by kernel_rfl) fun W0 M0 => ?_
 refine aw_seq ?_
 refine aw_region eqok [] [] [] [0] [] [] ⟨[(0, .av (.one (lst 1 cU d)))], []⟩ .nil (by kernel_rfl) .nil <| ath_n ?_
 refine aw_seq <| aw_block ?_
 refine aw_loopC (ι := Nat × List Int) (fun x => ⟨[(0, .av (.one (lst 1 cU x.2)))], []⟩) (fun x => x.2.length < x.1 ∧ ((x.2.length : Int) ≤ 1000000) ∧ Ftrim_l0 d x.1 x.2 = Ftrim d) (fun x => x.1) ?_ (d.length + 1, d) ⟨Nat.lt_succ_self _, (by show (d.length : Int) ≤ 1000000; first | trivial | omega | exact at0 | exact at1 | exact at2 | (simp; omega) | simp), (by simp only [Ftrim, cond_true, cond_false])⟩
 rintro ⟨n0, d'⟩ ⟨hn, hinv, hF⟩
 have hm0 : d'.length < n0 := hn; have hinv0 : (d'.length : Int) ≤ 1000000 := hinv; have hF0 : Ftrim_l0 d n0 d' = Ftrim d := hF; clear hn hinv hF
 cases n0 with
 | zero => exact absurd hm0 (Nat.not_lt_zero _)
 | succ n0 =>
  refine aw_seq <| aw_seq ?_
  refine aw_region eqok [] [] [] [0, 14] [] [((decide ((0 : Int) < ((d'.length : Int)))) = true) → ((decide ((0 : Int) < ((d'.length : Int)))) = true), ((decide ((0 : Int) < ((d'.length : Int)))) = true) → ((decide ((0 : Int) < ((d'.length : Int)))) = true), ((decide ((0 : Int) < ((d'.length : Int)))) = true) → ((decide ((0 : Int) < ((d'.length : Int)))) = true), ((decide ((0 : Int) < ((d'.length : Int)))) = true) → ((decide ((0 : Int) < ((d'.length : Int)))) = true), ((decide ((0 : Int) < ((d'.length : Int)))) = true) → (0 ≤ (W64 (((d'.length : Int)) - 1) : Int) ∧ (W64 (((d'.length : Int)) - 1) : Int) < ((d'.length : Nat) : Int)), ((decide ((0 : Int) < ((d'.length : Int)))) = true) → ((decide ((0 : Int) < ((d'.length : Int)))) = true), ((decide ((0 : Int) < ((d'.length : Int)))) = true) → ((decide ((0 : Int) < ((d'.length : Int)))) = true), (decide ((0 : Int) < ((d'.length : Int)))) = true → ((decide ((0 : Int) < ((d'.length : Int)))) = true)] ⟨[(0, .av (.one (lst 1 cU d'))), (14, tB (bif decide ((0 : Int) < ((d'.length : Int))) then decide (((d'.getD ((W64 (((d'.length : Int)) - 1)).toNat) default) : Int) = 0) else false))], []⟩ .nil (by kernel_rfl) (.cons id (.cons id (.cons id (.cons id (.cons (fun hG => by first | exact au1 | (simp only [decide_eq_true_eq, decide_eq_false_iff_not, Bool.not_eq_true, Bool.and_eq_true] at hG <;> omega) | (simp at hG <;> omega) | (simp only [decide_eq_true_eq, decide_eq_false_iff_not] at hG; simp only [W64_def]; omega)) (.cons id (.cons id (.cons id .nil)))))))) ?_
  (try rw [(show W64 (((d'.length : Int)) - 1) = ((d'.length : Int)) - 1 from W64_id (by omega) (by omega))])
  refine ath_n ?_
  refine aw_cond (bif decide ((0 : Int) < ((d'.length : Int))) then decide (((d'.getD ((((d'.length : Int)) - 1).toNat) default) : Int) = 0) else false) (by kernel_rfl) (fun h1 => ?_) (fun h1 => ?_)
  ·have g1 := and_dec h1
   refine aw_skip <| ath_n <| aw_block ?_
   refine aw_region eqok [] [] [] [0] [] [0 ≤ (0 : Int) ∧ (0 : Int) ≤ (W64 (((d'.length : Int)) - 1) : Int) ∧ (W64 (((d'.length : Int)) - 1) : Int) ≤ ((d'.length : Nat) : Int)] ⟨[(0, .av (.one (.list false 1 ((W64 (((d'.length : Int)) - 1) : Int).toNat - (0 : Int).toNat) (fun i j => (rowF cU d') (i + (0 : Int).toNat) j))))], []⟩ .nil (by kernel_rfl) (.cons au1 .nil) <| abl_n <| ath_n ?_
   refine ⟨(n0, d'.take (W64 (((d'.length : Int)) - 1) : Int).toNat), ⟨?_, ?_, (by rw [← hF0]; simp only [Ftrim_l0, h1, cond_true, cond_false])⟩, Nat.lt_succ_self _, Cv.trans (cv_ce (⟨[(0, .av (.one (lst 1 cU (d'.take (W64 (((d'.length : Int)) - 1) : Int).toNat))))], []⟩) (.cons ⟨rfl, .av (.one (cle_told false (told_take (b := W64 (((d'.length : Int)) - 1)) (told_rfl 1 cU d') (by have hc := (show 0 ≤ (0 : Int) ∧ (0 : Int) ≤ (W64 (((d'.length : Int)) - 1) : Int) ∧ (W64 (((d'.length : Int)) - 1) : Int) ≤ ((d'.length : Nat) : Int) from au1); exact hc.2.1) (by have hc := (show 0 ≤ (0 : Int) ∧ (0 : Int) ≤ (W64 (((d'.length : Int)) - 1) : Int) ∧ (W64 (((d'.length : Int)) - 1) : Int) ≤ ((d'.length : Nat) : Int) from au1); exact hc.2.2))))⟩ .nil) .nil) (cv_eq (by kernel_rfl))⟩
   ·show (d'.take (W64 (((d'.length : Int)) - 1) : Int).toNat).length < n0; (simp only [List.length_take, W64_def]; omega)
   ·exact (by show ((d'.take (W64 (((d'.length : Int)) - 1) : Int).toNat).length : Int) ≤ 1000000; first | trivial | omega | exact at0 | exact at1 | exact at2 | (simp; omega) | simp)
  ·refine aw_exit <| ath_e ?_
   refine ath_e <| abl_hit ?_
   refine ath_n <| aw_seq ?_
   refine aw_region eqok [] [] [] [2] [] [] ⟨[(2, .av (.one (lst 1 cU d')))], []⟩ .nil (by kernel_rfl) .nil <| ath_n <| aw_ret ?_
   exact ⟨_, Cv.refl _, .inl rfl, .av (.one (lst 1 cU d')), by kernel_rfl, tve_eq (by rw [← hF0]; first | (simp only [Ftrim_l0, h1, cond_true, cond_false]; done) | (simp only [Ftrim_l0, h1, cond_true, cond_false]; rfl))⟩
theorem oktrim (d : (List Int)) (h0 : (d.length : Int) ≤ 1000000) : CallOk Try.prog (ctrim d).1 (ctrim d).2.1 (ctrim d).2.2 := callOk_pure (fun _ _ => by kernel_rfl) fun _ => ptrim d h0
theorem trim_len (d : List Int) : (Ftrim d).length ≤ d.length := by
 have h : ∀ (n : Nat) (l : List Int), l.length < n → (Ftrim_l0 d n l).length ≤ l.length := by
  intro n
  induction n with
  | zero => intro l h; omega
  | succ n ih =>
   intro l h
   unfold Ftrim_l0
   by_cases h0 : (0 : Int) < ((l.length : Nat) : Int)
   ·rw [decide_eq_true h0]
    simp only [cond_true]
    cases decide (((l.getD ((((l.length : Int)) - 1).toNat) default) : Int) = 0)
    ·exact Nat.le_refl _
    ·have hl : (l.take (W64 (((l.length : Int)) - 1) : Int).toNat).length < l.length ∨ l.length ≤ (W64 (((l.length : Int)) - 1) : Int).toNat := by rw [List.length_take]; omega
     rcases hl with hl | hl
     ·exact Nat.le_trans (ih _ (by omega)) (Nat.le_of_lt hl)
     ·exfalso
      simp only [W64_def] at hl
      omega
   ·rw [decide_eq_false h0]
    exact Nat.le_refl _
 exact h _ _ (Nat.lt_succ_self _)
def FmadeN (neg : Bool) (d : (List Int)) : (TNum × Bool) := bif decide ((64 : Int) < (((Ftrim d).length : Int))) then ((TNum.mk false [], false)) else (bif decide (((((Ftrim d).length : Int)) : Int) = 0) then ((TNum.mk false [], true)) else ((TNum.mk neg (Ftrim d), true)))
def cmadeN (neg : Bool) (d : (List Int)) : FuncId × List Av × Ef := (108, [.one (.b neg), .one (lst 1 cU d)], .val [] (.tup [.agg (TNum.c ((FmadeN neg d).1)), .one (.b ((FmadeN neg d).2))]))
theorem au5 {p : Prop} (h : p := by first | (unfold maxLen; omega) | (unfold maxLen; simp only [List.length_append, List.length_cons, List.length_nil]; omega) | first | omega | (simp only [List.length_append, List.length_cons, List.length_nil]; omega)) : p := h
theorem au6 {p : Prop} (h : p := by first | (simp; done) | (simp; omega)) : p := h
theorem pmadeN (neg : Bool) (d : (List Int)) (h0 : (d.length : Int) ≤ 1000000) : Pure Try.prog 108 (cmadeN neg d).2.1 (.tup [.agg (TNum.c ((FmadeN neg d).1)), .one (.b ((FmadeN neg d).2))]) := by
 refine pure_of_awF Try.func108 rfl (by kernel_rfl) (by kernel_rfl) fun W0 M0 => ?_
 have ht := trim_len d
 have ht2 : ((Ftrim d).length : Int) ≤ 1000000 := by omega
 refine aw_seq ?_
 refine aw_region eqok [] [] [] [0, 1, 4] [4] [] ⟨[(0, tB neg), (1, .av (.one (lst 1 cU d))), (4, tP 4 0)], [(4, .cells [.b false, .val (.slice none 0 0)] 118)]⟩ .nil (by kernel_rfl) .nil <| ath_n <| aw_seq ?_
 refine aw_region eqok [] [] [(7, ctrim d)] [0, 1, 4] [4] [Same (ctrim d).2.1] ⟨[(0, tB neg), (1, .av (.one (lst 1 cU (Ftrim d)))), (4, tP 4 0)], [(4, .cells [.b false, .val (.slice none 0 0)] 118)]⟩ (.cons (oktrim d au0) .nil) (by kernel_rfl) (.cons rfl .nil) <| ath_n ?_
 refine aw_seq <| aw_seq ?_
 refine aw_region eqok [] [] [] [0, 1, 4, 10] [4] [] ⟨[(0, tB neg), (1, .av (.one (lst 1 cU (Ftrim d)))), (4, tP 4 0), (10, tB (decide ((64 : Int) < (((Ftrim d).length : Int)))))], [(4, .cells [.b false, .val (.slice none 0 0)] 118)]⟩ .nil (by kernel_rfl) .nil <| ath_n ?_
 refine aw_cond (decide ((64 : Int) < (((Ftrim d).length : Int)))) (by kernel_rfl) (fun h1 => ?_) (fun h1 => ?_)
 ·have g1 := of_decide_eq_true h1
  refine aw_seq ?_
  refine aw_region eqok [] [] [] [4, 5] [4] [] ⟨[(4, tP 4 0), (5, tB false)], [(4, .cells [.b false, .val (.slice none 0 0)] 118)]⟩ .nil (by kernel_rfl) .nil <| ath_n ?_
  refine aw_ret <| ath_r ?_
  exact ⟨_, Cv.refl _, .inl rfl, .tup [.agg [.b false, .val (.slice none 0 0)], .one (.b false)], by kernel_rfl, tve_of (y := .tup [.agg [.b false, lst 1 cU []], .one (.b false)]) (.tup (.cons (.agg (.cons (.refl _) (.cons (cle_nil 1 cU) .nil))) (.cons (AvE.refl _) .nil))) (by first | (simp only [FmadeN, h1, cond_true, cond_false]; done) | (simp only [FmadeN, h1, cond_true, cond_false]; rfl))⟩
 ·have g1 := of_decide_eq_false h1
  refine aw_skip <| ath_n ?_
  refine aw_seq <| aw_seq ?_
  refine aw_region eqok [] [] [] [0, 1, 4, 14] [4] [] ⟨[(0, tB neg), (1, .av (.one (lst 1 cU (Ftrim d)))), (4, tP 4 0), (14, tB (decide (((((Ftrim d).length : Int)) : Int) = 0)))], [(4, .cells [.b false, .val (.slice none 0 0)] 118)]⟩ .nil (by kernel_rfl) .nil <| ath_n ?_
  refine aw_cond (decide (((((Ftrim d).length : Int)) : Int) = 0)) (by kernel_rfl) (fun h2 => ?_) (fun h2 => ?_)
  ·have g2 := of_decide_eq_true h2
   refine aw_seq ?_
   refine aw_region eqok [] [] [] [4, 5] [4] [] ⟨[(4, tP 4 0), (5, tB true)], [(4, .cells [.b false, .val (.slice none 0 0)] 118)]⟩ .nil (by kernel_rfl) .nil <| ath_n ?_
   refine aw_ret <| ath_r ?_
   exact ⟨_, Cv.refl _, .inl rfl, .tup [.agg [.b false, .val (.slice none 0 0)], .one (.b true)], by kernel_rfl, tve_of (y := .tup [.agg [.b false, lst 1 cU []], .one (.b true)]) (.tup (.cons (.agg (.cons (.refl _) (.cons (cle_nil 1 cU) .nil))) (.cons (AvE.refl _) .nil))) (by first | (simp only [FmadeN, h1, h2, cond_true, cond_false]; done) | (simp only [FmadeN, h1, h2, cond_true, cond_false]; rfl))⟩
  ·have g2 := of_decide_eq_false h2
   refine aw_skip <| ath_n <| aw_seq ?_
   refine aw_region eqok [17] [] [] [4, 5] [4, 19] [0 = 0, 0 + ((Ftrim d).length) ≤ maxLen, (0 + ((Ftrim d).length)) * 4 ≤ 140737488355328] ⟨[(4, tP 4 0), (5, tB true)], [(4, .cells [.b neg, .own 19 1 (0 + ((Ftrim d).length))] 118), (19, .row 1 (0 + ((Ftrim d).length)) (fun i j => if i < 0 then (colsC 1 0 []) i j else (rowF cU (Ftrim d)) (i - 0) j) 40)]⟩ .nil (by kernel_rfl) (.cons rfl (.cons au5 (.cons au5 .nil))) <| ath_n ?_
   refine aw_cv (Cv.trans (cv_ce (⟨[(4, tP 4 0), (5, tB true)], [(4, .cells [.b neg, .own 19 1 ((Ftrim d).length)] 118), (19, .row 1 ((Ftrim d).length) (rowF cU (Ftrim d)) 40)]⟩) (.cons ⟨rfl, .refl _⟩ (.cons ⟨rfl, .refl _⟩ .nil)) (.cons ⟨rfl, .cells _ (.cons (.refl _) (.cons (.own _ _ au6) .nil))⟩ (.cons ⟨rfl, bke_told 40 (told_app (told_lit (c := cU) (xs := (([] : List Int) : List Int)) rfl (by kernel_rfl)) (told_rfl 1 cU (Ftrim d)))⟩ .nil))) (Cv.refl _)) <| aw_ret ?_
   exact ⟨_, Cv.trans (cv_fz (⟨[(4, tP 4 0), (5, tB true)], [(4, .cells [.b neg, lst 1 cU (Ftrim d)] 118)]⟩) 19 1 ((Ftrim d).length) (rowF cU (Ftrim d)) 40 (K := none) (fun k x h => by cases h) (by kernel_rfl) (by kernel_rfl) (.cons ⟨rfl, rfl⟩ .nil) (by kernel_rfl)) (Cv.refl _), .inl rfl, .tup [.agg [.b neg, lst 1 cU (Ftrim d)], .one (.b true)], by kernel_rfl, tve_eq (by first | (simp only [FmadeN, h1, h2, cond_true, cond_false]; done) | (simp only [FmadeN, h1, h2, cond_true, cond_false]; rfl))⟩
theorem okmadeN (neg : Bool) (d : (List Int)) (h0 : (d.length : Int) ≤ 1000000) : CallOk Try.prog (cmadeN neg d).1 (cmadeN neg d).2.1 (cmadeN neg d).2.2 := callOk_pure (fun _ _ => by kernel_rfl) fun _ => pmadeN neg d h0
def FRightN (x0 : TNum) : Bool := bif decide ((((x0.D.length : Int)) : Int) ≤ 64) then bif bif decide ((((x0.D.length : Int)) : Int) = 0) then !x0.Neg else false then true else bif decide ((0 : Int) < ((x0.D.length : Int))) then !decide (((x0.D.getD ((W64 (((x0.D.length : Int)) - 1)).toNat) default) : Int) = 0) else false else false
def cRightN (x0 : TNum) : FuncId × List Av × Ef := (107, [.agg (TNum.c x0)], .val [] (.av (.one (.b (FRightN x0)))))
theorem pRightN (x0 : TNum) : Pure Try.prog 107 (cRightN x0).2.1 (.av (.one (.b (FRightN x0)))) := by
 refine pure_of_awF Try.func107 rfl (by kernel_rfl) (by kernel_rfl) fun W0 M0 => ?_
 refine aw_seq ?_
 refine aw_region eqok [] [] [] [1] [1] [] ⟨[(1, tP 1 0)], [(1, .cells (TNum.c x0) 118)]⟩ .nil (by kernel_rfl) .nil <| ath_n <| aw_seq ?_
 refine aw_region eqok [] [] [] [1, 3] [1] [] ⟨[(1, tP 1 0), (3, tI ((x0.D.length : Int)))], [(1, .cells (TNum.c x0) 118)]⟩ .nil (by kernel_rfl) .nil <| ath_n <| aw_seq ?_
 refine aw_region eqok [] [] [] [2] [] [((decide ((((x0.D.length : Int)) : Int) ≤ 64)) = true) → ((decide ((((x0.D.length : Int)) : Int) ≤ 64)) = true), ((decide ((((x0.D.length : Int)) : Int) ≤ 64)) = true) → ((decide ((((x0.D.length : Int)) : Int) ≤ 64)) = true), (((decide ((((x0.D.length : Int)) : Int) ≤ 64)) = true) ∧ (decide ((((x0.D.length : Int)) : Int) = 0)) = true) → (((decide ((((x0.D.length : Int)) : Int) ≤ 64)) = true) ∧ (decide ((((x0.D.length : Int)) : Int) = 0)) = true), (((decide ((((x0.D.length : Int)) : Int) ≤ 64)) = true) ∧ (decide ((((x0.D.length : Int)) : Int) = 0)) = true) → (((decide ((((x0.D.length : Int)) : Int) ≤ 64)) = true) ∧ (decide ((((x0.D.length : Int)) : Int) = 0)) = true), ((decide ((((x0.D.length : Int)) : Int) ≤ 64)) = true) → ((decide ((((x0.D.length : Int)) : Int) ≤ 64)) = true), ((decide ((((x0.D.length : Int)) : Int) ≤ 64)) = true) → ((decide ((((x0.D.length : Int)) : Int) = 0)) = true → (((decide ((((x0.D.length : Int)) : Int) ≤ 64)) = true) ∧ (decide ((((x0.D.length : Int)) : Int) = 0)) = true)), ((decide ((((x0.D.length : Int)) : Int) ≤ 64)) = true) → ((decide ((((x0.D.length : Int)) : Int) ≤ 64)) = true), (((decide ((((x0.D.length : Int)) : Int) ≤ 64)) = true) ∧ (bif decide ((((x0.D.length : Int)) : Int) = 0) then !x0.Neg else false) = false) → (((decide ((((x0.D.length : Int)) : Int) ≤ 64)) = true) ∧ (bif decide ((((x0.D.length : Int)) : Int) = 0) then !x0.Neg else false) = false), (((decide ((((x0.D.length : Int)) : Int) ≤ 64)) = true) ∧ (bif decide ((((x0.D.length : Int)) : Int) = 0) then !x0.Neg else false) = false) → (((decide ((((x0.D.length : Int)) : Int) ≤ 64)) = true) ∧ (bif decide ((((x0.D.length : Int)) : Int) = 0) then !x0.Neg else false) = false), ((((decide ((((x0.D.length : Int)) : Int) ≤ 64)) = true) ∧ (bif decide ((((x0.D.length : Int)) : Int) = 0) then !x0.Neg else false) = false) ∧ (decide ((0 : Int) < ((x0.D.length : Int)))) = true) → ((((decide ((((x0.D.length : Int)) : Int) ≤ 64)) = true) ∧ (bif decide ((((x0.D.length : Int)) : Int) = 0) then !x0.Neg else false) = false) ∧ (decide ((0 : Int) < ((x0.D.length : Int)))) = true), ((((decide ((((x0.D.length : Int)) : Int) ≤ 64)) = true) ∧ (bif decide ((((x0.D.length : Int)) : Int) = 0) then !x0.Neg else false) = false) ∧ (decide ((0 : Int) < ((x0.D.length : Int)))) = true) → ((((decide ((((x0.D.length : Int)) : Int) ≤ 64)) = true) ∧ (bif decide ((((x0.D.length : Int)) : Int) = 0) then !x0.Neg else false) = false) ∧ (decide ((0 : Int) < ((x0.D.length : Int)))) = true), ((((decide ((((x0.D.length : Int)) : Int) ≤ 64)) = true) ∧ (bif decide ((((x0.D.length : Int)) : Int) = 0) then !x0.Neg else false) = false) ∧ (decide ((0 : Int) < ((x0.D.length : Int)))) = true) → ((((decide ((((x0.D.length : Int)) : Int) ≤ 64)) = true) ∧ (bif decide ((((x0.D.length : Int)) : Int) = 0) then !x0.Neg else false) = false) ∧ (decide ((0 : Int) < ((x0.D.length : Int)))) = true), ((((decide ((((x0.D.length : Int)) : Int) ≤ 64)) = true) ∧ (bif decide ((((x0.D.length : Int)) : Int) = 0) then !x0.Neg else false) = false) ∧ (decide ((0 : Int) < ((x0.D.length : Int)))) = true) → ((((decide ((((x0.D.length : Int)) : Int) ≤ 64)) = true) ∧ (bif decide ((((x0.D.length : Int)) : Int) = 0) then !x0.Neg else false) = false) ∧ (decide ((0 : Int) < ((x0.D.length : Int)))) = true), ((((decide ((((x0.D.length : Int)) : Int) ≤ 64)) = true) ∧ (bif decide ((((x0.D.length : Int)) : Int) = 0) then !x0.Neg else false) = false) ∧ (decide ((0 : Int) < ((x0.D.length : Int)))) = true) → (0 ≤ (W64 (((x0.D.length : Int)) - 1) : Int) ∧ (W64 (((x0.D.length : Int)) - 1) : Int) < ((x0.D.length : Nat) : Int)), ((((decide ((((x0.D.length : Int)) : Int) ≤ 64)) = true) ∧ (bif decide ((((x0.D.length : Int)) : Int) = 0) then !x0.Neg else false) = false) ∧ (decide ((0 : Int) < ((x0.D.length : Int)))) = true) → ((((decide ((((x0.D.length : Int)) : Int) ≤ 64)) = true) ∧ (bif decide ((((x0.D.length : Int)) : Int) = 0) then !x0.Neg else false) = false) ∧ (decide ((0 : Int) < ((x0.D.length : Int)))) = true), ((((decide ((((x0.D.length : Int)) : Int) ≤ 64)) = true) ∧ (bif decide ((((x0.D.length : Int)) : Int) = 0) then !x0.Neg else false) = false) ∧ (decide ((0 : Int) < ((x0.D.length : Int)))) = true) → ((((decide ((((x0.D.length : Int)) : Int) ≤ 64)) = true) ∧ (bif decide ((((x0.D.length : Int)) : Int) = 0) then !x0.Neg else false) = false) ∧ (decide ((0 : Int) < ((x0.D.length : Int)))) = true), (((decide ((((x0.D.length : Int)) : Int) ≤ 64)) = true) ∧ (bif decide ((((x0.D.length : Int)) : Int) = 0) then !x0.Neg else false) = false) → (((decide ((((x0.D.length : Int)) : Int) ≤ 64)) = true) ∧ (bif decide ((((x0.D.length : Int)) : Int) = 0) then !x0.Neg else false) = false), (((decide ((((x0.D.length : Int)) : Int) ≤ 64)) = true) ∧ (bif decide ((((x0.D.length : Int)) : Int) = 0) then !x0.Neg else false) = false) → ((decide ((0 : Int) < ((x0.D.length : Int)))) = true → ((((decide ((((x0.D.length : Int)) : Int) ≤ 64)) = true) ∧ (bif decide ((((x0.D.length : Int)) : Int) = 0) then !x0.Neg else false) = false) ∧ (decide ((0 : Int) < ((x0.D.length : Int)))) = true)), ((decide ((((x0.D.length : Int)) : Int) ≤ 64)) = true) → ((decide ((((x0.D.length : Int)) : Int) ≤ 64)) = true), ((decide ((((x0.D.length : Int)) : Int) ≤ 64)) = true) → ((bif decide ((((x0.D.length : Int)) : Int) = 0) then !x0.Neg else false) = false → (((decide ((((x0.D.length : Int)) : Int) ≤ 64)) = true) ∧ (bif decide ((((x0.D.length : Int)) : Int) = 0) then !x0.Neg else false) = false)), (decide ((((x0.D.length : Int)) : Int) ≤ 64)) = true → ((decide ((((x0.D.length : Int)) : Int) ≤ 64)) = true)] ⟨[(2, tB (bif decide ((((x0.D.length : Int)) : Int) ≤ 64) then bif bif decide ((((x0.D.length : Int)) : Int) = 0) then !x0.Neg else false then true else bif decide ((0 : Int) < ((x0.D.length : Int))) then !decide (((x0.D.getD ((W64 (((x0.D.length : Int)) - 1)).toNat) default) : Int) = 0) else false else false))], []⟩ .nil (by kernel_rfl) (.cons id (.cons id (.cons id (.cons id (.cons id (.cons (by intros; first | assumption | exact ⟨by assumption, by assumption⟩ | simp_all) (.cons id (.cons id (.cons id (.cons id (.cons id (.cons id (.cons id (.cons (fun hG => by first | exact au1 | (simp only [decide_eq_true_eq, decide_eq_false_iff_not, Bool.not_eq_true, Bool.and_eq_true] at hG <;> omega) | (simp at hG <;> omega) | (simp only [decide_eq_true_eq, decide_eq_false_iff_not] at hG; simp only [W64_def]; omega)) (.cons id (.cons id (.cons id (.cons (by intros; first | assumption | exact ⟨by assumption, by assumption⟩ | simp_all) (.cons id (.cons (by intros; first | assumption | exact ⟨by assumption, by assumption⟩ | simp_all) (.cons id .nil))))))))))))))))))))) <| ath_n <| aw_ret ?_
 exact ⟨_, Cv.refl _, .inl rfl, .av (.one (.b (bif decide ((((x0.D.length : Int)) : Int) ≤ 64) then bif bif decide ((((x0.D.length : Int)) : Int) = 0) then !x0.Neg else false then true else bif decide ((0 : Int) < ((x0.D.length : Int))) then !decide (((x0.D.getD ((W64 (((x0.D.length : Int)) - 1)).toNat) default) : Int) = 0) else false else false))), by kernel_rfl, tve_eq (by rfl)⟩
theorem okRightN (x0 : TNum) : CallOk Try.prog (cRightN x0).1 (cRightN x0).2.1 (cRightN x0).2.2 := callOk_pure (fun _ _ => by kernel_rfl) fun _ => pRightN x0
def wOfN_0 (x0 : Int) : TNum := (FmadeN (decide ((x0 : Int) < 0)) [IntKind.u32.wrap (bif decide ((x0 : Int) < 0) then (IntKind.u64.wrap (0 - (IntKind.u64.wrap (x0)))) else (IntKind.u64.wrap (x0))), IntKind.u32.wrap (Int.fdiv (bif decide ((x0 : Int) < 0) then (IntKind.u64.wrap (0 - (IntKind.u64.wrap (x0)))) else (IntKind.u64.wrap (x0))) 4294967296)]).1
def FOfN (x0 : Int) : TNum := wOfN_0 x0
def cOfN (x0 : Int) : FuncId × List Av × Ef := (93, [.one (.i x0)], .val [] (.av (.agg (TNum.c (FOfN x0)))))
theorem pOfN (x0 : Int) : Pure Try.prog 93 (cOfN x0).2.1 (.av (.agg (TNum.c (FOfN x0)))) := by
 refine pure_of_awF Try.func93 rfl (by kernel_rfl) (by kernel_rfl) fun W0 M0 => ?_
 refine aw_seq ?_
 refine aw_region eqok [] [] [] [0, 2] [2] [] ⟨[(0, tI x0), (2, tP 2 0)], [(2, .cells [.b false, .val (.slice none 0 0)] 118)]⟩ .nil (by kernel_rfl) .nil <| ath_n <| aw_seq ?_
 refine aw_region eqok [] [] [] [0, 2, 3] [2] [] ⟨[(0, tI x0), (2, tP 2 0), (3, .av (.one (.val (.int .u64 (IntKind.u64.wrap (x0))))))], [(2, .cells [.b false, .val (.slice none 0 0)] 118)]⟩ .nil (by kernel_rfl) .nil <| ath_n ?_
 refine aw_seq <| aw_seq ?_
 refine aw_region eqok [] [] [] [0, 2, 3, 9] [2] [] ⟨[(0, tI x0), (2, tP 2 0), (3, .av (.one (.val (.int .u64 (IntKind.u64.wrap (x0)))))), (9, tB (decide ((x0 : Int) < 0)))], [(2, .cells [.b false, .val (.slice none 0 0)] 118)]⟩ .nil (by kernel_rfl) .nil <| ath_n ?_
 refine aw_joinC (⟨[(0, tI x0), (2, tP 2 0), (3, .av (.one (.val (.int .u64 (bif decide ((x0 : Int) < 0) then (IntKind.u64.wrap (0 - (IntKind.u64.wrap (x0)))) else (IntKind.u64.wrap (x0)))))))], [(2, .cells [.b false, .val (.slice none 0 0)] 118)]⟩) ?_ ?_
 ·refine aw_cond (decide ((x0 : Int) < 0)) (by kernel_rfl) (fun h1 => ?_) (fun h1 => ?_)
  ·have g1 := of_decide_eq_true h1
   refine aw_region eqok [] [] [] [0, 2, 3] [2] [] ⟨[(0, tI x0), (2, tP 2 0), (3, .av (.one (.val (.int .u64 (IntKind.u64.wrap (0 - (IntKind.u64.wrap (x0))))))))], [(2, .cells [.b false, .val (.slice none 0 0)] 118)]⟩ .nil (by kernel_rfl) .nil <| ath_n ?_
   refine cv_eq ?_
   first | rfl | (simp only [h1, cond_true, cond_false]; done) | (simp only [h1, cond_true, cond_false]; rfl)
  ·have g1 := of_decide_eq_false h1
   refine aw_skip <| ath_n ?_
   refine Cv.trans (cv_keep [0, 2, 3] [2] (⟨[(0, tI x0), (2, tP 2 0), (3, .av (.one (.val (.int .u64 (IntKind.u64.wrap (x0))))))], [(2, .cells [.b false, .val (.slice none 0 0)] 118)]⟩) (by kernel_rfl)) (cv_eq ?_)
   first | rfl | (simp only [h1, cond_true, cond_false]; done) | (simp only [h1, cond_true, cond_false]; rfl)
 refine aw_seq ?_
 refine aw_region eqok [] [] [(21, ceI [.one (.b (decide ((x0 : Int) < 0))), .one (.list true 1 2 (colsC 1 2 [.val (.int .u32 (IntKind.u32.wrap (bif decide ((x0 : Int) < 0) then (IntKind.u64.wrap (0 - (IntKind.u64.wrap (x0)))) else (IntKind.u64.wrap (x0))))), .val (.int .u32 (IntKind.u32.wrap (Int.fdiv (bif decide ((x0 : Int) < 0) then (IntKind.u64.wrap (0 - (IntKind.u64.wrap (x0)))) else (IntKind.u64.wrap (x0))) 4294967296)))]))] (cmadeN (decide ((x0 : Int) < 0)) [IntKind.u32.wrap (bif decide ((x0 : Int) < 0) then (IntKind.u64.wrap (0 - (IntKind.u64.wrap (x0)))) else (IntKind.u64.wrap (x0))), IntKind.u32.wrap (Int.fdiv (bif decide ((x0 : Int) < 0) then (IntKind.u64.wrap (0 - (IntKind.u64.wrap (x0)))) else (IntKind.u64.wrap (x0))) 4294967296)]))] [2, 4] [2, 4] [0 ≤ (32 : Int), Same (ceI [.one (.b (decide ((x0 : Int) < 0))), .one (.list true 1 2 (colsC 1 2 [.val (.int .u32 (IntKind.u32.wrap (bif decide ((x0 : Int) < 0) then (IntKind.u64.wrap (0 - (IntKind.u64.wrap (x0)))) else (IntKind.u64.wrap (x0))))), .val (.int .u32 (IntKind.u32.wrap (Int.fdiv (bif decide ((x0 : Int) < 0) then (IntKind.u64.wrap (0 - (IntKind.u64.wrap (x0)))) else (IntKind.u64.wrap (x0))) 4294967296)))]))] (cmadeN (decide ((x0 : Int) < 0)) [IntKind.u32.wrap (bif decide ((x0 : Int) < 0) then (IntKind.u64.wrap (0 - (IntKind.u64.wrap (x0)))) else (IntKind.u64.wrap (x0))), IntKind.u32.wrap (Int.fdiv (bif decide ((x0 : Int) < 0) then (IntKind.u64.wrap (0 - (IntKind.u64.wrap (x0)))) else (IntKind.u64.wrap (x0))) 4294967296)])).2.1] ⟨[(2, tP 2 0), (4, tP 4 0)], [(2, .cells [.b false, .val (.slice none 0 0)] 118), (4, .cells (TNum.c (wOfN_0 x0)) 118)]⟩ (.cons (callOk_ce (okmadeN (decide ((x0 : Int) < 0)) [IntKind.u32.wrap (bif decide ((x0 : Int) < 0) then (IntKind.u64.wrap (0 - (IntKind.u64.wrap (x0)))) else (IntKind.u64.wrap (x0))), IntKind.u32.wrap (Int.fdiv (bif decide ((x0 : Int) < 0) then (IntKind.u64.wrap (0 - (IntKind.u64.wrap (x0)))) else (IntKind.u64.wrap (x0))) 4294967296)] au0) (.cons (AvE.refl _) (.cons (.one (cle_told true (told_lit (c := cU) (xs := ([IntKind.u32.wrap (bif decide ((x0 : Int) < 0) then (IntKind.u64.wrap (0 - (IntKind.u64.wrap (x0)))) else (IntKind.u64.wrap (x0))), IntKind.u32.wrap (Int.fdiv (bif decide ((x0 : Int) < 0) then (IntKind.u64.wrap (0 - (IntKind.u64.wrap (x0)))) else (IntKind.u64.wrap (x0))) 4294967296)] : List Int)) rfl (by kernel_rfl)))) .nil))) .nil) (by kernel_rfl) (.cons (by decide) (.cons rfl .nil)) <| ath_n <| aw_seq ?_
 refine aw_region eqok [] [] [] [2] [2] [] ⟨[(2, tP 2 0)], [(2, .cells (TNum.c (wOfN_0 x0)) 118)]⟩ .nil (by kernel_rfl) .nil <| ath_n <| aw_ret ?_
 exact ⟨_, Cv.refl _, .inl rfl, .av (.agg (TNum.c (wOfN_0 x0))), by kernel_rfl, tve_eq (by rfl)⟩
theorem okOfN (x0 : Int) : CallOk Try.prog (cOfN x0).1 (cOfN x0).2.1 (cOfN x0).2.2 := callOk_pure (fun _ _ => by kernel_rfl) fun _ => pOfN x0
def tmJ (la lb : Nat) (i : Int) (out : List Int) (c k : Int) : Prop :=
 out.length = la + lb + 1 ∧ (∀ j, 0 ≤ out.getD j 0 ∧ out.getD j 0 < 4294967296) ∧ (0 ≤ c ∧ c < 4294967296) ∧
  (∀ j : Nat, i + k ≤ (j : Int) → i + (lb : Int) ≤ (j : Int) → out.getD j 0 = 0) ∧ (k = (lb : Int) + 1 → c = 0)
def tmX (lb : Nat) (c k o x y : Int) : Int := (bif decide (k < (lb : Int)) then (IntKind.u64.wrap ((IntKind.u64.wrap (c + (IntKind.u64.wrap o))) + (IntKind.u64.wrap ((IntKind.u64.wrap x) * (IntKind.u64.wrap y))))) else (IntKind.u64.wrap (c + (IntKind.u64.wrap o))))
theorem tmX_eq (lb : Nat) (c k o x y : Int) : tmX lb c k o x y = (bif decide (k < (lb : Int)) then (IntKind.u64.wrap ((IntKind.u64.wrap (c + (IntKind.u64.wrap o))) + (IntKind.u64.wrap ((IntKind.u64.wrap x) * (IntKind.u64.wrap y))))) else (IntKind.u64.wrap (c + (IntKind.u64.wrap o)))) := rfl
theorem tm_mul {x y : Int} (hx : 0 ≤ x ∧ x < 4294967296) (hy : 0 ≤ y ∧ y < 4294967296) : 0 ≤ x * y ∧ x * y ≤ 18446744065119617025 :=
 ⟨Int.mul_nonneg hx.1 hy.1, Int.le_trans (Int.mul_le_mul (show x ≤ 4294967295 by omega) (show y ≤ 4294967295 by omega) hy.1 (by decide)) (by decide)⟩
theorem tm_x {lb : Nat} {c k o x y : Int} (hc : 0 ≤ c ∧ c < 4294967296) (ho : 0 ≤ o ∧ o < 4294967296) (hx : 0 ≤ x ∧ x < 4294967296) (hy : 0 ≤ y ∧ y < 4294967296) :
  tmX lb c k o x y = (if k < (lb : Int) then c + o + x * y else c + o) ∧ 0 ≤ tmX lb c k o x y ∧ tmX lb c k o x y < 18446744073709551616 := by
 have hm := tm_mul hx hy
 have w : ∀ z : Int, 0 ≤ z → z < 18446744073709551616 → IntKind.u64.wrap z = z := fun z h0 h1 => by rw [IntKind.wrap_u64]; omega
 have e : tmX lb c k o x y = (if k < (lb : Int) then c + o + x * y else c + o) := by
  rw [tmX_eq, w o (by omega) (by omega), w x (by omega) (by omega), w y (by omega) (by omega), w (c + o) (by omega) (by omega), w (x * y) (by omega) (by omega), w (c + o + x * y) (by omega) (by omega)]
  by_cases hk : k < (lb : Int)
  ·rw [decide_eq_true hk, if_pos hk]; rfl
  ·rw [decide_eq_false hk, if_neg hk]; rfl
 refine ⟨e, ?_, ?_⟩ <;> rw [e] <;> split <;> omega
theorem tm_k {la lb : Nat} {i : Int} {out : List Int} {c k : Int} (hJ : tmJ la lb i out c k) (hk : 0 ≤ k ∧ k ≤ (lb : Int) + 1) (h : (bif decide (k < (lb : Int)) then true else decide ((0 : Int) < c)) = true) : k ≤ (lb : Int) := by
 by_cases q : k < (lb : Int)
 ·omega
 ·rw [decide_eq_false q] at h
  have := of_decide_eq_true h
  have := hJ.2.2.2.2
  omega
theorem tm_ix {la lb : Nat} {i : Int} {out : List Int} {c k : Int} (h0 : (la : Int) ≤ 100000) (h1 : (lb : Int) ≤ 100000) (hi : 0 ≤ i) (g1 : i < (la : Int)) (hJ : tmJ la lb i out c k) (hk : 0 ≤ k ∧ k ≤ (lb : Int) + 1) (h : (bif decide (k < (lb : Int)) then true else decide ((0 : Int) < c)) = true) :
  0 ≤ W64 (i + k) ∧ W64 (i + k) < ((out.length : Nat) : Int) := by
 have hk2 := tm_k hJ hk h
 have := hJ.1
 rw [W64_id (by omega) (by omega)]
 omega
theorem tm_ix2 {la lb : Nat} {i : Int} {out : List Int} {c k : Int} (h0 : (la : Int) ≤ 100000) (h1 : (lb : Int) ≤ 100000) (hi : 0 ≤ i) (g1 : i < (la : Int)) (hJ : tmJ la lb i out c k) (hk : 0 ≤ k ∧ k ≤ (lb : Int) + 1) (h : (bif decide (k < (lb : Int)) then true else decide ((0 : Int) < c)) = true) :
  (W64 (i + k)).toNat < out.length := by
 have := tm_ix h0 h1 hi g1 hJ hk h
 omega
theorem tm_step {la lb : Nat} {i : Int} {out : List Int} {c k : Int} {a b : List Int} (h0 : (la : Int) ≤ 100000) (h1 : (lb : Int) ≤ 100000) (da : ∀ j, 0 ≤ a.getD j 0 ∧ a.getD j 0 < 4294967296) (db : ∀ j, 0 ≤ b.getD j 0 ∧ b.getD j 0 < 4294967296) (hi : 0 ≤ i) (g1 : i < (la : Int)) (hJ : tmJ la lb i out c k) (hk : 0 ≤ k ∧ k ≤ (lb : Int) + 1) (h : (bif decide (k < (lb : Int)) then true else decide ((0 : Int) < c)) = true) :
  tmJ la lb i (out.set ((W64 (i + k)).toNat) (IntKind.u32.wrap (tmX lb c k (out.getD ((W64 (i + k)).toNat) default) (a.getD i.toNat default) (b.getD k.toNat default)))) (Int.fdiv (tmX lb c k (out.getD ((W64 (i + k)).toNat) default) (a.getD i.toNat default) (b.getD k.toNat default)) 4294967296) (k + 1) ∧ 0 ≤ k + 1 ∧ k + 1 ≤ (lb : Int) + 1 := by
 have hk2 := tm_k hJ hk h
 have hx2 := tm_ix2 h0 h1 hi g1 hJ hk h
 obtain ⟨j1, j2, j3, j4, j5⟩ := hJ
 have eW : W64 (i + k) = i + k := W64_id (by omega) (by omega)
 rw [eW] at hx2 ⊢
 obtain ⟨e, p0, p1⟩ := tm_x (lb := lb) (k := k) j3 (j2 (i + k).toNat) (da i.toNat) (db k.toNat)
 have z : (out.getD (i + k).toNat default) = out.getD (i + k).toNat 0 := rfl
 have z2 : (a.getD i.toNat default) = a.getD i.toNat 0 := rfl
 have z3 : (b.getD k.toNat default) = b.getD k.toNat 0 := rfl
 rw [z, z2, z3]
 have hlast : k = (lb : Int) → tmX lb c k (out.getD (i + k).toNat 0) (a.getD i.toNat 0) (b.getD k.toNat 0) < 4294967296 := by
  intro hq
  rw [e, if_neg (by omega), j4 (i + k).toNat (by omega) (by omega)]
  omega
 generalize tmX lb c k (out.getD (i + k).toNat 0) (a.getD i.toNat 0) (b.getD k.toNat 0) = X at *
 have hd : Int.fdiv X 4294967296 = X / 4294967296 := Int.fdiv_eq_ediv_of_nonneg _ (by decide)
 rw [hd]
 have hs : ∀ j : Nat, (out.set (i + k).toNat (IntKind.u32.wrap X)).getD j 0 = if (i + k).toNat = j then IntKind.u32.wrap X else out.getD j 0 := by
  intro j
  simp only [List.getD_eq_getElem?_getD, List.getElem?_set]
  by_cases q : (i + k).toNat = j
  ·rw [if_pos q, if_pos q, if_pos hx2]; rfl
  ·rw [if_neg q, if_neg q]
 have hw : 0 ≤ IntKind.u32.wrap X ∧ IntKind.u32.wrap X < 4294967296 := by rw [IntKind.wrap_u32]; omega
 refine ⟨⟨by rw [List.length_set]; exact j1, fun j => ?_, by omega, fun j q1 q2 => ?_, fun q => ?_⟩, by omega, by omega⟩
 ·rw [hs j]; split
  ·exact hw
  ·exact j2 j
 ·rw [hs j, if_neg (by omega)]; exact j4 j (by omega) q2
 ·have := hlast (by omega); omega
theorem tm_done {la lb : Nat} {i : Int} {out : List Int} {c k : Int} (hJ : tmJ la lb i out c k) (hk : 0 ≤ k ∧ k ≤ (lb : Int) + 1) : tmJ la lb (i + 1) out 0 0 := by
 obtain ⟨j1, j2, j3, j4, j5⟩ := hJ
 exact ⟨j1, j2, by decide, fun j q1 q2 => j4 j (by omega) (by omega), fun _ => rfl⟩
theorem tm_init {la lb : Nat} (h0 : (la : Int) ≤ 100000) (h1 : (lb : Int) ≤ 100000) : tmJ la lb 0 (List.replicate ((W64 ((W64 ((la : Int) + (lb : Int))) + 1) : Int).toNat) (0 : Int)) 0 0 := by
 rw [W64_id (x := (la : Int) + (lb : Int)) (by omega) (by omega), W64_id (by omega) (by omega)]
 have hz : ∀ (n j : Nat), (List.replicate n (0 : Int)).getD j 0 = 0 := by
  intro n j
  rw [List.getD_eq_getElem?_getD, List.getElem?_replicate]; split <;> rfl
 exact ⟨by rw [List.length_replicate]; omega, fun j => by rw [hz]; decide, by decide, fun j _ _ => hz _ j, fun _ => rfl⟩
def Ftimes_l1 (a : (List Int)) (b : (List Int)) (v5 : List Int) (v6 : Int) (K0 : List Int → Int → (List Int)) : Nat → List Int → Int → Int → (List Int)
 | 0, _, _, _ => default
 | n1 + 1, v5', v7, v8 => bif bif decide ((v8 : Int) < ((b.length : Int))) then true else decide ((0 : Int) < v7) then ((Ftimes_l1 a b v5 v6 K0 n1) (v5'.set ((W64 (v6 + v8)).toNat) (IntKind.u32.wrap (bif decide ((v8 : Int) < ((b.length : Int))) then (IntKind.u64.wrap ((IntKind.u64.wrap (v7 + (IntKind.u64.wrap (v5'.getD ((W64 (v6 + v8)).toNat) default)))) + (IntKind.u64.wrap ((IntKind.u64.wrap (a.getD v6.toNat default)) * (IntKind.u64.wrap (b.getD v8.toNat default)))))) else (IntKind.u64.wrap (v7 + (IntKind.u64.wrap (v5'.getD ((W64 (v6 + v8)).toNat) default))))))) (Int.fdiv (bif decide ((v8 : Int) < ((b.length : Int))) then (IntKind.u64.wrap ((IntKind.u64.wrap (v7 + (IntKind.u64.wrap (v5'.getD ((W64 (v6 + v8)).toNat) default)))) + (IntKind.u64.wrap ((IntKind.u64.wrap (a.getD v6.toNat default)) * (IntKind.u64.wrap (b.getD v8.toNat default)))))) else (IntKind.u64.wrap (v7 + (IntKind.u64.wrap (v5'.getD ((W64 (v6 + v8)).toNat) default))))) 4294967296) (v8 + 1)) else (K0 v5' (v6 + 1))
def Ftimes_l0 (a : (List Int)) (b : (List Int)) : Nat → List Int → Int → (List Int)
 | 0, _, _ => default
 | n0 + 1, v5, v6 => bif decide ((v6 : Int) < ((a.length : Int))) then (Ftimes_l1 a b v5 v6 (Ftimes_l0 a b n0) (((b.length : Int) + 2 - 0).toNat + 1) v5 0 0) else (Ftrim v5)
def Ftimes (a : (List Int)) (b : (List Int)) : (List Int) := Ftimes_l0 a b (((a.length : Int) - 0).toNat + 1) (List.replicate ((W64 ((W64 (((a.length : Int)) + ((b.length : Int)))) + 1) : Int).toNat) (0 : Int)) 0
def ctimes (a : (List Int)) (b : (List Int)) : FuncId × List Av × Ef := (109, [.one (lst 1 cU a), .one (lst 1 cU b)], .val [] (.av (.one (lst 1 cU (Ftimes a b)))))
theorem ptimes (a : (List Int)) (b : (List Int)) (h0 : (a.length : Int) ≤ 100000) (h1 : (b.length : Int) ≤ 100000) (da : (∀ j, 0 ≤ a.getD j 0 ∧ a.getD j 0 < 4294967296)) (db : (∀ j, 0 ≤ b.getD j 0 ∧ b.getD j 0 < 4294967296)) : Pure Try.prog 109 (ctimes a b).2.1 (.av (.one (lst 1 cU (Ftimes a b)))) := by
 refine pure_of_awF Try.func109 rfl (by kernel_rfl) (by kernel_rfl) fun W0 M0 => ?_
 have hla := h0
 have hlb := h1
 have hw0 : W64 (((a.length : Int)) + ((b.length : Int))) = (a.length : Int) + (b.length : Int) := W64_id (by omega) (by omega)
 have hw : (W64 ((W64 (((a.length : Int)) + ((b.length : Int)))) + 1) : Int) = (a.length : Int) + (b.length : Int) + 1 := by rw [hw0]; exact W64_id (by omega) (by omega)
 refine aw_seq ?_
 refine aw_region eqok [] [] [] [0, 1] [] [] ⟨[(0, .av (.one (lst 1 cU a))), (1, .av (.one (lst 1 cU b)))], []⟩ .nil (by kernel_rfl) .nil <| ath_n <| aw_seq ?_
 refine aw_region eqok [] [] [] [0, 1, 5] [15] [0 ≤ (W64 ((W64 (((a.length : Int)) + ((b.length : Int)))) + 1) : Int) ∧ (W64 ((W64 (((a.length : Int)) + ((b.length : Int)))) + 1) : Int) = (W64 ((W64 (((a.length : Int)) + ((b.length : Int)))) + 1) : Int) ∧ (4 : Int) * (W64 ((W64 (((a.length : Int)) + ((b.length : Int)))) + 1) : Int) ≤ 281474976710656 ∧ (W64 ((W64 (((a.length : Int)) + ((b.length : Int)))) + 1) : Int) ≤ 9223372036854775807] ⟨[(0, .av (.one (lst 1 cU a))), (1, .av (.one (lst 1 cU b))), (5, .av (.one (.own 15 1 ((W64 ((W64 (((a.length : Int)) + ((b.length : Int)))) + 1) : Int).toNat))))], [(15, .row 1 ((W64 ((W64 (((a.length : Int)) + ((b.length : Int)))) + 1) : Int).toNat) (fun _ j => ([.val (.int .u32 0)] : List Cl).getD j default) 40)]⟩ .nil (by kernel_rfl) (.cons au4 .nil) <| ath_n ?_
 refine aw_cv (Cv.trans (cv_ce (⟨[(0, .av (.one (lst 1 cU a))), (1, .av (.one (lst 1 cU b))), (5, .av (.one (.own 15 1 ((List.replicate ((W64 ((W64 (((a.length : Int)) + ((b.length : Int)))) + 1) : Int).toNat) (0 : Int)).length))))], [(15, .row 1 ((List.replicate ((W64 ((W64 (((a.length : Int)) + ((b.length : Int)))) + 1) : Int).toNat) (0 : Int)).length) (rowF cU (List.replicate ((W64 ((W64 (((a.length : Int)) + ((b.length : Int)))) + 1) : Int).toNat) (0 : Int))) 40)]⟩) (.cons ⟨rfl, .refl _⟩ (.cons ⟨rfl, .refl _⟩ (.cons ⟨rfl, .av (.one (.own _ _ au6))⟩ .nil))) (.cons ⟨rfl, bke_told 40 (told_rep 1 cU ((W64 ((W64 (((a.length : Int)) + ((b.length : Int)))) + 1) : Int).toNat) (0) (by kernel_rfl))⟩ .nil)) (Cv.refl _)) <| aw_seq <| aw_seq ?_
 refine aw_region eqok [] [] [] [0, 1, 5, 6] [15] [] ⟨[(0, .av (.one (lst 1 cU a))), (1, .av (.one (lst 1 cU b))), (5, .av (.one (.own 15 1 ((List.replicate ((W64 ((W64 (((a.length : Int)) + ((b.length : Int)))) + 1) : Int).toNat) (0 : Int)).length)))), (6, tI 0)], [(15, .row 1 ((List.replicate ((W64 ((W64 (((a.length : Int)) + ((b.length : Int)))) + 1) : Int).toNat) (0 : Int)).length) (rowF cU (List.replicate ((W64 ((W64 (((a.length : Int)) + ((b.length : Int)))) + 1) : Int).toNat) (0 : Int))) 40)]⟩ .nil (by kernel_rfl) .nil <| ath_n <| aw_block ?_
 refine aw_loopC (ι := Nat × List Int × Int) (fun x => ⟨[(0, .av (.one (lst 1 cU a))), (1, .av (.one (lst 1 cU b))), (5, .av (.one (.own 15 1 x.2.1.length))), (6, tI x.2.2)], [(15, .row 1 x.2.1.length (rowF cU x.2.1) 40)]⟩) (fun x => ((a.length : Int) - x.2.2).toNat < x.1 ∧ (0 ≤ x.2.2 ∧ tmJ a.length b.length x.2.2 x.2.1 0 0 ∧ 0 ≤ x.2.2 ∧ (x.2.2 ≤ ((a.length : Int)) ∨ x.2.2 = 0)) ∧ Ftimes_l0 a b x.1 x.2.1 x.2.2 = Ftimes a b) (fun x => x.1) ?_ (((a.length : Int) - 0).toNat + 1, List.replicate ((W64 ((W64 (((a.length : Int)) + ((b.length : Int)))) + 1) : Int).toNat) (0 : Int), 0) ⟨Nat.lt_succ_self _, (by show 0 ≤ 0 ∧ tmJ a.length b.length 0 (List.replicate ((W64 ((W64 (((a.length : Int)) + ((b.length : Int)))) + 1) : Int).toNat) (0 : Int)) 0 0 ∧ 0 ≤ 0 ∧ (0 ≤ ((a.length : Int)) ∨ 0 = 0); exact ⟨by decide, tm_init h0 h1, by decide, .inr rfl⟩), (by simp only [Ftimes, cond_true, cond_false])⟩
 rintro ⟨n0, v5, v6⟩ ⟨hn, hinv, hF⟩
 have hm0 : ((a.length : Int) - v6).toNat < n0 := hn; have hinv0 : 0 ≤ v6 ∧ tmJ a.length b.length v6 v5 0 0 ∧ 0 ≤ v6 ∧ (v6 ≤ ((a.length : Int)) ∨ v6 = 0) := hinv; have hF0 : Ftimes_l0 a b n0 v5 v6 = Ftimes a b := hF; clear hn hinv hF
 cases n0 with
 | zero => exact absurd hm0 (Nat.not_lt_zero _)
 | succ n0 =>
  have hv5 : v5.length = a.length + b.length + 1 := hinv0.2.1.1
  refine aw_seq <| aw_seq ?_
  refine aw_region eqok [] [] [] [0, 1, 5, 6, 19] [15] [] ⟨[(0, .av (.one (lst 1 cU a))), (1, .av (.one (lst 1 cU b))), (5, .av (.one (.own 15 1 v5.length))), (6, tI v6), (19, tB (decide ((v6 : Int) < ((a.length : Int)))))], [(15, .row 1 v5.length (rowF cU v5) 40)]⟩ .nil (by kernel_rfl) .nil <| ath_n ?_
  refine aw_cond (decide ((v6 : Int) < ((a.length : Int)))) (by kernel_rfl) (fun h1 => ?_) (fun h1 => ?_)
  ·have g1 := of_decide_eq_true h1
   refine aw_skip <| ath_n ?_
   refine aw_seq <| aw_block <| aw_seq ?_
   refine aw_region eqok [] [] [] [0, 1, 5, 6, 7] [15] [] ⟨[(0, .av (.one (lst 1 cU a))), (1, .av (.one (lst 1 cU b))), (5, .av (.one (.own 15 1 v5.length))), (6, tI v6), (7, .av (.one (.val (.int .u64 0))))], [(15, .row 1 v5.length (rowF cU v5) 40)]⟩ .nil (by kernel_rfl) .nil <| ath_n <| aw_seq ?_
   refine aw_region eqok [] [] [] [0, 1, 5, 6, 7, 8] [15] [] ⟨[(0, .av (.one (lst 1 cU a))), (1, .av (.one (lst 1 cU b))), (5, .av (.one (.own 15 1 v5.length))), (6, tI v6), (7, .av (.one (.val (.int .u64 0)))), (8, tI 0)], [(15, .row 1 v5.length (rowF cU v5) 40)]⟩ .nil (by kernel_rfl) .nil <| ath_n <| aw_block ?_
   refine aw_loopC (ι := Nat × List Int × Int × Int) (fun x => ⟨[(0, .av (.one (lst 1 cU a))), (1, .av (.one (lst 1 cU b))), (5, .av (.one (.own 15 1 x.2.1.length))), (6, tI v6), (7, .av (.one (.val (.int .u64 x.2.2.1)))), (8, tI x.2.2.2)], [(15, .row 1 x.2.1.length (rowF cU x.2.1) 40)]⟩) (fun x => ((b.length : Int) + 2 - x.2.2.2).toNat < x.1 ∧ (tmJ a.length b.length v6 x.2.1 x.2.2.1 x.2.2.2 ∧ 0 ≤ x.2.2.2 ∧ x.2.2.2 ≤ (b.length : Int) + 1 ∧ 0 ≤ x.2.2.2) ∧ Ftimes_l1 a b v5 v6 (Ftimes_l0 a b n0) x.1 x.2.1 x.2.2.1 x.2.2.2 = Ftimes a b) (fun x => x.1) ?_ (((b.length : Int) + 2 - 0).toNat + 1, v5, 0, 0) ⟨Nat.lt_succ_self _, (by show tmJ a.length b.length v6 v5 0 0 ∧ 0 ≤ 0 ∧ 0 ≤ (b.length : Int) + 1 ∧ 0 ≤ 0; exact ⟨hinv0.2.1, by decide, by omega, by decide⟩), (by rw [← hF0]; simp only [Ftimes_l0, h1, cond_true, cond_false])⟩
   rintro ⟨n1, v5', v7, v8⟩ ⟨hn, hinv, hF⟩
   have hm1 : ((b.length : Int) + 2 - v8).toNat < n1 := hn; have hinv1 : tmJ a.length b.length v6 v5' v7 v8 ∧ 0 ≤ v8 ∧ v8 ≤ (b.length : Int) + 1 ∧ 0 ≤ v8 := hinv; have hF1 : Ftimes_l1 a b v5 v6 (Ftimes_l0 a b n0) n1 v5' v7 v8 = Ftimes a b := hF; clear hn hinv hF
   cases n1 with
   | zero => exact absurd hm1 (Nat.not_lt_zero _)
   | succ n1 =>
    refine aw_seq <| aw_seq ?_
    refine aw_region eqok [] [] [] [0, 1, 5, 6, 7, 8, 29] [15] [((decide ((v8 : Int) < ((b.length : Int)))) = false) → ((decide ((v8 : Int) < ((b.length : Int)))) = false), (decide ((v8 : Int) < ((b.length : Int)))) = false → ((decide ((v8 : Int) < ((b.length : Int)))) = false)] ⟨[(0, .av (.one (lst 1 cU a))), (1, .av (.one (lst 1 cU b))), (5, .av (.one (.own 15 1 v5'.length))), (6, tI v6), (7, .av (.one (.val (.int .u64 v7)))), (8, tI v8), (29, tB (bif decide ((v8 : Int) < ((b.length : Int))) then true else decide ((0 : Int) < v7)))], [(15, .row 1 v5'.length (rowF cU v5') 40)]⟩ .nil (by kernel_rfl) (.cons id (.cons id .nil)) <| ath_n ?_
    refine aw_cond (bif decide ((v8 : Int) < ((b.length : Int))) then true else decide ((0 : Int) < v7)) (by kernel_rfl) (fun h2 => ?_) (fun h2 => ?_)
    ·refine aw_skip <| ath_n ?_
     refine aw_seq <| aw_block <| aw_seq ?_
     refine aw_region eqok [] [] [] [0, 1, 5, 6, 7, 8] [15] [0 ≤ (W64 (v6 + v8) : Int) ∧ (W64 (v6 + v8) : Int) < ((v5'.length : Nat) : Int), (W64 (v6 + v8)).toNat < v5'.length] ⟨[(0, .av (.one (lst 1 cU a))), (1, .av (.one (lst 1 cU b))), (5, .av (.one (.own 15 1 v5'.length))), (6, tI v6), (7, .av (.one (.val (.int .u64 (IntKind.u64.wrap (v7 + (IntKind.u64.wrap (v5'.getD ((W64 (v6 + v8)).toNat) default)))))))), (8, tI v8)], [(15, .row 1 v5'.length (rowF cU v5') 40)]⟩ .nil (by kernel_rfl) (.cons (by first | decide | exact tm_ix hla hlb hinv0.1 g1 hinv1.1 ⟨hinv1.2.1, hinv1.2.2.1⟩ h2 | exact tm_ix2 hla hlb hinv0.1 g1 hinv1.1 ⟨hinv1.2.1, hinv1.2.2.1⟩ h2 | (constructor <;> omega) | omega) (.cons (by first | decide | exact tm_ix hla hlb hinv0.1 g1 hinv1.1 ⟨hinv1.2.1, hinv1.2.2.1⟩ h2 | exact tm_ix2 hla hlb hinv0.1 g1 hinv1.1 ⟨hinv1.2.1, hinv1.2.2.1⟩ h2 | (constructor <;> omega) | omega) .nil)) <| ath_n ?_
     refine aw_seq <| aw_seq ?_
     refine aw_region eqok [] [] [] [0, 1, 5, 6, 7, 8, 44] [15] [] ⟨[(0, .av (.one (lst 1 cU a))), (1, .av (.one (lst 1 cU b))), (5, .av (.one (.own 15 1 v5'.length))), (6, tI v6), (7, .av (.one (.val (.int .u64 (IntKind.u64.wrap (v7 + (IntKind.u64.wrap (v5'.getD ((W64 (v6 + v8)).toNat) default)))))))), (8, tI v8), (44, tB (decide ((v8 : Int) < ((b.length : Int)))))], [(15, .row 1 v5'.length (rowF cU v5') 40)]⟩ .nil (by kernel_rfl) .nil <| ath_n ?_
     refine aw_joinC (⟨[(0, .av (.one (lst 1 cU a))), (1, .av (.one (lst 1 cU b))), (5, .av (.one (.own 15 1 v5'.length))), (6, tI v6), (7, .av (.one (.val (.int .u64 (bif decide ((v8 : Int) < ((b.length : Int))) then (IntKind.u64.wrap ((IntKind.u64.wrap (v7 + (IntKind.u64.wrap (v5'.getD ((W64 (v6 + v8)).toNat) default)))) + (IntKind.u64.wrap ((IntKind.u64.wrap (a.getD v6.toNat default)) * (IntKind.u64.wrap (b.getD v8.toNat default)))))) else (IntKind.u64.wrap (v7 + (IntKind.u64.wrap (v5'.getD ((W64 (v6 + v8)).toNat) default))))))))), (8, tI v8)], [(15, .row 1 v5'.length (rowF cU v5') 40)]⟩) ?_ ?_
     ·refine aw_cond (decide ((v8 : Int) < ((b.length : Int)))) (by kernel_rfl) (fun h3 => ?_) (fun h3 => ?_)
      ·have g3 := of_decide_eq_true h3
       refine aw_draw mixed eqok [] [] [] [0, 1, 5, 6, 7, 8] [15] [0 ≤ (v6 : Int) ∧ (v6 : Int) < ((a.length : Nat) : Int), 0 ≤ (v8 : Int) ∧ (v8 : Int) < ((b.length : Nat) : Int)] ⟨[(0, .av (.one (lst 1 cU a))), (1, .av (.one (lst 1 cU b))), (5, .av (.one (.own 15 1 v5'.length))), (6, tI v6), (7, .av (.one (.val (.int .u64 (IntKind.u64.wrap ((IntKind.u64.wrap (v7 + (IntKind.u64.wrap (v5'.getD ((W64 (v6 + v8)).toNat) default)))) + (IntKind.u64.wrap ((IntKind.u64.wrap (a.getD v6.toNat default)) * (IntKind.u64.wrap (b.getD v8.toNat default)))))))))), (8, tI v8)], [(15, .row 1 v5'.length (rowF cU v5') 40)]⟩ .nil (by kernel_rfl) (by kernel_rfl) (.cons (by first | decide | exact tm_ix hla hlb hinv0.1 g1 hinv1.1 ⟨hinv1.2.1, hinv1.2.2.1⟩ h2 | exact tm_ix2 hla hlb hinv0.1 g1 hinv1.1 ⟨hinv1.2.1, hinv1.2.2.1⟩ h2 | (constructor <;> omega) | omega) (.cons (by first | decide | exact tm_ix hla hlb hinv0.1 g1 hinv1.1 ⟨hinv1.2.1, hinv1.2.2.1⟩ h2 | exact tm_ix2 hla hlb hinv0.1 g1 hinv1.1 ⟨hinv1.2.1, hinv1.2.2.1⟩ h2 | (constructor <;> omega) | omega) .nil)) <| ath_n ?_
       refine cv_eq ?_
       first | rfl | (simp only [h3, cond_true, cond_false]; done) | (simp only [h3, cond_true, cond_false]; rfl)
      ·have g3 := of_decide_eq_false h3
       refine aw_skip <| ath_n ?_
       refine Cv.trans (cv_keep [0, 1, 5, 6, 7, 8] [15] (⟨[(0, .av (.one (lst 1 cU a))), (1, .av (.one (lst 1 cU b))), (5, .av (.one (.own 15 1 v5'.length))), (6, tI v6), (7, .av (.one (.val (.int .u64 (IntKind.u64.wrap (v7 + (IntKind.u64.wrap (v5'.getD ((W64 (v6 + v8)).toNat) default)))))))), (8, tI v8)], [(15, .row 1 v5'.length (rowF cU v5') 40)]⟩) (by kernel_rfl)) (cv_eq ?_)
       first | rfl | (simp only [h3, cond_true, cond_false]; done) | (simp only [h3, cond_true, cond_false]; rfl)
     refine aw_seq ?_
     refine aw_region eqok [] [] [] [0, 1, 5, 6, 7, 8] [15] [0 ≤ (W64 (v6 + v8) : Int) ∧ (W64 (v6 + v8) : Int) < ((v5'.length : Nat) : Int), (W64 (v6 + v8)).toNat < v5'.length] ⟨[(0, .av (.one (lst 1 cU a))), (1, .av (.one (lst 1 cU b))), (5, .av (.one (.own 15 1 v5'.length))), (6, tI v6), (7, .av (.one (.val (.int .u64 (bif decide ((v8 : Int) < ((b.length : Int))) then (IntKind.u64.wrap ((IntKind.u64.wrap (v7 + (IntKind.u64.wrap (v5'.getD ((W64 (v6 + v8)).toNat) default)))) + (IntKind.u64.wrap ((IntKind.u64.wrap (a.getD v6.toNat default)) * (IntKind.u64.wrap (b.getD v8.toNat default)))))) else (IntKind.u64.wrap (v7 + (IntKind.u64.wrap (v5'.getD ((W64 (v6 + v8)).toNat) default))))))))), (8, tI v8)], [(15, .row 1 v5'.length (fun i j => if i = (W64 (v6 + v8)).toNat ∧ 0 ≤ j ∧ j < 0 + 1 then ([.val (.int .u32 (IntKind.u32.wrap (bif decide ((v8 : Int) < ((b.length : Int))) then (IntKind.u64.wrap ((IntKind.u64.wrap (v7 + (IntKind.u64.wrap (v5'.getD ((W64 (v6 + v8)).toNat) default)))) + (IntKind.u64.wrap ((IntKind.u64.wrap (a.getD v6.toNat default)) * (IntKind.u64.wrap (b.getD v8.toNat default)))))) else (IntKind.u64.wrap (v7 + (IntKind.u64.wrap (v5'.getD ((W64 (v6 + v8)).toNat) default)))))))] : List Cl).getD (j - 0) default else (rowF cU v5') i j) 40)]⟩ .nil (by kernel_rfl) (.cons (by first | decide | exact tm_ix hla hlb hinv0.1 g1 hinv1.1 ⟨hinv1.2.1, hinv1.2.2.1⟩ h2 | exact tm_ix2 hla hlb hinv0.1 g1 hinv1.1 ⟨hinv1.2.1, hinv1.2.2.1⟩ h2 | (constructor <;> omega) | omega) (.cons (by first | decide | exact tm_ix hla hlb hinv0.1 g1 hinv1.1 ⟨hinv1.2.1, hinv1.2.2.1⟩ h2 | exact tm_ix2 hla hlb hinv0.1 g1 hinv1.1 ⟨hinv1.2.1, hinv1.2.2.1⟩ h2 | (constructor <;> omega) | omega) .nil)) <| ath_n ?_
     refine aw_cv (Cv.trans (cv_ce (⟨[(0, .av (.one (lst 1 cU a))), (1, .av (.one (lst 1 cU b))), (5, .av (.one (.own 15 1 ((v5'.set ((W64 (v6 + v8)).toNat) (IntKind.u32.wrap (bif decide ((v8 : Int) < ((b.length : Int))) then (IntKind.u64.wrap ((IntKind.u64.wrap (v7 + (IntKind.u64.wrap (v5'.getD ((W64 (v6 + v8)).toNat) default)))) + (IntKind.u64.wrap ((IntKind.u64.wrap (a.getD v6.toNat default)) * (IntKind.u64.wrap (b.getD v8.toNat default)))))) else (IntKind.u64.wrap (v7 + (IntKind.u64.wrap (v5'.getD ((W64 (v6 + v8)).toNat) default))))))).length)))), (6, tI v6), (7, .av (.one (.val (.int .u64 (bif decide ((v8 : Int) < ((b.length : Int))) then (IntKind.u64.wrap ((IntKind.u64.wrap (v7 + (IntKind.u64.wrap (v5'.getD ((W64 (v6 + v8)).toNat) default)))) + (IntKind.u64.wrap ((IntKind.u64.wrap (a.getD v6.toNat default)) * (IntKind.u64.wrap (b.getD v8.toNat default)))))) else (IntKind.u64.wrap (v7 + (IntKind.u64.wrap (v5'.getD ((W64 (v6 + v8)).toNat) default))))))))), (8, tI v8)], [(15, .row 1 ((v5'.set ((W64 (v6 + v8)).toNat) (IntKind.u32.wrap (bif decide ((v8 : Int) < ((b.length : Int))) then (IntKind.u64.wrap ((IntKind.u64.wrap (v7 + (IntKind.u64.wrap (v5'.getD ((W64 (v6 + v8)).toNat) default)))) + (IntKind.u64.wrap ((IntKind.u64.wrap (a.getD v6.toNat default)) * (IntKind.u64.wrap (b.getD v8.toNat default)))))) else (IntKind.u64.wrap (v7 + (IntKind.u64.wrap (v5'.getD ((W64 (v6 + v8)).toNat) default))))))).length) (rowF cU (v5'.set ((W64 (v6 + v8)).toNat) (IntKind.u32.wrap (bif decide ((v8 : Int) < ((b.length : Int))) then (IntKind.u64.wrap ((IntKind.u64.wrap (v7 + (IntKind.u64.wrap (v5'.getD ((W64 (v6 + v8)).toNat) default)))) + (IntKind.u64.wrap ((IntKind.u64.wrap (a.getD v6.toNat default)) * (IntKind.u64.wrap (b.getD v8.toNat default)))))) else (IntKind.u64.wrap (v7 + (IntKind.u64.wrap (v5'.getD ((W64 (v6 + v8)).toNat) default)))))))) 40)]⟩) (.cons ⟨rfl, .refl _⟩ (.cons ⟨rfl, .refl _⟩ (.cons ⟨rfl, .av (.one (.own _ _ au6))⟩ (.cons ⟨rfl, .refl _⟩ (.cons ⟨rfl, .refl _⟩ (.cons ⟨rfl, .refl _⟩ .nil)))))) (.cons ⟨rfl, bke_told 40 (told_set (l := [.val (.int .u32 (IntKind.u32.wrap (bif decide ((v8 : Int) < ((b.length : Int))) then (IntKind.u64.wrap ((IntKind.u64.wrap (v7 + (IntKind.u64.wrap (v5'.getD ((W64 (v6 + v8)).toNat) default)))) + (IntKind.u64.wrap ((IntKind.u64.wrap (a.getD v6.toNat default)) * (IntKind.u64.wrap (b.getD v8.toNat default)))))) else (IntKind.u64.wrap (v7 + (IntKind.u64.wrap (v5'.getD ((W64 (v6 + v8)).toNat) default)))))))]) (off := 0) (q := 1) (k := (W64 (v6 + v8)).toNat) (told_rfl 1 cU v5') (by first | decide | exact tm_ix hla hlb hinv0.1 g1 hinv1.1 ⟨hinv1.2.1, hinv1.2.2.1⟩ h2 | exact tm_ix2 hla hlb hinv0.1 g1 hinv1.1 ⟨hinv1.2.1, hinv1.2.2.1⟩ h2 | (constructor <;> omega) | omega) (IntKind.u32.wrap (bif decide ((v8 : Int) < ((b.length : Int))) then (IntKind.u64.wrap ((IntKind.u64.wrap (v7 + (IntKind.u64.wrap (v5'.getD ((W64 (v6 + v8)).toNat) default)))) + (IntKind.u64.wrap ((IntKind.u64.wrap (a.getD v6.toNat default)) * (IntKind.u64.wrap (b.getD v8.toNat default)))))) else (IntKind.u64.wrap (v7 + (IntKind.u64.wrap (v5'.getD ((W64 (v6 + v8)).toNat) default)))))) (tab_get (by kernel_rfl)))⟩ .nil)) (Cv.refl _)) ?_
     refine aw_region eqok [] [] [] [0, 1, 5, 6, 7, 8] [15] [0 ≤ (32 : Int)] ⟨[(0, .av (.one (lst 1 cU a))), (1, .av (.one (lst 1 cU b))), (5, .av (.one (.own 15 1 ((v5'.set ((W64 (v6 + v8)).toNat) (IntKind.u32.wrap (bif decide ((v8 : Int) < ((b.length : Int))) then (IntKind.u64.wrap ((IntKind.u64.wrap (v7 + (IntKind.u64.wrap (v5'.getD ((W64 (v6 + v8)).toNat) default)))) + (IntKind.u64.wrap ((IntKind.u64.wrap (a.getD v6.toNat default)) * (IntKind.u64.wrap (b.getD v8.toNat default)))))) else (IntKind.u64.wrap (v7 + (IntKind.u64.wrap (v5'.getD ((W64 (v6 + v8)).toNat) default))))))).length)))), (6, tI v6), (7, .av (.one (.val (.int .u64 (Int.fdiv (bif decide ((v8 : Int) < ((b.length : Int))) then (IntKind.u64.wrap ((IntKind.u64.wrap (v7 + (IntKind.u64.wrap (v5'.getD ((W64 (v6 + v8)).toNat) default)))) + (IntKind.u64.wrap ((IntKind.u64.wrap (a.getD v6.toNat default)) * (IntKind.u64.wrap (b.getD v8.toNat default)))))) else (IntKind.u64.wrap (v7 + (IntKind.u64.wrap (v5'.getD ((W64 (v6 + v8)).toNat) default))))) 4294967296))))), (8, tI v8)], [(15, .row 1 ((v5'.set ((W64 (v6 + v8)).toNat) (IntKind.u32.wrap (bif decide ((v8 : Int) < ((b.length : Int))) then (IntKind.u64.wrap ((IntKind.u64.wrap (v7 + (IntKind.u64.wrap (v5'.getD ((W64 (v6 + v8)).toNat) default)))) + (IntKind.u64.wrap ((IntKind.u64.wrap (a.getD v6.toNat default)) * (IntKind.u64.wrap (b.getD v8.toNat default)))))) else (IntKind.u64.wrap (v7 + (IntKind.u64.wrap (v5'.getD ((W64 (v6 + v8)).toNat) default))))))).length) (rowF cU (v5'.set ((W64 (v6 + v8)).toNat) (IntKind.u32.wrap (bif decide ((v8 : Int) < ((b.length : Int))) then (IntKind.u64.wrap ((IntKind.u64.wrap (v7 + (IntKind.u64.wrap (v5'.getD ((W64 (v6 + v8)).toNat) default)))) + (IntKind.u64.wrap ((IntKind.u64.wrap (a.getD v6.toNat default)) * (IntKind.u64.wrap (b.getD v8.toNat default)))))) else (IntKind.u64.wrap (v7 + (IntKind.u64.wrap (v5'.getD ((W64 (v6 + v8)).toNat) default)))))))) 40)]⟩ .nil (by kernel_rfl) (.cons (by decide) .nil) <| abl_n <| ath_n ?_
     refine aw_region eqok [] [] [] [0, 1, 5, 6, 7, 8] [15] [] ⟨[(0, .av (.one (lst 1 cU a))), (1, .av (.one (lst 1 cU b))), (5, .av (.one (.own 15 1 ((v5'.set ((W64 (v6 + v8)).toNat) (IntKind.u32.wrap (bif decide ((v8 : Int) < ((b.length : Int))) then (IntKind.u64.wrap ((IntKind.u64.wrap (v7 + (IntKind.u64.wrap (v5'.getD ((W64 (v6 + v8)).toNat) default)))) + (IntKind.u64.wrap ((IntKind.u64.wrap (a.getD v6.toNat default)) * (IntKind.u64.wrap (b.getD v8.toNat default)))))) else (IntKind.u64.wrap (v7 + (IntKind.u64.wrap (v5'.getD ((W64 (v6 + v8)).toNat) default))))))).length)))), (6, tI v6), (7, .av (.one (.val (.int .u64 (Int.fdiv (bif decide ((v8 : Int) < ((b.length : Int))) then (IntKind.u64.wrap ((IntKind.u64.wrap (v7 + (IntKind.u64.wrap (v5'.getD ((W64 (v6 + v8)).toNat) default)))) + (IntKind.u64.wrap ((IntKind.u64.wrap (a.getD v6.toNat default)) * (IntKind.u64.wrap (b.getD v8.toNat default)))))) else (IntKind.u64.wrap (v7 + (IntKind.u64.wrap (v5'.getD ((W64 (v6 + v8)).toNat) default))))) 4294967296))))), (8, tI (W64 (v8 + 1)))], [(15, .row 1 ((v5'.set ((W64 (v6 + v8)).toNat) (IntKind.u32.wrap (bif decide ((v8 : Int) < ((b.length : Int))) then (IntKind.u64.wrap ((IntKind.u64.wrap (v7 + (IntKind.u64.wrap (v5'.getD ((W64 (v6 + v8)).toNat) default)))) + (IntKind.u64.wrap ((IntKind.u64.wrap (a.getD v6.toNat default)) * (IntKind.u64.wrap (b.getD v8.toNat default)))))) else (IntKind.u64.wrap (v7 + (IntKind.u64.wrap (v5'.getD ((W64 (v6 + v8)).toNat) default))))))).length) (rowF cU (v5'.set ((W64 (v6 + v8)).toNat) (IntKind.u32.wrap (bif decide ((v8 : Int) < ((b.length : Int))) then (IntKind.u64.wrap ((IntKind.u64.wrap (v7 + (IntKind.u64.wrap (v5'.getD ((W64 (v6 + v8)).toNat) default)))) + (IntKind.u64.wrap ((IntKind.u64.wrap (a.getD v6.toNat default)) * (IntKind.u64.wrap (b.getD v8.toNat default)))))) else (IntKind.u64.wrap (v7 + (IntKind.u64.wrap (v5'.getD ((W64 (v6 + v8)).toNat) default)))))))) 40)]⟩ .nil (by kernel_rfl) .nil ?_
     (try rw [(show W64 (v8 + 1) = v8 + 1 from W64_id (by omega) (by omega))])
     refine ath_n ?_
     refine ⟨(n1, v5'.set ((W64 (v6 + v8)).toNat) (IntKind.u32.wrap (bif decide ((v8 : Int) < ((b.length : Int))) then (IntKind.u64.wrap ((IntKind.u64.wrap (v7 + (IntKind.u64.wrap (v5'.getD ((W64 (v6 + v8)).toNat) default)))) + (IntKind.u64.wrap ((IntKind.u64.wrap (a.getD v6.toNat default)) * (IntKind.u64.wrap (b.getD v8.toNat default)))))) else (IntKind.u64.wrap (v7 + (IntKind.u64.wrap (v5'.getD ((W64 (v6 + v8)).toNat) default)))))), Int.fdiv (bif decide ((v8 : Int) < ((b.length : Int))) then (IntKind.u64.wrap ((IntKind.u64.wrap (v7 + (IntKind.u64.wrap (v5'.getD ((W64 (v6 + v8)).toNat) default)))) + (IntKind.u64.wrap ((IntKind.u64.wrap (a.getD v6.toNat default)) * (IntKind.u64.wrap (b.getD v8.toNat default)))))) else (IntKind.u64.wrap (v7 + (IntKind.u64.wrap (v5'.getD ((W64 (v6 + v8)).toNat) default))))) 4294967296, v8 + 1), ⟨?_, ?_, (by rw [← hF1]; simp only [Ftimes_l1, h2, cond_true, cond_false])⟩, Nat.lt_succ_self _, cv_eq (by kernel_rfl)⟩
     ·show ((b.length : Int) + 2 - (v8 + 1)).toNat < n1; omega
     ·exact (by show tmJ a.length b.length v6 (v5'.set ((W64 (v6 + v8)).toNat) (IntKind.u32.wrap (bif decide ((v8 : Int) < ((b.length : Int))) then (IntKind.u64.wrap ((IntKind.u64.wrap (v7 + (IntKind.u64.wrap (v5'.getD ((W64 (v6 + v8)).toNat) default)))) + (IntKind.u64.wrap ((IntKind.u64.wrap (a.getD v6.toNat default)) * (IntKind.u64.wrap (b.getD v8.toNat default)))))) else (IntKind.u64.wrap (v7 + (IntKind.u64.wrap (v5'.getD ((W64 (v6 + v8)).toNat) default))))))) (Int.fdiv (bif decide ((v8 : Int) < ((b.length : Int))) then (IntKind.u64.wrap ((IntKind.u64.wrap (v7 + (IntKind.u64.wrap (v5'.getD ((W64 (v6 + v8)).toNat) default)))) + (IntKind.u64.wrap ((IntKind.u64.wrap (a.getD v6.toNat default)) * (IntKind.u64.wrap (b.getD v8.toNat default)))))) else (IntKind.u64.wrap (v7 + (IntKind.u64.wrap (v5'.getD ((W64 (v6 + v8)).toNat) default))))) 4294967296) (v8 + 1) ∧ 0 ≤ (v8 + 1) ∧ (v8 + 1) ≤ (b.length : Int) + 1 ∧ 0 ≤ (v8 + 1); (have ts := tm_step hla hlb da db hinv0.1 g1 hinv1.1 ⟨hinv1.2.1, hinv1.2.2.1⟩ h2; exact ⟨ts.1, ts.2.1, ts.2.2, ts.2.1⟩))
    ·refine aw_exit <| ath_e ?_
     refine ath_e <| abl_hit ?_
     refine abl_n <| ath_n ?_
     refine aw_region eqok [] [] [] [0, 1, 5, 6] [15] [] ⟨[(0, .av (.one (lst 1 cU a))), (1, .av (.one (lst 1 cU b))), (5, .av (.one (.own 15 1 v5'.length))), (6, tI (W64 (v6 + 1)))], [(15, .row 1 v5'.length (rowF cU v5') 40)]⟩ .nil (by kernel_rfl) .nil ?_
     (try rw [(show W64 (v6 + 1) = v6 + 1 from W64_id (by omega) au7)])
     refine ath_n ?_
     refine ⟨(n0, v5', v6 + 1), ⟨?_, ?_, (by rw [← hF1]; simp only [Ftimes_l1, h2, cond_true, cond_false])⟩, Nat.lt_succ_self _, cv_eq (by kernel_rfl)⟩
     ·show ((a.length : Int) - (v6 + 1)).toNat < n0; omega
     ·exact (by show 0 ≤ (v6 + 1) ∧ tmJ a.length b.length (v6 + 1) v5' 0 0 ∧ 0 ≤ (v6 + 1) ∧ ((v6 + 1) ≤ ((a.length : Int)) ∨ (v6 + 1) = 0); exact ⟨by omega, tm_done hinv1.1 ⟨hinv1.2.1, hinv1.2.2.1⟩, by omega, .inl (by omega)⟩)
  ·have g1 := of_decide_eq_false h1
   refine aw_exit <| ath_e ?_
   refine ath_e <| abl_hit ?_
   refine ath_n <| aw_seq ?_
   refine aw_cv (Cv.trans (cv_fz (⟨[(0, .av (.one (lst 1 cU a))), (1, .av (.one (lst 1 cU b))), (5, .av (.one (lst 1 cU v5))), (6, tI v6), (19, tB (decide ((v6 : Int) < ((a.length : Int)))))], []⟩) 15 1 v5.length (rowF cU v5) 40 (K := none) (fun k x h => by cases h) (by kernel_rfl) (by kernel_rfl) (.cons ⟨rfl, rfl⟩ .nil) (by kernel_rfl)) (Cv.refl _)) ?_
   refine aw_region eqok [] [] [(68, ctrim v5)] [4] [] [Same (ctrim v5).2.1] ⟨[(4, .av (.one (lst 1 cU (Ftrim v5))))], []⟩ (.cons (oktrim v5 au0) .nil) (by kernel_rfl) (.cons rfl .nil) <| ath_n <| aw_ret ?_
   exact ⟨_, Cv.refl _, .inl rfl, .av (.one (lst 1 cU (Ftrim v5))), by kernel_rfl, tve_eq (by rw [← hF0]; first | (simp only [Ftimes_l0, h1, cond_true, cond_false]; done) | (simp only [Ftimes_l0, h1, cond_true, cond_false]; rfl))⟩
theorem oktimes (a : (List Int)) (b : (List Int)) (h0 : (a.length : Int) ≤ 100000) (h1 : (b.length : Int) ≤ 100000) (da : (∀ j, 0 ≤ a.getD j 0 ∧ a.getD j 0 < 4294967296)) (db : (∀ j, 0 ≤ b.getD j 0 ∧ b.getD j 0 < 4294967296)) : CallOk Try.prog (ctimes a b).1 (ctimes a b).2.1 (ctimes a b).2.2 := callOk_pure (fun _ _ => by kernel_rfl) fun _ => ptimes a b h0 h1 da db
open Go
def V : List Int → Int
 | [] => 0
 | d :: t => d + 4294967296 * V t
theorem pw_succ (n : Nat) : (4294967296 : Int) ^ (n + 1) = 4294967296 * 4294967296 ^ n := by rw [Int.pow_succ, Int.mul_comm]
theorem pw_pos (n : Nat) : (0 : Int) < 4294967296 ^ n := Int.pow_pos (by decide)
theorem V_set : ∀ (l : List Int) (k : Nat) (x : Int), k < l.length → V (l.set k x) = V l + (x - l.getD k 0) * 4294967296 ^ k
 | [], k, x, h => by simp at h
 | d :: t, 0, x, h => by
  show x + 4294967296 * V t = d + 4294967296 * V t + (x - d) * 4294967296 ^ 0
  rw [Int.pow_zero]; omega
 | d :: t, k + 1, x, h => by
  have ih := V_set t k x (by simpa using h)
  show d + 4294967296 * V (t.set k x) = d + 4294967296 * V t + (x - t.getD k 0) * 4294967296 ^ (k + 1)
  rw [ih, pw_succ]
  generalize V t = v; generalize (x - t.getD k 0) = y; generalize (4294967296 : Int) ^ k = P
  grind
theorem V_take : ∀ (l : List Int) (k : Nat), V (l.take (k + 1)) = V (l.take k) + l.getD k 0 * 4294967296 ^ k
 | [], k => by
  have e : ([] : List Int).getD k 0 = 0 := rfl
  rw [e, List.take_nil, List.take_nil, Int.zero_mul, Int.add_zero]
 | d :: t, 0 => by
  show d + 4294967296 * 0 = 0 + d * 4294967296 ^ 0
  rw [Int.pow_zero]; omega
 | d :: t, k + 1 => by
  have ih := V_take t k
  show d + 4294967296 * V (t.take (k + 1)) = d + 4294967296 * V (t.take k) + t.getD k 0 * 4294967296 ^ (k + 1)
  rw [ih, pw_succ]
  generalize V (t.take k) = v; generalize t.getD k 0 = y; generalize (4294967296 : Int) ^ k = P
  grind
theorem V_zero (n : Nat) : V (List.replicate n (0 : Int)) = 0 := by
 induction n with
 | zero => rfl
 | succ n ih => rw [List.replicate_succ]; show 0 + 4294967296 * V _ = 0; rw [ih]; rfl
def TrimOf (d t : List Int) : Prop :=
 t.length ≤ d.length ∧ (∀ j, j < t.length → t.getD j 0 = d.getD j 0) ∧ V t = V d ∧ (t.length = 0 ∨ t.getD (t.length - 1) 0 ≠ 0)
theorem getD_take (l : List Int) (m j : Nat) (h : j < m) : (l.take m).getD j 0 = l.getD j 0 := by
 simp only [List.getD_eq_getElem?_getD, List.getElem?_take, if_pos h]
theorem trim_of (d : List Int) (hd : (d.length : Int) ≤ 1000000) : TrimOf d (Ftrim d) := by
 have h : ∀ (n m : Nat), m ≤ d.length → m < n → V (d.take m) = V d → TrimOf d (Ftrim_l0 d n (d.take m)) := by
  intro n
  induction n with
  | zero => intro m _ h _; omega
  | succ n ih =>
   intro m hm hn hv
   have hl : (d.take m).length = m := by rw [List.length_take]; omega
   have base : (m = 0 ∨ (d.take m).getD (m - 1) 0 ≠ 0) → TrimOf d (d.take m) := fun hz =>
    ⟨by omega, fun j hj => getD_take _ _ _ (by omega), hv, by rw [hl]; exact hz⟩
   unfold Ftrim_l0
   rw [hl]
   by_cases h0 : (0 : Int) < (m : Int)
   ·rw [decide_eq_true h0]
    simp only [cond_true]
    have e1 : (((m : Int)) - 1).toNat = m - 1 := by omega
    have e2 : (W64 (((m : Int)) - 1) : Int).toNat = m - 1 := by rw [W64_id (by omega) (by omega)]; omega
    rw [e1, e2]
    have ez : ((d.take m).getD (m - 1) (default : Int)) = (d.take m).getD (m - 1) 0 := rfl
    rw [ez]
    by_cases hq : (d.take m).getD (m - 1) 0 = 0
    ·rw [decide_eq_true hq]
     simp only [cond_true]
     rw [List.take_take, Nat.min_eq_left (by omega)]
     refine ih (m - 1) (by omega) (by omega) ?_
     have := V_take d (m - 1)
     rw [show m - 1 + 1 = m by omega, hv, ← getD_take d m (m - 1) (by omega), hq, Int.zero_mul, Int.add_zero] at this
     exact this.symm
    ·rw [decide_eq_false hq]
     exact base (.inr hq)
   ·rw [decide_eq_false h0]
    exact base (.inl (by omega))
 have := h (d.length + 1) d.length (Nat.le_refl _) (Nat.lt_succ_self _) (by rw [List.take_length])
 rw [List.take_length] at this
 exact this
theorem times_in {a b : List Int} (h0 : (a.length : Int) ≤ 100000) (h1 : (b.length : Int) ≤ 100000) (da : ∀ j, 0 ≤ a.getD j 0 ∧ a.getD j 0 < 4294967296) (db : ∀ j, 0 ≤ b.getD j 0 ∧ b.getD j 0 < 4294967296)
  (v5 : List Int) (i : Nat) (g1 : i < a.length) (K0 : List Int → Int → List Int) (T : Int) (Q : List Int → Prop)
  (hK : ∀ out, tmJ a.length b.length ((i : Int) + 1) out 0 0 → V out = T + a.getD i 0 * 4294967296 ^ i * V b → Q (K0 out ((i : Int) + 1))) :
  ∀ (n : Nat) (out : List Int) (c : Int) (k : Nat), ((b.length : Int) + 2 - k).toNat < n → k ≤ b.length + 1 → tmJ a.length b.length i out c k →
   V out + c * (4294967296 ^ i * 4294967296 ^ k) = T + a.getD i 0 * 4294967296 ^ i * V (b.take k) → Q (Ftimes_l1 a b v5 i K0 n out c k) := by
 intro n
 induction n with
 | zero => intro _ _ _ h; omega
 | succ n ih =>
  intro out c k hn hk hJ hv
  unfold Ftimes_l1
  cases hc : (bif decide ((k : Int) < (b.length : Int)) then true else decide ((0 : Int) < c))
  ·simp only [cond_false]
   have hkb : ¬ ((k : Int) < (b.length : Int)) := by
    intro q; rw [decide_eq_true q] at hc; cases hc
   rw [decide_eq_false hkb] at hc
   have hc0 : ¬ (0 : Int) < c := of_decide_eq_false hc
   have : c = 0 := by have := hJ.2.2.1; omega
   subst this
   refine hK out (tm_done hJ ⟨by omega, by omega⟩) ?_
   rw [Int.zero_mul, Int.add_zero, List.take_of_length_le (by omega)] at hv
   exact hv
  ·simp only [cond_true]
   have hJ' := hJ
   obtain ⟨j1, j2, j3, j4, j5⟩ := hJ'
   have hk2 := tm_k hJ ⟨by omega, by omega⟩ hc
   have ts := tm_step h0 h1 da db (by omega) (by omega) hJ ⟨by omega, by omega⟩ hc
   have tx := tm_x (lb := b.length) (k := (k : Int)) j3 (j2 (i + k)) (da i) (db k)
   have eW : (W64 ((i : Int) + (k : Int))).toNat = i + k := by rw [W64_id (by omega) (by omega)]; omega
   have eW1 : W64 ((k : Int) + 1) = ((k + 1 : Nat) : Int) := by rw [W64_id (by omega) (by omega)]; omega
   have hX : tmX b.length c k (out.getD (i + k) 0) (a.getD i 0) (b.getD k 0) = c + out.getD (i + k) 0 + a.getD i 0 * b.getD k 0 := by
    rw [tx.1]
    split
    ·rfl
    ·next hq =>
     have : b.getD k 0 = 0 := by rw [List.getD_eq_getElem?_getD, List.getElem?_eq_none (by omega)]; rfl
     rw [this, Int.mul_zero, Int.add_zero]
   simp only [← tmX_eq, Int.toNat_natCast] at *
   rw [eW] at ts ⊢
   have eW2 : ((k : Int) + 1) = ((k + 1 : Nat) : Int) := by omega
   rw [eW2] at ts ⊢
   have ed : ∀ (l : List Int) (j : Nat), l.getD j (default : Int) = l.getD j 0 := fun _ _ => rfl
   simp only [ed] at *
   generalize hXX : tmX b.length c k (out.getD (i + k) 0) (a.getD i 0) (b.getD k 0) = X at *
   have hd : Int.fdiv X 4294967296 = X / 4294967296 := Int.fdiv_eq_ediv_of_nonneg _ (by decide)
   refine ih _ _ (k + 1) (by omega) (by omega) (by exact ts.1) ?_
   rw [V_set _ _ _ (by omega), V_take, hd, IntKind.wrap_u32]
   have hm : X % 4294967296 = X - 4294967296 * (X / 4294967296) := by omega
   rw [hm, pw_succ, Int.pow_add]
   generalize X / 4294967296 = Y at *
   generalize V out = vo at *; generalize V (b.take k) = vb at *; generalize (4294967296 : Int) ^ i = P at *; generalize (4294967296 : Int) ^ k = R at *
   generalize out.getD (i + k) 0 = o at *; generalize a.getD i 0 = x at *; generalize b.getD k 0 = y at *
   subst hX
   clear ts tx hm hd hXX j1 j2 j3 j4 j5 da db ih hK hJ
   grind
def TimesOf (a b t : List Int) : Prop :=
 V t = V a * V b ∧ t.length ≤ a.length + b.length + 1 ∧ (∀ j, 0 ≤ t.getD j 0 ∧ t.getD j 0 < 4294967296) ∧ (t.length = 0 ∨ t.getD (t.length - 1) 0 ≠ 0)
theorem times_of {a b : List Int} (h0 : (a.length : Int) ≤ 100000) (h1 : (b.length : Int) ≤ 100000) (da : ∀ j, 0 ≤ a.getD j 0 ∧ a.getD j 0 < 4294967296) (db : ∀ j, 0 ≤ b.getD j 0 ∧ b.getD j 0 < 4294967296) : TimesOf a b (Ftimes a b) := by
 have h : ∀ (n i : Nat) (out : List Int), ((a.length : Int) - i).toNat < n → i ≤ a.length → tmJ a.length b.length i out 0 0 → V out = V (a.take i) * V b → TimesOf a b (Ftimes_l0 a b n out i) := by
  intro n
  induction n with
  | zero => intro _ _ h; omega
  | succ n ih =>
   intro i out hn hi hJ hv
   unfold Ftimes_l0
   by_cases q : (i : Int) < (a.length : Int)
   ·rw [decide_eq_true q]
    simp only [cond_true]
    refine times_in h0 h1 da db out i (by omega) _ (V (a.take i) * V b) _ (fun o2 hJ2 hv2 => ?_) _ out 0 0 (by omega) (by omega) (by exact hJ) ?_
    ·refine ih (i + 1) o2 (by omega) (by omega) (by exact hJ2) ?_
     rw [hv2, V_take]
     grind
    ·rw [hv]; show _ + 0 * _ = _ + _ * V []
     show _ = _ + _ * 0
     rw [Int.zero_mul, Int.mul_zero]
   ·rw [decide_eq_false q]
    simp only [cond_false]
    have hJ' := hJ
    obtain ⟨j1, j2, j3, j4, j5⟩ := hJ'
    obtain ⟨t1, t2, t3, t4⟩ := trim_of out (by omega)
    refine ⟨by rw [t3, hv, List.take_of_length_le (by omega)], by omega, fun j => ?_, t4⟩
    by_cases hj : j < (Ftrim out).length
    ·rw [t2 j hj]; exact j2 j
    ·rw [List.getD_eq_getElem?_getD, List.getElem?_eq_none (by omega)]; decide
 unfold Ftimes
 refine h _ 0 _ (by omega) (by omega) (tm_init h0 h1) ?_
 rw [V_zero]; show 0 = 0 * _; rw [Int.zero_mul]
theorem times_len {a b : List Int} (h0 : (a.length : Int) ≤ 100000) (h1 : (b.length : Int) ≤ 100000) (da : ∀ j, 0 ≤ a.getD j 0 ∧ a.getD j 0 < 4294967296) (db : ∀ j, 0 ≤ b.getD j 0 ∧ b.getD j 0 < 4294967296) : ((Ftimes a b).length : Int) ≤ 1000000 := by
 have := (times_of h0 h1 da db).2.1
 omega
def wMulN_0 (p1 : TNum) (p2 : TNum) : Bool := bif !(FRightN p1) then true else !(FRightN p2)
def wMulN_1 (p1 : TNum) (p2 : TNum) : TNum := (FmadeN (!(p1.Neg == p2.Neg)) (Ftimes p1.D p2.D)).1
def FMulN (p1 : TNum) (p2 : TNum) : (TNum × Bool) := bif wMulN_0 p1 p2 then ((TNum.mk false [], false)) else ((wMulN_1 p1 p2, (FmadeN (!(p1.Neg == p2.Neg)) (Ftimes p1.D p2.D)).2))
def cMulN (p1 : TNum) (p2 : TNum) : FuncId × List Av × Ef := (92, [.agg (TNum.c p1), .agg (TNum.c p2)], .val [] (.tup [.agg (TNum.c ((FMulN p1 p2).1)), .one (.b ((FMulN p1 p2).2))]))
theorem pMulN (p1 : TNum) (p2 : TNum) (h0 : (p1.D.length : Int) ≤ 100000) (h1 : (p2.D.length : Int) ≤ 100000) (da : (∀ j, 0 ≤ p1.D.getD j 0 ∧ p1.D.getD j 0 < 4294967296)) (db : (∀ j, 0 ≤ p2.D.getD j 0 ∧ p2.D.getD j 0 < 4294967296)) : Pure Try.prog 92 (cMulN p1 p2).2.1 (.tup [.agg (TNum.c ((FMulN p1 p2).1)), .one (.b ((FMulN p1 p2).2))]) := by
 refine pure_of_awF Try.func92 rfl (by kernel_rfl) (by kernel_rfl) fun W0 M0 => ?_
 have htl := times_len h0 h1 da db
 refine aw_seq ?_
 refine aw_region eqok [] [] [] [2, 3, 4] [2, 3, 4] [] ⟨[(2, tP 2 0), (3, tP 3 0), (4, tP 4 0)], [(2, .cells (TNum.c p1) 118), (3, .cells (TNum.c p2) 118), (4, .cells [.b false, .val (.slice none 0 0)] 118)]⟩ .nil (by kernel_rfl) .nil <| ath_n ?_
 refine aw_seq <| aw_seq ?_
 refine aw_region eqok [] [] [(7, cRightN p1), (11, cRightN p2)] [2, 3, 4, 13] [2, 3, 4] [Same (cRightN p1).2.1, ((!(FRightN p1)) = false) → ((!(FRightN p1)) = false), ((!(FRightN p1)) = false) → (Same (cRightN p2).2.1), ((!(FRightN p1)) = false) → ((!(FRightN p1)) = false), (!(FRightN p1)) = false → ((!(FRightN p1)) = false)] ⟨[(2, tP 2 0), (3, tP 3 0), (4, tP 4 0), (13, tB (wMulN_0 p1 p2))], [(2, .cells (TNum.c p1) 118), (3, .cells (TNum.c p2) 118), (4, .cells [.b false, .val (.slice none 0 0)] 118)]⟩ (.cons (okRightN p1) (.cons (okRightN p2) .nil)) (by kernel_rfl) (.cons rfl (.cons id (.cons (fun _ => rfl) (.cons id (.cons id .nil))))) <| ath_n ?_
 refine aw_cond (wMulN_0 p1 p2) (by kernel_rfl) (fun h1 => ?_) (fun h1 => ?_)
 ·refine aw_seq ?_
  refine aw_region eqok [] [] [] [4, 5] [4] [] ⟨[(4, tP 4 0), (5, tB false)], [(4, .cells [.b false, .val (.slice none 0 0)] 118)]⟩ .nil (by kernel_rfl) .nil <| ath_n ?_
  refine aw_ret <| ath_r ?_
  exact ⟨_, Cv.refl _, .inl rfl, .tup [.agg [.b false, .val (.slice none 0 0)], .one (.b false)], by kernel_rfl, tve_of (y := .tup [.agg [.b false, lst 1 cU []], .one (.b false)]) (.tup (.cons (.agg (.cons (.refl _) (.cons (cle_nil 1 cU) .nil))) (.cons (AvE.refl _) .nil))) (by first | (simp only [FMulN, h1, cond_true, cond_false]; done) | (simp only [FMulN, h1, cond_true, cond_false]; rfl))⟩
 ·refine aw_skip <| ath_n <| aw_seq ?_
  refine aw_draw mixed eqok [] [] [(24, ctimes p1.D p2.D), (25, cmadeN (!(p1.Neg == p2.Neg)) (Ftimes p1.D p2.D))] [4, 5] [4] [Same (ctimes p1.D p2.D).2.1, Same (cmadeN (!(p1.Neg == p2.Neg)) (Ftimes p1.D p2.D)).2.1] ⟨[(4, tP 4 0), (5, tB ((FmadeN (!(p1.Neg == p2.Neg)) (Ftimes p1.D p2.D)).2))], [(4, .cells (TNum.c (wMulN_1 p1 p2)) 118)]⟩ (.cons (oktimes p1.D p2.D au0 au0 au0 au0) (.cons (okmadeN (!(p1.Neg == p2.Neg)) (Ftimes p1.D p2.D) au0) .nil)) (by kernel_rfl) (by kernel_rfl) (.cons rfl (.cons rfl .nil)) <| ath_n <| aw_ret ?_
  exact ⟨_, Cv.refl _, .inl rfl, .tup [.agg (TNum.c (wMulN_1 p1 p2)), .one (.b ((FmadeN (!(p1.Neg == p2.Neg)) (Ftimes p1.D p2.D)).2))], by kernel_rfl, tve_eq (by first | (simp only [FMulN, h1, cond_true, cond_false]; done) | (simp only [FMulN, h1, cond_true, cond_false]; rfl))⟩
theorem okMulN (p1 : TNum) (p2 : TNum) (h0 : (p1.D.length : Int) ≤ 100000) (h1 : (p2.D.length : Int) ≤ 100000) (da : (∀ j, 0 ≤ p1.D.getD j 0 ∧ p1.D.getD j 0 < 4294967296)) (db : (∀ j, 0 ≤ p2.D.getD j 0 ∧ p2.D.getD j 0 < 4294967296)) : CallOk Try.prog (cMulN p1 p2).1 (cMulN p1 p2).2.1 (cMulN p1 p2).2.2 := callOk_pure (fun _ _ => by kernel_rfl) fun _ => pMulN p1 p2 h0 h1 da db
def FcompareN_l0 (p1 : (List Int)) (p2 : (List Int)) : Nat → Int → Int
 | 0, _ => default
 | n0 + 1, k => bif decide ((0 : Int) ≤ k) then (bif decide (((p1.getD k.toNat default) : Int) < (p2.getD k.toNat default)) then ((-1)) else (bif decide (((p2.getD k.toNat default) : Int) < (p1.getD k.toNat default)) then (1) else ((FcompareN_l0 p1 p2 n0) (k - 1)))) else (0)
def FcompareN (p1 : (List Int)) (p2 : (List Int)) : Int := bif !decide ((((p1.length : Int)) : Int) = ((p2.length : Int))) then (bif decide ((((p1.length : Int)) : Int) < ((p2.length : Int))) then ((-1)) else (1)) else (FcompareN_l0 p1 p2 (((W64 (((p1.length : Int)) - 1)) + 1).toNat + 1) (W64 (((p1.length : Int)) - 1)))
def ccompareN (p1 : (List Int)) (p2 : (List Int)) : FuncId × List Av × Ef := (110, [.one (lst 1 cU p1), .one (lst 1 cU p2)], .val [] (.av (.one (.i (FcompareN p1 p2)))))
theorem pcompareN (p1 : (List Int)) (p2 : (List Int)) (h0 : (p1.length : Int) ≤ 1000000) (h1 : (p2.length : Int) ≤ 1000000) : Pure Try.prog 110 (ccompareN p1 p2).2.1 (.av (.one (.i (FcompareN p1 p2)))) := by
 refine pure_of_awF Try.func110 rfl (by kernel_rfl) (by kernel_rfl) fun W0 M0 => ?_
 refine aw_seq ?_
 refine aw_region eqok [] [] [] [0, 1] [] [] ⟨[(0, .av (.one (lst 1 cU p1))), (1, .av (.one (lst 1 cU p2)))], []⟩ .nil (by kernel_rfl) .nil <| ath_n ?_
 refine aw_seq <| aw_seq ?_
 refine aw_region eqok [] [] [] [0, 1, 10] [] [] ⟨[(0, .av (.one (lst 1 cU p1))), (1, .av (.one (lst 1 cU p2))), (10, tB (!decide ((((p1.length : Int)) : Int) = ((p2.length : Int)))))], []⟩ .nil (by kernel_rfl) .nil <| ath_n ?_
 refine aw_cond (!decide ((((p1.length : Int)) : Int) = ((p2.length : Int)))) (by kernel_rfl) (fun h1 => ?_) (fun h1 => ?_)
 ·have g1 := of_not_decide_true h1
  refine aw_seq <| aw_seq ?_
  refine aw_region eqok [] [] [] [15] [] [] ⟨[(15, tB (decide ((((p1.length : Int)) : Int) < ((p2.length : Int)))))], []⟩ .nil (by kernel_rfl) .nil <| ath_n ?_
  refine aw_cond (decide ((((p1.length : Int)) : Int) < ((p2.length : Int)))) (by kernel_rfl) (fun h2 => ?_) (fun h2 => ?_)
  ·have g2 := of_decide_eq_true h2
   refine aw_seq ?_
   refine aw_region eqok [] [] [] [4] [] [] ⟨[(4, tI ((-1)))], []⟩ .nil (by kernel_rfl) .nil <| ath_n ?_
   refine aw_ret <| ath_r <| ath_r ?_
   exact ⟨_, Cv.refl _, .inl rfl, .av (.one (.i ((-1)))), by kernel_rfl, tve_eq (by first | (simp only [FcompareN, h1, h2, cond_true, cond_false]; done) | (simp only [FcompareN, h1, h2, cond_true, cond_false]; rfl))⟩
  ·have g2 := of_decide_eq_false h2
   refine aw_skip <| ath_n <| aw_seq ?_
   refine aw_region eqok [] [] [] [4] [] [] ⟨[(4, tI 1)], []⟩ .nil (by kernel_rfl) .nil <| ath_n ?_
   refine aw_ret <| ath_r ?_
   exact ⟨_, Cv.refl _, .inl rfl, .av (.one (.i 1)), by kernel_rfl, tve_eq (by first | (simp only [FcompareN, h1, h2, cond_true, cond_false]; done) | (simp only [FcompareN, h1, h2, cond_true, cond_false]; rfl))⟩
 ·have g1 := of_not_decide_false h1
  refine aw_skip <| ath_n ?_
  refine aw_seq <| aw_seq ?_
  refine aw_region eqok [] [] [] [0, 1, 5] [] [] ⟨[(0, .av (.one (lst 1 cU p1))), (1, .av (.one (lst 1 cU p2))), (5, tI (W64 (((p1.length : Int)) - 1)))], []⟩ .nil (by kernel_rfl) .nil <| ath_n <| aw_block ?_
  refine aw_loopC (ι := Nat × Int) (fun x => ⟨[(0, .av (.one (lst 1 cU p1))), (1, .av (.one (lst 1 cU p2))), (5, tI x.2)], []⟩) (fun x => (x.2 + 1).toNat < x.1 ∧ (-1 ≤ x.2 ∧ x.2 < (p1.length : Int)) ∧ FcompareN_l0 p1 p2 x.1 x.2 = FcompareN p1 p2) (fun x => x.1) ?_ (((W64 (((p1.length : Int)) - 1)) + 1).toNat + 1, W64 (((p1.length : Int)) - 1)) ⟨Nat.lt_succ_self _, (by show -1 ≤ (W64 (((p1.length : Int)) - 1)) ∧ (W64 (((p1.length : Int)) - 1)) < (p1.length : Int); exact at2), (by simp only [FcompareN, h1, cond_true, cond_false])⟩
  rintro ⟨n0, k⟩ ⟨hn, hinv, hF⟩
  have hm0 : (k + 1).toNat < n0 := hn; have hinv0 : -1 ≤ k ∧ k < (p1.length : Int) := hinv; have hF0 : FcompareN_l0 p1 p2 n0 k = FcompareN p1 p2 := hF; clear hn hinv hF
  cases n0 with
  | zero => exact absurd hm0 (Nat.not_lt_zero _)
  | succ n0 =>
   refine aw_seq <| aw_seq ?_
   refine aw_region eqok [] [] [] [0, 1, 5, 20] [] [] ⟨[(0, .av (.one (lst 1 cU p1))), (1, .av (.one (lst 1 cU p2))), (5, tI k), (20, tB (decide ((0 : Int) ≤ k)))], []⟩ .nil (by kernel_rfl) .nil <| ath_n ?_
   refine aw_cond (decide ((0 : Int) ≤ k)) (by kernel_rfl) (fun h2 => ?_) (fun h2 => ?_)
   ·have g2 := of_decide_eq_true h2
    refine aw_skip <| ath_n ?_
    refine aw_seq <| aw_block ?_
    refine aw_seq <| aw_seq ?_
    refine aw_draw mixed eqok [] [] [] [0, 1, 5, 31] [] [0 ≤ (k : Int) ∧ (k : Int) < ((p1.length : Nat) : Int), 0 ≤ (k : Int) ∧ (k : Int) < ((p2.length : Nat) : Int)] ⟨[(0, .av (.one (lst 1 cU p1))), (1, .av (.one (lst 1 cU p2))), (5, tI k), (31, tB (decide (((p1.getD k.toNat default) : Int) < (p2.getD k.toNat default))))], []⟩ .nil (by kernel_rfl) (by kernel_rfl) (.cons au1 (.cons au1 .nil)) <| ath_n ?_
    refine aw_cond (decide (((p1.getD k.toNat default) : Int) < (p2.getD k.toNat default))) (by kernel_rfl) (fun h3 => ?_) (fun h3 => ?_)
    ·have g3 := of_decide_eq_true h3
     refine aw_seq ?_
     refine aw_region eqok [] [] [] [4] [] [] ⟨[(4, tI ((-1)))], []⟩ .nil (by kernel_rfl) .nil <| ath_n ?_
     refine aw_ret <| ath_r ?_
     refine abl_r <| ath_r ?_
     refine ath_r <| abl_r <| ath_r ?_
     exact ⟨_, Cv.refl _, .inl rfl, .av (.one (.i ((-1)))), by kernel_rfl, tve_eq (by rw [← hF0]; first | (simp only [FcompareN_l0, h2, h3, cond_true, cond_false]; done) | (simp only [FcompareN_l0, h2, h3, cond_true, cond_false]; rfl))⟩
    ·have g3 := of_decide_eq_false h3
     refine aw_skip <| ath_n <| aw_seq ?_
     refine aw_draw mixed eqok [] [] [] [0, 1, 5, 40] [] [0 ≤ (k : Int) ∧ (k : Int) < ((p1.length : Nat) : Int), 0 ≤ (k : Int) ∧ (k : Int) < ((p2.length : Nat) : Int)] ⟨[(0, .av (.one (lst 1 cU p1))), (1, .av (.one (lst 1 cU p2))), (5, tI k), (40, tB (decide (((p2.getD k.toNat default) : Int) < (p1.getD k.toNat default))))], []⟩ .nil (by kernel_rfl) (by kernel_rfl) (.cons au1 (.cons au1 .nil)) <| ath_n ?_
     refine aw_cond (decide (((p2.getD k.toNat default) : Int) < (p1.getD k.toNat default))) (by kernel_rfl) (fun h4 => ?_) (fun h4 => ?_)
     ·have g4 := of_decide_eq_true h4
      refine aw_seq ?_
      refine aw_region eqok [] [] [] [4] [] [] ⟨[(4, tI 1)], []⟩ .nil (by kernel_rfl) .nil <| ath_n ?_
      refine aw_ret <| abl_r ?_
      refine ath_r <| ath_r ?_
      refine abl_r <| ath_r ?_
      exact ⟨_, Cv.refl _, .inl rfl, .av (.one (.i 1)), by kernel_rfl, tve_eq (by rw [← hF0]; first | (simp only [FcompareN_l0, h2, h3, h4, cond_true, cond_false]; done) | (simp only [FcompareN_l0, h2, h3, h4, cond_true, cond_false]; rfl))⟩
     ·have g4 := of_decide_eq_false h4
      refine aw_skip <| abl_n <| ath_n ?_
      refine aw_region eqok [] [] [] [0, 1, 5] [] [] ⟨[(0, .av (.one (lst 1 cU p1))), (1, .av (.one (lst 1 cU p2))), (5, tI (W64 (k - 1)))], []⟩ .nil (by kernel_rfl) .nil ?_
      (try rw [(show W64 (k - 1) = k - 1 from W64_id (by omega) (by omega))])
      refine ath_n ?_
      refine ⟨(n0, k - 1), ⟨?_, ?_, (by rw [← hF0]; simp only [FcompareN_l0, h2, h3, h4, cond_true, cond_false])⟩, Nat.lt_succ_self _, cv_eq (by kernel_rfl)⟩
      ·show ((k - 1) + 1).toNat < n0; omega
      ·exact ⟨(by show -1 ≤ (k - 1); first | trivial | omega | exact at0 | exact at1 | exact at2 | (simp; omega) | simp), (by show (k - 1) < (p1.length : Int); first | trivial | omega | exact at0 | exact at1 | exact at2 | (simp; omega) | simp)⟩
   ·have g2 := of_decide_eq_false h2
    refine aw_exit <| ath_e ?_
    refine ath_e <| abl_hit ?_
    refine ath_n <| aw_seq ?_
    refine aw_region eqok [] [] [] [4] [] [] ⟨[(4, tI 0)], []⟩ .nil (by kernel_rfl) .nil <| ath_n <| aw_ret ?_
    exact ⟨_, Cv.refl _, .inl rfl, .av (.one (.i 0)), by kernel_rfl, tve_eq (by rw [← hF0]; first | (simp only [FcompareN_l0, h2, cond_true, cond_false]; done) | (simp only [FcompareN_l0, h2, cond_true, cond_false]; rfl))⟩
theorem okcompareN (p1 : (List Int)) (p2 : (List Int)) (h0 : (p1.length : Int) ≤ 1000000) (h1 : (p2.length : Int) ≤ 1000000) : CallOk Try.prog (ccompareN p1 p2).1 (ccompareN p1 p2).2.1 (ccompareN p1 p2).2.2 := callOk_pure (fun _ _ => by kernel_rfl) fun _ => pcompareN p1 p2 h0 h1
def wCmpN_0 (p1 : TNum) : Bool := FRightN p1
def wCmpN_1 (p1 : TNum) : Bool := !(wCmpN_0 p1)
def wCmpN_2 (p1 : TNum) : Bool := wCmpN_1 p1
def wCmpN_3 (p1 : TNum) (p2 : TNum) : Bool := bif wCmpN_2 p1 then true else !(FRightN p2)
def wCmpN_4 (p1 : TNum) (p2 : TNum) : Bool := !(p1.Neg == p2.Neg)
def FCmpN (p1 : TNum) (p2 : TNum) : Int := bif wCmpN_3 p1 p2 then (0) else (bif wCmpN_4 p1 p2 then (bif p1.Neg then ((-1)) else (1)) else (bif p1.Neg then (FcompareN p2.D p1.D) else (FcompareN p1.D p2.D)))
def cCmpN (p1 : TNum) (p2 : TNum) : FuncId × List Av × Ef := (94, [.agg (TNum.c p1), .agg (TNum.c p2)], .val [] (.av (.one (.i (FCmpN p1 p2)))))
theorem pCmpN (p1 : TNum) (p2 : TNum) (h0 : (p1.D.length : Int) ≤ 1000000) (h1 : (p2.D.length : Int) ≤ 1000000) : Pure Try.prog 94 (cCmpN p1 p2).2.1 (.av (.one (.i (FCmpN p1 p2)))) := by
 refine pure_of_awF Try.func94 rfl (by kernel_rfl) (by kernel_rfl) fun W0 M0 => ?_
 refine aw_seq ?_
 refine aw_region eqok [] [] [] [2, 3] [2, 3] [] ⟨[(2, tP 2 0), (3, tP 3 0)], [(2, .cells (TNum.c p1) 118), (3, .cells (TNum.c p2) 118)]⟩ .nil (by kernel_rfl) .nil <| ath_n ?_
 refine aw_seq <| aw_seq ?_
 refine aw_region eqok [] [] [(6, cRightN p1), (10, cRightN p2)] [2, 3, 12] [2, 3] [Same (cRightN p1).2.1, ((wCmpN_2 p1) = false) → ((wCmpN_2 p1) = false), ((wCmpN_2 p1) = false) → (Same (cRightN p2).2.1), ((wCmpN_2 p1) = false) → ((wCmpN_2 p1) = false), (wCmpN_2 p1) = false → ((wCmpN_2 p1) = false)] ⟨[(2, tP 2 0), (3, tP 3 0), (12, tB (wCmpN_3 p1 p2))], [(2, .cells (TNum.c p1) 118), (3, .cells (TNum.c p2) 118)]⟩ (.cons (okRightN p1) (.cons (okRightN p2) .nil)) (by kernel_rfl) (.cons rfl (.cons id (.cons (fun _ => rfl) (.cons id (.cons id .nil))))) <| ath_n ?_
 refine aw_cond (wCmpN_3 p1 p2) (by kernel_rfl) (fun h1 => ?_) (fun h1 => ?_)
 ·refine aw_seq ?_
  refine aw_region eqok [] [] [] [4] [] [] ⟨[(4, tI 0)], []⟩ .nil (by kernel_rfl) .nil <| ath_n ?_
  refine aw_ret <| ath_r ?_
  exact ⟨_, Cv.refl _, .inl rfl, .av (.one (.i 0)), by kernel_rfl, tve_eq (by first | (simp only [FCmpN, h1, cond_true, cond_false]; done) | (simp only [FCmpN, h1, cond_true, cond_false]; rfl))⟩
 ·refine aw_skip <| ath_n ?_
  refine aw_seq <| aw_seq ?_
  refine aw_region eqok [] [] [] [2, 3, 17] [2, 3] [] ⟨[(2, tP 2 0), (3, tP 3 0), (17, tB (wCmpN_4 p1 p2))], [(2, .cells (TNum.c p1) 118), (3, .cells (TNum.c p2) 118)]⟩ .nil (by kernel_rfl) .nil <| ath_n ?_
  refine aw_cond (wCmpN_4 p1 p2) (by kernel_rfl) (fun h2 => ?_) (fun h2 => ?_)
  ·refine aw_seq <| aw_seq ?_
   refine aw_region eqok [] [] [] [19] [] [] ⟨[(19, tB p1.Neg)], []⟩ .nil (by kernel_rfl) .nil <| ath_n ?_
   refine aw_cond (p1.Neg) (by kernel_rfl) (fun h3 => ?_) (fun h3 => ?_)
   ·refine aw_seq ?_
    refine aw_region eqok [] [] [] [4] [] [] ⟨[(4, tI ((-1)))], []⟩ .nil (by kernel_rfl) .nil <| ath_n ?_
    refine aw_ret <| ath_r <| ath_r ?_
    exact ⟨_, Cv.refl _, .inl rfl, .av (.one (.i ((-1)))), by kernel_rfl, tve_eq (by first | (simp only [FCmpN, h1, h2, h3, cond_true, cond_false]; done) | (simp only [FCmpN, h1, h2, h3, cond_true, cond_false]; rfl))⟩
   ·refine aw_skip <| ath_n <| aw_seq ?_
    refine aw_region eqok [] [] [] [4] [] [] ⟨[(4, tI 1)], []⟩ .nil (by kernel_rfl) .nil <| ath_n ?_
    refine aw_ret <| ath_r ?_
    exact ⟨_, Cv.refl _, .inl rfl, .av (.one (.i 1)), by kernel_rfl, tve_eq (by first | (simp only [FCmpN, h1, h2, h3, cond_true, cond_false]; done) | (simp only [FCmpN, h1, h2, h3, cond_true, cond_false]; rfl))⟩
  ·refine aw_skip <| ath_n ?_
   refine aw_seq <| aw_seq ?_
   refine aw_region eqok [] [] [] [2, 3, 21] [2, 3] [] ⟨[(2, tP 2 0), (3, tP 3 0), (21, tB p1.Neg)], [(2, .cells (TNum.c p1) 118), (3, .cells (TNum.c p2) 118)]⟩ .nil (by kernel_rfl) .nil <| ath_n ?_
   refine aw_cond (p1.Neg) (by kernel_rfl) (fun h3 => ?_) (fun h3 => ?_)
   ·refine aw_seq ?_
    refine aw_region eqok [] [] [(26, ccompareN p2.D p1.D)] [4] [] [Same (ccompareN p2.D p1.D).2.1] ⟨[(4, tI (FcompareN p2.D p1.D))], []⟩ (.cons (okcompareN p2.D p1.D au0 au0) .nil) (by kernel_rfl) (.cons rfl .nil) <| ath_n ?_
    refine aw_ret <| ath_r ?_
    exact ⟨_, Cv.refl _, .inl rfl, .av (.one (.i (FcompareN p2.D p1.D))), by kernel_rfl, tve_eq (by first | (simp only [FCmpN, h1, h2, h3, cond_true, cond_false]; done) | (simp only [FCmpN, h1, h2, h3, cond_true, cond_false]; rfl))⟩
   ·refine aw_skip <| ath_n <| aw_seq ?_
    refine aw_region eqok [] [] [(31, ccompareN p1.D p2.D)] [4] [] [Same (ccompareN p1.D p2.D).2.1] ⟨[(4, tI (FcompareN p1.D p2.D))], []⟩ (.cons (okcompareN p1.D p2.D au0 au0) .nil) (by kernel_rfl) (.cons rfl .nil) <| ath_n <| aw_ret ?_
    exact ⟨_, Cv.refl _, .inl rfl, .av (.one (.i (FcompareN p1.D p2.D))), by kernel_rfl, tve_eq (by first | (simp only [FCmpN, h1, h2, h3, cond_true, cond_false]; done) | (simp only [FCmpN, h1, h2, h3, cond_true, cond_false]; rfl))⟩
theorem okCmpN (p1 : TNum) (p2 : TNum) (h0 : (p1.D.length : Int) ≤ 1000000) (h1 : (p2.D.length : Int) ≤ 1000000) : CallOk Try.prog (cCmpN p1 p2).1 (cCmpN p1 p2).2.1 (cCmpN p1 p2).2.2 := callOk_pure (fun _ _ => by kernel_rfl) fun _ => pCmpN p1 p2 h0 h1
open Go
def Dg (l : List Int) : Prop := ∀ j, 0 ≤ l.getD j 0 ∧ l.getD j 0 < 4294967296
def OkN (x : TNum) (n : Int) (L : Nat) : Prop :=
 x.D.length ≤ L ∧ Dg x.D ∧ (x.D.length = 0 → x.Neg = false) ∧ (x.D.length = 0 ∨ x.D.getD (x.D.length - 1) 0 ≠ 0) ∧
  (if x.Neg = true then - V x.D else V x.D) = n
theorem V_range : ∀ (l : List Int), Dg l → 0 ≤ V l ∧ V l < 4294967296 ^ l.length
 | [], _ => by constructor <;> decide
 | d :: t, h => by
  have ih := V_range t (fun j => h (j + 1))
  have h0 := h 0
  have e0 : (d :: t).getD 0 0 = d := rfl
  rw [e0] at h0
  show 0 ≤ d + 4294967296 * V t ∧ d + 4294967296 * V t < 4294967296 ^ (t.length + 1)
  rw [pw_succ]
  omega
theorem V_low (l : List Int) (h : Dg l) (hl : l.getD (l.length - 1) 0 ≠ 0) (hn : l.length ≠ 0) : 4294967296 ^ (l.length - 1) ≤ V l := by
 have e := V_take l (l.length - 1)
 rw [show l.length - 1 + 1 = l.length by omega, List.take_length] at e
 have hr := V_range (l.take (l.length - 1)) (fun j => by
  by_cases hj : j < l.length - 1
  ·rw [getD_take _ _ _ hj]; exact h j
  ·rw [List.getD_eq_getElem?_getD, List.getElem?_eq_none (by rw [List.length_take]; omega)]; decide)
 have hd := h (l.length - 1)
 have hp := pw_pos (l.length - 1)
 have : 1 * 4294967296 ^ (l.length - 1) ≤ l.getD (l.length - 1) 0 * 4294967296 ^ (l.length - 1) := Int.mul_le_mul_of_nonneg_right (by omega) (by omega)
 omega
theorem pw_mono {m n : Nat} (h : m ≤ n) : (4294967296 : Int) ^ m ≤ 4294967296 ^ n := by
 induction n with
 | zero => rw [Nat.le_zero.mp h]; exact Int.le_refl _
 | succ n ih =>
  by_cases q : m = n + 1
  ·rw [q]; exact Int.le_refl _
  ·have := ih (by omega)
   have hp := pw_pos n
   rw [pw_succ]
   omega
def Says (r a c : Int) : Prop := (r = -1 ∧ a < c) ∨ (r = 0 ∧ a = c) ∨ (r = 1 ∧ c < a)
theorem compare_says {p q : List Int} (hp : Dg p) (hq : Dg q) (lp : p.length = 0 ∨ p.getD (p.length - 1) 0 ≠ 0) (lq : q.length = 0 ∨ q.getD (q.length - 1) 0 ≠ 0) (hl : (p.length : Int) ≤ 1000000) :
  Says (FcompareN p q) (V p) (V q) := by
 have hloop : ∀ (n k : Nat), k < n → Says (FcompareN_l0 p q n ((k : Int) - 1)) (V (p.take k)) (V (q.take k)) := by
  intro n
  induction n with
  | zero => intro k h; omega
  | succ n ih =>
   intro k hk
   unfold FcompareN_l0
   cases k with
   | zero => exact .inr (.inl ⟨rfl, rfl⟩)
   | succ k =>
    have e1 : (((k + 1 : Nat) : Int) - 1) = (k : Int) := by omega
    rw [e1, decide_eq_true (show (0 : Int) ≤ (k : Int) by omega)]
    simp only [cond_true, Int.toNat_natCast]
    have ed : ∀ (l : List Int) (j : Nat), l.getD j (default : Int) = l.getD j 0 := fun _ _ => rfl
    simp only [ed, V_take]
    have hr : ∀ {l : List Int}, Dg l → 0 ≤ V (l.take k) ∧ V (l.take k) < 4294967296 ^ k := fun {l} h => by
     have := V_range (l.take k) (fun j => by
      by_cases hj : j < k
      ·rw [getD_take _ _ _ hj]; exact h j
      ·rw [List.getD_eq_getElem?_getD, List.getElem?_eq_none (by rw [List.length_take]; omega)]; decide)
     have h2 := pw_mono (m := (l.take k).length) (n := k) (by rw [List.length_take]; omega)
     omega
    have rp := hr hp
    have rq := hr hq
    have ihk := ih k (by omega)
    generalize V (p.take k) = a at *; generalize V (q.take k) = c at *
    generalize p.getD k 0 = x at *; generalize q.getD k 0 = y at *
    have hP := pw_pos k
    generalize (4294967296 : Int) ^ k = P at *
    by_cases h1 : x < y
    ·rw [decide_eq_true h1]
     refine .inl ⟨rfl, ?_⟩
     have : (x + 1) * P ≤ y * P := Int.mul_le_mul_of_nonneg_right (by omega) (by omega)
     rw [Int.add_mul] at this
     omega
    ·rw [decide_eq_false h1]
     simp only [cond_false]
     by_cases h2 : y < x
     ·rw [decide_eq_true h2]
      refine .inr (.inr ⟨rfl, ?_⟩)
      have : (y + 1) * P ≤ x * P := Int.mul_le_mul_of_nonneg_right (by omega) (by omega)
      rw [Int.add_mul] at this
      omega
     ·rw [decide_eq_false h2]
      simp only [cond_false]
      have : x = y := by omega
      subst this
      rcases ihk with ⟨e, h⟩ | ⟨e, h⟩ | ⟨e, h⟩
      ·exact .inl ⟨e, by omega⟩
      ·exact .inr (.inl ⟨e, by omega⟩)
      ·exact .inr (.inr ⟨e, by omega⟩)
 unfold FcompareN
 have vp := V_range p hp
 have vq := V_range q hq
 by_cases h : ((p.length : Int)) = (q.length : Int)
 ·rw [decide_eq_true h]
  simp only [Bool.not_true, cond_false]
  have e : W64 (((p.length : Int)) - 1) = (p.length : Int) - 1 := W64_id (by omega) (by omega)
  rw [e]
  have := hloop (((((p.length : Int)) - 1) + 1).toNat + 1) p.length (by omega)
  rw [List.take_length, List.take_of_length_le (show q.length ≤ p.length by omega)] at this
  exact this
 ·rw [decide_eq_false h]
  simp only [Bool.not_false, cond_true]
  by_cases h1 : ((p.length : Int)) < (q.length : Int)
  ·rw [decide_eq_true h1]
   refine .inl ⟨rfl, ?_⟩
   have := V_low q hq (by omega) (by omega)
   have := pw_mono (m := p.length) (n := q.length - 1) (by omega)
   omega
  ·rw [decide_eq_false h1]
   refine .inr (.inr ⟨rfl, ?_⟩)
   have := V_low p hp (by omega) (by omega)
   have := pw_mono (m := q.length) (n := p.length - 1) (by omega)
   omega
theorem right_ok {x : TNum} {n : Int} {L : Nat} (h : OkN x n L) (hL : L ≤ 64) : FRightN x = true := by
 obtain ⟨h1, h2, h3, h4, h5⟩ := h
 unfold FRightN
 rw [decide_eq_true (show ((x.D.length : Int)) ≤ 64 by omega)]
 simp only [cond_true]
 by_cases q : x.D.length = 0
 ·rw [decide_eq_true (show ((x.D.length : Int)) = 0 by omega), h3 q]; rfl
 ·rw [decide_eq_false (show ¬ ((x.D.length : Int)) = 0 by omega), decide_eq_true (show (0 : Int) < ((x.D.length : Int)) by omega)]
  simp only [cond_true, cond_false]
  have e : (W64 (((x.D.length : Int)) - 1)).toNat = x.D.length - 1 := by rw [W64_id (by omega) (by omega)]; omega
  rw [e]
  have h6 : ¬ x.D.getD (x.D.length - 1) (default : Int) = 0 := by
   rcases h4 with h | h
   ·exact absurd h q
   ·exact h
  rw [decide_eq_false h6]; rfl
theorem cmp_ok {a b : TNum} {x y : Int} {L M : Nat} (ha : OkN a x L) (hb : OkN b y M) (hL : L ≤ 64) (hM : M ≤ 64) : FCmpN a b ≤ 0 ↔ x ≤ y := by
 have ra := right_ok ha hL
 have rb := right_ok hb hM
 obtain ⟨a1, a2, a3, a4, a5⟩ := ha
 obtain ⟨b1, b2, b3, b4, b5⟩ := hb
 have s1 := compare_says a2 b2 a4 b4 (by omega)
 have s2 := compare_says b2 a2 b4 a4 (by omega)
 have va := V_range _ a2
 have vb := V_range _ b2
 simp only [FCmpN, wCmpN_0, wCmpN_1, wCmpN_2, wCmpN_3, wCmpN_4, ra, rb, Bool.not_true, cond_false]
 cases hn : a.Neg <;> cases hm : b.Neg <;> simp only [hn, hm, Bool.not_true, Bool.not_false, cond_true, cond_false, BEq.rfl, if_true, Bool.false_eq_true, if_false] at a5 b5 ⊢
 ·unfold Says at s1; omega
 ·show (1 : Int) ≤ 0 ↔ x ≤ y
  have : b.D.length ≠ 0 := fun q => by rw [b3 q] at hm; cases hm
  have := V_low _ b2 (by omega) this
  have := pw_pos (b.D.length - 1)
  omega
 ·show (-1 : Int) ≤ 0 ↔ x ≤ y
  omega
 ·unfold Says at s2; omega
theorem made_ok {neg : Bool} {d : List Int} {v : Int} (hd : Dg d) (hl : d.length ≤ 64) (hv : (if neg = true then - V d else V d) = v) : OkN (FmadeN neg d).1 v d.length := by
 obtain ⟨t1, t2, t3, t4⟩ := trim_of d (by omega)
 unfold FmadeN
 rw [decide_eq_false (show ¬ (64 : Int) < ((Ftrim d).length : Int) by omega)]
 simp only [cond_false]
 by_cases q : (Ftrim d).length = 0
 ·rw [decide_eq_true (show ((Ftrim d).length : Int) = 0 by omega)]
  simp only [cond_true]
  have : V d = 0 := by
   rw [← t3, List.length_eq_zero_iff.mp q]; rfl
  rw [this] at hv
  refine ⟨Nat.zero_le _, fun j => by show (0 : Int) ≤ 0 ∧ (0 : Int) < 4294967296; decide, fun _ => rfl, .inl rfl, ?_⟩
  rw [← hv]; cases neg <;> rfl
 ·rw [decide_eq_false (show ¬ ((Ftrim d).length : Int) = 0 by omega)]
  simp only [cond_false]
  refine ⟨t1, fun j => ?_, fun h => absurd h q, t4, by rw [t3]; exact hv⟩
  show 0 ≤ (Ftrim d).getD j 0 ∧ (Ftrim d).getD j 0 < 4294967296
  by_cases hj : j < (Ftrim d).length
  ·rw [t2 j hj]; exact hd j
  ·rw [List.getD_eq_getElem?_getD, List.getElem?_eq_none (by omega)]; decide
theorem of_ok {x : Int} (h : -9223372036854775808 ≤ x ∧ x ≤ 9223372036854775807) : OkN (FOfN x) x 2 := by
 unfold FOfN wOfN_0
 generalize hm : (bif decide (x < 0) then IntKind.u64.wrap (0 - IntKind.u64.wrap x) else IntKind.u64.wrap x) = m
 have hm2 : m = if x < 0 then -x else x := by
  rw [← hm]
  simp only [IntKind.wrap_u64]
  by_cases q : x < 0
  ·rw [decide_eq_true q, if_pos q]; simp only [cond_true]; omega
  ·rw [decide_eq_false q, if_neg q]; simp only [cond_false]; omega
 have hb : 0 ≤ m ∧ m ≤ 9223372036854775808 := by rw [hm2]; split <;> omega
 have hd : Int.fdiv m 4294967296 = m / 4294967296 := Int.fdiv_eq_ediv_of_nonneg _ (by decide)
 rw [hd, IntKind.wrap_u32, IntKind.wrap_u32]
 refine made_ok (fun j => ?_) (by simp) ?_
 ·match j with
  | 0 => show 0 ≤ m % 4294967296 ∧ m % 4294967296 < 4294967296; omega
  | 1 => show 0 ≤ m / 4294967296 % 4294967296 ∧ m / 4294967296 % 4294967296 < 4294967296; omega
  | _ + 2 => show (0 : Int) ≤ 0 ∧ (0 : Int) < 4294967296; decide
 ·have e : V [m % 4294967296, m / 4294967296 % 4294967296] = m := by
   show m % 4294967296 + 4294967296 * (m / 4294967296 % 4294967296 + 4294967296 * 0) = m
   omega
  rw [e, hm2]
  by_cases q : x < 0
  ·rw [if_pos q, decide_eq_true q, if_pos rfl]; omega
  ·rw [if_neg q, decide_eq_false q]; simp
theorem mul_ok {a b : TNum} {x y : Int} {L M : Nat} (ha : OkN a x L) (hb : OkN b y M) (hL : L + M ≤ 60) : OkN (FMulN a b).1 (x * y) (L + M + 1) := by
 have ra := right_ok ha (by omega)
 have rb := right_ok hb (by omega)
 obtain ⟨a1, a2, a3, a4, a5⟩ := ha
 obtain ⟨b1, b2, b3, b4, b5⟩ := hb
 obtain ⟨t1, t2, t3, t4⟩ := times_of (a := a.D) (b := b.D) (by omega) (by omega) a2 b2
 simp only [FMulN, wMulN_0, wMulN_1, ra, rb, Bool.not_true, cond_false]
 have h := made_ok (neg := !(a.Neg == b.Neg)) (v := x * y) t3 (by omega) (by
  rw [t1]
  cases hn : a.Neg <;> cases hm : b.Neg <;> simp only [hn, hm, if_true, Bool.false_eq_true, if_false, BEq.rfl, Bool.not_true] at a5 b5 ⊢ <;> subst a5 <;> subst b5
  all_goals (generalize V a.D = A; generalize V b.D = B; first | rfl | grind))
 obtain ⟨h1, h2, h3, h4, h5⟩ := h
 exact ⟨by omega, h2, h3, h4, h5⟩
theorem of_dg (x : Int) : ((FOfN x).D.length : Int) ≤ 100000 ∧ ∀ j, 0 ≤ (FOfN x).D.getD j 0 ∧ (FOfN x).D.getD j 0 < 4294967296 := by
 obtain ⟨n, h⟩ : ∃ n, OkN (FOfN x) n 2 := by
  unfold FOfN wOfN_0
  refine ⟨_, made_ok (fun j => ?_) (by simp) rfl⟩
  match j with
  | 0 => show 0 ≤ IntKind.u32.wrap _ ∧ IntKind.u32.wrap _ < 4294967296; rw [IntKind.wrap_u32]; omega
  | 1 => show 0 ≤ IntKind.u32.wrap _ ∧ IntKind.u32.wrap _ < 4294967296; rw [IntKind.wrap_u32]; omega
  | _ + 2 => show (0 : Int) ≤ 0 ∧ (0 : Int) < 4294967296; decide
 have := h.1
 exact ⟨by omega, h.2.1⟩
theorem mul_len (a b : TNum) : ((FMulN a b).1.D.length : Int) ≤ 1000000 := by
 unfold FMulN wMulN_1 FmadeN
 cases wMulN_0 a b
 ·simp only [cond_false]
  by_cases h : (64 : Int) < ((Ftrim (Ftimes a.D b.D)).length : Int)
  ·rw [decide_eq_true h]; simp
  ·rw [decide_eq_false h]
   simp only [cond_false]
   cases decide (((Ftrim (Ftimes a.D b.D)).length : Int) = 0)
   ·show ((Ftrim (Ftimes a.D b.D)).length : Int) ≤ 1000000; omega
   ·simp
 ·simp
def FsquareN (x0 : Int) : TNum := (FMulN (FOfN x0) (FOfN x0)).1
def csquareN (x0 : Int) : FuncId × List Av × Ef := (95, [.one (.i x0)], .val [] (.av (.agg (TNum.c (FsquareN x0)))))
theorem psquareN (x0 : Int) : Pure Try.prog 95 (csquareN x0).2.1 (.av (.agg (TNum.c (FsquareN x0)))) := by
 refine pure_of_awF Try.func95 rfl (by kernel_rfl) (by kernel_rfl) fun W0 M0 => ?_
 have q1 := (of_dg x0).1
 have q2 := (of_dg x0).2
 refine aw_seq ?_
 refine aw_region eqok [] [] [] [0, 2] [2] [] ⟨[(0, tI x0), (2, tP 2 0)], [(2, .cells [.b false, .val (.slice none 0 0)] 118)]⟩ .nil (by kernel_rfl) .nil <| ath_n <| aw_seq ?_
 refine aw_region eqok [] [] [(7, cOfN x0)] [2, 3] [2, 3] [Same (cOfN x0).2.1] ⟨[(2, tP 2 0), (3, tP 3 0)], [(2, .cells [.b false, .val (.slice none 0 0)] 118), (3, .cells (TNum.c (FOfN x0)) 118)]⟩ (.cons (okOfN x0) .nil) (by kernel_rfl) (.cons rfl .nil) <| ath_n <| aw_seq ?_
 refine aw_region eqok [] [] [(11, cMulN (FOfN x0) (FOfN x0))] [2, 4] [2, 4] [Same (cMulN (FOfN x0) (FOfN x0)).2.1] ⟨[(2, tP 2 0), (4, tP 4 0)], [(2, .cells [.b false, .val (.slice none 0 0)] 118), (4, .cells (TNum.c ((FMulN (FOfN x0) (FOfN x0)).1)) 118)]⟩ (.cons (okMulN (FOfN x0) (FOfN x0) au0 au0 au0 au0) .nil) (by kernel_rfl) (.cons rfl .nil) <| ath_n <| aw_seq ?_
 refine aw_region eqok [] [] [] [2] [2] [] ⟨[(2, tP 2 0)], [(2, .cells (TNum.c ((FMulN (FOfN x0) (FOfN x0)).1)) 118)]⟩ .nil (by kernel_rfl) .nil <| ath_n <| aw_ret ?_
 exact ⟨_, Cv.refl _, .inl rfl, .av (.agg (TNum.c ((FMulN (FOfN x0) (FOfN x0)).1))), by kernel_rfl, tve_eq (by rfl)⟩
theorem oksquareN (x0 : Int) : CallOk Try.prog (csquareN x0).1 (csquareN x0).2.1 (csquareN x0).2.2 := callOk_pure (fun _ _ => by kernel_rfl) fun _ => psquareN x0
def wnearLine_0 (x0 : TEdge) : TNum := FOfN (Fref05Dot (Fref05Sub x0.B x0.A) (Fref05Sub x0.B x0.A))
def wnearLine_1 (x2 : Int) (x0 : TEdge) : TNum := (FMulN (FOfN (W64 (x2 * x2))) (wnearLine_0 x0)).1
def wnearLine_2 (x0 : TEdge) (x1 : TPoint) : TNum := FsquareN (Fref05Cross (Fref05Sub x0.B x0.A) (Fref05Sub x1 x0.A))
def FnearLine (x0 : TEdge) (x1 : TPoint) (x2 : Int) : Bool := bif decide (((Fref05Dot (Fref05Sub x1 x0.A) (Fref05Sub x0.B x0.A)) : Int) ≤ 0) then (decide (((FfarR x1 x0.A) : Int) ≤ (W64 (x2 * x2)))) else (bif decide (((Fref05Dot (Fref05Sub x0.B x0.A) (Fref05Sub x0.B x0.A)) : Int) ≤ (Fref05Dot (Fref05Sub x1 x0.A) (Fref05Sub x0.B x0.A))) then (decide (((FfarR x1 x0.B) : Int) ≤ (W64 (x2 * x2)))) else (decide (((FCmpN (wnearLine_2 x0 x1) (wnearLine_1 x2 x0)) : Int) ≤ 0)))
def cnearLine (x0 : TEdge) (x1 : TPoint) (x2 : Int) : FuncId × List Av × Ef := (79, [.agg (TEdge.c x0), .agg (TPoint.c x1), .one (.i x2)], .val [] (.av (.one (.b (FnearLine x0 x1 x2)))))
theorem pnearLine (x0 : TEdge) (x1 : TPoint) (x2 : Int) : Pure Try.prog 79 (cnearLine x0 x1 x2).2.1 (.av (.one (.b (FnearLine x0 x1 x2)))) := by
 refine pure_of_awF Try.func79 rfl (by kernel_rfl) (by kernel_rfl) fun W0 M0 => ?_
 have q1 : ((wnearLine_1 x2 x0).D.length : Int) ≤ 1000000 := mul_len _ _
 have q2 : ((wnearLine_2 x0 x1).D.length : Int) ≤ 1000000 := mul_len _ _
 have q3 : ((wnearLine_0 x0).D.length : Int) ≤ 100000 := (of_dg _).1
 have q4 : ∀ j, 0 ≤ (wnearLine_0 x0).D.getD j 0 ∧ (wnearLine_0 x0).D.getD j 0 < 4294967296 := (of_dg _).2
 have q5 := (of_dg (W64 (x2 * x2))).1
 have q6 := (of_dg (W64 (x2 * x2))).2
 refine aw_seq ?_
 refine aw_region eqok [] [] [] [2, 3, 4] [3, 4] [] ⟨[(2, tI x2), (3, tP 3 0), (4, tP 4 0)], [(3, .cells (TEdge.c x0) 35), (4, .cells (TPoint.c x1) 29)]⟩ .nil (by kernel_rfl) .nil <| ath_n <| aw_seq ?_
 refine aw_region eqok [] [] [(16, cref05Sub x0.B x0.A)] [2, 3, 4, 7] [3, 4, 7] [Same (cref05Sub x0.B x0.A).2.1] ⟨[(2, tI x2), (3, tP 3 0), (4, tP 4 0), (7, tP 7 0)], [(3, .cells (TEdge.c x0) 35), (4, .cells (TPoint.c x1) 29), (7, .cells (TPoint.c (Fref05Sub x0.B x0.A)) 29)]⟩ (.cons (okref05Sub x0.B x0.A) .nil) (by kernel_rfl) (.cons rfl .nil) <| ath_n <| aw_seq ?_
 refine aw_draw mixed eqok [] [] [(20, cref05Sub x1 x0.A), (22, cref05Dot (Fref05Sub x1 x0.A) (Fref05Sub x0.B x0.A))] [2, 3, 4, 7, 8] [3, 4, 7] [Same (cref05Sub x1 x0.A).2.1, Same (cref05Dot (Fref05Sub x1 x0.A) (Fref05Sub x0.B x0.A)).2.1] ⟨[(2, tI x2), (3, tP 3 0), (4, tP 4 0), (7, tP 7 0), (8, tI (Fref05Dot (Fref05Sub x1 x0.A) (Fref05Sub x0.B x0.A)))], [(3, .cells (TEdge.c x0) 35), (4, .cells (TPoint.c x1) 29), (7, .cells (TPoint.c (Fref05Sub x0.B x0.A)) 29)]⟩ (.cons (okref05Sub x1 x0.A) (.cons (okref05Dot (Fref05Sub x1 x0.A) (Fref05Sub x0.B x0.A)) .nil)) (by kernel_rfl) (by kernel_rfl) (.cons rfl (.cons rfl .nil)) <| ath_n <| aw_seq ?_
 refine aw_region eqok [] [] [(25, cref05Dot (Fref05Sub x0.B x0.A) (Fref05Sub x0.B x0.A))] [2, 3, 4, 7, 8, 9] [3, 4, 7] [Same (cref05Dot (Fref05Sub x0.B x0.A) (Fref05Sub x0.B x0.A)).2.1] ⟨[(2, tI x2), (3, tP 3 0), (4, tP 4 0), (7, tP 7 0), (8, tI (Fref05Dot (Fref05Sub x1 x0.A) (Fref05Sub x0.B x0.A))), (9, tI (Fref05Dot (Fref05Sub x0.B x0.A) (Fref05Sub x0.B x0.A)))], [(3, .cells (TEdge.c x0) 35), (4, .cells (TPoint.c x1) 29), (7, .cells (TPoint.c (Fref05Sub x0.B x0.A)) 29)]⟩ (.cons (okref05Dot (Fref05Sub x0.B x0.A) (Fref05Sub x0.B x0.A)) .nil) (by kernel_rfl) (.cons rfl .nil) <| ath_n ?_
 refine aw_seq <| aw_seq ?_
 refine aw_region eqok [] [] [] [2, 3, 4, 7, 8, 9, 27] [3, 4, 7] [] ⟨[(2, tI x2), (3, tP 3 0), (4, tP 4 0), (7, tP 7 0), (8, tI (Fref05Dot (Fref05Sub x1 x0.A) (Fref05Sub x0.B x0.A))), (9, tI (Fref05Dot (Fref05Sub x0.B x0.A) (Fref05Sub x0.B x0.A))), (27, tB (decide (((Fref05Dot (Fref05Sub x1 x0.A) (Fref05Sub x0.B x0.A)) : Int) ≤ 0)))], [(3, .cells (TEdge.c x0) 35), (4, .cells (TPoint.c x1) 29), (7, .cells (TPoint.c (Fref05Sub x0.B x0.A)) 29)]⟩ .nil (by kernel_rfl) .nil <| ath_n ?_
 refine aw_cond (decide (((Fref05Dot (Fref05Sub x1 x0.A) (Fref05Sub x0.B x0.A)) : Int) ≤ 0)) (by kernel_rfl) (fun h1 => ?_) (fun h1 => ?_)
 ·have g1 := of_decide_eq_true h1
  refine aw_seq ?_
  refine aw_region eqok [] [] [(31, cfarR x1 x0.A)] [6] [] [Same (cfarR x1 x0.A).2.1] ⟨[(6, tB (decide (((FfarR x1 x0.A) : Int) ≤ (W64 (x2 * x2)))))], []⟩ (.cons (okfarR x1 x0.A) .nil) (by kernel_rfl) (.cons rfl .nil) <| ath_n ?_
  refine aw_ret <| ath_r ?_
  exact ⟨_, Cv.refl _, .inl rfl, .av (.one (.b (decide (((FfarR x1 x0.A) : Int) ≤ (W64 (x2 * x2)))))), by kernel_rfl, tve_eq (by first | (simp only [FnearLine, h1, cond_true, cond_false]; done) | (simp only [FnearLine, h1, cond_true, cond_false]; rfl))⟩
 ·have g1 := of_decide_eq_false h1
  refine aw_skip <| ath_n ?_
  refine aw_seq <| aw_seq ?_
  refine aw_region eqok [] [] [] [2, 3, 4, 7, 9, 38] [3, 4, 7] [] ⟨[(2, tI x2), (3, tP 3 0), (4, tP 4 0), (7, tP 7 0), (9, tI (Fref05Dot (Fref05Sub x0.B x0.A) (Fref05Sub x0.B x0.A))), (38, tB (decide (((Fref05Dot (Fref05Sub x0.B x0.A) (Fref05Sub x0.B x0.A)) : Int) ≤ (Fref05Dot (Fref05Sub x1 x0.A) (Fref05Sub x0.B x0.A)))))], [(3, .cells (TEdge.c x0) 35), (4, .cells (TPoint.c x1) 29), (7, .cells (TPoint.c (Fref05Sub x0.B x0.A)) 29)]⟩ .nil (by kernel_rfl) .nil <| ath_n ?_
  refine aw_cond (decide (((Fref05Dot (Fref05Sub x0.B x0.A) (Fref05Sub x0.B x0.A)) : Int) ≤ (Fref05Dot (Fref05Sub x1 x0.A) (Fref05Sub x0.B x0.A)))) (by kernel_rfl) (fun h2 => ?_) (fun h2 => ?_)
  ·have g2 := of_decide_eq_true h2
   refine aw_seq ?_
   refine aw_region eqok [] [] [(42, cfarR x1 x0.B)] [6] [] [Same (cfarR x1 x0.B).2.1] ⟨[(6, tB (decide (((FfarR x1 x0.B) : Int) ≤ (W64 (x2 * x2)))))], []⟩ (.cons (okfarR x1 x0.B) .nil) (by kernel_rfl) (.cons rfl .nil) <| ath_n ?_
   refine aw_ret <| ath_r ?_
   exact ⟨_, Cv.refl _, .inl rfl, .av (.one (.b (decide (((FfarR x1 x0.B) : Int) ≤ (W64 (x2 * x2)))))), by kernel_rfl, tve_eq (by first | (simp only [FnearLine, h1, h2, cond_true, cond_false]; done) | (simp only [FnearLine, h1, h2, cond_true, cond_false]; rfl))⟩
  ·have g2 := of_decide_eq_false h2
   refine aw_skip <| ath_n <| aw_seq ?_
   refine aw_region eqok [] [] [(51, cOfN (W64 (x2 * x2))), (53, cOfN (Fref05Dot (Fref05Sub x0.B x0.A) (Fref05Sub x0.B x0.A))), (54, cMulN (FOfN (W64 (x2 * x2))) (wnearLine_0 x0))] [3, 4, 7, 10] [3, 4, 7, 10] [Same (cOfN (W64 (x2 * x2))).2.1, Same (cOfN (Fref05Dot (Fref05Sub x0.B x0.A) (Fref05Sub x0.B x0.A))).2.1, Same (cMulN (FOfN (W64 (x2 * x2))) (wnearLine_0 x0)).2.1] ⟨[(3, tP 3 0), (4, tP 4 0), (7, tP 7 0), (10, tP 10 0)], [(3, .cells (TEdge.c x0) 35), (4, .cells (TPoint.c x1) 29), (7, .cells (TPoint.c (Fref05Sub x0.B x0.A)) 29), (10, .cells (TNum.c (wnearLine_1 x2 x0)) 118)]⟩ (.cons (okOfN (W64 (x2 * x2))) (.cons (okOfN (Fref05Dot (Fref05Sub x0.B x0.A) (Fref05Sub x0.B x0.A))) (.cons (okMulN (FOfN (W64 (x2 * x2))) (wnearLine_0 x0) au0 au0 au0 au0) .nil))) (by kernel_rfl) (.cons rfl (.cons rfl (.cons rfl .nil))) <| ath_n <| aw_seq ?_
   refine aw_draw mixed eqok [] [] [(61, cref05Sub x1 x0.A), (62, cref05Cross (Fref05Sub x0.B x0.A) (Fref05Sub x1 x0.A)), (63, csquareN (Fref05Cross (Fref05Sub x0.B x0.A) (Fref05Sub x1 x0.A))), (65, cCmpN (wnearLine_2 x0 x1) (wnearLine_1 x2 x0))] [6] [] [Same (cref05Sub x1 x0.A).2.1, Same (cref05Cross (Fref05Sub x0.B x0.A) (Fref05Sub x1 x0.A)).2.1, Same (csquareN (Fref05Cross (Fref05Sub x0.B x0.A) (Fref05Sub x1 x0.A))).2.1, Same (cCmpN (wnearLine_2 x0 x1) (wnearLine_1 x2 x0)).2.1] ⟨[(6, tB (decide (((FCmpN (wnearLine_2 x0 x1) (wnearLine_1 x2 x0)) : Int) ≤ 0)))], []⟩ (.cons (okref05Sub x1 x0.A) (.cons (okref05Cross (Fref05Sub x0.B x0.A) (Fref05Sub x1 x0.A)) (.cons (oksquareN (Fref05Cross (Fref05Sub x0.B x0.A) (Fref05Sub x1 x0.A))) (.cons (okCmpN (wnearLine_2 x0 x1) (wnearLine_1 x2 x0) au0 au0) .nil)))) (by kernel_rfl) (by kernel_rfl) (.cons rfl (.cons rfl (.cons rfl (.cons rfl .nil)))) <| ath_n <| aw_ret ?_
   exact ⟨_, Cv.refl _, .inl rfl, .av (.one (.b (decide (((FCmpN (wnearLine_2 x0 x1) (wnearLine_1 x2 x0)) : Int) ≤ 0)))), by kernel_rfl, tve_eq (by first | (simp only [FnearLine, h1, h2, cond_true, cond_false]; done) | (simp only [FnearLine, h1, h2, cond_true, cond_false]; rfl))⟩
theorem oknearLine (x0 : TEdge) (x1 : TPoint) (x2 : Int) : CallOk Try.prog (cnearLine x0 x1 x2).1 (cnearLine x0 x1 x2).2.1 (cnearLine x0 x1 x2).2.2 := callOk_pure (fun _ _ => by kernel_rfl) fun _ => pnearLine x0 x1 x2
def wnearArc_0 (x0 : TEdge) : TPoint := bif decide ((x0.Kind : Int) = 3) then (Fref05Sub x0.B x0.C) else (Fref05Sub x0.A x0.C)
def wnearArc_1 (x0 : TEdge) : TPoint := bif decide ((x0.Kind : Int) = 3) then (Fref05Sub x0.A x0.C) else (Fref05Sub x0.B x0.C)
def wnearArc_2 (x1 : TPoint) (x0 : TEdge) : Bool := Fref05Within (Fref05Sub x1 x0.C) (wnearArc_0 x0) (wnearArc_1 x0)
def FnearArc (x0 : TEdge) (x1 : TPoint) (x2 : Int) : Bool := bif !(wnearArc_2 x1 x0) then (bif decide (((FfarR x1 x0.A) : Int) ≤ (W64 (x2 * x2))) then true else decide (((FfarR x1 x0.B) : Int) ≤ (W64 (x2 * x2)))) else (bif decide (((Fref05Dot (Fref05Sub x1 x0.C) (Fref05Sub x1 x0.C)) : Int) ≤ (W64 ((W64 ((Fref06Radius x0) + x2)) * (W64 ((Fref06Radius x0) + x2))))) then bif decide (((Fref06Radius x0) : Int) ≤ x2) then true else decide (((W64 ((W64 ((Fref06Radius x0) - x2)) * (W64 ((Fref06Radius x0) - x2)))) : Int) ≤ (Fref05Dot (Fref05Sub x1 x0.C) (Fref05Sub x1 x0.C))) else false)
def cnearArc (x0 : TEdge) (x1 : TPoint) (x2 : Int) : FuncId × List Av × Ef := (80, [.agg (TEdge.c x0), .agg (TPoint.c x1), .one (.i x2)], .val [] (.av (.one (.b (FnearArc x0 x1 x2)))))
theorem pnearArc (x0 : TEdge) (x1 : TPoint) (x2 : Int) : Pure Try.prog 80 (cnearArc x0 x1 x2).2.1 (.av (.one (.b (FnearArc x0 x1 x2)))) := by
 refine pure_of_awF Try.func80 rfl (by kernel_rfl) (by kernel_rfl) fun W0 M0 => ?_
 refine aw_seq ?_
 refine aw_region eqok [] [] [] [2, 3, 4] [3, 4] [] ⟨[(2, tI x2), (3, tP 3 0), (4, tP 4 0)], [(3, .cells (TEdge.c x0) 35), (4, .cells (TPoint.c x1) 29)]⟩ .nil (by kernel_rfl) .nil <| ath_n <| aw_seq ?_
 refine aw_region eqok [] [] [(17, cref05Sub x0.A x0.C)] [2, 3, 4, 7] [3, 4, 7] [Same (cref05Sub x0.A x0.C).2.1] ⟨[(2, tI x2), (3, tP 3 0), (4, tP 4 0), (7, tP 7 0)], [(3, .cells (TEdge.c x0) 35), (4, .cells (TPoint.c x1) 29), (7, .cells (TPoint.c (Fref05Sub x0.A x0.C)) 29)]⟩ (.cons (okref05Sub x0.A x0.C) .nil) (by kernel_rfl) (.cons rfl .nil) <| ath_n <| aw_seq ?_
 refine aw_region eqok [] [] [(22, cref05Sub x0.B x0.C)] [2, 3, 4, 7, 8] [3, 4, 7, 8] [Same (cref05Sub x0.B x0.C).2.1] ⟨[(2, tI x2), (3, tP 3 0), (4, tP 4 0), (7, tP 7 0), (8, tP 8 0)], [(3, .cells (TEdge.c x0) 35), (4, .cells (TPoint.c x1) 29), (7, .cells (TPoint.c (Fref05Sub x0.A x0.C)) 29), (8, .cells (TPoint.c (Fref05Sub x0.B x0.C)) 29)]⟩ (.cons (okref05Sub x0.B x0.C) .nil) (by kernel_rfl) (.cons rfl .nil) <| ath_n ?_
 refine aw_seq <| aw_seq ?_
 refine aw_region eqok [] [] [] [2, 3, 4, 7, 8, 25] [3, 4, 7, 8] [] ⟨[(2, tI x2), (3, tP 3 0), (4, tP 4 0), (7, tP 7 0), (8, tP 8 0), (25, tB (decide ((x0.Kind : Int) = 3)))], [(3, .cells (TEdge.c x0) 35), (4, .cells (TPoint.c x1) 29), (7, .cells (TPoint.c (Fref05Sub x0.A x0.C)) 29), (8, .cells (TPoint.c (Fref05Sub x0.B x0.C)) 29)]⟩ .nil (by kernel_rfl) .nil <| ath_n ?_
 refine aw_joinC (⟨[(2, tI x2), (3, tP 3 0), (4, tP 4 0), (7, tP 7 0), (8, tP 8 0)], [(3, .cells (TEdge.c x0) 35), (4, .cells (TPoint.c x1) 29), (7, .cells (TPoint.c (bif decide ((x0.Kind : Int) = 3) then (Fref05Sub x0.B x0.C) else (Fref05Sub x0.A x0.C))) 29), (8, .cells (TPoint.c (bif decide ((x0.Kind : Int) = 3) then (Fref05Sub x0.A x0.C) else (Fref05Sub x0.B x0.C))) 29)]⟩) ?_ ?_
 ·refine aw_cond (decide ((x0.Kind : Int) = 3)) (by kernel_rfl) (fun h1 => ?_) (fun h1 => ?_)
  ·have g1 := of_decide_eq_true h1
   refine aw_region eqok [] [] [] [2, 3, 4, 7, 8] [3, 4, 7, 8] [] ⟨[(2, tI x2), (3, tP 3 0), (4, tP 4 0), (7, tP 7 0), (8, tP 8 0)], [(3, .cells (TEdge.c x0) 35), (4, .cells (TPoint.c x1) 29), (7, .cells (TPoint.c (Fref05Sub x0.B x0.C)) 29), (8, .cells (TPoint.c (Fref05Sub x0.A x0.C)) 29)]⟩ .nil (by kernel_rfl) .nil <| ath_n ?_
   refine cv_eq ?_
   first | rfl | (simp only [h1, cond_true, cond_false]; done) | (simp only [h1, cond_true, cond_false]; rfl)
  ·have g1 := of_decide_eq_false h1
   refine aw_skip <| ath_n ?_
   refine Cv.trans (cv_keep [2, 3, 4, 7, 8] [3, 4, 7, 8] (⟨[(2, tI x2), (3, tP 3 0), (4, tP 4 0), (7, tP 7 0), (8, tP 8 0)], [(3, .cells (TEdge.c x0) 35), (4, .cells (TPoint.c x1) 29), (7, .cells (TPoint.c (Fref05Sub x0.A x0.C)) 29), (8, .cells (TPoint.c (Fref05Sub x0.B x0.C)) 29)]⟩) (by kernel_rfl)) (cv_eq ?_)
   first | rfl | (simp only [h1, cond_true, cond_false]; done) | (simp only [h1, cond_true, cond_false]; rfl)
 refine aw_seq ?_
 refine aw_region eqok [] [] [(31, cref05Sub x1 x0.C)] [2, 3, 4, 7, 8, 9] [3, 4, 7, 8, 9] [Same (cref05Sub x1 x0.C).2.1] ⟨[(2, tI x2), (3, tP 3 0), (4, tP 4 0), (7, tP 7 0), (8, tP 8 0), (9, tP 9 0)], [(3, .cells (TEdge.c x0) 35), (4, .cells (TPoint.c x1) 29), (7, .cells (TPoint.c (bif decide ((x0.Kind : Int) = 3) then (Fref05Sub x0.B x0.C) else (Fref05Sub x0.A x0.C))) 29), (8, .cells (TPoint.c (bif decide ((x0.Kind : Int) = 3) then (Fref05Sub x0.A x0.C) else (Fref05Sub x0.B x0.C))) 29), (9, .cells (TPoint.c (Fref05Sub x1 x0.C)) 29)]⟩ (.cons (okref05Sub x1 x0.C) .nil) (by kernel_rfl) (.cons rfl .nil) <| ath_n <| aw_seq ?_
 refine aw_region eqok [] [] [(35, cref05Within (Fref05Sub x1 x0.C) (wnearArc_0 x0) (wnearArc_1 x0))] [2, 3, 4, 9, 10] [3, 4, 9] [Same (cref05Within (Fref05Sub x1 x0.C) (wnearArc_0 x0) (wnearArc_1 x0)).2.1] ⟨[(2, tI x2), (3, tP 3 0), (4, tP 4 0), (9, tP 9 0), (10, tB (wnearArc_2 x1 x0))], [(3, .cells (TEdge.c x0) 35), (4, .cells (TPoint.c x1) 29), (9, .cells (TPoint.c (Fref05Sub x1 x0.C)) 29)]⟩ (.cons (okref05Within (Fref05Sub x1 x0.C) (wnearArc_0 x0) (wnearArc_1 x0)) .nil) (by kernel_rfl) (.cons rfl .nil) <| ath_n ?_
 refine aw_seq <| aw_seq ?_
 refine aw_region eqok [] [] [] [2, 3, 4, 9, 37] [3, 4, 9] [] ⟨[(2, tI x2), (3, tP 3 0), (4, tP 4 0), (9, tP 9 0), (37, tB (!(wnearArc_2 x1 x0)))], [(3, .cells (TEdge.c x0) 35), (4, .cells (TPoint.c x1) 29), (9, .cells (TPoint.c (Fref05Sub x1 x0.C)) 29)]⟩ .nil (by kernel_rfl) .nil <| ath_n ?_
 refine aw_cond (!(wnearArc_2 x1 x0)) (by kernel_rfl) (fun h1 => ?_) (fun h1 => ?_)
 ·refine aw_seq ?_
  refine aw_region eqok [] [] [(41, cfarR x1 x0.A), (50, cfarR x1 x0.B)] [6] [] [Same (cfarR x1 x0.A).2.1, ((decide (((FfarR x1 x0.A) : Int) ≤ (W64 (x2 * x2)))) = false) → ((decide (((FfarR x1 x0.A) : Int) ≤ (W64 (x2 * x2)))) = false), ((decide (((FfarR x1 x0.A) : Int) ≤ (W64 (x2 * x2)))) = false) → ((decide (((FfarR x1 x0.A) : Int) ≤ (W64 (x2 * x2)))) = false), ((decide (((FfarR x1 x0.A) : Int) ≤ (W64 (x2 * x2)))) = false) → ((decide (((FfarR x1 x0.A) : Int) ≤ (W64 (x2 * x2)))) = false), ((decide (((FfarR x1 x0.A) : Int) ≤ (W64 (x2 * x2)))) = false) → (Same (cfarR x1 x0.B).2.1), ((decide (((FfarR x1 x0.A) : Int) ≤ (W64 (x2 * x2)))) = false) → ((decide (((FfarR x1 x0.A) : Int) ≤ (W64 (x2 * x2)))) = false), ((decide (((FfarR x1 x0.A) : Int) ≤ (W64 (x2 * x2)))) = false) → ((decide (((FfarR x1 x0.A) : Int) ≤ (W64 (x2 * x2)))) = false), ((decide (((FfarR x1 x0.A) : Int) ≤ (W64 (x2 * x2)))) = false) → ((decide (((FfarR x1 x0.A) : Int) ≤ (W64 (x2 * x2)))) = false), ((decide (((FfarR x1 x0.A) : Int) ≤ (W64 (x2 * x2)))) = false) → ((decide (((FfarR x1 x0.A) : Int) ≤ (W64 (x2 * x2)))) = false), (decide (((FfarR x1 x0.A) : Int) ≤ (W64 (x2 * x2)))) = false → ((decide (((FfarR x1 x0.A) : Int) ≤ (W64 (x2 * x2)))) = false)] ⟨[(6, tB (bif decide (((FfarR x1 x0.A) : Int) ≤ (W64 (x2 * x2))) then true else decide (((FfarR x1 x0.B) : Int) ≤ (W64 (x2 * x2)))))], []⟩ (.cons (okfarR x1 x0.A) (.cons (okfarR x1 x0.B) .nil)) (by kernel_rfl) (.cons rfl (.cons id (.cons id (.cons id (.cons (fun _ => rfl) (.cons id (.cons id (.cons id (.cons id (.cons id .nil)))))))))) <| ath_n ?_
  refine aw_ret <| ath_r ?_
  exact ⟨_, Cv.refl _, .inl rfl, .av (.one (.b (bif decide (((FfarR x1 x0.A) : Int) ≤ (W64 (x2 * x2))) then true else decide (((FfarR x1 x0.B) : Int) ≤ (W64 (x2 * x2)))))), by kernel_rfl, tve_eq (by first | (simp only [FnearArc, h1, cond_true, cond_false]; done) | (simp only [FnearArc, h1, cond_true, cond_false]; rfl))⟩
 ·refine aw_skip <| ath_n <| aw_seq ?_
  refine aw_region eqok [] [] [(57, cref06Radius x0)] [2, 9, 11] [9] [Same (cref06Radius x0).2.1] ⟨[(2, tI x2), (9, tP 9 0), (11, tI (Fref06Radius x0))], [(9, .cells (TPoint.c (Fref05Sub x1 x0.C)) 29)]⟩ (.cons (okref06Radius x0) .nil) (by kernel_rfl) (.cons rfl .nil) <| ath_n <| aw_seq ?_
  refine aw_region eqok [] [] [(60, cref05Dot (Fref05Sub x1 x0.C) (Fref05Sub x1 x0.C))] [2, 11, 12] [] [Same (cref05Dot (Fref05Sub x1 x0.C) (Fref05Sub x1 x0.C)).2.1] ⟨[(2, tI x2), (11, tI (Fref06Radius x0)), (12, tI (Fref05Dot (Fref05Sub x1 x0.C) (Fref05Sub x1 x0.C)))], []⟩ (.cons (okref05Dot (Fref05Sub x1 x0.C) (Fref05Sub x1 x0.C)) .nil) (by kernel_rfl) (.cons rfl .nil) <| ath_n <| aw_seq ?_
  refine aw_region eqok [] [] [] [6] [] [((decide (((Fref05Dot (Fref05Sub x1 x0.C) (Fref05Sub x1 x0.C)) : Int) ≤ (W64 ((W64 ((Fref06Radius x0) + x2)) * (W64 ((Fref06Radius x0) + x2)))))) = true) → ((decide (((Fref05Dot (Fref05Sub x1 x0.C) (Fref05Sub x1 x0.C)) : Int) ≤ (W64 ((W64 ((Fref06Radius x0) + x2)) * (W64 ((Fref06Radius x0) + x2)))))) = true), ((decide (((Fref05Dot (Fref05Sub x1 x0.C) (Fref05Sub x1 x0.C)) : Int) ≤ (W64 ((W64 ((Fref06Radius x0) + x2)) * (W64 ((Fref06Radius x0) + x2)))))) = true) → ((decide (((Fref05Dot (Fref05Sub x1 x0.C) (Fref05Sub x1 x0.C)) : Int) ≤ (W64 ((W64 ((Fref06Radius x0) + x2)) * (W64 ((Fref06Radius x0) + x2)))))) = true), ((decide (((Fref05Dot (Fref05Sub x1 x0.C) (Fref05Sub x1 x0.C)) : Int) ≤ (W64 ((W64 ((Fref06Radius x0) + x2)) * (W64 ((Fref06Radius x0) + x2)))))) = true) → ((decide (((Fref05Dot (Fref05Sub x1 x0.C) (Fref05Sub x1 x0.C)) : Int) ≤ (W64 ((W64 ((Fref06Radius x0) + x2)) * (W64 ((Fref06Radius x0) + x2)))))) = true), (((decide (((Fref05Dot (Fref05Sub x1 x0.C) (Fref05Sub x1 x0.C)) : Int) ≤ (W64 ((W64 ((Fref06Radius x0) + x2)) * (W64 ((Fref06Radius x0) + x2)))))) = true) ∧ (decide (((Fref06Radius x0) : Int) ≤ x2)) = false) → (((decide (((Fref05Dot (Fref05Sub x1 x0.C) (Fref05Sub x1 x0.C)) : Int) ≤ (W64 ((W64 ((Fref06Radius x0) + x2)) * (W64 ((Fref06Radius x0) + x2)))))) = true) ∧ (decide (((Fref06Radius x0) : Int) ≤ x2)) = false), (((decide (((Fref05Dot (Fref05Sub x1 x0.C) (Fref05Sub x1 x0.C)) : Int) ≤ (W64 ((W64 ((Fref06Radius x0) + x2)) * (W64 ((Fref06Radius x0) + x2)))))) = true) ∧ (decide (((Fref06Radius x0) : Int) ≤ x2)) = false) → (((decide (((Fref05Dot (Fref05Sub x1 x0.C) (Fref05Sub x1 x0.C)) : Int) ≤ (W64 ((W64 ((Fref06Radius x0) + x2)) * (W64 ((Fref06Radius x0) + x2)))))) = true) ∧ (decide (((Fref06Radius x0) : Int) ≤ x2)) = false), (((decide (((Fref05Dot (Fref05Sub x1 x0.C) (Fref05Sub x1 x0.C)) : Int) ≤ (W64 ((W64 ((Fref06Radius x0) + x2)) * (W64 ((Fref06Radius x0) + x2)))))) = true) ∧ (decide (((Fref06Radius x0) : Int) ≤ x2)) = false) → (((decide (((Fref05Dot (Fref05Sub x1 x0.C) (Fref05Sub x1 x0.C)) : Int) ≤ (W64 ((W64 ((Fref06Radius x0) + x2)) * (W64 ((Fref06Radius x0) + x2)))))) = true) ∧ (decide (((Fref06Radius x0) : Int) ≤ x2)) = false), (((decide (((Fref05Dot (Fref05Sub x1 x0.C) (Fref05Sub x1 x0.C)) : Int) ≤ (W64 ((W64 ((Fref06Radius x0) + x2)) * (W64 ((Fref06Radius x0) + x2)))))) = true) ∧ (decide (((Fref06Radius x0) : Int) ≤ x2)) = false) → (((decide (((Fref05Dot (Fref05Sub x1 x0.C) (Fref05Sub x1 x0.C)) : Int) ≤ (W64 ((W64 ((Fref06Radius x0) + x2)) * (W64 ((Fref06Radius x0) + x2)))))) = true) ∧ (decide (((Fref06Radius x0) : Int) ≤ x2)) = false), (((decide (((Fref05Dot (Fref05Sub x1 x0.C) (Fref05Sub x1 x0.C)) : Int) ≤ (W64 ((W64 ((Fref06Radius x0) + x2)) * (W64 ((Fref06Radius x0) + x2)))))) = true) ∧ (decide (((Fref06Radius x0) : Int) ≤ x2)) = false) → (((decide (((Fref05Dot (Fref05Sub x1 x0.C) (Fref05Sub x1 x0.C)) : Int) ≤ (W64 ((W64 ((Fref06Radius x0) + x2)) * (W64 ((Fref06Radius x0) + x2)))))) = true) ∧ (decide (((Fref06Radius x0) : Int) ≤ x2)) = false), (((decide (((Fref05Dot (Fref05Sub x1 x0.C) (Fref05Sub x1 x0.C)) : Int) ≤ (W64 ((W64 ((Fref06Radius x0) + x2)) * (W64 ((Fref06Radius x0) + x2)))))) = true) ∧ (decide (((Fref06Radius x0) : Int) ≤ x2)) = false) → (((decide (((Fref05Dot (Fref05Sub x1 x0.C) (Fref05Sub x1 x0.C)) : Int) ≤ (W64 ((W64 ((Fref06Radius x0) + x2)) * (W64 ((Fref06Radius x0) + x2)))))) = true) ∧ (decide (((Fref06Radius x0) : Int) ≤ x2)) = false), (((decide (((Fref05Dot (Fref05Sub x1 x0.C) (Fref05Sub x1 x0.C)) : Int) ≤ (W64 ((W64 ((Fref06Radius x0) + x2)) * (W64 ((Fref06Radius x0) + x2)))))) = true) ∧ (decide (((Fref06Radius x0) : Int) ≤ x2)) = false) → (((decide (((Fref05Dot (Fref05Sub x1 x0.C) (Fref05Sub x1 x0.C)) : Int) ≤ (W64 ((W64 ((Fref06Radius x0) + x2)) * (W64 ((Fref06Radius x0) + x2)))))) = true) ∧ (decide (((Fref06Radius x0) : Int) ≤ x2)) = false), (((decide (((Fref05Dot (Fref05Sub x1 x0.C) (Fref05Sub x1 x0.C)) : Int) ≤ (W64 ((W64 ((Fref06Radius x0) + x2)) * (W64 ((Fref06Radius x0) + x2)))))) = true) ∧ (decide (((Fref06Radius x0) : Int) ≤ x2)) = false) → (((decide (((Fref05Dot (Fref05Sub x1 x0.C) (Fref05Sub x1 x0.C)) : Int) ≤ (W64 ((W64 ((Fref06Radius x0) + x2)) * (W64 ((Fref06Radius x0) + x2)))))) = true) ∧ (decide (((Fref06Radius x0) : Int) ≤ x2)) = false), ((decide (((Fref05Dot (Fref05Sub x1 x0.C) (Fref05Sub x1 x0.C)) : Int) ≤ (W64 ((W64 ((Fref06Radius x0) + x2)) * (W64 ((Fref06Radius x0) + x2)))))) = true) → ((decide (((Fref05Dot (Fref05Sub x1 x0.C) (Fref05Sub x1 x0.C)) : Int) ≤ (W64 ((W64 ((Fref06Radius x0) + x2)) * (W64 ((Fref06Radius x0) + x2)))))) = true), ((decide (((Fref05Dot (Fref05Sub x1 x0.C) (Fref05Sub x1 x0.C)) : Int) ≤ (W64 ((W64 ((Fref06Radius x0) + x2)) * (W64 ((Fref06Radius x0) + x2)))))) = true) → ((decide (((Fref06Radius x0) : Int) ≤ x2)) = false → (((decide (((Fref05Dot (Fref05Sub x1 x0.C) (Fref05Sub x1 x0.C)) : Int) ≤ (W64 ((W64 ((Fref06Radius x0) + x2)) * (W64 ((Fref06Radius x0) + x2)))))) = true) ∧ (decide (((Fref06Radius x0) : Int) ≤ x2)) = false)), (decide (((Fref05Dot (Fref05Sub x1 x0.C) (Fref05Sub x1 x0.C)) : Int) ≤ (W64 ((W64 ((Fref06Radius x0) + x2)) * (W64 ((Fref06Radius x0) + x2)))))) = true → ((decide (((Fref05Dot (Fref05Sub x1 x0.C) (Fref05Sub x1 x0.C)) : Int) ≤ (W64 ((W64 ((Fref06Radius x0) + x2)) * (W64 ((Fref06Radius x0) + x2)))))) = true)] ⟨[(6, tB (bif decide (((Fref05Dot (Fref05Sub x1 x0.C) (Fref05Sub x1 x0.C)) : Int) ≤ (W64 ((W64 ((Fref06Radius x0) + x2)) * (W64 ((Fref06Radius x0) + x2))))) then bif decide (((Fref06Radius x0) : Int) ≤ x2) then true else decide (((W64 ((W64 ((Fref06Radius x0) - x2)) * (W64 ((Fref06Radius x0) - x2)))) : Int) ≤ (Fref05Dot (Fref05Sub x1 x0.C) (Fref05Sub x1 x0.C))) else false))], []⟩ .nil (by kernel_rfl) (.cons id (.cons id (.cons id (.cons id (.cons id (.cons id (.cons id (.cons id (.cons id (.cons id (.cons id (.cons id (.cons (by intros; first | assumption | exact ⟨by assumption, by assumption⟩ | simp_all) (.cons id .nil)))))))))))))) <| ath_n <| aw_ret ?_
  exact ⟨_, Cv.refl _, .inl rfl, .av (.one (.b (bif decide (((Fref05Dot (Fref05Sub x1 x0.C) (Fref05Sub x1 x0.C)) : Int) ≤ (W64 ((W64 ((Fref06Radius x0) + x2)) * (W64 ((Fref06Radius x0) + x2))))) then bif decide (((Fref06Radius x0) : Int) ≤ x2) then true else decide (((W64 ((W64 ((Fref06Radius x0) - x2)) * (W64 ((Fref06Radius x0) - x2)))) : Int) ≤ (Fref05Dot (Fref05Sub x1 x0.C) (Fref05Sub x1 x0.C))) else false))), by kernel_rfl, tve_eq (by first | (simp only [FnearArc, h1, cond_true, cond_false]; done) | (simp only [FnearArc, h1, cond_true, cond_false]; rfl))⟩
theorem oknearArc (x0 : TEdge) (x1 : TPoint) (x2 : Int) : CallOk Try.prog (cnearArc x0 x1 x2).1 (cnearArc x0 x1 x2).2.1 (cnearArc x0 x1 x2).2.2 := callOk_pure (fun _ _ => by kernel_rfl) fun _ => pnearArc x0 x1 x2
def FNearR (x0 : TEdge) (x1 : TPoint) (x2 : Int) : Bool := bif decide ((x0.Kind : Int) = 1) then (FnearLine x0 x1 x2) else (FnearArc x0 x1 x2)
def cNearR (x0 : TEdge) (x1 : TPoint) (x2 : Int) : FuncId × List Av × Ef := (50, [.agg (TEdge.c x0), .agg (TPoint.c x1), .one (.i x2)], .val [] (.av (.one (.b (FNearR x0 x1 x2)))))
theorem pNearR (x0 : TEdge) (x1 : TPoint) (x2 : Int) : Pure Try.prog 50 (cNearR x0 x1 x2).2.1 (.av (.one (.b (FNearR x0 x1 x2)))) := by
 refine pure_of_awF Try.func50 rfl (by kernel_rfl) (by kernel_rfl) fun W0 M0 => ?_
 refine aw_seq ?_
 refine aw_region eqok [] [] [] [2, 3, 4] [3, 4] [] ⟨[(2, tI x2), (3, tP 3 0), (4, tP 4 0)], [(3, .cells (TEdge.c x0) 35), (4, .cells (TPoint.c x1) 29)]⟩ .nil (by kernel_rfl) .nil <| ath_n ?_
 refine aw_seq <| aw_seq ?_
 refine aw_region eqok [] [] [] [2, 3, 4, 9] [3, 4] [] ⟨[(2, tI x2), (3, tP 3 0), (4, tP 4 0), (9, tB (decide ((x0.Kind : Int) = 1)))], [(3, .cells (TEdge.c x0) 35), (4, .cells (TPoint.c x1) 29)]⟩ .nil (by kernel_rfl) .nil <| ath_n ?_
 refine aw_cond (decide ((x0.Kind : Int) = 1)) (by kernel_rfl) (fun h1 => ?_) (fun h1 => ?_)
 ·have g1 := of_decide_eq_true h1
  refine aw_seq ?_
  refine aw_region eqok [] [] [(13, cnearLine x0 x1 x2)] [6] [] [Same (cnearLine x0 x1 x2).2.1] ⟨[(6, tB (FnearLine x0 x1 x2))], []⟩ (.cons (oknearLine x0 x1 x2) .nil) (by kernel_rfl) (.cons rfl .nil) <| ath_n ?_
  refine aw_ret <| ath_r ?_
  exact ⟨_, Cv.refl _, .inl rfl, .av (.one (.b (FnearLine x0 x1 x2))), by kernel_rfl, tve_eq (by first | (simp only [FNearR, h1, cond_true, cond_false]; done) | (simp only [FNearR, h1, cond_true, cond_false]; rfl))⟩
 ·have g1 := of_decide_eq_false h1
  refine aw_skip <| ath_n <| aw_seq ?_
  refine aw_region eqok [] [] [(17, cnearArc x0 x1 x2)] [6] [] [Same (cnearArc x0 x1 x2).2.1] ⟨[(6, tB (FnearArc x0 x1 x2))], []⟩ (.cons (oknearArc x0 x1 x2) .nil) (by kernel_rfl) (.cons rfl .nil) <| ath_n <| aw_ret ?_
  exact ⟨_, Cv.refl _, .inl rfl, .av (.one (.b (FnearArc x0 x1 x2))), by kernel_rfl, tve_eq (by first | (simp only [FNearR, h1, cond_true, cond_false]; done) | (simp only [FNearR, h1, cond_true, cond_false]; rfl))⟩
theorem okNearR (x0 : TEdge) (x1 : TPoint) (x2 : Int) : CallOk Try.prog (cNearR x0 x1 x2).1 (cNearR x0 x1 x2).2.1 (cNearR x0 x1 x2).2.2 := callOk_pure (fun _ _ => by kernel_rfl) fun _ => pNearR x0 x1 x2
theorem or3_f {p q r : Prop} [Decidable p] [Decidable q] [Decidable r] (h : (bif bif !decide p then true else !decide q then true else !decide r) = false) : p ∧ q ∧ r := by
 by_cases hp : p <;> by_cases hq : q <;> by_cases hr : r <;> simp_all
def FSameR_l0 (p1 : TShape) (p2 : TShape) : Nat → Int → Bool
 | 0, _ => default
 | n0 + 1, k => bif decide ((k : Int) < ((p1.Edges.length : Int))) then (bif !(decide (((p1.Edges.getD k.toNat default).Kind) = ((p2.Edges.getD k.toNat default).Kind)) && (decide ((((p1.Edges.getD k.toNat default).A).X) = (((p2.Edges.getD k.toNat default).A).X)) && (decide ((((p1.Edges.getD k.toNat default).A).Y) = (((p2.Edges.getD k.toNat default).A).Y)) && (decide ((((p1.Edges.getD k.toNat default).B).X) = (((p2.Edges.getD k.toNat default).B).X)) && (decide ((((p1.Edges.getD k.toNat default).B).Y) = (((p2.Edges.getD k.toNat default).B).Y)) && (decide ((((p1.Edges.getD k.toNat default).C).X) = (((p2.Edges.getD k.toNat default).C).X)) && (decide ((((p1.Edges.getD k.toNat default).C).Y) = (((p2.Edges.getD k.toNat default).C).Y)) && true))))))) then (false) else ((FSameR_l0 p1 p2 n0) (k + 1))) else (true)
def FSameR (p1 : TShape) (p2 : TShape) : Bool := bif bif bif !decide ((p1.Kind : Int) = p2.Kind) then true else !decide ((p1.R : Int) = p2.R) then true else !decide ((((p1.Edges.length : Int)) : Int) = ((p2.Edges.length : Int))) then (false) else (FSameR_l0 p1 p2 (((((p1.Edges.length : Int))) - 0).toNat + 1) 0)
def cSameR (p1 : TShape) (p2 : TShape) : FuncId × List Av × Ef := (28, [.agg (TShape.c p1), .agg (TShape.c p2)], .val [] (.av (.one (.b (FSameR p1 p2)))))
theorem pSameR (p1 : TShape) (p2 : TShape) (h0 : (p1.Edges.length : Int) ≤ 1000000) (h1 : (p2.Edges.length : Int) ≤ 1000000) : Pure Try.prog 28 (cSameR p1 p2).2.1 (.av (.one (.b (FSameR p1 p2)))) := by
 refine pure_of_awF Try.func28 rfl (by kernel_rfl) (by kernel_rfl) fun W0 M0 => ?_
 refine aw_seq ?_
 refine aw_region eqok [] [] [] [2, 3] [2, 3] [] ⟨[(2, tP 2 0), (3, tP 3 0)], [(2, .cells (TShape.c p1) 26), (3, .cells (TShape.c p2) 26)]⟩ .nil (by kernel_rfl) .nil <| ath_n ?_
 refine aw_seq <| aw_seq ?_
 refine aw_region eqok [] [] [] [2, 3, 26] [2, 3] [((!decide ((p1.Kind : Int) = p2.Kind)) = false) → ((!decide ((p1.Kind : Int) = p2.Kind)) = false), ((!decide ((p1.Kind : Int) = p2.Kind)) = false) → ((!decide ((p1.Kind : Int) = p2.Kind)) = false), ((!decide ((p1.Kind : Int) = p2.Kind)) = false) → ((!decide ((p1.Kind : Int) = p2.Kind)) = false), ((!decide ((p1.Kind : Int) = p2.Kind)) = false) → ((!decide ((p1.Kind : Int) = p2.Kind)) = false), (!decide ((p1.Kind : Int) = p2.Kind)) = false → ((!decide ((p1.Kind : Int) = p2.Kind)) = false), ((bif !decide ((p1.Kind : Int) = p2.Kind) then true else !decide ((p1.R : Int) = p2.R)) = false) → ((bif !decide ((p1.Kind : Int) = p2.Kind) then true else !decide ((p1.R : Int) = p2.R)) = false), ((bif !decide ((p1.Kind : Int) = p2.Kind) then true else !decide ((p1.R : Int) = p2.R)) = false) → ((bif !decide ((p1.Kind : Int) = p2.Kind) then true else !decide ((p1.R : Int) = p2.R)) = false), ((bif !decide ((p1.Kind : Int) = p2.Kind) then true else !decide ((p1.R : Int) = p2.R)) = false) → ((bif !decide ((p1.Kind : Int) = p2.Kind) then true else !decide ((p1.R : Int) = p2.R)) = false), ((bif !decide ((p1.Kind : Int) = p2.Kind) then true else !decide ((p1.R : Int) = p2.R)) = false) → ((bif !decide ((p1.Kind : Int) = p2.Kind) then true else !decide ((p1.R : Int) = p2.R)) = false), ((bif !decide ((p1.Kind : Int) = p2.Kind) then true else !decide ((p1.R : Int) = p2.R)) = false) → ((bif !decide ((p1.Kind : Int) = p2.Kind) then true else !decide ((p1.R : Int) = p2.R)) = false), ((bif !decide ((p1.Kind : Int) = p2.Kind) then true else !decide ((p1.R : Int) = p2.R)) = false) → ((bif !decide ((p1.Kind : Int) = p2.Kind) then true else !decide ((p1.R : Int) = p2.R)) = false), (bif !decide ((p1.Kind : Int) = p2.Kind) then true else !decide ((p1.R : Int) = p2.R)) = false → ((bif !decide ((p1.Kind : Int) = p2.Kind) then true else !decide ((p1.R : Int) = p2.R)) = false)] ⟨[(2, tP 2 0), (3, tP 3 0), (26, tB (bif bif !decide ((p1.Kind : Int) = p2.Kind) then true else !decide ((p1.R : Int) = p2.R) then true else !decide ((((p1.Edges.length : Int)) : Int) = ((p2.Edges.length : Int)))))], [(2, .cells (TShape.c p1) 26), (3, .cells (TShape.c p2) 26)]⟩ .nil (by kernel_rfl) (.cons id (.cons id (.cons id (.cons id (.cons id (.cons id (.cons id (.cons id (.cons id (.cons id (.cons id (.cons id .nil)))))))))))) <| ath_n ?_
 refine aw_cond (bif bif !decide ((p1.Kind : Int) = p2.Kind) then true else !decide ((p1.R : Int) = p2.R) then true else !decide ((((p1.Edges.length : Int)) : Int) = ((p2.Edges.length : Int)))) (by kernel_rfl) (fun h1 => ?_) (fun h1 => ?_)
 ·refine aw_seq ?_
  refine aw_region eqok [] [] [] [4] [] [] ⟨[(4, tB false)], []⟩ .nil (by kernel_rfl) .nil <| ath_n ?_
  refine aw_ret <| ath_r ?_
  exact ⟨_, Cv.refl _, .inl rfl, .av (.one (.b false)), by kernel_rfl, tve_eq (by first | (simp only [FSameR, h1, cond_true, cond_false]; done) | (simp only [FSameR, h1, cond_true, cond_false]; rfl))⟩
 ·refine aw_skip <| ath_n ?_
  refine aw_seq <| aw_seq ?_
  refine aw_region eqok [] [] [] [2, 3, 5] [2, 3] [] ⟨[(2, tP 2 0), (3, tP 3 0), (5, tI 0)], [(2, .cells (TShape.c p1) 26), (3, .cells (TShape.c p2) 26)]⟩ .nil (by kernel_rfl) .nil <| ath_n <| aw_block ?_
  refine aw_loopC (ι := Nat × Int) (fun x => ⟨[(2, tP 2 0), (3, tP 3 0), (5, tI x.2)], [(2, .cells (TShape.c p1) 26), (3, .cells (TShape.c p2) 26)]⟩) (fun x => ((((p1.Edges.length : Int))) - x.2).toNat < x.1 ∧ (0 ≤ x.2 ∧ (x.2 ≤ ((p1.Edges.length : Int)) ∨ x.2 = 0)) ∧ FSameR_l0 p1 p2 x.1 x.2 = FSameR p1 p2) (fun x => x.1) ?_ (((((p1.Edges.length : Int))) - 0).toNat + 1, 0) ⟨Nat.lt_succ_self _, ⟨(by show 0 ≤ 0; first | trivial | omega | exact at0 | exact at1 | exact at2 | (simp; omega) | simp), (by show (0 ≤ ((p1.Edges.length : Int)) ∨ 0 = 0); first | trivial | omega | exact at0 | exact at1 | exact at2 | (simp; omega) | simp)⟩, (by simp only [FSameR, h1, cond_true, cond_false])⟩
  rintro ⟨n0, k⟩ ⟨hn, hinv, hF⟩
  have hm0 : ((((p1.Edges.length : Int))) - k).toNat < n0 := hn; have hinv0 : 0 ≤ k ∧ (k ≤ ((p1.Edges.length : Int)) ∨ k = 0) := hinv; have hF0 : FSameR_l0 p1 p2 n0 k = FSameR p1 p2 := hF; clear hn hinv hF
  cases n0 with
  | zero => exact absurd hm0 (Nat.not_lt_zero _)
  | succ n0 =>
   have hE := (or3_f h1).2.2
   refine aw_seq <| aw_seq ?_
   refine aw_region eqok [] [] [] [2, 3, 5, 31] [2, 3] [] ⟨[(2, tP 2 0), (3, tP 3 0), (5, tI k), (31, tB (decide ((k : Int) < ((p1.Edges.length : Int)))))], [(2, .cells (TShape.c p1) 26), (3, .cells (TShape.c p2) 26)]⟩ .nil (by kernel_rfl) .nil <| ath_n ?_
   refine aw_cond (decide ((k : Int) < ((p1.Edges.length : Int)))) (by kernel_rfl) (fun h2 => ?_) (fun h2 => ?_)
   ·have g2 := of_decide_eq_true h2
    refine aw_skip <| ath_n ?_
    refine aw_seq <| aw_block <| aw_seq ?_
    refine aw_draw mixed eqok [] [] [] [2, 3, 5, 44] [2, 3] [0 ≤ (k : Int) ∧ (k : Int) < ((p1.Edges.length : Nat) : Int), 0 ≤ (k : Int) ∧ (k : Int) < ((p2.Edges.length : Nat) : Int)] ⟨[(2, tP 2 0), (3, tP 3 0), (5, tI k), (44, tB (!(decide (((p1.Edges.getD k.toNat default).Kind) = ((p2.Edges.getD k.toNat default).Kind)) && (decide ((((p1.Edges.getD k.toNat default).A).X) = (((p2.Edges.getD k.toNat default).A).X)) && (decide ((((p1.Edges.getD k.toNat default).A).Y) = (((p2.Edges.getD k.toNat default).A).Y)) && (decide ((((p1.Edges.getD k.toNat default).B).X) = (((p2.Edges.getD k.toNat default).B).X)) && (decide ((((p1.Edges.getD k.toNat default).B).Y) = (((p2.Edges.getD k.toNat default).B).Y)) && (decide ((((p1.Edges.getD k.toNat default).C).X) = (((p2.Edges.getD k.toNat default).C).X)) && (decide ((((p1.Edges.getD k.toNat default).C).Y) = (((p2.Edges.getD k.toNat default).C).Y)) && true)))))))))], [(2, .cells (TShape.c p1) 26), (3, .cells (TShape.c p2) 26)]⟩ .nil (by kernel_rfl) (by kernel_rfl) (.cons au1 (.cons au1 .nil)) <| ath_n ?_
    refine aw_cond (!(decide (((p1.Edges.getD k.toNat default).Kind) = ((p2.Edges.getD k.toNat default).Kind)) && (decide ((((p1.Edges.getD k.toNat default).A).X) = (((p2.Edges.getD k.toNat default).A).X)) && (decide ((((p1.Edges.getD k.toNat default).A).Y) = (((p2.Edges.getD k.toNat default).A).Y)) && (decide ((((p1.Edges.getD k.toNat default).B).X) = (((p2.Edges.getD k.toNat default).B).X)) && (decide ((((p1.Edges.getD k.toNat default).B).Y) = (((p2.Edges.getD k.toNat default).B).Y)) && (decide ((((p1.Edges.getD k.toNat default).C).X) = (((p2.Edges.getD k.toNat default).C).X)) && (decide ((((p1.Edges.getD k.toNat default).C).Y) = (((p2.Edges.getD k.toNat default).C).Y)) && true)))))))) (by kernel_rfl) (fun h3 => ?_) (fun h3 => ?_)
    ·refine aw_seq ?_
     refine aw_region eqok [] [] [] [4] [] [] ⟨[(4, tB false)], []⟩ .nil (by kernel_rfl) .nil <| ath_n ?_
     refine aw_ret <| abl_r ?_
     refine ath_r <| ath_r ?_
     refine abl_r <| ath_r ?_
     exact ⟨_, Cv.refl _, .inl rfl, .av (.one (.b false)), by kernel_rfl, tve_eq (by rw [← hF0]; first | (simp only [FSameR_l0, h2, h3, cond_true, cond_false]; done) | (simp only [FSameR_l0, h2, h3, cond_true, cond_false]; rfl))⟩
    ·refine aw_skip <| abl_n <| ath_n ?_
     refine aw_region eqok [] [] [] [2, 3, 5] [2, 3] [] ⟨[(2, tP 2 0), (3, tP 3 0), (5, tI (W64 (k + 1)))], [(2, .cells (TShape.c p1) 26), (3, .cells (TShape.c p2) 26)]⟩ .nil (by kernel_rfl) .nil ?_
     (try rw [(show W64 (k + 1) = k + 1 from W64_id (by omega) au7)])
     refine ath_n ?_
     refine ⟨(n0, k + 1), ⟨?_, ?_, (by rw [← hF0]; simp only [FSameR_l0, h2, h3, cond_true, cond_false])⟩, Nat.lt_succ_self _, cv_eq (by kernel_rfl)⟩
     ·show ((((p1.Edges.length : Int))) - (k + 1)).toNat < n0; omega
     ·exact ⟨(by show 0 ≤ (k + 1); first | trivial | omega | exact at0 | exact at1 | exact at2 | (simp; omega) | simp), (by show ((k + 1) ≤ ((p1.Edges.length : Int)) ∨ (k + 1) = 0); first | trivial | omega | exact at0 | exact at1 | exact at2 | (simp; omega) | simp)⟩
   ·have g2 := of_decide_eq_false h2
    refine aw_exit <| ath_e ?_
    refine ath_e <| abl_hit ?_
    refine ath_n <| aw_seq ?_
    refine aw_region eqok [] [] [] [4] [] [] ⟨[(4, tB true)], []⟩ .nil (by kernel_rfl) .nil <| ath_n <| aw_ret ?_
    exact ⟨_, Cv.refl _, .inl rfl, .av (.one (.b true)), by kernel_rfl, tve_eq (by rw [← hF0]; first | (simp only [FSameR_l0, h2, cond_true, cond_false]; done) | (simp only [FSameR_l0, h2, cond_true, cond_false]; rfl))⟩
theorem okSameR (p1 : TShape) (p2 : TShape) (h0 : (p1.Edges.length : Int) ≤ 1000000) (h1 : (p2.Edges.length : Int) ≤ 1000000) : CallOk Try.prog (cSameR p1 p2).1 (cSameR p1 p2).2.1 (cSameR p1 p2).2.2 := callOk_pure (fun _ _ => by kernel_rfl) fun _ => pSameR p1 p2 h0 h1
def wInsideR_0 (s : TShape) (k : Int) (p : TPoint) : Bool := FNearR (s.Edges.getD k.toNat default) p s.R
def FInsideR_l0 (s : TShape) (p : TPoint) : Nat → Int → Int → Bool
 | 0, _, _ => default
 | n0 + 1, winding, k => bif decide ((k : Int) < ((s.Edges.length : Int))) then (bif wInsideR_0 s k p then (true) else ((FInsideR_l0 s p n0) (W64 (winding + (Fref06Ray (s.Edges.getD k.toNat default) p))) (k + 1))) else (bif decide ((s.Kind : Int) = 2) then !decide ((winding : Int) = 0) else false)
def FInsideR (s : TShape) (p : TPoint) : Bool := bif bif !decide (((FCheckR s) : Int) = 0) then true else !(FWithinR (FBoxR s) p) then (false) else (FInsideR_l0 s p (((((s.Edges.length : Int))) - 0).toNat + 1) 0 0)
def cInsideR (s : TShape) (p : TPoint) : FuncId × List Av × Ef := (16, [.agg (TShape.c s), .agg (TPoint.c p)], .val [] (.av (.one (.b (FInsideR s p)))))
theorem pInsideR (s : TShape) (p : TPoint) (hl : (s.Edges.length : Int) ≤ 1000000) : Pure Try.prog 16 (cInsideR s p).2.1 (.av (.one (.b (FInsideR s p)))) := by
 refine pure_of_awF Try.func16 rfl (by kernel_rfl) (by kernel_rfl) fun W0 M0 => ?_
 refine aw_seq ?_
 refine aw_region eqok [] [] [] [2, 3] [2, 3] [] ⟨[(2, tP 2 0), (3, tP 3 0)], [(2, .cells (TShape.c s) 26), (3, .cells (TPoint.c p) 29)]⟩ .nil (by kernel_rfl) .nil <| ath_n <| aw_seq ?_
 refine aw_draw mixed eqok [] [] [(10, cBoxR s), (12, cWithinR (FBoxR s) p)] [2, 3, 5] [2, 3] [Same (cBoxR s).2.1, Same (cWithinR (FBoxR s) p).2.1] ⟨[(2, tP 2 0), (3, tP 3 0), (5, tB (FWithinR (FBoxR s) p))], [(2, .cells (TShape.c s) 26), (3, .cells (TPoint.c p) 29)]⟩ (.cons (okBoxR s au0) (.cons (okWithinR (FBoxR s) p) .nil)) (by kernel_rfl) (by kernel_rfl) (.cons rfl (.cons rfl .nil)) <| ath_n ?_
 refine aw_seq <| aw_seq ?_
 refine aw_region eqok [] [] [(14, cCheckR s)] [2, 3, 19] [2, 3] [Same (cCheckR s).2.1, ((!decide (((FCheckR s) : Int) = 0)) = false) → ((!decide (((FCheckR s) : Int) = 0)) = false), (!decide (((FCheckR s) : Int) = 0)) = false → ((!decide (((FCheckR s) : Int) = 0)) = false)] ⟨[(2, tP 2 0), (3, tP 3 0), (19, tB (bif !decide (((FCheckR s) : Int) = 0) then true else !(FWithinR (FBoxR s) p)))], [(2, .cells (TShape.c s) 26), (3, .cells (TPoint.c p) 29)]⟩ (.cons (okCheckR s au0) .nil) (by kernel_rfl) (.cons rfl (.cons id (.cons id .nil))) <| ath_n ?_
 refine aw_cond (bif !decide (((FCheckR s) : Int) = 0) then true else !(FWithinR (FBoxR s) p)) (by kernel_rfl) (fun h1 => ?_) (fun h1 => ?_)
 ·refine aw_seq ?_
  refine aw_region eqok [] [] [] [4] [] [] ⟨[(4, tB false)], []⟩ .nil (by kernel_rfl) .nil <| ath_n ?_
  refine aw_ret <| ath_r ?_
  exact ⟨_, Cv.refl _, .inl rfl, .av (.one (.b false)), by kernel_rfl, tve_eq (by first | (simp only [FInsideR, h1, cond_true, cond_false]; done) | (simp only [FInsideR, h1, cond_true, cond_false]; rfl))⟩
 ·refine aw_skip <| ath_n <| aw_seq ?_
  refine aw_region eqok [] [] [] [2, 3, 6] [2, 3] [] ⟨[(2, tP 2 0), (3, tP 3 0), (6, tI 0)], [(2, .cells (TShape.c s) 26), (3, .cells (TPoint.c p) 29)]⟩ .nil (by kernel_rfl) .nil <| ath_n ?_
  refine aw_seq <| aw_seq ?_
  refine aw_region eqok [] [] [] [2, 3, 6, 7] [2, 3] [] ⟨[(2, tP 2 0), (3, tP 3 0), (6, tI 0), (7, tI 0)], [(2, .cells (TShape.c s) 26), (3, .cells (TPoint.c p) 29)]⟩ .nil (by kernel_rfl) .nil <| ath_n <| aw_block ?_
  refine aw_loopC (ι := Nat × Int × Int) (fun x => ⟨[(2, tP 2 0), (3, tP 3 0), (6, tI x.2.1), (7, tI x.2.2)], [(2, .cells (TShape.c s) 26), (3, .cells (TPoint.c p) 29)]⟩) (fun x => ((((s.Edges.length : Int))) - x.2.2).toNat < x.1 ∧ (0 ≤ x.2.2 ∧ (x.2.2 ≤ ((s.Edges.length : Int)) ∨ x.2.2 = 0)) ∧ FInsideR_l0 s p x.1 x.2.1 x.2.2 = FInsideR s p) (fun x => x.1) ?_ (((((s.Edges.length : Int))) - 0).toNat + 1, 0, 0) ⟨Nat.lt_succ_self _, ⟨(by show 0 ≤ 0; first | trivial | omega | exact at0 | exact at1 | exact at2 | (simp; omega) | simp), (by show (0 ≤ ((s.Edges.length : Int)) ∨ 0 = 0); first | trivial | omega | exact at0 | exact at1 | exact at2 | (simp; omega) | simp)⟩, (by simp only [FInsideR, h1, cond_true, cond_false])⟩
  rintro ⟨n0, winding, k⟩ ⟨hn, hinv, hF⟩
  have hm0 : ((((s.Edges.length : Int))) - k).toNat < n0 := hn; have hinv0 : 0 ≤ k ∧ (k ≤ ((s.Edges.length : Int)) ∨ k = 0) := hinv; have hF0 : FInsideR_l0 s p n0 winding k = FInsideR s p := hF; clear hn hinv hF
  cases n0 with
  | zero => exact absurd hm0 (Nat.not_lt_zero _)
  | succ n0 =>
   refine aw_seq <| aw_seq ?_
   refine aw_region eqok [] [] [] [2, 3, 6, 7, 24] [2, 3] [] ⟨[(2, tP 2 0), (3, tP 3 0), (6, tI winding), (7, tI k), (24, tB (decide ((k : Int) < ((s.Edges.length : Int)))))], [(2, .cells (TShape.c s) 26), (3, .cells (TPoint.c p) 29)]⟩ .nil (by kernel_rfl) .nil <| ath_n ?_
   refine aw_cond (decide ((k : Int) < ((s.Edges.length : Int)))) (by kernel_rfl) (fun h2 => ?_) (fun h2 => ?_)
   ·have g2 := of_decide_eq_true h2
    refine aw_skip <| ath_n ?_
    refine aw_seq <| aw_block <| aw_seq ?_
    refine aw_draw mixed eqok [] [] [(35, cNearR (s.Edges.getD k.toNat default) p s.R)] [2, 3, 6, 7, 8] [2, 3] [0 ≤ (k : Int) ∧ (k : Int) < ((s.Edges.length : Nat) : Int), Same (cNearR (s.Edges.getD k.toNat default) p s.R).2.1] ⟨[(2, tP 2 0), (3, tP 3 0), (6, tI winding), (7, tI k), (8, tB (wInsideR_0 s k p))], [(2, .cells (TShape.c s) 26), (3, .cells (TPoint.c p) 29)]⟩ (.cons (okNearR (s.Edges.getD k.toNat default) p s.R) .nil) (by kernel_rfl) (by kernel_rfl) (.cons au1 (.cons rfl .nil)) <| ath_n ?_
    refine aw_seq <| aw_seq ?_
    refine aw_region eqok [] [] [] [2, 3, 6, 7, 36] [2, 3] [] ⟨[(2, tP 2 0), (3, tP 3 0), (6, tI winding), (7, tI k), (36, tB (wInsideR_0 s k p))], [(2, .cells (TShape.c s) 26), (3, .cells (TPoint.c p) 29)]⟩ .nil (by kernel_rfl) .nil <| ath_n ?_
    refine aw_cond (wInsideR_0 s k p) (by kernel_rfl) (fun h3 => ?_) (fun h3 => ?_)
    ·refine aw_seq ?_
     refine aw_region eqok [] [] [] [4] [] [] ⟨[(4, tB true)], []⟩ .nil (by kernel_rfl) .nil <| ath_n ?_
     refine aw_ret <| ath_r ?_
     refine abl_r <| ath_r ?_
     refine ath_r <| abl_r <| ath_r ?_
     exact ⟨_, Cv.refl _, .inl rfl, .av (.one (.b true)), by kernel_rfl, tve_eq (by rw [← hF0]; first | (simp only [FInsideR_l0, h2, h3, cond_true, cond_false]; done) | (simp only [FInsideR_l0, h2, h3, cond_true, cond_false]; rfl))⟩
    ·refine aw_skip <| ath_n ?_
     refine aw_draw mixed eqok [] [] [(44, cref06Ray (s.Edges.getD k.toNat default) p)] [2, 3, 6, 7] [2, 3] [0 ≤ (k : Int) ∧ (k : Int) < ((s.Edges.length : Nat) : Int), Same (cref06Ray (s.Edges.getD k.toNat default) p).2.1] ⟨[(2, tP 2 0), (3, tP 3 0), (6, tI (W64 (winding + (Fref06Ray (s.Edges.getD k.toNat default) p)))), (7, tI k)], [(2, .cells (TShape.c s) 26), (3, .cells (TPoint.c p) 29)]⟩ (.cons (okref06Ray (s.Edges.getD k.toNat default) p) .nil) (by kernel_rfl) (by kernel_rfl) (.cons au1 (.cons rfl .nil)) <| abl_n <| ath_n ?_
     refine aw_region eqok [] [] [] [2, 3, 6, 7] [2, 3] [] ⟨[(2, tP 2 0), (3, tP 3 0), (6, tI (W64 (winding + (Fref06Ray (s.Edges.getD k.toNat default) p)))), (7, tI (W64 (k + 1)))], [(2, .cells (TShape.c s) 26), (3, .cells (TPoint.c p) 29)]⟩ .nil (by kernel_rfl) .nil ?_
     (try rw [(show W64 (k + 1) = k + 1 from W64_id (by omega) au7)])
     refine ath_n ?_
     refine ⟨(n0, W64 (winding + (Fref06Ray (s.Edges.getD k.toNat default) p)), k + 1), ⟨?_, ?_, (by rw [← hF0]; simp only [FInsideR_l0, h2, h3, cond_true, cond_false])⟩, Nat.lt_succ_self _, cv_eq (by kernel_rfl)⟩
     ·show ((((s.Edges.length : Int))) - (k + 1)).toNat < n0; omega
     ·exact ⟨(by show 0 ≤ (k + 1); first | trivial | omega | exact at0 | exact at1 | exact at2 | (simp; omega) | simp), (by show ((k + 1) ≤ ((s.Edges.length : Int)) ∨ (k + 1) = 0); first | trivial | omega | exact at0 | exact at1 | exact at2 | (simp; omega) | simp)⟩
   ·have g2 := of_decide_eq_false h2
    refine aw_exit <| ath_e ?_
    refine ath_e <| abl_hit ?_
    refine ath_n <| aw_seq ?_
    refine aw_region eqok [] [] [] [4] [] [((decide ((s.Kind : Int) = 2)) = true) → ((decide ((s.Kind : Int) = 2)) = true), (decide ((s.Kind : Int) = 2)) = true → ((decide ((s.Kind : Int) = 2)) = true)] ⟨[(4, tB (bif decide ((s.Kind : Int) = 2) then !decide ((winding : Int) = 0) else false))], []⟩ .nil (by kernel_rfl) (.cons id (.cons id .nil)) <| ath_n <| aw_ret ?_
    exact ⟨_, Cv.refl _, .inl rfl, .av (.one (.b (bif decide ((s.Kind : Int) = 2) then !decide ((winding : Int) = 0) else false))), by kernel_rfl, tve_eq (by rw [← hF0]; first | (simp only [FInsideR_l0, h2, cond_true, cond_false]; done) | (simp only [FInsideR_l0, h2, cond_true, cond_false]; rfl))⟩
theorem okInsideR (s : TShape) (p : TPoint) (hl : (s.Edges.length : Int) ≤ 1000000) : CallOk Try.prog (cInsideR s p).1 (cInsideR s p).2.1 (cInsideR s p).2.2 := callOk_pure (fun _ _ => by kernel_rfl) fun _ => pInsideR s p hl
end Go.Proofs.Ytpnlegfdkkcnlaa
namespace Go.Proofs.Ytpnlegfdkkcnlaa
set_option maxRecDepth 100000
open Go.RowKit
set_option linter.unusedVariables false
set_option linter.unusedSimpArgs false
theorem cnd_and (a b : Bool) : (bif a then b else false) = (a && b) := by cases a <;> rfl
theorem cnd_or (a b : Bool) : (bif a then true else b) = (a || b) := by cases a <;> rfl
theorem cnd_if {α : Type} (a : Bool) (x y : α) : (bif a then x else y) = if a = true then x else y := by cases a <;> rfl
def C27 (x : Int) : Prop := -67108864 ≤ x ∧ x ≤ 67108864
def RP (p : TPoint) : Prop := C27 p.X ∧ C27 p.Y
def R28 (p : TPoint) : Prop := (-134217728 ≤ p.X ∧ p.X ≤ 134217728) ∧ -134217728 ≤ p.Y ∧ p.Y ≤ 134217728
instance (x : Int) : Decidable (C27 x) := by unfold C27; infer_instance
instance (p : TPoint) : Decidable (RP p) := by unfold RP; infer_instance
theorem mul_b (x y A B : Int) (hx : -A ≤ x ∧ x ≤ A) (hy : -B ≤ y ∧ y ≤ B) : -(A * B) ≤ x * y ∧ x * y ≤ A * B := by
 have hA : 0 ≤ A := by omega
 have h1 : 0 ≤ (A - x) * (B + y) := Int.mul_nonneg (by omega) (by omega)
 have h2 : 0 ≤ (A + x) * (B - y) := Int.mul_nonneg (by omega) (by omega)
 have h3 : 0 ≤ (A - x) * (B - y) := Int.mul_nonneg (by omega) (by omega)
 have h4 : 0 ≤ (A + x) * (B + y) := Int.mul_nonneg (by omega) (by omega)
 have e1 : (A - x) * (B + y) = A * B + A * y - x * B - x * y := by grind
 have e2 : (A + x) * (B - y) = A * B - A * y + x * B - x * y := by grind
 have e3 : (A - x) * (B - y) = A * B - A * y - x * B + x * y := by grind
 have e4 : (A + x) * (B + y) = A * B + A * y + x * B + x * y := by grind
 omega
theorem b54 {x y : Int} (hx : -134217728 ≤ x ∧ x ≤ 134217728) (hy : -134217728 ≤ y ∧ y ≤ 134217728) : -18014398509481984 ≤ x * y ∧ x * y ≤ 18014398509481984 := by
 have := mul_b x y 134217728 134217728 hx hy
 omega
theorem sq_nn (x : Int) : 0 ≤ x * x := by
 rcases Int.le_total 0 x with h | h
 ·exact Int.mul_nonneg h h
 ·have := Int.mul_nonneg (show 0 ≤ -x by omega) (show 0 ≤ -x by omega)
  rwa [Int.neg_mul_neg] at this
theorem sub_eq {p q : TPoint} (hp : RP p) (hq : RP q) : FvecSub p q = ⟨p.X - q.X, p.Y - q.Y⟩ := by
 unfold RP C27 at *
 unfold FvecSub
 rw [W64_id (by omega) (by omega), W64_id (by omega) (by omega)]
theorem sub_r {p q : TPoint} (hp : RP p) (hq : RP q) : R28 ⟨p.X - q.X, p.Y - q.Y⟩ := by
 unfold RP C27 at *
 unfold R28
 simp only
 omega
theorem dot_eq {u v : TPoint} (hu : R28 u) (hv : R28 v) : FvecDot u v = u.X * v.X + u.Y * v.Y := by
 obtain ⟨h1, h2⟩ := hu; obtain ⟨h3, h4⟩ := hv
 have b1 := b54 h1 h3; have b2 := b54 h2 h4
 unfold FvecDot
 rw [W64_id (x := u.X * v.X) (by omega) (by omega), W64_id (x := u.Y * v.Y) (by omega) (by omega), W64_id (by omega) (by omega)]
theorem cross_eq {u v : TPoint} (hu : R28 u) (hv : R28 v) : FvecCross u v = u.X * v.Y - u.Y * v.X := by
 obtain ⟨h1, h2⟩ := hu; obtain ⟨h3, h4⟩ := hv
 have b1 := b54 h1 h4; have b2 := b54 h2 h3
 unfold FvecCross
 rw [W64_id (x := u.X * v.Y) (by omega) (by omega), W64_id (x := u.Y * v.X) (by omega) (by omega), W64_id (by omega) (by omega)]
theorem right_eq (p : TPoint) : FvecRight p = decide (RP p) := by
 rw [Bool.eq_iff_iff, decide_eq_true_eq]
 unfold FvecRight RP C27
 simp only [cnd_and, Bool.and_eq_true, decide_eq_true_eq]
 omega
theorem right5_eq (p : TPoint) : Fref05Right p = decide (RP p) := by
 rw [Bool.eq_iff_iff, decide_eq_true_eq]
 unfold Fref05Right RP C27
 simp only [cnd_and, Bool.and_eq_true, decide_eq_true_eq]
 omega
def Odd (e : TEdge) : Prop := ¬ (e.A.X - e.C.X = 0 ↔ e.A.Y - e.C.Y = 0)
def QL (e : TEdge) : Prop := Odd e ∧ e.B.X - e.C.X = -(e.A.Y - e.C.Y) ∧ e.B.Y - e.C.Y = e.A.X - e.C.X
def QR (e : TEdge) : Prop := Odd e ∧ e.B.X - e.C.X = e.A.Y - e.C.Y ∧ e.B.Y - e.C.Y = -(e.A.X - e.C.X)
def Rights (e : TEdge) : Prop := RP e.A ∧ RP e.B ∧ RP e.C
def Form (e : TEdge) : Prop := (e.Kind = 1 ∧ e.C.X = 0 ∧ e.C.Y = 0) ∨ (e.Kind = 2 ∧ QL e) ∨ (e.Kind = 3 ∧ QR e)
def OkE (e : TEdge) : Prop := Rights e ∧ Form e
instance (e : TEdge) : Decidable (QL e) := by unfold QL Odd; infer_instance
instance (e : TEdge) : Decidable (QR e) := by unfold QR Odd; infer_instance
instance (e : TEdge) : Decidable (Rights e) := by unfold Rights; infer_instance
instance (e : TEdge) : Decidable (Form e) := by unfold Form; infer_instance
instance (e : TEdge) : Decidable (OkE e) := by unfold OkE; infer_instance
def CheckM (e : TEdge) : Int := if OkE e then 0 else if (1 ≤ e.Kind ∧ e.Kind ≤ 3) ∧ ¬ Rights e then 10 else 11
theorem apply1 (p : TPoint) : FvecApply ⟨⟨0, 0⟩, 1, false⟩ p = ⟨W64 (W64 (0 - p.Y) + 0), W64 (p.X + 0)⟩ := by
 have ht : FvecTurns ⟨⟨0, 0⟩, 1, false⟩ = 1 := by decide +kernel
 unfold FvecApply
 rw [ht]
 rfl
theorem apply3 (p : TPoint) : FvecApply ⟨⟨0, 0⟩, 3, false⟩ p = ⟨W64 (W64 (0 - W64 (0 - p.Y)) + 0), W64 (W64 (0 - p.X) + 0)⟩ := by
 have ht : FvecTurns ⟨⟨0, 0⟩, 3, false⟩ = 3 := by decide +kernel
 unfold FvecApply
 rw [ht]
 rfl
theorem left_eq (e : TEdge) (h : Rights e) : Fedgeleftwards e = decide (QL e) := by
 obtain ⟨ha, hb, hc⟩ := h
 rw [Bool.eq_iff_iff, decide_eq_true_eq]
 unfold Fedgeleftwards Fedgequarter QL Odd
 rw [apply1, sub_eq ha hc, sub_eq hb hc]
 unfold RP C27 at *
 simp only [cnd_and, Bool.and_eq_true, decide_eq_true_eq, Bool.not_eq_true', and_true, W64_def, beq_eq_false_iff_ne, ne_eq, decide_eq_decide]
 omega
theorem right3_eq (e : TEdge) (h : Rights e) : Fedgerightwards e = decide (QR e) := by
 obtain ⟨ha, hb, hc⟩ := h
 rw [Bool.eq_iff_iff, decide_eq_true_eq]
 unfold Fedgerightwards Fedgequarter QR Odd
 rw [apply3, sub_eq ha hc, sub_eq hb hc]
 unfold RP C27 at *
 simp only [cnd_and, Bool.and_eq_true, decide_eq_true_eq, Bool.not_eq_true', and_true, W64_def, beq_eq_false_iff_ne, ne_eq, decide_eq_decide]
 omega
theorem lone_eq (e : TEdge) : Fedgelone e = decide (e.C.X = 0 ∧ e.C.Y = 0) := by
 rw [Bool.eq_iff_iff, decide_eq_true_eq]
 unfold Fedgelone
 simp only [Bool.and_eq_true, decide_eq_true_eq, and_true]
theorem rights_b (a0 a1 a2 : TPoint) (k : Int) : (bif bif FvecRight a0 then FvecRight a1 else false then FvecRight a2 else false) = decide (Rights ⟨k, a0, a1, a2⟩) := by
 rw [Bool.eq_iff_iff, decide_eq_true_eq]
 unfold Rights
 simp only [cnd_and, Bool.and_eq_true, right_eq, decide_eq_true_eq, and_assoc]
theorem ok_b1 (a0 a1 a2 : TPoint) : (bif decide (Rights ⟨1, a0, a1, a2⟩) then Fedgelone ⟨1, a0, a1, a2⟩ else false) = decide (OkE ⟨1, a0, a1, a2⟩) := by
 rw [Bool.eq_iff_iff, decide_eq_true_eq]
 unfold OkE Form
 rw [lone_eq]
 simp [cnd_and]
theorem ok_b2 (a0 a1 a2 : TPoint) : (bif decide (Rights ⟨2, a0, a1, a2⟩) then Fedgeleftwards ⟨2, a0, a1, a2⟩ else false) = decide (OkE ⟨2, a0, a1, a2⟩) := by
 rw [Bool.eq_iff_iff, decide_eq_true_eq]
 unfold OkE Form
 by_cases h : Rights ⟨2, a0, a1, a2⟩
 ·rw [left_eq _ h]; simp [cnd_and, h]
 ·simp [h]
theorem ok_b3 (a0 a1 a2 : TPoint) : (bif decide (Rights ⟨3, a0, a1, a2⟩) then Fedgerightwards ⟨3, a0, a1, a2⟩ else false) = decide (OkE ⟨3, a0, a1, a2⟩) := by
 rw [Bool.eq_iff_iff, decide_eq_true_eq]
 unfold OkE Form
 by_cases h : Rights ⟨3, a0, a1, a2⟩
 ·rw [right3_eq _ h]; simp [cnd_and, h]
 ·simp [h]
theorem ok_kind {e : TEdge} (h : OkE e) : e.Kind = 1 ∨ e.Kind = 2 ∨ e.Kind = 3 := by
 obtain ⟨_, h⟩ := h
 rcases h with ⟨h, _⟩ | ⟨h, _⟩ | ⟨h, _⟩ <;> simp [h]
theorem check_eq (e : TEdge) : FCheck e = CheckM e := by
 obtain ⟨k, a0, a1, a2⟩ := e
 unfold FCheck
 by_cases k1 : k = 1
 ·subst k1
  simp only [if_true, FCheck1, wCheck1_0, wof1_2, wof1_1, wof1_0]
  rw [rights_b a0 a1 a2 1, ok_b1]
  unfold CheckM
  simp [cnd_if]
 by_cases k2 : k = 2
 ·subst k2
  simp only [k1, if_false, if_true, FCheck2, wCheck2_0, wof2_2, wof2_1, wof2_0]
  rw [rights_b a0 a1 a2 2, ok_b2]
  unfold CheckM
  simp [cnd_if]
 by_cases k3 : k = 3
 ·subst k3
  simp only [k1, k2, if_false, if_true, FCheck3, wCheck3_0, wof3_2, wof3_1, wof3_0]
  rw [rights_b a0 a1 a2 3, ok_b3]
  unfold CheckM
  simp [cnd_if]
 ·simp only [k1, k2, k3, if_false, FCheckN]
  rw [rights_b a0 a1 a2 k]
  unfold CheckM
  rw [if_neg (fun h => by have := ok_kind h; simp only at this; omega)]
  simp only [cnd_and]
  simp only [cnd_if, Bool.and_eq_true, decide_eq_true_eq, Bool.not_eq_true', decide_eq_false_iff_not]
theorem check6_eq (e : TEdge) : Fref06Check e = CheckM e := by
 obtain ⟨k, a0, a1, a2⟩ := e
 unfold Fref06Check wref06Check_1 wref06Check_0 CheckM
 by_cases hk : 1 ≤ k ∧ k ≤ 3
 ·by_cases hr : Rights ⟨k, a0, a1, a2⟩
  ·obtain ⟨ha, hb, hc⟩ := id hr
   have hs : ∀ p q, Fref05Sub p q = FvecSub p q := fun _ _ => rfl
   simp only [hs, right5_eq]
   simp only at ha hb hc
   simp only [sub_eq ha hc, sub_eq hb hc, ha, hb, hc]
   unfold RP C27 at ha hb hc
   have hd : decide (k < 1) = false := by simp; omega
   have hd' : decide (3 < k) = false := by simp; omega
   rw [hd, hd']
   simp only [decide_true, Bool.not_true, cond_false, hr, not_true, and_false, if_false]
   have k3 : k = 1 ∨ k = 2 ∨ k = 3 := by omega
   rcases k3 with rfl | rfl | rfl
   ·simp only [OkE, Form, hr, true_and, decide_true, cond_true, QL, QR]
    by_cases h1 : a2.X = 0 <;> by_cases h2 : a2.Y = 0 <;> simp [h1, h2, hr]
   ·simp only [OkE, Form, hr, true_and, QL, QR, Odd, W64_def]
    simp only [cnd_or, Bool.and_true]
    simp only [cnd_if, Bool.or_eq_true, Bool.not_eq_true', Bool.and_eq_false_iff, decide_eq_true_eq, decide_eq_false_iff_not, beq_iff_eq, decide_eq_decide]
    simp only [Int.reduceEq, if_false, and_false, false_and, false_or, or_false, if_true, and_true, Bool.and_eq_false_iff, decide_eq_false_iff_not, Bool.and_true]
    by_cases h1 : a0.X - a2.X = 0 <;> by_cases h2 : a0.Y - a2.Y = 0 <;> simp only [h1, h2, true_or, if_true, iff_self, iff_true, iff_false, true_iff, false_iff, not_true, not_false_eq_true, false_and, true_and, if_false, false_or, or_false, true_and] <;> (try rfl) <;> split <;> split <;> first | rfl | (exfalso; omega)
   ·simp only [OkE, Form, hr, true_and, QL, QR, Odd, W64_def]
    simp only [cnd_or, Bool.and_true]
    simp only [cnd_if, Bool.or_eq_true, Bool.not_eq_true', Bool.and_eq_false_iff, decide_eq_true_eq, decide_eq_false_iff_not, beq_iff_eq, decide_eq_decide]
    simp only [Int.reduceEq, if_false, and_false, false_and, false_or, or_false, if_true, and_true, Bool.and_eq_false_iff, decide_eq_false_iff_not, Bool.and_true]
    by_cases h1 : a0.X - a2.X = 0 <;> by_cases h2 : a0.Y - a2.Y = 0 <;> simp only [h1, h2, true_or, if_true, iff_self, iff_true, iff_false, true_iff, false_iff, not_true, not_false_eq_true, false_and, true_and, if_false, false_or, or_false, true_and] <;> (try rfl) <;> split <;> split <;> first | rfl | (exfalso; omega)
  ·rw [if_neg (fun h => hr h.1), if_pos ⟨hk, hr⟩]
   have hd : decide (k < 1) = false := by simp; omega
   have hd' : decide (3 < k) = false := by simp; omega
   rw [hd, hd']
   simp only [right5_eq, cond_false]
   have : (bif bif !decide (RP a0) then true else !decide (RP a1) then true else !decide (RP a2)) = true := by
    simp only [cnd_or, Bool.or_eq_true, Bool.not_eq_true', decide_eq_false_iff_not]
    unfold Rights at hr
    simp only at hr
    by_cases h0 : RP a0 <;> by_cases h1 : RP a1 <;> by_cases h2 : RP a2 <;> simp_all
   rw [this]
   rfl
 ·rw [if_neg (fun h => by have := ok_kind h; simp only at this; omega), if_neg (fun h => hk h.1)]
  have : (bif decide (k < 1) then true else decide (3 < k)) = true := by
   simp only [cnd_or, Bool.or_eq_true, decide_eq_true_eq]; omega
  rw [this]
  rfl
def cr (a b p : TPoint) : Int := (b.X - a.X) * (p.Y - a.Y) - (b.Y - a.Y) * (p.X - a.X)
def d2 (p c : TPoint) : Int := (p.X - c.X) * (p.X - c.X) + (p.Y - c.Y) * (p.Y - c.Y)
def InB (e : TEdge) (p : TPoint) : Prop := (min e.A.X e.B.X ≤ p.X ∧ p.X ≤ max e.A.X e.B.X) ∧ min e.A.Y e.B.Y ≤ p.Y ∧ p.Y ≤ max e.A.Y e.B.Y
instance (e : TEdge) (p : TPoint) : Decidable (InB e p) := by unfold InB; infer_instance
def up (e : TEdge) : Int := if e.A.Y < e.B.Y then 1 else if e.B.Y < e.A.Y then -1 else 0
def RightHalf (e : TEdge) : Prop := e.C.X < e.A.X ∨ e.C.X < e.B.X
instance (e : TEdge) : Decidable (RightHalf e) := by unfold RightHalf; infer_instance
def Bey (e : TEdge) (p : TPoint) : Prop := if e.Kind = 1 then (if e.A.Y < e.B.Y then 0 < cr e.A e.B p else cr e.A e.B p < 0) else if RightHalf e then d2 p e.C < d2 e.A e.C else d2 e.A e.C < d2 p e.C
instance (e : TEdge) (p : TPoint) : Decidable (Bey e p) := by unfold Bey; infer_instance
def InR (e : TEdge) (p : TPoint) : Prop := (min e.A.Y e.B.Y ≤ p.Y ∧ p.Y < max e.A.Y e.B.Y) ∧ p.X < max e.A.X e.B.X
instance (e : TEdge) (p : TPoint) : Decidable (InR e p) := by unfold InR; infer_instance
def RayM (e : TEdge) (p : TPoint) : Int := if OkE e ∧ InR e p ∧ (p.X < min e.A.X e.B.X ∨ Bey e p) then up e else 0
theorem arc_odd {e : TEdge} (h : OkE e) (hk : e.Kind ≠ 1) : Odd e ∧ ((e.B.X - e.C.X = -(e.A.Y - e.C.Y) ∧ e.B.Y - e.C.Y = e.A.X - e.C.X) ∨ (e.B.X - e.C.X = e.A.Y - e.C.Y ∧ e.B.Y - e.C.Y = -(e.A.X - e.C.X))) := by
 obtain ⟨_, h⟩ := h
 rcases h with ⟨h, _⟩ | ⟨h, h1, h2⟩ | ⟨h, h1, h2⟩
 ·exact absurd h hk
 ·exact ⟨h1, .inl h2⟩
 ·exact ⟨h1, .inr h2⟩
theorem odd_cases {e : TEdge} (h : Odd e) : (e.A.X - e.C.X = 0 ∧ e.A.Y - e.C.Y ≠ 0) ∨ (e.A.X - e.C.X ≠ 0 ∧ e.A.Y - e.C.Y = 0) := by
 unfold Odd at h
 by_cases h1 : e.A.X - e.C.X = 0 <;> by_cases h2 : e.A.Y - e.C.Y = 0 <;> simp_all
theorem inb_rp {e : TEdge} {p : TPoint} (h : Rights e) (hp : InB e p) : RP p := by
 obtain ⟨ha, hb, hc⟩ := h
 unfold InB at hp
 unfold RP C27 at *
 omega
theorem side_eq {e : TEdge} {p : TPoint} (h : Rights e) (hp : RP p) : FvecSide e.A e.B p = if 0 < cr e.A e.B p then 1 else if cr e.A e.B p < 0 then -1 else 0 := by
 obtain ⟨ha, hb, hc⟩ := h
 have : FvecCross (FvecSub e.B e.A) (FvecSub p e.A) = cr e.A e.B p := by
  rw [sub_eq hb ha, sub_eq hp ha, cross_eq (sub_r hb ha) (sub_r hp ha)]
  rfl
 unfold FvecSide
 rw [this]
 simp only [cnd_if, decide_eq_true_eq]
theorem power_eq {e : TEdge} {p : TPoint} (h : Rights e) (hp : RP p) : Fedgepower e p = d2 p e.C - d2 e.A e.C := by
 obtain ⟨ha, hb, hc⟩ := h
 unfold Fedgepower
 rw [sub_eq hp hc, sub_eq ha hc, dot_eq (sub_r hp hc) (sub_r hp hc), dot_eq (sub_r ha hc) (sub_r ha hc)]
 have h1 := sub_r hp hc
 have h2 := sub_r ha hc
 unfold R28 at h1 h2
 have b1 := b54 h1.1 h1.1
 have b2 := b54 h1.2 h1.2
 have b3 := b54 h2.1 h2.1
 have b4 := b54 h2.2 h2.2
 rw [W64_id (by simp only at *; omega) (by simp only at *; omega)]
 rfl
def RadM (e : TEdge) : Int := if OkE e ∧ e.Kind ≠ 1 then max (e.A.X - e.C.X) (-(e.A.X - e.C.X)) + max (e.A.Y - e.C.Y) (-(e.A.Y - e.C.Y)) else 0
theorem rad_arc {k : Int} {a0 a1 a2 : TPoint} (h : OkE ⟨k, a0, a1, a2⟩) (hk : k ≠ 1) : max (max (max ((FvecSub a0 a2).X) (W64 (0 - ((FvecSub a0 a2).X)))) ((FvecSub a0 a2).Y)) (W64 (0 - ((FvecSub a0 a2).Y))) = max (a0.X - a2.X) (-(a0.X - a2.X)) + max (a0.Y - a2.Y) (-(a0.Y - a2.Y)) := by
 have ho := odd_cases (arc_odd h hk).1
 obtain ⟨ha, hb, hc⟩ := h.1
 simp only at ha hb hc ho
 rw [sub_eq ha hc]
 unfold RP C27 at *
 simp only [W64_def]
 omega
theorem rad_eq (e : TEdge) : FRadius e = RadM e := by
 obtain ⟨k, a0, a1, a2⟩ := e
 unfold FRadius RadM
 by_cases k1 : k = 1
 ·subst k1
  simp [FRadius1, wRadius1_0, wof1_2, wof1_1, wof1_0]
 by_cases k2 : k = 2
 ·subst k2
  simp only [k1, if_false, if_true, FRadius2, wRadius2_0, wof2_2, wof2_1, wof2_0]
  rw [rights_b a0 a1 a2 2, ok_b2]
  by_cases h : OkE ⟨2, a0, a1, a2⟩
  ·simp only [h, decide_true, Bool.not_true, cond_false, rad_arc h (by decide)]; simp
  ·simp [h]
 by_cases k3 : k = 3
 ·subst k3
  simp only [k1, k2, if_false, if_true, FRadius3, wRadius3_0, wof3_2, wof3_1, wof3_0]
  rw [rights_b a0 a1 a2 3, ok_b3]
  by_cases h : OkE ⟨3, a0, a1, a2⟩
  ·simp only [h, decide_true, Bool.not_true, cond_false, rad_arc h (by decide)]; simp
  ·simp [h]
 ·simp only [k1, k2, k3, if_false, FRadiusN]
  rw [if_neg]
  intro h
  have := ok_kind h.1
  simp only at this
  omega
theorem check0 (e : TEdge) : decide (CheckM e = 0) = decide (OkE e) := by
 unfold CheckM
 by_cases h : OkE e
 ·simp [h]
 ·simp only [h, if_false, decide_false, decide_eq_false_iff_not]
  split <;> omega
theorem rad6_eq (e : TEdge) : Fref06Radius e = RadM e := by
 unfold Fref06Radius RadM
 rw [check6_eq, check0]
 have hs : ∀ p q, Fref05Sub p q = FvecSub p q := fun _ _ => rfl
 by_cases k1 : e.Kind = 1
 ·simp [k1]
 by_cases h : OkE e
 ·have ho := odd_cases (arc_odd h k1).1
  obtain ⟨ha, hb, hc⟩ := h.1
  simp only [k1, h, decide_true, decide_false, cond_false, Bool.not_true, Fref06size, hs, sub_eq ha hc, ne_eq, not_false_eq_true, and_self, if_true]
  unfold RP C27 at *
  simp only [W64_def]
  omega
 ·simp [h]
theorem rad_sq {e : TEdge} (h : OkE e) (hk : e.Kind ≠ 1) : RadM e * RadM e = d2 e.A e.C := by
 have ho := odd_cases (arc_odd h hk).1
 unfold RadM d2
 rw [if_pos ⟨h, hk⟩]
 have sq : ∀ x : Int, (max x (-x)) * (max x (-x)) = x * x := fun x => by
  rcases Int.le_total 0 x with h | h
  ·rw [Int.max_eq_left (by omega)]
  ·rw [Int.max_eq_right (by omega), Int.neg_mul_neg]
 rcases ho with ⟨h1, _⟩ | ⟨_, h1⟩
 ·rw [h1]; simp [sq]
 ·rw [h1]; simp [sq]
theorem rad_b (e : TEdge) : 0 ≤ RadM e ∧ RadM e ≤ 268435456 := by
 unfold RadM
 split
 ·rename_i h
  obtain ⟨ha, hb, hc⟩ := h.1.1
  unfold RP C27 at *
  omega
 ·omega
theorem radsq_w {e : TEdge} (h : OkE e) (hk : e.Kind ≠ 1) : W64 (RadM e * RadM e) = d2 e.A e.C := by
 have hb := rad_b e
 have := mul_b (RadM e) (RadM e) 268435456 268435456 (by omega) (by omega)
 rw [W64_id (by omega) (by omega), rad_sq h hk]
theorem up_eq (e : TEdge) : Fedgeupward e = up e := by
 unfold Fedgeupward up
 simp only [cnd_if, decide_eq_true_eq]
theorem inr_b {e : TEdge} {p : TPoint} (h : InR e p) (hx : ¬ p.X < min e.A.X e.B.X) : InB e p := by
 unfold InR at h
 unfold InB
 omega
theorem ray_form (e : TEdge) (p : TPoint) (g : Bool) (hg : OkE e → InR e p → ¬ p.X < min e.A.X e.B.X → (g = true ↔ Bey e p)) :
  (bif bif bif bif !decide (OkE e) then true else decide ((p.Y : Int) < ((FedgeBox e).Y0)) then true else decide ((((FedgeBox e).Y1) : Int) ≤ p.Y) then true else decide ((((FedgeBox e).X1) : Int) ≤ p.X) then (0) else (bif bif decide ((p.X : Int) < ((FedgeBox e).X0)) then true else g then (Fedgeupward e) else (0))) = RayM e p := by
 unfold RayM
 rw [up_eq]
 unfold FedgeBox
 simp only [cnd_or]
 simp only [cnd_if, Bool.or_eq_true, Bool.not_eq_true', decide_eq_true_eq, decide_eq_false_iff_not]
 by_cases h : OkE e
 ·by_cases hr : InR e p
  ·have h1 : ¬ (((¬ OkE e ∨ p.Y < min e.A.Y e.B.Y) ∨ max e.A.Y e.B.Y ≤ p.Y) ∨ max e.A.X e.B.X ≤ p.X) := by
    unfold InR at hr
    rintro (((h1 | h1) | h1) | h1)
    ·exact h1 h
    all_goals omega
   rw [if_neg h1]
   by_cases hx : p.X < min e.A.X e.B.X
   ·rw [if_pos (.inl hx), if_pos ⟨h, hr, .inl hx⟩]
   ·have := hg h hr hx
    by_cases hb : Bey e p
    ·rw [if_pos (.inr (this.2 hb)), if_pos ⟨h, hr, .inr hb⟩]
    ·rw [if_neg, if_neg]
     ·rintro ⟨_, _, h3 | h3⟩
      ·exact hx h3
      ·exact hb h3
     ·rintro (h3 | h3)
      ·exact hx h3
      ·exact hb (this.1 h3)
  ·rw [if_pos, if_neg (fun h => hr h.2.1)]
   unfold InR at hr
   by_cases h2 : p.Y < min e.A.Y e.B.Y
   ·exact .inl (.inl (.inr h2))
   by_cases h3 : max e.A.Y e.B.Y ≤ p.Y
   ·exact .inl (.inr h3)
   ·refine .inr ?_
    omega
 ·rw [if_pos (.inl (.inl (.inl h))), if_neg (fun k => h k.1)]
theorem above_eq {e : TEdge} {p : TPoint} (h : OkE e) (hk : e.Kind = 1) (hr : InR e p) (hx : ¬ p.X < min e.A.X e.B.X) : Fedgeabove e p = true ↔ Bey e p := by
 unfold Fedgeabove
 rw [side_eq h.1 (inb_rp h.1 (inr_b hr hx)), up_eq, decide_eq_true_eq]
 unfold Bey up InR at *
 rw [if_pos hk]
 by_cases hu : e.A.Y < e.B.Y
 ·rw [if_pos hu, if_pos hu]
  split
  ·omega
  ·split <;> omega
 ·have : e.B.Y < e.A.Y := by omega
  rw [if_neg hu, if_neg hu, if_pos this]
  split
  ·omega
  ·split <;> omega
theorem half {e : TEdge} (h : OkE e) (hk : e.Kind ≠ 1) : (RightHalf e ∧ min e.A.X e.B.X = e.C.X ∧ e.C.X < max e.A.X e.B.X) ∨ (¬ RightHalf e ∧ max e.A.X e.B.X = e.C.X ∧ min e.A.X e.B.X < e.C.X) := by
 obtain ⟨ho, h2⟩ := arc_odd h hk
 have h1 := odd_cases ho
 unfold RightHalf
 omega
theorem beside_eq {e : TEdge} {p : TPoint} (h : OkE e) (hk : e.Kind ≠ 1) (hr : InR e p) (hx : ¬ p.X < min e.A.X e.B.X) : Fedgebeside e p = true ↔ Bey e p := by
 unfold Fedgebeside
 rw [power_eq h.1 (inb_rp h.1 (inr_b hr hx))]
 unfold Bey
 rw [if_neg hk]
 simp only [cnd_or, cnd_and]
 simp only [cnd_if]
 unfold InR at hr
 rcases half h hk with ⟨h1, h2, h3⟩ | ⟨h1, h2, h3⟩
 ·have e1 : (decide (e.C.X < e.A.X) || decide (e.C.X < e.B.X)) = true := by simpa [RightHalf] using h1
  rw [e1, if_pos rfl, if_pos h1]
  simp only [Bool.or_eq_true, decide_eq_true_eq]
  omega
 ·have e1 : (decide (e.C.X < e.A.X) || decide (e.C.X < e.B.X)) = false := by simpa [RightHalf] using h1
  rw [e1, if_neg (by decide), if_neg h1]
  simp only [Bool.and_eq_true, decide_eq_true_eq]
  omega
theorem ray_eq (e : TEdge) (p : TPoint) : FRay e p = RayM e p := by
 obtain ⟨k, a0, a1, a2⟩ := e
 unfold FRay
 by_cases k1 : k = 1
 ·subst k1
  simp only [if_true, FRay1, wof1_2, wof1_1, wof1_0]
  rw [rights_b a0 a1 a2 1, ok_b1]
  exact ray_form _ _ _ fun h1 h2 h3 => above_eq h1 rfl h2 h3
 by_cases k2 : k = 2
 ·subst k2
  simp only [k1, if_false, if_true, FRay2, wof2_2, wof2_1, wof2_0]
  rw [rights_b a0 a1 a2 2, ok_b2]
  exact ray_form _ _ _ fun h1 h2 h3 => beside_eq h1 (by show ¬ (_ : Int) = _; simp only; decide) h2 h3
 by_cases k3 : k = 3
 ·subst k3
  simp only [k1, k2, if_false, if_true, FRay3, wof3_2, wof3_1, wof3_0]
  rw [rights_b a0 a1 a2 3, ok_b3]
  exact ray_form _ _ _ fun h1 h2 h3 => beside_eq h1 (by show ¬ (_ : Int) = _; simp only; decide) h2 h3
 ·simp only [k1, k2, k3, if_false, FRayN]
  unfold RayM
  rw [if_neg]
  intro h
  have := ok_kind h.1
  simp only at this
  omega
theorem beyond_eq {e : TEdge} {p : TPoint} (h : OkE e) (hr : InR e p) : Fref06beyond e p = true ↔ (p.X < min e.A.X e.B.X ∨ Bey e p) := by
 have hs : ∀ p q, Fref05Sub p q = FvecSub p q := fun _ _ => rfl
 have hd : ∀ p q, Fref05Dot p q = FvecDot p q := fun _ _ => rfl
 unfold Fref06beyond
 have e1 : (Fref06Box e).X0 = min e.A.X e.B.X := rfl
 have e2 : (Fref06Box e).X1 = max e.A.X e.B.X := rfl
 rw [e1, e2]
 by_cases hx : p.X < min e.A.X e.B.X
 ·simp [hx]
 have hx2 : ¬ max e.A.X e.B.X ≤ p.X := by unfold InR at hr; omega
 have hrp := inb_rp h.1 (inr_b hr hx)
 obtain ⟨ha, hb, hc⟩ := h.1
 simp only [hx, hx2, decide_false, cond_false, false_or, hs, hd, rad6_eq, sub_eq hrp hc, dot_eq (sub_r hrp hc) (sub_r hrp hc)]
 unfold Bey
 by_cases hk : e.Kind = 1
 ·simp only [hk, decide_true, cond_true, if_true]
  have r1 := sub_r hrp ha
  have r2 := sub_r hrp hb
  have r3 := sub_r hb ha
  unfold R28 at r1 r2 r3
  have b1 := b54 r1.1 r3.2
  have b2 := b54 r1.2 r3.1
  unfold RP C27 at ha hb hc hrp
  by_cases hu : e.B.Y < e.A.Y
  ·have hu' : ¬ e.A.Y < e.B.Y := by omega
   simp only [hu, hu', decide_true, cond_true, if_false]
   have b3 := b54 r2.1 (show -134217728 ≤ e.A.Y - e.B.Y ∧ e.A.Y - e.B.Y ≤ 134217728 by omega)
   have b4 := b54 r2.2 (show -134217728 ≤ e.A.X - e.B.X ∧ e.A.X - e.B.X ≤ 134217728 by omega)
   simp only at b1 b2 b3 b4
   rw [W64_id (x := p.X - e.B.X) (by omega) (by omega), W64_id (x := e.A.Y - e.B.Y) (by omega) (by omega), W64_id (x := p.Y - e.B.Y) (by omega) (by omega), W64_id (x := e.A.X - e.B.X) (by omega) (by omega), W64_id (by omega) (by omega), W64_id (by omega) (by omega), decide_eq_true_eq]
   have : cr e.A e.B p = (p.X - e.B.X) * (e.A.Y - e.B.Y) - (p.Y - e.B.Y) * (e.A.X - e.B.X) := by unfold cr; grind
   omega
  ·have hu' : e.A.Y < e.B.Y := by unfold InR at hr; omega
   simp only [hu, hu', decide_false, cond_false, if_true]
   simp only at b1 b2
   rw [W64_id (x := p.X - e.A.X) (by omega) (by omega), W64_id (x := e.B.Y - e.A.Y) (by omega) (by omega), W64_id (x := p.Y - e.A.Y) (by omega) (by omega), W64_id (x := e.B.X - e.A.X) (by omega) (by omega), W64_id (by omega) (by omega), W64_id (by omega) (by omega), decide_eq_true_eq]
   have : cr e.A e.B p = (p.Y - e.A.Y) * (e.B.X - e.A.X) - (p.X - e.A.X) * (e.B.Y - e.A.Y) := by unfold cr; grind
   omega
 ·simp only [hk, decide_false, cond_false, if_false, radsq_w h hk]
  have e3 : (p.X - e.C.X) * (p.X - e.C.X) + (p.Y - e.C.Y) * (p.Y - e.C.Y) = d2 p e.C := rfl
  rw [e3]
  obtain ⟨ho, ho2⟩ := arc_odd h hk
  have ho1 := odd_cases ho
  unfold RP C27 at ha hb hc hrp
  rw [W64_id (x := 2 * e.C.X) (by omega) (by omega), W64_id (x := e.A.X + e.B.X) (by omega) (by omega)]
  unfold InR at hr
  rcases half h hk with ⟨h1, h2, h3⟩ | ⟨h1, h2, h3⟩
  ·have h4 : 2 * e.C.X < e.A.X + e.B.X := by omega
   simp only [h1, h4, decide_true, cond_true, if_true, decide_eq_true_eq]
  ·have h4 : ¬ 2 * e.C.X < e.A.X + e.B.X := by omega
   simp only [h1, h4, decide_false, cond_false, if_false, cnd_and, Bool.and_eq_true, decide_eq_true_eq]
   omega
theorem ray6_eq (e : TEdge) (p : TPoint) : Fref06Ray e p = RayM e p := by
 unfold Fref06Ray
 rw [check6_eq, check0]
 unfold RayM
 by_cases h : OkE e
 ·simp only [h, decide_true, Bool.not_true, cond_false, true_and, cnd_and]
  simp only [cnd_if, Bool.and_eq_true, decide_eq_true_eq]
  by_cases h1 : e.A.Y ≤ p.Y ∧ p.Y < e.B.Y
  ·have h2 : ¬ (e.B.Y ≤ p.Y ∧ p.Y < e.A.Y) := by omega
   by_cases hx : p.X < max e.A.X e.B.X
   ·have hr : InR e p := by unfold InR; omega
    have := beyond_eq h hr
    have hu : up e = 1 := by unfold up; rw [if_pos (by omega)]
    simp only [h1, h2, hr, hu, true_and, false_and, if_false, this]
   ·have hr : ¬ InR e p := by unfold InR; omega
    have hb : ¬ (Fref06beyond e p = true) := by
     unfold Fref06beyond
     have e1 : (Fref06Box e).X0 = min e.A.X e.B.X := rfl
     have e2 : (Fref06Box e).X1 = max e.A.X e.B.X := rfl
     rw [e1, e2]
     have h3 : ¬ p.X < min e.A.X e.B.X := by omega
     have h4 : max e.A.X e.B.X ≤ p.X := by omega
     simp [h3, h4]
    simp only [h1, h2, hr, hb, true_and, false_and, and_false, if_false, Bool.false_eq_true]
  ·by_cases h2 : e.B.Y ≤ p.Y ∧ p.Y < e.A.Y
   ·by_cases hx : p.X < max e.A.X e.B.X
    ·have hr : InR e p := by unfold InR; omega
     have := beyond_eq h hr
     have hu : up e = -1 := by unfold up; rw [if_neg (by omega), if_pos (by omega)]
     simp only [h1, h2, hr, hu, true_and, false_and, if_false, this]
    ·have hr : ¬ InR e p := by unfold InR; omega
     have hb : ¬ (Fref06beyond e p = true) := by
      unfold Fref06beyond
      have e1 : (Fref06Box e).X0 = min e.A.X e.B.X := rfl
      have e2 : (Fref06Box e).X1 = max e.A.X e.B.X := rfl
      rw [e1, e2]
      have h3 : ¬ p.X < min e.A.X e.B.X := by omega
      have h4 : max e.A.X e.B.X ≤ p.X := by omega
      simp [h3, h4]
     simp only [h1, h2, hr, hb, true_and, false_and, and_false, if_false, Bool.false_eq_true]
   ·have hr : ¬ InR e p := by unfold InR; omega
    simp only [h1, h2, hr, false_and, if_false]
 ·simp [h]
def Small (e : TEdge) : Prop := ((-300 ≤ e.A.X ∧ e.A.X ≤ 300) ∧ -300 ≤ e.A.Y ∧ e.A.Y ≤ 300) ∧ ((-300 ≤ e.B.X ∧ e.B.X ≤ 300) ∧ -300 ≤ e.B.Y ∧ e.B.Y ≤ 300) ∧ (-300 ≤ e.C.X ∧ e.C.X ≤ 300) ∧ -300 ≤ e.C.Y ∧ e.C.Y ≤ 300
end Go.Proofs.Ytpnlegfdkkcnlaa
namespace Go.Proofs.Ytpnlegfdkkcnlaa
set_option maxRecDepth 100000
open Go.RowKit
set_option linter.unusedVariables false
set_option linter.unusedSimpArgs false
theorem andK_mask {x : Int} (h0 : 0 ≤ x) (h1 : x < 18446744073709551616) : andK .u64 x 4294967295 = x % 4294967296 := by
 unfold andK
 obtain ⟨n, rfl⟩ := Int.eq_ofNat_of_zero_le h0
 have hn : n < 18446744073709551616 := by omega
 have e1 : (BitVec.ofInt IntKind.u64.bits (n : Int)).toNat = n := by
  rw [BitVec.toNat_ofInt]
  show ((n : Int) % ((2 ^ 64 : Nat) : Int)).toNat = n
  have : ((2 ^ 64 : Nat) : Int) = 18446744073709551616 := by decide
  rw [this]; omega
 have e2 : (BitVec.ofInt IntKind.u64.bits 4294967295).toNat = 2 ^ 32 - 1 := by decide +kernel
 rw [BitVec.toNat_and, e1, e2, Nat.and_two_pow_sub_one_eq_mod, IntKind.wrap_u64]
 have : (2 : Nat) ^ 32 = 4294967296 := by decide
 rw [this]
 omega
theorem mul_up {a b A B : Int} (ha : 0 ≤ a ∧ a ≤ A) (hb : 0 ≤ b ∧ b ≤ B) : 0 ≤ a * b ∧ a * b ≤ A * B :=
 ⟨Int.mul_nonneg ha.1 hb.1, Int.mul_le_mul ha.2 hb.2 hb.1 (by omega)⟩
theorem mul64_eq {x y : Int} (hx : 0 ≤ x ∧ x < 18446744073709551616) (hy : 0 ≤ y ∧ y < 18446744073709551616) : (FMul64 x y).1 * 18446744073709551616 + (FMul64 x y).2 = x * y ∧ 0 ≤ (FMul64 x y).2 ∧ (FMul64 x y).2 < 18446744073709551616 := by
 have fd : ∀ z : Int, Int.fdiv z 4294967296 = z / 4294967296 := fun z => Int.fdiv_eq_ediv_of_nonneg z (by decide)
 unfold FMul64
 simp only [fd, andK_mask hx.1 hx.2, andK_mask hy.1 hy.2, IntKind.wrap_u64]
 have hx1 : 0 ≤ x / 4294967296 ∧ x / 4294967296 ≤ 4294967295 := by omega
 have hx0 : 0 ≤ x % 4294967296 ∧ x % 4294967296 ≤ 4294967295 := by omega
 have hy1 : 0 ≤ y / 4294967296 ∧ y / 4294967296 ≤ 4294967295 := by omega
 have hy0 : 0 ≤ y % 4294967296 ∧ y % 4294967296 ≤ 4294967295 := by omega
 have ex : x = x / 4294967296 * 4294967296 + x % 4294967296 := by omega
 have ey : y = y / 4294967296 * 4294967296 + y % 4294967296 := by omega
 generalize x / 4294967296 = x1 at *
 generalize x % 4294967296 = x0 at *
 generalize y / 4294967296 = y1 at *
 generalize y % 4294967296 = y0 at *
 have b00 := mul_up hx0 hy0
 have b10 := mul_up hx1 hy0
 have b01 := mul_up hx0 hy1
 have b11 := mul_up hx1 hy1
 have e : x * y = x1 * y1 * 18446744073709551616 + (x1 * y0 + x0 * y1) * 4294967296 + x0 * y0 := by rw [ex, ey]; grind
 rw [e]
 generalize x1 * y1 = p11 at *
 generalize x1 * y0 = p10 at *
 generalize x0 * y1 = p01 at *
 generalize x0 * y0 = p00 at *
 clear ex ey e
 have t0 : (p10 % 18446744073709551616 + p00 % 18446744073709551616 / 4294967296) % 18446744073709551616 = p10 + p00 / 4294967296 := by omega
 rw [t0]
 have b3 : 0 ≤ p00 / 4294967296 ∧ p00 / 4294967296 ≤ 4294967295 := by omega
 have t1 : andK .u64 (p10 + p00 / 4294967296) 4294967295 = (p10 + p00 / 4294967296) % 4294967296 := andK_mask (by omega) (by omega)
 rw [t1]
 refine ⟨?_, ?_, ?_⟩ <;> omega
theorem atMost_eq {a b c d : Int} (hb : 0 ≤ b ∧ b < 18446744073709551616) (hd : 0 ≤ d ∧ d < 18446744073709551616) : FatMost ⟨a, b⟩ ⟨c, d⟩ = decide (a * 18446744073709551616 + b ≤ c * 18446744073709551616 + d) := by
 rw [Bool.eq_iff_iff, decide_eq_true_eq]
 unfold FatMost
 simp only [cnd_and, cnd_or, Bool.and_eq_true, Bool.or_eq_true, decide_eq_true_eq, and_true]
 omega
theorem prod_le {a b : Int} (ha : 0 ≤ a ∧ a ≤ 9223372036854775807) (c d : Int) (hc : 0 ≤ c ∧ c ≤ 9223372036854775807) (hd : 0 ≤ d ∧ d ≤ 9223372036854775807) : FatMost (FproductS a a) (FproductS c d) = decide (a * a ≤ c * d) := by
 have w : ∀ z : Int, 0 ≤ z ∧ z ≤ 9223372036854775807 → IntKind.u64.wrap z = z := fun z hz => by rw [IntKind.wrap_u64]; omega
 unfold FproductS
 rw [w a ha, w c hc, w d hd]
 obtain ⟨h1, h2, h3⟩ := mul64_eq (x := a) (y := a) (by omega) (by omega)
 obtain ⟨k1, k2, k3⟩ := mul64_eq (x := c) (y := d) (by omega) (by omega)
 rw [atMost_eq ⟨h2, h3⟩ ⟨k2, k3⟩, h1, k1]
def B28 (x : Int) : Prop := -142606336 ≤ x ∧ x ≤ 142606336
def PB (p : TPoint) : Prop := (-75497472 ≤ p.X ∧ p.X ≤ 75497472) ∧ -75497472 ≤ p.Y ∧ p.Y ≤ 75497472
def PD (p : TPoint) : Prop := B28 p.X ∧ B28 p.Y
theorem rp_pb {p : TPoint} (h : RP p) : PB p := by unfold RP C27 at h; unfold PB; omega
theorem sub_pb {p q : TPoint} (hp : PB p) (hq : RP q) : FvecSub p q = ⟨p.X - q.X, p.Y - q.Y⟩ := by
 unfold RP C27 PB at *
 unfold FvecSub
 rw [W64_id (by omega) (by omega), W64_id (by omega) (by omega)]
theorem sub_pd {p q : TPoint} (hp : PB p) (hq : RP q) : PD ⟨p.X - q.X, p.Y - q.Y⟩ := by
 unfold RP C27 PB at *
 unfold PD B28
 simp only
 omega
theorem b56 {x y : Int} (hx : B28 x) (hy : B28 y) : -20336567067344896 ≤ x * y ∧ x * y ≤ 20336567067344896 := by
 have := mul_b x y 142606336 142606336 hx hy
 omega
theorem dot_pd {u v : TPoint} (hu : PD u) (hv : PD v) : FvecDot u v = u.X * v.X + u.Y * v.Y := by
 obtain ⟨h1, h2⟩ := hu; obtain ⟨h3, h4⟩ := hv
 have b1 := b56 h1 h3; have b2 := b56 h2 h4
 unfold FvecDot
 rw [W64_id (x := u.X * v.X) (by omega) (by omega), W64_id (x := u.Y * v.Y) (by omega) (by omega), W64_id (by omega) (by omega)]
theorem cross_pd {u v : TPoint} (hu : PD u) (hv : PD v) : FvecCross u v = u.X * v.Y - u.Y * v.X := by
 obtain ⟨h1, h2⟩ := hu; obtain ⟨h3, h4⟩ := hv
 have b1 := b56 h1 h4; have b2 := b56 h2 h3
 unfold FvecCross
 rw [W64_id (x := u.X * v.Y) (by omega) (by omega), W64_id (x := u.Y * v.X) (by omega) (by omega), W64_id (by omega) (by omega)]
theorem d2_b {p c : TPoint} (hp : PB p) (hc : RP c) : 0 ≤ d2 p c ∧ d2 p c ≤ 40673134134689792 := by
 obtain ⟨h1, h2⟩ := sub_pd hp hc
 have b1 := b56 h1 h1; have b2 := b56 h2 h2
 have n1 := sq_nn (p.X - c.X); have n2 := sq_nn (p.Y - c.Y)
 unfold d2
 simp only at *
 omega
theorem sq_eq {p c : TPoint} (hp : PB p) (hc : RP c) : FsqS p c = d2 p c := by
 unfold FsqS
 rw [sub_pb hp hc, dot_pd (sub_pd hp hc) (sub_pd hp hc)]
 rfl
def al (a b p : TPoint) : Int := (p.X - a.X) * (b.X - a.X) + (p.Y - a.Y) * (b.Y - a.Y)
def Fac (e : TEdge) (p : TPoint) : Prop := if e.Kind = 3 then 0 ≤ (e.B.X - e.C.X) * (p.Y - e.C.Y) - (e.B.Y - e.C.Y) * (p.X - e.C.X) ∧ 0 ≤ (p.X - e.C.X) * (e.A.Y - e.C.Y) - (p.Y - e.C.Y) * (e.A.X - e.C.X) else
 0 ≤ (e.A.X - e.C.X) * (p.Y - e.C.Y) - (e.A.Y - e.C.Y) * (p.X - e.C.X) ∧ 0 ≤ (p.X - e.C.X) * (e.B.Y - e.C.Y) - (p.Y - e.C.Y) * (e.B.X - e.C.X)
def NearM (e : TEdge) (p : TPoint) (r : Int) : Prop := d2 p e.A ≤ r * r ∨ d2 p e.B ≤ r * r ∨ if e.Kind = 1 then (0 < al e.A e.B p ∧ al e.A e.B p < d2 e.B e.A) ∧ cr e.A e.B p * cr e.A e.B p ≤ r * r * d2 e.B e.A
 else Fac e p ∧ d2 p e.C ≤ (RadM e + r) * (RadM e + r) ∧ max (RadM e - r) 0 * max (RadM e - r) 0 ≤ d2 p e.C
theorem within_pd {d f t : TPoint} (hd : PD d) (hf : PD f) (ht : PD t) : FvecWithin d f t = true ↔ 0 ≤ f.X * d.Y - f.Y * d.X ∧ 0 ≤ d.X * t.Y - d.Y * t.X := by
 unfold FvecWithin
 rw [cross_pd hf hd, cross_pd hd ht, decide_eq_true_eq]
 omega
theorem near_eq {e : TEdge} {p : TPoint} {r : Int} (he : OkE e) (hp : PB p) (hr : 0 ≤ r ∧ r ≤ 4194304) : FnearS e p r = true ↔ NearM e p r := by
 obtain ⟨⟨ha, hb, hc⟩, hform⟩ := he
 have hrr := mul_up hr hr
 have hrad := rad_b e
 have er : W64 (r * r) = r * r := W64_id (by omega) (by omega)
 have e1 : W64 (FRadius e + r) = RadM e + r := by rw [rad_eq]; exact W64_id (by omega) (by omega)
 have e2 : W64 (FRadius e - r) = RadM e - r := by rw [rad_eq]; exact W64_id (by omega) (by omega)
 have m1 := mul_up (a := RadM e + r) (b := RadM e + r) (A := 272629760) (B := 272629760) (by omega) (by omega)
 have m2 := mul_up (a := max (RadM e - r) 0) (b := max (RadM e - r) 0) (A := 268435456) (B := 268435456) (by omega) (by omega)
 have e3 : W64 ((RadM e + r) * (RadM e + r)) = (RadM e + r) * (RadM e + r) := W64_id (by omega) (by omega)
 have e4 : W64 (max (RadM e - r) 0 * max (RadM e - r) 0) = max (RadM e - r) 0 * max (RadM e - r) 0 := W64_id (by omega) (by omega)
 have dA := sub_pd hp ha; have dC := sub_pd hp hc
 have dAC := sub_pd (rp_pb ha) hc; have dBC := sub_pd (rp_pb hb) hc; have dBA := sub_pd (rp_pb hb) ha
 unfold FnearS NearM wnearS_2 wnearS_1 wnearS_0 wnearS_5 wnearS_3 wnearS_4
 rw [sq_eq hp ha, sq_eq hp hb, sq_eq hp hc, er, e1, e2, e3, e4, sub_pb hp ha, sub_pb hp hc, sub_pb (rp_pb ha) hc, sub_pb (rp_pb hb) hc, sub_pb (rp_pb hb) ha, dot_pd dA dBA, dot_pd dBA dBA, cross_pd dBA dA]
 have hcr : -40673134134689792 ≤ cr e.A e.B p ∧ cr e.A e.B p ≤ 40673134134689792 := by
  have b1 := b56 dBA.1 dA.2; have b2 := b56 dBA.2 dA.1
  unfold cr
  simp only at *
  omega
 have hlen := d2_b (rp_pb hb) ha
 have ecr : (e.B.X - e.A.X) * (p.Y - e.A.Y) - (e.B.Y - e.A.Y) * (p.X - e.A.X) = cr e.A e.B p := rfl
 have eal : (p.X - e.A.X) * (e.B.X - e.A.X) + (p.Y - e.A.Y) * (e.B.Y - e.A.Y) = al e.A e.B p := rfl
 have elen : (e.B.X - e.A.X) * (e.B.X - e.A.X) + (e.B.Y - e.A.Y) * (e.B.Y - e.A.Y) = d2 e.B e.A := rfl
 simp only [ecr, eal, elen]
 have en : W64 (0 - cr e.A e.B p) = - cr e.A e.B p := by rw [W64_id (by omega) (by omega)]; omega
 rw [en]
 have hmax : max (cr e.A e.B p) (-cr e.A e.B p) * max (cr e.A e.B p) (-cr e.A e.B p) = cr e.A e.B p * cr e.A e.B p := by
  rcases Int.le_total 0 (cr e.A e.B p) with h | h
  ·rw [Int.max_eq_left (by omega)]
  ·rw [Int.max_eq_right (by omega), Int.neg_mul_neg]
 rw [prod_le (b := 0) (by omega) _ _ (by omega) (by omega), hmax]
 simp only [cnd_or, cnd_and]
 simp only [cnd_if, Bool.or_eq_true, Bool.and_eq_true, decide_eq_true_eq, Bool.not_eq_true']
 by_cases hA : d2 p e.A ≤ r * r
 ·simp [hA]
 by_cases hB : d2 p e.B ≤ r * r
 ·simp [hA, hB]
 simp only [hA, hB, or_self, if_false, false_or]
 by_cases hk : e.Kind = 1
 ·simp only [hk, decide_true, Bool.true_eq_false, if_false, if_true]
  by_cases h1 : al e.A e.B p ≤ 0
  ·simp [h1]; omega
  by_cases h2 : d2 e.B e.A ≤ al e.A e.B p
  ·simp [h2]; omega
  simp only [h1, h2, or_self, if_false, decide_eq_true_eq]
  constructor
  ·intro h; exact ⟨⟨by omega, by omega⟩, h⟩
  ·exact fun h => h.2
 ·simp only [hk, decide_false, Bool.false_eq_true, if_true, if_false]
  unfold Fac
  by_cases h3 : e.Kind = 3
  ·simp only [h3, decide_true, if_true]
   rw [Bool.and_eq_true, Bool.and_eq_true, within_pd dC dBC dAC, decide_eq_true_eq, decide_eq_true_eq, and_assoc]
  ·simp only [h3, decide_false, if_false, Bool.false_eq_true]
   rw [Bool.and_eq_true, Bool.and_eq_true, within_pd dC dAC dBC, decide_eq_true_eq, decide_eq_true_eq, and_assoc]
end Go.Proofs.Ytpnlegfdkkcnlaa
namespace Go.Proofs.Ytpnlegfdkkcnlaa
set_option maxRecDepth 100000
open Go.RowKit
set_option linter.unusedVariables false
set_option linter.unusedSimpArgs false
theorem drop_cons' {α : Type} [Inhabited α] {l : List α} {k : Nat} (h : k < l.length) : l.drop k = l.getD k default :: l.drop (k + 1) := by
 rw [List.drop_eq_getElem_cons h, List.getD_eq_getElem?_getD, List.getElem?_eq_getElem h]
 rfl
theorem getD_mem' {α : Type} [Inhabited α] {l : List α} {k : Nat} (h : k < l.length) : l.getD k default ∈ l := by
 rw [List.getD_eq_getElem?_getD, List.getElem?_eq_getElem h]
 exact List.getElem_mem h
def chk1 : List TEdge → Int
 | [] => 0
 | e :: l => if CheckM e = 0 then chk1 l else CheckM e
def Joined (s : TShape) : Prop := (∀ i, i + 1 < s.Edges.length → (s.Edges.getD i default).B = (s.Edges.getD (i + 1) default).A) ∧ (s.Kind = 2 → (s.Edges.getD (s.Edges.length - 1) default).B = (s.Edges.getD 0 default).A)
open Classical in
noncomputable def CheckMS (s : TShape) : Int :=
 if ¬ (s.Kind = 1 ∨ s.Kind = 2) ∨ s.Edges.length = 0 ∨ (s.Kind = 2 ∧ s.Edges.length < 2) then 12
 else if 40 < s.Edges.length then 2
 else if chk1 s.Edges ≠ 0 then chk1 s.Edges
 else if ¬ Joined s then 12
 else if (s.Kind = 2 ∧ s.R ≠ 0) ∨ s.R < 0 ∨ 4194304 < s.R then 3 else 0
theorem checkM_zero (e : TEdge) : CheckM e = 0 ↔ OkE e := by
 unfold CheckM
 by_cases h : OkE e
 ·simp [h]
 ·simp only [h, if_false, iff_false]; split <;> decide
theorem chk1_zero : ∀ (l : List TEdge), chk1 l = 0 ↔ ∀ e ∈ l, OkE e
 | [] => by simp [chk1]
 | e :: l => by
  unfold chk1
  by_cases h : CheckM e = 0
  ·simp only [h, if_true, chk1_zero l, List.mem_cons, forall_eq_or_imp, (checkM_zero e).1 h, true_and]
  ·simp only [h, if_false, List.mem_cons, forall_eq_or_imp, false_iff]
   exact fun hh => h ((checkM_zero e).2 hh.1)
def badJ (s : TShape) (x : Nat) : Bool := !(decide (((jnA s.Edges x).B).X = ((jnB s.Edges x).A).X) && (decide (((jnA s.Edges x).B).Y = ((jnB s.Edges x).A).Y) && true))
theorem badJ_eq (s : TShape) (x : Nat) : badJ s x = false ↔ (jnA s.Edges x).B = (jnB s.Edges x).A := by
 unfold badJ
 generalize (jnA s.Edges x).B = a
 generalize (jnB s.Edges x).A = b
 obtain ⟨a1, a2⟩ := a
 obtain ⟨b1, b2⟩ := b
 simp
def lastS (s : TShape) : Int := bif bif bif bif decide ((s.Kind : Int) = 2) then !decide ((s.R : Int) = 0) else false then true else decide ((s.R : Int) < 0) then true else decide ((4194304 : Int) < s.R) then (3) else (0)
theorem lastS_eq (s : TShape) : lastS s = if (s.Kind = 2 ∧ s.R ≠ 0) ∨ s.R < 0 ∨ 4194304 < s.R then 3 else 0 := by
 unfold lastS
 simp only [cnd_and, cnd_or]
 simp only [cnd_if, Bool.or_eq_true, Bool.and_eq_true, decide_eq_true_eq, Bool.not_eq_true', decide_eq_false_iff_not, or_assoc]
theorem r1_eq (s : TShape) (v : Int) (K : Int → Int) : ∀ m x, FCheckS_r1 s v K m x = if (List.range' x m).any (badJ s) then 12 else lastS s
 | 0, x => rfl
 | m + 1, x => by
  show (bif badJ s x then (12 : Int) else FCheckS_r1 s v K m (x + 1)) = _
  rw [r1_eq s v K m (x + 1), List.range'_succ, List.any_cons]
  cases badJ s x
  ·simp only [Bool.false_or, cond_false]
  ·simp only [Bool.true_or, cond_true, if_true]
theorem joined_any (s : TShape) (h : 1 ≤ s.Edges.length) : ((List.range' 0 (jnN s.Edges (decide (s.Kind = 2)))).any (badJ s) = false) ↔ Joined s := by
 rw [List.any_eq_false]
 have key : (∀ x ∈ List.range' 0 (jnN s.Edges (decide (s.Kind = 2))), ¬ badJ s x = true) ↔ ∀ x, x < jnN s.Edges (decide (s.Kind = 2)) → (jnA s.Edges x).B = (jnB s.Edges x).A := by
  constructor
  ·intro hh x hx
   have := hh x (by simp; omega)
   exact (badJ_eq s x).1 (by simpa using this)
  ·intro hh x hx
   have hx' : x < jnN s.Edges (decide (s.Kind = 2)) := by simpa using hx
   have := (badJ_eq s x).2 (hh x hx')
   simp [this]
 rw [key]
 unfold Joined jnN jnA jnB
 constructor
 ·intro hh
  refine ⟨fun i hi => ?_, fun hk => ?_⟩
  ·have := hh i (by omega)
   simpa only [hi, if_true] using this
  ·have := hh (s.Edges.length - 1) (by simp [hk])
   simpa only [show ¬ s.Edges.length - 1 + 1 < s.Edges.length by omega, if_false] using this
 ·rintro ⟨h1, h2⟩ x hx
  by_cases hi : x + 1 < s.Edges.length
  ·simpa only [hi, if_true] using h1 x hi
  ·have hk : s.Kind = 2 := by
    cases hd : decide (s.Kind = 2) with
    | true => exact of_decide_eq_true hd
    | false => rw [hd] at hx; simp only [cond_false] at hx; omega
   simpa only [hi, if_false] using h2 hk
open Classical in
theorem l0_eq (s : TShape) (h1 : 1 ≤ s.Edges.length) : ∀ n k : Nat, k ≤ s.Edges.length → s.Edges.length - k < n → FCheckS_l0 s n (k : Int) = if chk1 (s.Edges.drop k) ≠ 0 then chk1 (s.Edges.drop k) else if ¬ Joined s then 12 else lastS s
 | 0, k, hk, hn => by omega
 | n + 1, k, hk, hn => by
  unfold FCheckS_l0
  by_cases hlt : k < s.Edges.length
  ·rw [decide_eq_true (show (k : Int) < (s.Edges.length : Int) by omega)]
   simp only [cond_true, Int.toNat_natCast]
   rw [drop_cons' hlt]
   simp only [chk1, check_eq]
   have ih := l0_eq s h1 n (k + 1) (by omega) (by omega)
   by_cases h0 : CheckM (s.Edges.getD k default) = 0
   ·simp only [h0, if_true, decide_true, Bool.not_true, cond_false]
    rw [show ((k : Int) + 1) = ((k + 1 : Nat) : Int) by omega, ih]
   ·simp only [h0, if_false, decide_false, Bool.not_false, cond_true, ne_eq, not_false_eq_true, if_true]
  ·rw [decide_eq_false (show ¬ (k : Int) < (s.Edges.length : Int) by omega)]
   simp only [cond_false]
   rw [List.drop_of_length_le (by omega), chk1, r1_eq]
   have := joined_any s h1
   by_cases hj : Joined s
   ·rw [this.2 hj]; simp [hj]
   ·have hb : (List.range' 0 (jnN s.Edges (decide (s.Kind = 2)))).any (badJ s) = true := by
     cases hh : (List.range' 0 (jnN s.Edges (decide (s.Kind = 2)))).any (badJ s) with
     | true => rfl
     | false => exact absurd (this.1 hh) hj
    rw [hb]; simp [hj]
theorem checkS_eq (s : TShape) : FCheckS s = CheckMS s := by
 unfold FCheckS CheckMS
 by_cases hk1 : s.Kind = 1
 ·simp only [hk1, decide_true, Bool.not_true, cond_false, true_or, not_true, false_or, show ¬ ((1 : Int) = 2) by decide, decide_false, false_and, or_false]
  by_cases h0 : s.Edges.length = 0
  ·simp [h0]
  ·simp only [show ¬ (s.Edges.length : Int) = 0 by omega, h0, decide_false, cond_false, if_false]
   by_cases h40 : 40 < s.Edges.length
   ·simp only [show (40 : Int) < (s.Edges.length : Int) by omega, h40, decide_true, cond_true, if_true]
   ·simp only [show ¬ (40 : Int) < (s.Edges.length : Int) by omega, h40, decide_false, cond_false, if_false]
    have := l0_eq s (by omega) (((s.Edges.length : Int) - 0).toNat + 1) 0 (by omega) (by omega)
    rw [show ((0 : Nat) : Int) = 0 from rfl] at this
    rw [this, List.drop_zero, lastS_eq]
    simp only [hk1, show ¬ ((1 : Int) = 2) by decide, false_and, false_or]
 ·by_cases hk2 : s.Kind = 2
  ·simp only [hk2, decide_true, Bool.not_true, cond_false, cond_true, or_true, not_true, false_or, true_and, show ¬ ((2 : Int) = 1) by decide, decide_false, Bool.not_false]
   by_cases h0 : s.Edges.length = 0
   ·simp [h0]
   ·simp only [show ¬ (s.Edges.length : Int) = 0 by omega, h0, decide_false, cond_false, if_false, false_or]
    by_cases h2 : s.Edges.length < 2
    ·simp only [show (s.Edges.length : Int) < 2 by omega, h2, decide_true, cond_true, if_true]
    ·simp only [show ¬ (s.Edges.length : Int) < 2 by omega, h2, decide_false, cond_false, if_false]
     by_cases h40 : 40 < s.Edges.length
     ·simp only [show (40 : Int) < (s.Edges.length : Int) by omega, h40, decide_true, cond_true, if_true]
     ·simp only [show ¬ (40 : Int) < (s.Edges.length : Int) by omega, h40, decide_false, cond_false, if_false]
      have := l0_eq s (by omega) (((s.Edges.length : Int) - 0).toNat + 1) 0 (by omega) (by omega)
      rw [show ((0 : Nat) : Int) = 0 from rfl] at this
      rw [this, List.drop_zero, lastS_eq]
      simp only [hk2, true_and]
  ·simp [hk1, hk2]
def OkS (s : TShape) : Prop := ((s.Kind = 1 ∨ s.Kind = 2) ∧ (1 ≤ s.Edges.length ∧ s.Edges.length ≤ 40) ∧ (s.Kind = 2 → 2 ≤ s.Edges.length)) ∧ (∀ e ∈ s.Edges, OkE e) ∧ Joined s ∧ (0 ≤ s.R ∧ s.R ≤ 4194304) ∧ (s.Kind = 2 → s.R = 0)
theorem checkMS_zero (s : TShape) : CheckMS s = 0 ↔ OkS s := by
 unfold CheckMS OkS
 constructor
 ·intro h
  split at h
  ·cases h
  rename_i h1
  split at h
  ·cases h
  rename_i h2
  split at h
  ·rename_i h3; exact absurd h h3
  rename_i h3
  split at h
  ·cases h
  rename_i h4
  split at h
  ·cases h
  rename_i h5
  have hE := (chk1_zero _).1 (Decidable.not_not.1 h3)
  have hJ := Classical.not_not.1 h4
  refine ⟨⟨?_, ?_, ?_⟩, hE, hJ, ?_, ?_⟩ <;> omega
 ·rintro ⟨⟨h1, h2, h3⟩, h4, h5, h6, h7⟩
  rw [if_neg (by omega), if_neg (by omega), if_neg (by have := (chk1_zero _).2 h4; omega), if_neg (fun h => h h5), if_neg (by omega)]
def joinB (b x : TRect) : TRect := ⟨min b.X0 x.X0, min b.Y0 x.Y0, max b.X1 x.X1, max b.Y1 x.Y1⟩
def boxF : TRect → List TEdge → TRect
 | b, [] => b
 | b, e :: l => boxF (joinB b (FedgeBox e)) l
def widen (b : TRect) (r : Int) : TRect := ⟨W64 (b.X0 - r), W64 (b.Y0 - r), W64 (b.X1 + r), W64 (b.Y1 + r)⟩
theorem box_l0 (s : TShape) : ∀ (n k : Nat) (b : TRect), k ≤ s.Edges.length - 1 → s.Edges.length - 1 - k < n → FBox_l0 s n b (k : Int) = widen (boxF b ((s.Edges.drop 1).drop k)) s.R
 | 0, k, b, hk, hn => by omega
 | n + 1, k, b, hk, hn => by
  unfold FBox_l0
  have hdl : (s.Edges.drop 1).length = s.Edges.length - 1 := List.length_drop ..
  by_cases hlt : k < s.Edges.length - 1
  ·rw [decide_eq_true (show (k : Int) < (((((s.Edges.length : Nat) : Int) : Int).toNat - (1 : Int).toNat : Nat) : Int) by omega)]
   rw [drop_cons' (k := k) (l := s.Edges.drop 1) (by omega), boxF]
   have ih := fun b => box_l0 s n (k + 1) b (by omega) (by omega)
   simp only [cond_true]
   rw [show ((k : Int) + 1) = ((k + 1 : Nat) : Int) by omega, ih]
   rfl
  ·rw [decide_eq_false (show ¬ (k : Int) < (((((s.Edges.length : Nat) : Int) : Int).toNat - (1 : Int).toNat : Nat) : Int) by omega)]
   rw [List.drop_of_length_le (by omega)]
   rfl
def boxL : List TEdge → TRect
 | [] => ⟨0, 0, 0, 0⟩
 | e :: l => boxF (FedgeBox e) l
theorem box_eq (s : TShape) (h : s.Edges ≠ []) : FBox s = widen (boxL s.Edges) s.R := by
 unfold FBox
 have hp : 0 < s.Edges.length := List.length_pos_iff.2 h
 rw [decide_eq_false (show ¬ (s.Edges.length : Int) = 0 by omega)]
 simp only [cond_false]
 have := box_l0 s ((((((((s.Edges.length : Nat) : Int) : Int).toNat - (1 : Int).toNat : Nat) : Int)) - 0).toNat + 1) 0 (FedgeBox (s.Edges.getD 0 default)) (by omega) (by omega)
 rw [show ((0 : Nat) : Int) = 0 from rfl] at this
 rw [this]
 cases hs : s.Edges with
 | nil => exact absurd hs h
 | cons e l => rfl
theorem boxF_iff : ∀ (l : List TEdge) (b : TRect) (c : Int),
  (((boxF b l).X0 ≤ c ↔ b.X0 ≤ c ∨ ∃ e ∈ l, min e.A.X e.B.X ≤ c) ∧ ((boxF b l).Y0 ≤ c ↔ b.Y0 ≤ c ∨ ∃ e ∈ l, min e.A.Y e.B.Y ≤ c)) ∧
  ((c ≤ (boxF b l).X1 ↔ c ≤ b.X1 ∨ ∃ e ∈ l, c ≤ max e.A.X e.B.X) ∧ (c ≤ (boxF b l).Y1 ↔ c ≤ b.Y1 ∨ ∃ e ∈ l, c ≤ max e.A.Y e.B.Y))
 | [], b, c => by simp [boxF]
 | e :: l, b, c => by
  obtain ⟨⟨h1, h2⟩, h3, h4⟩ := boxF_iff l (joinB b (FedgeBox e)) c
  unfold boxF
  rw [h1, h2, h3, h4]
  have q1 : (joinB b (FedgeBox e)).X0 ≤ c ↔ b.X0 ≤ c ∨ min e.A.X e.B.X ≤ c := by show min b.X0 (min e.A.X e.B.X) ≤ c ↔ _; omega
  have q2 : (joinB b (FedgeBox e)).Y0 ≤ c ↔ b.Y0 ≤ c ∨ min e.A.Y e.B.Y ≤ c := by show min b.Y0 (min e.A.Y e.B.Y) ≤ c ↔ _; omega
  have q3 : c ≤ (joinB b (FedgeBox e)).X1 ↔ c ≤ b.X1 ∨ c ≤ max e.A.X e.B.X := by show c ≤ max b.X1 (max e.A.X e.B.X) ↔ _; omega
  have q4 : c ≤ (joinB b (FedgeBox e)).Y1 ↔ c ≤ b.Y1 ∨ c ≤ max e.A.Y e.B.Y := by show c ≤ max b.Y1 (max e.A.Y e.B.Y) ↔ _; omega
  rw [q1, q2, q3, q4]
  simp only [List.mem_cons, exists_eq_or_imp, or_assoc, and_self]
theorem boxL_iff {l : List TEdge} (h : l ≠ []) (c : Int) :
  (((boxL l).X0 ≤ c ↔ ∃ e ∈ l, min e.A.X e.B.X ≤ c) ∧ ((boxL l).Y0 ≤ c ↔ ∃ e ∈ l, min e.A.Y e.B.Y ≤ c)) ∧
  ((c ≤ (boxL l).X1 ↔ ∃ e ∈ l, c ≤ max e.A.X e.B.X) ∧ (c ≤ (boxL l).Y1 ↔ ∃ e ∈ l, c ≤ max e.A.Y e.B.Y)) := by
 cases l with
 | nil => exact absurd rfl h
 | cons e l =>
  obtain ⟨⟨h1, h2⟩, h3, h4⟩ := boxF_iff l (FedgeBox e) c
  unfold boxL
  rw [h1, h2, h3, h4]
  simp only [List.mem_cons, exists_eq_or_imp]
  exact ⟨⟨Iff.rfl, Iff.rfl⟩, Iff.rfl, Iff.rfl⟩
theorem boxL_b {l : List TEdge} (h : l ≠ []) (ho : ∀ e ∈ l, OkE e) : (C27 (boxL l).X0 ∧ C27 (boxL l).Y0) ∧ C27 (boxL l).X1 ∧ C27 (boxL l).Y1 := by
 have lo : ∀ e ∈ l, (-67108864 ≤ min e.A.X e.B.X ∧ min e.A.X e.B.X ≤ 67108864) ∧ (-67108864 ≤ min e.A.Y e.B.Y ∧ min e.A.Y e.B.Y ≤ 67108864) ∧ (-67108864 ≤ max e.A.X e.B.X ∧ max e.A.X e.B.X ≤ 67108864) ∧ (-67108864 ≤ max e.A.Y e.B.Y ∧ max e.A.Y e.B.Y ≤ 67108864) := fun e he => by
  have := (ho e he).1
  unfold Rights RP C27 at this
  omega
 refine ⟨⟨?_, ?_⟩, ?_, ?_⟩
 ·obtain ⟨e, m, k⟩ := (boxL_iff h (boxL l).X0).1.1.1 (Int.le_refl _)
  have k2 := (boxL_iff h _).1.1.2 ⟨e, m, Int.le_refl _⟩
  have := lo e m
  unfold C27; omega
 ·obtain ⟨e, m, k⟩ := (boxL_iff h (boxL l).Y0).1.2.1 (Int.le_refl _)
  have k2 := (boxL_iff h _).1.2.2 ⟨e, m, Int.le_refl _⟩
  have := lo e m
  unfold C27; omega
 ·obtain ⟨e, m, k⟩ := (boxL_iff h (boxL l).X1).2.1.1 (Int.le_refl _)
  have k2 := (boxL_iff h _).2.1.2 ⟨e, m, Int.le_refl _⟩
  have := lo e m
  unfold C27; omega
 ·obtain ⟨e, m, k⟩ := (boxL_iff h (boxL l).Y1).2.2.1 (Int.le_refl _)
  have k2 := (boxL_iff h _).2.2.2 ⟨e, m, Int.le_refl _⟩
  have := lo e m
  unfold C27; omega
def InBx (l : List TEdge) (r : Int) (p : TPoint) : Prop := ((∃ e ∈ l, min e.A.X e.B.X ≤ p.X + r) ∧ ∃ e ∈ l, p.X - r ≤ max e.A.X e.B.X) ∧ (∃ e ∈ l, min e.A.Y e.B.Y ≤ p.Y + r) ∧ ∃ e ∈ l, p.Y - r ≤ max e.A.Y e.B.Y
theorem inbx_eq {s : TShape} (h : OkS s) (p : TPoint) : (((¬ p.X < (FBox s).X0) ∧ ¬ (FBox s).X1 < p.X) ∧ (¬ p.Y < (FBox s).Y0) ∧ ¬ (FBox s).Y1 < p.Y) ↔ InBx s.Edges s.R p := by
 obtain ⟨⟨_, ⟨h1, _⟩, _⟩, hE, _, hr, _⟩ := h
 have hne : s.Edges ≠ [] := fun e => by rw [e] at h1; simp at h1
 rw [box_eq s hne]
 obtain ⟨⟨b1, b2⟩, b3, b4⟩ := boxL_b hne hE
 unfold C27 at *
 unfold InBx
 rw [← (boxL_iff hne _).1.1, ← (boxL_iff hne _).1.2, ← (boxL_iff hne _).2.1, ← (boxL_iff hne _).2.2]
 unfold widen
 rw [W64_id (by omega) (by omega), W64_id (by omega) (by omega), W64_id (by omega) (by omega), W64_id (by omega) (by omega)]
 simp only
 omega
theorem inbx_pb {s : TShape} (h : OkS s) {p : TPoint} (hp : InBx s.Edges s.R p) : PB p := by
 obtain ⟨_, hE, _, hr, _⟩ := h
 obtain ⟨⟨⟨e1, m1, k1⟩, e2, m2, k2⟩, ⟨e3, m3, k3⟩, e4, m4, k4⟩ := hp
 have r1 := (hE e1 m1).1; have r2 := (hE e2 m2).1; have r3 := (hE e3 m3).1; have r4 := (hE e4 m4).1
 unfold Rights RP C27 at *
 unfold PB
 omega
theorem ixI_ge (xs : List TEdge) (p : TPoint) (s : TShape) : ∀ n k : Nat, k ≤ xs.length → xs.length - k < n → (decide ((0 : Int) ≤ FixI_l0 xs p s n (k : Int)) = (xs.drop k).any fun e => FnearS e p s.R)
 | 0, k, hk, hn => by omega
 | n + 1, k, hk, hn => by
  unfold FixI_l0
  by_cases hlt : k < xs.length
  ·rw [decide_eq_true (show (k : Int) < (xs.length : Int) by omega)]
   simp only [cond_true, Int.toNat_natCast]
   rw [drop_cons' hlt, List.any_cons]
   have ih := ixI_ge xs p s n (k + 1) (by omega) (by omega)
   show decide ((0 : Int) ≤ bif FnearS (xs.getD k default) p s.R then _ else _) = _
   cases FnearS (xs.getD k default) p s.R with
   | true => simp
   | false =>
    simp only [cond_false, Bool.false_or]
    rw [show ((k : Int) + 1) = ((k + 1 : Nat) : Int) by omega, ih]
  ·rw [decide_eq_false (show ¬ (k : Int) < (xs.length : Int) by omega)]
   rw [List.drop_of_length_le (by omega)]
   rfl
theorem coI_eq (xs : List TEdge) (p : TPoint) (s : TShape) : FcoI xs p s = xs.any fun e => FnearS e p s.R := by
 unfold FcoI FixI
 have := ixI_ge xs p s (((xs.length : Int) - 0).toNat + 1) 0 (by omega) (by omega)
 rw [List.drop_zero] at this
 exact this
def wind : List TEdge → TPoint → Int
 | [], _ => 0
 | e :: l, p => RayM e p + wind l p
theorem up_b (e : TEdge) : -1 ≤ up e ∧ up e ≤ 1 := by unfold up; (repeat' split) <;> omega
theorem ray_b (e : TEdge) (p : TPoint) : -1 ≤ RayM e p ∧ RayM e p ≤ 1 := by
 have := up_b e
 unfold RayM
 split <;> omega
theorem wind_l0 (s : TShape) (p : TPoint) : ∀ (n k : Nat) (v : Int), k ≤ s.Edges.length → s.Edges.length - k < n → (-(k : Int) ≤ v ∧ v ≤ k) → s.Edges.length ≤ 1000 → FInsideS_l0 s p n v (k : Int) = (decide (s.Kind = 2) && !decide (v + wind (s.Edges.drop k) p = 0))
 | 0, k, v, hk, hn, _, _ => by omega
 | n + 1, k, v, hk, hn, hv, hl => by
  unfold FInsideS_l0
  by_cases hlt : k < s.Edges.length
  ·rw [decide_eq_true (show (k : Int) < (s.Edges.length : Int) by omega)]
   simp only [cond_true, Int.toNat_natCast]
   rw [drop_cons' hlt, wind, ray_eq]
   have hb := ray_b (s.Edges.getD k default) p
   rw [W64_id (by omega) (by omega)]
   have ih := wind_l0 s p n (k + 1) (v + RayM (s.Edges.getD k default) p) (by omega) (by omega) (by omega) hl
   rw [show ((k : Int) + 1) = ((k + 1 : Nat) : Int) by omega, ih, Int.add_assoc]
  ·rw [decide_eq_false (show ¬ (k : Int) < (s.Edges.length : Int) by omega)]
   rw [List.drop_of_length_le (by omega), wind, Int.add_zero]
   simp only [cond_false]
   cases decide (s.Kind = 2) <;> rfl
def InsM (s : TShape) (p : TPoint) : Prop := OkS s ∧ InBx s.Edges s.R p ∧ ((∃ e ∈ s.Edges, NearM e p s.R) ∨ s.Kind = 2 ∧ wind s.Edges p ≠ 0)
theorem inside_eqS (s : TShape) (p : TPoint) : FInsideS s p = true ↔ InsM s p := by
 unfold FInsideS
 rw [checkS_eq]
 by_cases hs : OkS s
 ·have h0 := (checkMS_zero s).2 hs
  rw [h0]
  have hb := inbx_eq hs p
  simp only [decide_true, Bool.not_true, cond_false]
  by_cases hB : InBx s.Edges s.R p
  ·obtain ⟨⟨g1, g2⟩, g3, g4⟩ := hb.2 hB
   rw [decide_eq_false g1, decide_eq_false g2, decide_eq_false g3, decide_eq_false g4]
   simp only [cond_false]
   rw [coI_eq]
   have hnear : (s.Edges.any fun e => FnearS e p s.R) = true ↔ ∃ e ∈ s.Edges, NearM e p s.R := by
    rw [List.any_eq_true]
    constructor
    ·rintro ⟨e, he, hn⟩; exact ⟨e, he, (near_eq (hs.2.1 e he) (inbx_pb hs hB) hs.2.2.2.1).1 hn⟩
    ·rintro ⟨e, he, hn⟩; exact ⟨e, he, (near_eq (hs.2.1 e he) (inbx_pb hs hB) hs.2.2.2.1).2 hn⟩
   unfold InsM
   have hw := wind_l0 s p (((s.Edges.length : Int) - 0).toNat + 1) 0 0 (by omega) (by omega) (by omega) (by have := hs.1.2.1; omega)
   rw [List.drop_zero, Int.zero_add] at hw
   rw [show ((0 : Nat) : Int) = 0 from rfl] at hw
   rw [hw]
   cases hc : (s.Edges.any fun e => FnearS e p s.R) with
   | true => simp only [cond_true, true_iff]; exact ⟨hs, hB, .inl (hnear.1 hc)⟩
   | false =>
    simp only [cond_false, Bool.and_eq_true, decide_eq_true_eq, Bool.not_eq_true', decide_eq_false_iff_not]
    constructor
    ·intro h; exact ⟨hs, hB, .inr h⟩
    ·rintro ⟨_, _, h | h⟩
     ·rw [hnear.2 h] at hc; cases hc
     ·exact h
  ·have : ¬ (((¬ p.X < (FBox s).X0) ∧ ¬ (FBox s).X1 < p.X) ∧ (¬ p.Y < (FBox s).Y0) ∧ ¬ (FBox s).Y1 < p.Y) := fun h => hB (hb.1 h)
   simp only [cnd_or]
   have hor : ((decide (p.X < (FBox s).X0) || decide ((FBox s).X1 < p.X)) || decide (p.Y < (FBox s).Y0) || decide ((FBox s).Y1 < p.Y)) = true := by
    simp only [Bool.or_eq_true, decide_eq_true_eq]
    omega
   rw [hor]
   simp only [cond_true, Bool.false_eq_true, false_iff]
   exact fun h => hB h.2.1
 ·have h0 : ¬ CheckMS s = 0 := fun h => hs ((checkMS_zero s).1 h)
  rw [decide_eq_false h0]
  simp only [Bool.not_false, cond_true, Bool.false_eq_true, false_iff]
  exact fun h => hs h.1
end Go.Proofs.Ytpnlegfdkkcnlaa
