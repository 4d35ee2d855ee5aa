/-
  Proved: the statement of ShapePoints; the parts before it hold what its proof needs.
-/
import Derived.Test.YtpnlegfdkkcnlaaShapePointsQe
namespace Go.Proofs.Ytpnlegfdkkcnlaa
set_option maxRecDepth 100000
open Go.RowKit
set_option linter.unusedVariables false
set_option linter.unusedSimpArgs false
def Fref09line (x0 : TPoint) (x1 : TPoint) : TEdge := TEdge.mk 1 x0 x1 (TPoint.mk 0 0)
def cref09line (x0 : TPoint) (x1 : TPoint) : FuncId × List Av × Ef := (66, [.agg (TPoint.c x0), .agg (TPoint.c x1)], .val [] (.av (.agg (TEdge.c (Fref09line x0 x1)))))
theorem pref09line (x0 : TPoint) (x1 : TPoint) : Pure Try.prog 66 (cref09line x0 x1).2.1 (.av (.agg (TEdge.c (Fref09line x0 x1)))) := by
  refine pure_of_awF Try.func66 rfl (by kernel_rfl) (by kernel_rfl) fun W0 M0 => ?_
  refine aw_seq ?_
  refine aw_region eqok [] [] [] [2, 3, 4] [2, 3, 4] [] ⟨[(2, tP 2 0), (3, tP 3 0), (4, tP 4 0)], [(2, .cells (TPoint.c x0) 29), (3, .cells (TPoint.c x1) 29), (4, .cells [.i 0, .i 0, .i 0, .i 0, .i 0, .i 0, .i 0] 35)]⟩ .nil (by kernel_rfl) .nil <| ath_n <| aw_seq ?_
  refine aw_region eqok [] [] [] [4] [4] [] ⟨[(4, tP 4 0)], [(4, .cells [.i 1, .i x0.X, .i x0.Y, .i x1.X, .i x1.Y, .i 0, .i 0] 35)]⟩ .nil (by kernel_rfl) .nil <| ath_n <| aw_ret ?_
  exact ⟨_, Cv.refl _, .inl rfl, .av (.agg [.i 1, .i x0.X, .i x0.Y, .i x1.X, .i x1.Y, .i 0, .i 0]), by kernel_rfl, tve_eq (by rfl)⟩
theorem okref09line (x0 : TPoint) (x1 : TPoint) : CallOk Try.prog (cref09line x0 x1).1 (cref09line x0 x1).2.1 (cref09line x0 x1).2.2 := callOk_pure (fun _ _ => by kernel_rfl) fun _ => pref09line x0 x1
def wLoop_1 (l : (List TPoint)) (k : Int) : TPoint := l.getD ((Int.tmod (W64 (k + 1)) ((l.length : Int))).toNat) default
def FLoop_l0 (l : (List TPoint)) : Nat → List TEdge → Int → TShape
  | 0, _, _ => default
  | n0 + 1, s_1, k => bif decide ((k : Int) < ((l.length : Int))) then ((FLoop_l0 l n0) (s_1 ++ [TEdge.mk 1 (l.getD k.toNat default) (wLoop_1 l k) (TPoint.mk 0 0)]) (k + 1)) else (TShape.mk 2 s_1 0)
def FLoop (l : (List TPoint)) : TShape := FLoop_l0 l (((((l.length : Int))) - 0).toNat + 1) (([] : List TEdge)) 0
def cLoop (l : (List TPoint)) : FuncId × List Av × Ef := (41, [.one (lst 2 TPoint.c l)], .val [] (.av (.agg (TShape.c (FLoop l)))))
theorem pLoop (l : (List TPoint)) (h0 : (l.length : Int) ≤ 1000000) : Pure Try.prog 41 (cLoop l).2.1 (.av (.agg (TShape.c (FLoop l)))) := by
  refine pure_of_awF Try.func41 rfl (by kernel_rfl) (by kernel_rfl) fun W0 M0 => ?_
  refine aw_seq ?_
  refine aw_region eqok [] [] [] [0, 2] [2] [] ⟨[(0, .av (.one (lst 2 TPoint.c l))), (2, tP 2 0)], [(2, .cells [.i 0, .val (.slice none 0 0), .i 0] 26)]⟩ .nil (by kernel_rfl) .nil <| ath_n <| aw_seq ?_
  refine aw_region eqok [] [] [] [0, 2, 3] [2, 3] [] ⟨[(0, .av (.one (lst 2 TPoint.c l))), (2, tP 2 0), (3, tP 3 0)], [(2, .cells [.i 0, .val (.slice none 0 0), .i 0] 26), (3, .cells [.i 2, .val (.slice none 0 0), .i 0] 26)]⟩ .nil (by kernel_rfl) .nil <| ath_n ?_
  refine aw_seq <| aw_seq ?_
  refine aw_region eqok [] [] [] [0, 2, 3, 4] [2, 3] [] ⟨[(0, .av (.one (lst 2 TPoint.c l))), (2, tP 2 0), (3, tP 3 0), (4, tI 0)], [(2, .cells [.i 0, .val (.slice none 0 0), .i 0] 26), (3, .cells [.i 2, .val (.slice none 0 0), .i 0] 26)]⟩ .nil (by kernel_rfl) .nil <| ath_n <| aw_block ?_
  refine aw_cv (Cv.trans (cv_ghost (⟨[(0, .av (.one (lst 2 TPoint.c l))), (2, tP 2 0), (3, tP 3 0), (4, tI 0)], [(100000, .row 7 0 (fun _ _ => default) 35), (2, .cells [.i 0, .val (.slice none 0 0), .i 0] 26), (3, .cells [.i 2, .own 100000 7 0, .i 0] 26)]⟩) 100000 7 (fun _ _ => default) 35 [] [(3, [1])] (K := none) (fun k x h => by cases h) rfl (by kernel_rfl) (by kernel_rfl)) (Cv.trans (cv_ce (⟨[(0, .av (.one (lst 2 TPoint.c l))), (2, tP 2 0), (3, tP 3 0), (4, tI 0)], [(100000, .row 7 ((([] : List TEdge)).length) (rowF TEdge.c (([] : List TEdge))) 35), (2, .cells [.i 0, .val (.slice none 0 0), .i 0] 26), (3, .cells [.i 2, .own 100000 7 ((([] : List TEdge)).length), .i 0] 26)]⟩) (.cons ⟨rfl, .refl _⟩ (.cons ⟨rfl, .refl _⟩ (.cons ⟨rfl, .refl _⟩ (.cons ⟨rfl, .refl _⟩ .nil)))) (.cons ⟨rfl, bke_told 35 (told_nil 7 (fun _ _ => default) TEdge.c)⟩ (.cons ⟨rfl, .refl _⟩ (.cons ⟨rfl, .cells _ (.cons (.refl _) (.cons (.own _ _ au4) (.cons (.refl _) .nil)))⟩ .nil)))) (Cv.trans (cv_keep [0, 2, 3, 4] [2, 3, 100000] (⟨[(0, .av (.one (lst 2 TPoint.c l))), (2, tP 2 0), (3, tP 3 0), (4, tI 0)], [(2, .cells [.i 0, .val (.slice none 0 0), .i 0] 26), (3, .cells [.i 2, .own 100000 7 ((([] : List TEdge)).length), .i 0] 26), (100000, .row 7 ((([] : List TEdge)).length) (rowF TEdge.c (([] : List TEdge))) 35)]⟩) (by kernel_rfl)) (Cv.refl _)))) ?_
  refine aw_loopC (ι := Nat × List TEdge × Int) (fun x => ⟨[(0, .av (.one (lst 2 TPoint.c l))), (2, tP 2 0), (3, tP 3 0), (4, tI x.2.2)], [(2, .cells [.i 0, .val (.slice none 0 0), .i 0] 26), (3, .cells [.i 2, .own 100000 7 x.2.1.length, .i 0] 26), (100000, .row 7 x.2.1.length (rowF TEdge.c x.2.1) 35)]⟩) (fun x => ((((l.length : Int))) - x.2.2).toNat < x.1 ∧ (0 ≤ x.2.2 ∧ (x.2.2 ≤ ((l.length : Int)) ∨ x.2.2 = 0) ∧ (x.2.1.length : Int) ≤ 0 + 1 * (x.2.2 - 0)) ∧ FLoop_l0 l x.1 x.2.1 x.2.2 = FLoop l) (fun x => x.1) ?_ (((((l.length : Int))) - 0).toNat + 1, ([] : List TEdge), 0) ⟨Nat.lt_succ_self _, ⟨(by show 0 ≤ 0; first | trivial | omega | (simp only [List.length_append, List.length_cons, List.length_nil]; omega) | (simp only [List.length_set, List.length_append, List.length_cons, List.length_nil]; omega) | (simp only [W64_def]; omega) | (simp; omega) | simp), (by show (0 ≤ ((l.length : Int)) ∨ 0 = 0); first | trivial | omega | (simp only [List.length_append, List.length_cons, List.length_nil]; omega) | (simp only [List.length_set, List.length_append, List.length_cons, List.length_nil]; omega) | (simp only [W64_def]; omega) | (simp; omega) | simp), (by show ((([] : List TEdge)).length : Int) ≤ 0 + 1 * (0 - 0); first | trivial | omega | (simp only [List.length_append, List.length_cons, List.length_nil]; omega) | (simp only [List.length_set, List.length_append, List.length_cons, List.length_nil]; omega) | (simp only [W64_def]; omega) | (simp; omega) | simp)⟩, (by simp only [FLoop, cond_true, cond_false])⟩
  rintro ⟨n0, s_1, k⟩ ⟨hn, hinv, hF⟩
  have hm0 : ((((l.length : Int))) - k).toNat < n0 := hn; have hinv0 : 0 ≤ k ∧ (k ≤ ((l.length : Int)) ∨ k = 0) ∧ (s_1.length : Int) ≤ 0 + 1 * (k - 0) := hinv; have hF0 : FLoop_l0 l n0 s_1 k = FLoop l := hF; clear hn hinv hF
  cases n0 with
  | zero => exact absurd hm0 (Nat.not_lt_zero _)
  | succ n0 =>
    refine aw_seq <| aw_seq ?_
    refine aw_region eqok [] [] [] [0, 2, 3, 4, 9] [2, 3, 100000] [] ⟨[(0, .av (.one (lst 2 TPoint.c l))), (2, tP 2 0), (3, tP 3 0), (4, tI k), (9, tB (decide ((k : Int) < ((l.length : Int)))))], [(2, .cells [.i 0, .val (.slice none 0 0), .i 0] 26), (3, .cells [.i 2, .own 100000 7 s_1.length, .i 0] 26), (100000, .row 7 s_1.length (rowF TEdge.c s_1) 35)]⟩ .nil (by kernel_rfl) .nil <| ath_n ?_
    refine aw_cond (decide ((k : Int) < ((l.length : Int)))) (by kernel_rfl) (fun h1 => ?_) (fun h1 => ?_)
    · have g1 := of_decide_eq_true h1
      refine aw_skip <| ath_n ?_
      refine aw_seq <| aw_block ?_
      refine aw_draw mixed eqok [] [] [] [0, 2, 3, 4] [2, 3, 28] [0 ≤ (k : Int) ∧ (k : Int) < ((l.length : Nat) : Int), ((l.length : Int) : Int) ≠ 0, 0 ≤ (Int.tmod (W64 (k + 1)) ((l.length : Int)) : Int) ∧ (Int.tmod (W64 (k + 1)) ((l.length : Int)) : Int) < ((l.length : Nat) : Int), s_1.length = s_1.length, s_1.length + 1 ≤ maxLen, (s_1.length + 1) * 56 ≤ 140737488355328] ⟨[(0, .av (.one (lst 2 TPoint.c l))), (2, tP 2 0), (3, tP 3 0), (4, tI k)], [(2, .cells [.i 0, .val (.slice none 0 0), .i 0] 26), (3, .cells [.i 2, .own 28 7 (s_1.length + 1), .i 0] 26), (28, .row 7 (s_1.length + 1) (fun i j => if i < s_1.length then (rowF TEdge.c s_1) i j else (colsC 7 1 [.i 1, .i ((l.getD k.toNat default).X), .i ((l.getD k.toNat default).Y), .i ((wLoop_1 l k).X), .i ((wLoop_1 l k).Y), .i 0, .i 0]) (i - s_1.length) j) 35)]⟩ .nil (by kernel_rfl) (by kernel_rfl) (.cons au1 (.cons au6 (.cons au1 (.cons rfl (.cons au3 (.cons au3 .nil)))))) <| abl_n <| ath_n ?_
      refine aw_cv (Cv.trans (cv_ce (⟨[(0, .av (.one (lst 2 TPoint.c l))), (2, tP 2 0), (3, tP 3 0), (4, tI k)], [(2, .cells [.i 0, .val (.slice none 0 0), .i 0] 26), (3, .cells [.i 2, .own 28 7 ((s_1 ++ [TEdge.mk 1 (l.getD k.toNat default) (wLoop_1 l k) (TPoint.mk 0 0)]).length), .i 0] 26), (28, .row 7 ((s_1 ++ [TEdge.mk 1 (l.getD k.toNat default) (wLoop_1 l k) (TPoint.mk 0 0)]).length) (rowF TEdge.c (s_1 ++ [TEdge.mk 1 (l.getD k.toNat default) (wLoop_1 l k) (TPoint.mk 0 0)])) 35)]⟩) (.cons ⟨rfl, .refl _⟩ (.cons ⟨rfl, .refl _⟩ (.cons ⟨rfl, .refl _⟩ (.cons ⟨rfl, .refl _⟩ .nil)))) (.cons ⟨rfl, .refl _⟩ (.cons ⟨rfl, .cells _ (.cons (.refl _) (.cons (.own _ _ au4) (.cons (.refl _) .nil)))⟩ (.cons ⟨rfl, bke_told 35 (told_app (told_rfl 7 TEdge.c s_1) (told_lit (c := TEdge.c) (xs := ([TEdge.mk 1 (l.getD k.toNat default) (wLoop_1 l k) (TPoint.mk 0 0)] : List TEdge)) rfl (by kernel_rfl)))⟩ .nil)))) (Cv.refl _)) ?_
      refine aw_region eqok [] [] [] [0, 2, 3, 4] [2, 3, 28] [] ⟨[(0, .av (.one (lst 2 TPoint.c l))), (2, tP 2 0), (3, tP 3 0), (4, tI (W64 (k + 1)))], [(2, .cells [.i 0, .val (.slice none 0 0), .i 0] 26), (3, .cells [.i 2, .own 28 7 ((s_1 ++ [TEdge.mk 1 (l.getD k.toNat default) (wLoop_1 l k) (TPoint.mk 0 0)]).length), .i 0] 26), (28, .row 7 ((s_1 ++ [TEdge.mk 1 (l.getD k.toNat default) (wLoop_1 l k) (TPoint.mk 0 0)]).length) (rowF TEdge.c (s_1 ++ [TEdge.mk 1 (l.getD k.toNat default) (wLoop_1 l k) (TPoint.mk 0 0)])) 35)]⟩ .nil (by kernel_rfl) .nil ?_
      (try rw [(show W64 (k + 1) = k + 1 from W64_id (by omega) au5)])
      refine ath_n ?_
      refine ⟨(n0, s_1 ++ [TEdge.mk 1 (l.getD k.toNat default) (wLoop_1 l k) (TPoint.mk 0 0)], k + 1), ⟨?_, ?_, (by rw [← hF0]; simp only [FLoop_l0, h1, cond_true, cond_false])⟩, Nat.lt_succ_self _, Cv.trans (cv_ren (⟨[(0, .av (.one (lst 2 TPoint.c l))), (2, tP 2 0), (3, tP 3 0), (4, tI (k + 1))], [(2, .cells [.i 0, .val (.slice none 0 0), .i 0] 26), (3, .cells [.i 2, .own 100000 7 ((s_1 ++ [TEdge.mk 1 (l.getD k.toNat default) (wLoop_1 l k) (TPoint.mk 0 0)]).length), .i 0] 26), (100000, .row 7 ((s_1 ++ [TEdge.mk 1 (l.getD k.toNat default) (wLoop_1 l k) (TPoint.mk 0 0)]).length) (rowF TEdge.c (s_1 ++ [TEdge.mk 1 (l.getD k.toNat default) (wLoop_1 l k) (TPoint.mk 0 0)])) 35)]⟩) 28 100000 (K := none) (fun k x h => by cases h) rfl rfl (by kernel_rfl) (by kernel_rfl)) (cv_eq (by kernel_rfl))⟩
      · show ((((l.length : Int))) - (k + 1)).toNat < n0; omega
      · exact ⟨(by show 0 ≤ (k + 1); first | trivial | omega | (simp only [List.length_append, List.length_cons, List.length_nil]; omega) | (simp only [List.length_set, List.length_append, List.length_cons, List.length_nil]; omega) | (simp only [W64_def]; omega) | (simp; omega) | simp), (by show ((k + 1) ≤ ((l.length : Int)) ∨ (k + 1) = 0); first | trivial | omega | (simp only [List.length_append, List.length_cons, List.length_nil]; omega) | (simp only [List.length_set, List.length_append, List.length_cons, List.length_nil]; omega) | (simp only [W64_def]; omega) | (simp; omega) | simp), (by show ((s_1 ++ [TEdge.mk 1 (l.getD k.toNat default) (wLoop_1 l k) (TPoint.mk 0 0)]).length : Int) ≤ 0 + 1 * ((k + 1) - 0); first | trivial | omega | (simp only [List.length_append, List.length_cons, List.length_nil]; omega) | (simp only [List.length_set, List.length_append, List.length_cons, List.length_nil]; omega) | (simp only [W64_def]; omega) | (simp; omega) | simp)⟩
    · have g1 := of_decide_eq_false h1
      refine aw_exit <| ath_e ?_
      refine ath_e <| abl_hit ?_
      refine ath_n <| aw_seq ?_
      refine aw_region eqok [] [] [] [2] [2, 100000] [] ⟨[(2, tP 2 0)], [(2, .cells [.i 2, .own 100000 7 s_1.length, .i 0] 26), (100000, .row 7 s_1.length (rowF TEdge.c s_1) 35)]⟩ .nil (by kernel_rfl) .nil <| ath_n <| aw_ret ?_
      exact ⟨_, Cv.trans (cv_fz (⟨[(2, tP 2 0)], [(2, .cells [.i 2, lst 7 TEdge.c s_1, .i 0] 26)]⟩) 100000 7 s_1.length (rowF TEdge.c s_1) 35 (K := none) (fun k x h => by cases h) (by kernel_rfl) (by kernel_rfl) (.cons ⟨rfl, rfl⟩ .nil) (by kernel_rfl)) (Cv.refl _), .inl rfl, .av (.agg [.i 2, lst 7 TEdge.c s_1, .i 0]), by kernel_rfl, tve_eq (by rw [← hF0]; first | (simp only [FLoop_l0, h1, cond_true, cond_false]; done) | (simp only [FLoop_l0, h1, cond_true, cond_false]; rfl))⟩
theorem okLoop (l : (List TPoint)) (h0 : (l.length : Int) ≤ 1000000) : CallOk Try.prog (cLoop l).1 (cLoop l).2.1 (cLoop l).2.2 := callOk_pure (fun _ _ => by kernel_rfl) fun _ => pLoop l h0
def wRectR_0 (r : TRect) : TShape := FLoop [TPoint.mk r.X0 r.Y0, TPoint.mk r.X1 r.Y0, TPoint.mk r.X1 r.Y1, TPoint.mk r.X0 r.Y1]
def FRectR (r : TRect) : TShape := wRectR_0 r
def cRectR (r : TRect) : FuncId × List Av × Ef := (36, [.agg (TRect.c r)], .val [] (.av (.agg (TShape.c (FRectR r)))))
theorem pRectR (r : TRect) : Pure Try.prog 36 (cRectR r).2.1 (.av (.agg (TShape.c (FRectR r)))) := by
  refine pure_of_awF Try.func36 rfl (by kernel_rfl) (by kernel_rfl) fun W0 M0 => ?_
  refine aw_seq ?_
  refine aw_region eqok [] [] [] [1, 2] [1, 2] [] ⟨[(1, tP 1 0), (2, tP 2 0)], [(1, .cells (TRect.c r) 54), (2, .cells [.i 0, .val (.slice none 0 0), .i 0] 26)]⟩ .nil (by kernel_rfl) .nil <| ath_n <| aw_seq ?_
  refine aw_region eqok [] [] [(24, ceI [.one (.list true 2 4 (colsC 2 4 [.i r.X0, .i r.Y0, .i r.X1, .i r.Y0, .i r.X1, .i r.Y1, .i r.X0, .i r.Y1]))] (cLoop [TPoint.mk r.X0 r.Y0, TPoint.mk r.X1 r.Y0, TPoint.mk r.X1 r.Y1, TPoint.mk r.X0 r.Y1]))] [2] [2] [Same (ceI [.one (.list true 2 4 (colsC 2 4 [.i r.X0, .i r.Y0, .i r.X1, .i r.Y0, .i r.X1, .i r.Y1, .i r.X0, .i r.Y1]))] (cLoop [TPoint.mk r.X0 r.Y0, TPoint.mk r.X1 r.Y0, TPoint.mk r.X1 r.Y1, TPoint.mk r.X0 r.Y1])).2.1] ⟨[(2, tP 2 0)], [(2, .cells (TShape.c (wRectR_0 r)) 26)]⟩ (.cons (callOk_ce (okLoop [TPoint.mk r.X0 r.Y0, TPoint.mk r.X1 r.Y0, TPoint.mk r.X1 r.Y1, TPoint.mk r.X0 r.Y1] au0) (.cons (.one (cle_told true (told_lit (c := TPoint.c) (xs := ([TPoint.mk r.X0 r.Y0, TPoint.mk r.X1 r.Y0, TPoint.mk r.X1 r.Y1, TPoint.mk r.X0 r.Y1] : List TPoint)) rfl (by kernel_rfl)))) .nil)) .nil) (by kernel_rfl) (.cons rfl .nil) <| ath_n <| aw_ret ?_
  exact ⟨_, Cv.refl _, .inl rfl, .av (.agg (TShape.c (wRectR_0 r))), by kernel_rfl, tve_eq (by rfl)⟩
theorem okRectR (r : TRect) : CallOk Try.prog (cRectR r).1 (cRectR r).2.1 (cRectR r).2.2 := callOk_pure (fun _ _ => by kernel_rfl) fun _ => pRectR r
def wCircle_0 (c : TPoint) (radius : Int) (kind : Int) : TEdge := Fref06Arc c radius (bif decide ((kind : Int) = 3) then 4 else 0) kind
def wCircle_1 (c : TPoint) (radius : Int) (kind : Int) : TEdge := Fref06Arc c radius (bif decide ((kind : Int) = 3) then 3 else 1) kind
def wCircle_2 (c : TPoint) (radius : Int) (kind : Int) : TEdge := Fref06Arc c radius (bif decide ((kind : Int) = 3) then 1 else 3) kind
def FCircle (c : TPoint) (radius : Int) (kind : Int) : TShape := TShape.mk 2 ((([wCircle_0 c radius kind] ++ [wCircle_1 c radius kind]) ++ [Fref06Arc c radius 2 kind]) ++ [wCircle_2 c radius kind]) 0
def cCircle (c : TPoint) (radius : Int) (kind : Int) : FuncId × List Av × Ef := (42, [.agg (TPoint.c c), .one (.i radius), .one (.i kind)], .val [] (.av (.agg (TShape.c (FCircle c radius kind)))))
theorem pCircle (c : TPoint) (radius : Int) (kind : Int) : Pure Try.prog 42 (cCircle c radius kind).2.1 (.av (.agg (TShape.c (FCircle c radius kind)))) := by
  refine pure_of_awF Try.func42 rfl (by kernel_rfl) (by kernel_rfl) fun W0 M0 => ?_
  refine aw_seq ?_
  refine aw_region eqok [] [] [] [1, 2, 3, 6] [3, 6] [] ⟨[(1, tI radius), (2, tI kind), (3, tP 3 0), (6, tP 6 0)], [(3, .cells (TPoint.c c) 29), (6, .cells [.i 0, .val (.slice none 0 0), .i 0] 26)]⟩ .nil (by kernel_rfl) .nil <| ath_n <| aw_seq ?_
  refine aw_region eqok [] [] [] [1, 2, 3, 6, 7] [3, 6, 7] [] ⟨[(1, tI radius), (2, tI kind), (3, tP 3 0), (6, tP 6 0), (7, tP 7 0)], [(3, .cells (TPoint.c c) 29), (6, .cells [.i 0, .val (.slice none 0 0), .i 0] 26), (7, .cells [.i 2, .val (.slice none 0 0), .i 0] 26)]⟩ .nil (by kernel_rfl) .nil <| ath_n ?_
  refine aw_seq <| aw_seq ?_
  refine aw_region eqok [] [] [] [1, 2, 3, 6, 7, 8] [3, 6, 7] [] ⟨[(1, tI radius), (2, tI kind), (3, tP 3 0), (6, tP 6 0), (7, tP 7 0), (8, tI 0)], [(3, .cells (TPoint.c c) 29), (6, .cells [.i 0, .val (.slice none 0 0), .i 0] 26), (7, .cells [.i 2, .val (.slice none 0 0), .i 0] 26)]⟩ .nil (by kernel_rfl) .nil <| ath_n <| aw_block ?_
  refine aw_unroll 5 ?_
  refine aw_round <| aw_seq <| aw_seq ?_
  refine aw_region eqok [] [] [] [1, 2, 3, 6, 7, 8, 12] [3, 6, 7] [] ⟨[(1, tI radius), (2, tI kind), (3, tP 3 0), (6, tP 6 0), (7, tP 7 0), (8, tI 0), (12, tB true)], [(3, .cells (TPoint.c c) 29), (6, .cells [.i 0, .val (.slice none 0 0), .i 0] 26), (7, .cells [.i 2, .val (.slice none 0 0), .i 0] 26)]⟩ .nil (by kernel_rfl) .nil <| ath_n ?_
  refine aw_cond_t (by kernel_rfl) <| aw_skip ?_
  refine ath_n <| aw_seq ?_
  refine aw_block <| aw_seq ?_
  refine aw_region eqok [] [] [] [1, 2, 3, 6, 7, 8, 9] [3, 6, 7] [] ⟨[(1, tI radius), (2, tI kind), (3, tP 3 0), (6, tP 6 0), (7, tP 7 0), (8, tI 0), (9, tI 0)], [(3, .cells (TPoint.c c) 29), (6, .cells [.i 0, .val (.slice none 0 0), .i 0] 26), (7, .cells [.i 2, .val (.slice none 0 0), .i 0] 26)]⟩ .nil (by kernel_rfl) .nil <| ath_n ?_
  refine aw_seq <| aw_seq ?_
  refine aw_region eqok [] [] [] [1, 2, 3, 6, 7, 8, 9, 17] [3, 6, 7] [] ⟨[(1, tI radius), (2, tI kind), (3, tP 3 0), (6, tP 6 0), (7, tP 7 0), (8, tI 0), (9, tI 0), (17, tB (decide ((kind : Int) = 3)))], [(3, .cells (TPoint.c c) 29), (6, .cells [.i 0, .val (.slice none 0 0), .i 0] 26), (7, .cells [.i 2, .val (.slice none 0 0), .i 0] 26)]⟩ .nil (by kernel_rfl) .nil <| ath_n ?_
  refine aw_joinC (⟨[(1, tI radius), (2, tI kind), (3, tP 3 0), (6, tP 6 0), (7, tP 7 0), (8, tI 0), (9, tI (bif decide ((kind : Int) = 3) then 4 else 0))], [(3, .cells (TPoint.c c) 29), (6, .cells [.i 0, .val (.slice none 0 0), .i 0] 26), (7, .cells [.i 2, .val (.slice none 0 0), .i 0] 26)]⟩) ?_ ?_
  · refine aw_cond (decide ((kind : Int) = 3)) (by kernel_rfl) (fun h1 => ?_) (fun h1 => ?_)
    · have g1 := of_decide_eq_true h1
      refine aw_region eqok [] [] [] [1, 2, 3, 6, 7, 8, 9] [3, 6, 7] [] ⟨[(1, tI radius), (2, tI kind), (3, tP 3 0), (6, tP 6 0), (7, tP 7 0), (8, tI 0), (9, tI 4)], [(3, .cells (TPoint.c c) 29), (6, .cells [.i 0, .val (.slice none 0 0), .i 0] 26), (7, .cells [.i 2, .val (.slice none 0 0), .i 0] 26)]⟩ .nil (by kernel_rfl) .nil <| ath_n ?_
      refine cv_eq ?_
      first | rfl | (simp only [h1, cond_true, cond_false]; done) | (simp only [h1, cond_true, cond_false]; rfl)
    · have g1 := of_decide_eq_false h1
      refine aw_skip <| ath_n ?_
      refine Cv.trans (cv_keep [1, 2, 3, 6, 7, 8, 9] [3, 6, 7] (⟨[(1, tI radius), (2, tI kind), (3, tP 3 0), (6, tP 6 0), (7, tP 7 0), (8, tI 0), (9, tI 0)], [(3, .cells (TPoint.c c) 29), (6, .cells [.i 0, .val (.slice none 0 0), .i 0] 26), (7, .cells [.i 2, .val (.slice none 0 0), .i 0] 26)]⟩) (by kernel_rfl)) (cv_eq ?_)
      first | rfl | (simp only [h1, cond_true, cond_false]; done) | (simp only [h1, cond_true, cond_false]; rfl)
  refine aw_draw mixed eqok [] [] [(26, cref06Arc c radius (bif decide ((kind : Int) = 3) then 4 else 0) kind)] [1, 2, 3, 6, 7, 8] [3, 6, 7, 28] [Same (cref06Arc c radius (bif decide ((kind : Int) = 3) then 4 else 0) kind).2.1, 1 ≤ maxLen, 1 * 56 ≤ 140737488355328] ⟨[(1, tI radius), (2, tI kind), (3, tP 3 0), (6, tP 6 0), (7, tP 7 0), (8, tI 0)], [(3, .cells (TPoint.c c) 29), (6, .cells [.i 0, .val (.slice none 0 0), .i 0] 26), (7, .cells [.i 2, .own 28 7 1, .i 0] 26), (28, .row 7 1 (colsC 7 1 [.i ((wCircle_0 c radius kind).Kind), .i (((wCircle_0 c radius kind).A).X), .i (((wCircle_0 c radius kind).A).Y), .i (((wCircle_0 c radius kind).B).X), .i (((wCircle_0 c radius kind).B).Y), .i (((wCircle_0 c radius kind).C).X), .i (((wCircle_0 c radius kind).C).Y)]) 35)]⟩ (.cons (okref06Arc c radius (bif decide ((kind : Int) = 3) then 4 else 0) kind) .nil) (by kernel_rfl) (by kernel_rfl) (.cons rfl (.cons au3 (.cons au3 .nil))) <| abl_n <| ath_n ?_
  refine aw_cv (Cv.trans (cv_ce (⟨[(1, tI radius), (2, tI kind), (3, tP 3 0), (6, tP 6 0), (7, tP 7 0), (8, tI 0)], [(3, .cells (TPoint.c c) 29), (6, .cells [.i 0, .val (.slice none 0 0), .i 0] 26), (7, .cells [.i 2, .own 28 7 ([wCircle_0 c radius kind].length), .i 0] 26), (28, .row 7 ([wCircle_0 c radius kind].length) (rowF TEdge.c [wCircle_0 c radius kind]) 35)]⟩) (.cons ⟨rfl, .refl _⟩ (.cons ⟨rfl, .refl _⟩ (.cons ⟨rfl, .refl _⟩ (.cons ⟨rfl, .refl _⟩ (.cons ⟨rfl, .refl _⟩ (.cons ⟨rfl, .refl _⟩ .nil)))))) (.cons ⟨rfl, .refl _⟩ (.cons ⟨rfl, .refl _⟩ (.cons ⟨rfl, .cells _ (.cons (.refl _) (.cons (.own _ _ au4) (.cons (.refl _) .nil)))⟩ (.cons ⟨rfl, bke_told 35 (told_lit (c := TEdge.c) (xs := ([wCircle_0 c radius kind] : List TEdge)) rfl (by kernel_rfl))⟩ .nil))))) (Cv.refl _)) ?_
  refine aw_region eqok [] [] [] [1, 2, 3, 6, 7, 8] [3, 6, 7, 28] [] ⟨[(1, tI radius), (2, tI kind), (3, tP 3 0), (6, tP 6 0), (7, tP 7 0), (8, tI 1)], [(3, .cells (TPoint.c c) 29), (6, .cells [.i 0, .val (.slice none 0 0), .i 0] 26), (7, .cells [.i 2, .own 28 7 ([wCircle_0 c radius kind].length), .i 0] 26), (28, .row 7 ([wCircle_0 c radius kind].length) (rowF TEdge.c [wCircle_0 c radius kind]) 35)]⟩ .nil (by kernel_rfl) .nil <| ath_n ?_
  refine aw_round ?_
  refine aw_cv (Cv.trans (cv_ren (⟨[(1, tI radius), (2, tI kind), (3, tP 3 0), (6, tP 6 0), (7, tP 7 0), (8, tI 1)], [(3, .cells (TPoint.c c) 29), (6, .cells [.i 0, .val (.slice none 0 0), .i 0] 26), (7, .cells [.i 2, .own 100000 7 ([wCircle_0 c radius kind].length), .i 0] 26), (100000, .row 7 ([wCircle_0 c radius kind].length) (rowF TEdge.c [wCircle_0 c radius kind]) 35)]⟩) 28 100000 (K := none) (fun k x h => by cases h) rfl rfl (by kernel_rfl) (by kernel_rfl)) (Cv.refl _)) <| aw_seq <| aw_seq ?_
  refine aw_region eqok [] [] [] [1, 2, 3, 6, 7, 8, 12] [3, 6, 7, 100000] [] ⟨[(1, tI radius), (2, tI kind), (3, tP 3 0), (6, tP 6 0), (7, tP 7 0), (8, tI 1), (12, tB true)], [(3, .cells (TPoint.c c) 29), (6, .cells [.i 0, .val (.slice none 0 0), .i 0] 26), (7, .cells [.i 2, .own 100000 7 ([wCircle_0 c radius kind].length), .i 0] 26), (100000, .row 7 ([wCircle_0 c radius kind].length) (rowF TEdge.c [wCircle_0 c radius kind]) 35)]⟩ .nil (by kernel_rfl) .nil <| ath_n ?_
  refine aw_cond_t (by kernel_rfl) <| aw_skip ?_
  refine ath_n <| aw_seq ?_
  refine aw_block <| aw_seq ?_
  refine aw_region eqok [] [] [] [1, 2, 3, 6, 7, 8, 9] [3, 6, 7, 100000] [] ⟨[(1, tI radius), (2, tI kind), (3, tP 3 0), (6, tP 6 0), (7, tP 7 0), (8, tI 1), (9, tI 1)], [(3, .cells (TPoint.c c) 29), (6, .cells [.i 0, .val (.slice none 0 0), .i 0] 26), (7, .cells [.i 2, .own 100000 7 ([wCircle_0 c radius kind].length), .i 0] 26), (100000, .row 7 ([wCircle_0 c radius kind].length) (rowF TEdge.c [wCircle_0 c radius kind]) 35)]⟩ .nil (by kernel_rfl) .nil <| ath_n ?_
  refine aw_seq <| aw_seq ?_
  refine aw_region eqok [] [] [] [1, 2, 3, 6, 7, 8, 9, 17] [3, 6, 7, 100000] [] ⟨[(1, tI radius), (2, tI kind), (3, tP 3 0), (6, tP 6 0), (7, tP 7 0), (8, tI 1), (9, tI 1), (17, tB (decide ((kind : Int) = 3)))], [(3, .cells (TPoint.c c) 29), (6, .cells [.i 0, .val (.slice none 0 0), .i 0] 26), (7, .cells [.i 2, .own 100000 7 ([wCircle_0 c radius kind].length), .i 0] 26), (100000, .row 7 ([wCircle_0 c radius kind].length) (rowF TEdge.c [wCircle_0 c radius kind]) 35)]⟩ .nil (by kernel_rfl) .nil <| ath_n ?_
  refine aw_joinC (⟨[(1, tI radius), (2, tI kind), (3, tP 3 0), (6, tP 6 0), (7, tP 7 0), (8, tI 1), (9, tI (bif decide ((kind : Int) = 3) then 3 else 1))], [(3, .cells (TPoint.c c) 29), (6, .cells [.i 0, .val (.slice none 0 0), .i 0] 26), (7, .cells [.i 2, .own 100000 7 ([wCircle_0 c radius kind].length), .i 0] 26), (100000, .row 7 ([wCircle_0 c radius kind].length) (rowF TEdge.c [wCircle_0 c radius kind]) 35)]⟩) ?_ ?_
  · refine aw_cond (decide ((kind : Int) = 3)) (by kernel_rfl) (fun h1 => ?_) (fun h1 => ?_)
    · have g1 := of_decide_eq_true h1
      refine aw_region eqok [] [] [] [1, 2, 3, 6, 7, 8, 9] [3, 6, 7, 100000] [] ⟨[(1, tI radius), (2, tI kind), (3, tP 3 0), (6, tP 6 0), (7, tP 7 0), (8, tI 1), (9, tI 3)], [(3, .cells (TPoint.c c) 29), (6, .cells [.i 0, .val (.slice none 0 0), .i 0] 26), (7, .cells [.i 2, .own 100000 7 ([wCircle_0 c radius kind].length), .i 0] 26), (100000, .row 7 ([wCircle_0 c radius kind].length) (rowF TEdge.c [wCircle_0 c radius kind]) 35)]⟩ .nil (by kernel_rfl) .nil <| ath_n ?_
      refine cv_eq ?_
      first | rfl | (simp only [h1, cond_true, cond_false]; done) | (simp only [h1, cond_true, cond_false]; rfl)
    · have g1 := of_decide_eq_false h1
      refine aw_skip <| ath_n ?_
      refine Cv.trans (cv_keep [1, 2, 3, 6, 7, 8, 9] [3, 6, 7, 100000] (⟨[(1, tI radius), (2, tI kind), (3, tP 3 0), (6, tP 6 0), (7, tP 7 0), (8, tI 1), (9, tI 1)], [(3, .cells (TPoint.c c) 29), (6, .cells [.i 0, .val (.slice none 0 0), .i 0] 26), (7, .cells [.i 2, .own 100000 7 ([wCircle_0 c radius kind].length), .i 0] 26), (100000, .row 7 ([wCircle_0 c radius kind].length) (rowF TEdge.c [wCircle_0 c radius kind]) 35)]⟩) (by kernel_rfl)) (cv_eq ?_)
      first | rfl | (simp only [h1, cond_true, cond_false]; done) | (simp only [h1, cond_true, cond_false]; rfl)
  refine aw_draw mixed eqok [] [] [(26, cref06Arc c radius (bif decide ((kind : Int) = 3) then 3 else 1) kind)] [1, 2, 3, 6, 7, 8] [3, 6, 7, 28] [Same (cref06Arc c radius (bif decide ((kind : Int) = 3) then 3 else 1) kind).2.1, [wCircle_0 c radius kind].length = [wCircle_0 c radius kind].length, ([wCircle_0 c radius kind].length) + 1 ≤ maxLen, (([wCircle_0 c radius kind].length) + 1) * 56 ≤ 140737488355328] ⟨[(1, tI radius), (2, tI kind), (3, tP 3 0), (6, tP 6 0), (7, tP 7 0), (8, tI 1)], [(3, .cells (TPoint.c c) 29), (6, .cells [.i 0, .val (.slice none 0 0), .i 0] 26), (7, .cells [.i 2, .own 28 7 (([wCircle_0 c radius kind].length) + 1), .i 0] 26), (28, .row 7 (([wCircle_0 c radius kind].length) + 1) (fun i j => if i < ([wCircle_0 c radius kind].length) then (rowF TEdge.c [wCircle_0 c radius kind]) i j else (colsC 7 1 [.i ((wCircle_1 c radius kind).Kind), .i (((wCircle_1 c radius kind).A).X), .i (((wCircle_1 c radius kind).A).Y), .i (((wCircle_1 c radius kind).B).X), .i (((wCircle_1 c radius kind).B).Y), .i (((wCircle_1 c radius kind).C).X), .i (((wCircle_1 c radius kind).C).Y)]) (i - ([wCircle_0 c radius kind].length)) j) 35)]⟩ (.cons (okref06Arc c radius (bif decide ((kind : Int) = 3) then 3 else 1) kind) .nil) (by kernel_rfl) (by kernel_rfl) (.cons rfl (.cons rfl (.cons au3 (.cons au3 .nil)))) <| abl_n <| ath_n ?_
  refine aw_cv (Cv.trans (cv_ce (⟨[(1, tI radius), (2, tI kind), (3, tP 3 0), (6, tP 6 0), (7, tP 7 0), (8, tI 1)], [(3, .cells (TPoint.c c) 29), (6, .cells [.i 0, .val (.slice none 0 0), .i 0] 26), (7, .cells [.i 2, .own 28 7 (([wCircle_0 c radius kind] ++ [wCircle_1 c radius kind]).length), .i 0] 26), (28, .row 7 (([wCircle_0 c radius kind] ++ [wCircle_1 c radius kind]).length) (rowF TEdge.c ([wCircle_0 c radius kind] ++ [wCircle_1 c radius kind])) 35)]⟩) (.cons ⟨rfl, .refl _⟩ (.cons ⟨rfl, .refl _⟩ (.cons ⟨rfl, .refl _⟩ (.cons ⟨rfl, .refl _⟩ (.cons ⟨rfl, .refl _⟩ (.cons ⟨rfl, .refl _⟩ .nil)))))) (.cons ⟨rfl, .refl _⟩ (.cons ⟨rfl, .refl _⟩ (.cons ⟨rfl, .cells _ (.cons (.refl _) (.cons (.own _ _ au4) (.cons (.refl _) .nil)))⟩ (.cons ⟨rfl, bke_told 35 (told_app (told_rfl 7 TEdge.c [wCircle_0 c radius kind]) (told_lit (c := TEdge.c) (xs := ([wCircle_1 c radius kind] : List TEdge)) rfl (by kernel_rfl)))⟩ .nil))))) (Cv.refl _)) ?_
  refine aw_region eqok [] [] [] [1, 2, 3, 6, 7, 8] [3, 6, 7, 28] [] ⟨[(1, tI radius), (2, tI kind), (3, tP 3 0), (6, tP 6 0), (7, tP 7 0), (8, tI 2)], [(3, .cells (TPoint.c c) 29), (6, .cells [.i 0, .val (.slice none 0 0), .i 0] 26), (7, .cells [.i 2, .own 28 7 (([wCircle_0 c radius kind] ++ [wCircle_1 c radius kind]).length), .i 0] 26), (28, .row 7 (([wCircle_0 c radius kind] ++ [wCircle_1 c radius kind]).length) (rowF TEdge.c ([wCircle_0 c radius kind] ++ [wCircle_1 c radius kind])) 35)]⟩ .nil (by kernel_rfl) .nil <| ath_n ?_
  refine aw_round ?_
  refine aw_cv (Cv.trans (cv_ren (⟨[(1, tI radius), (2, tI kind), (3, tP 3 0), (6, tP 6 0), (7, tP 7 0), (8, tI 2)], [(3, .cells (TPoint.c c) 29), (6, .cells [.i 0, .val (.slice none 0 0), .i 0] 26), (7, .cells [.i 2, .own 100001 7 (([wCircle_0 c radius kind] ++ [wCircle_1 c radius kind]).length), .i 0] 26), (100001, .row 7 (([wCircle_0 c radius kind] ++ [wCircle_1 c radius kind]).length) (rowF TEdge.c ([wCircle_0 c radius kind] ++ [wCircle_1 c radius kind])) 35)]⟩) 28 100001 (K := none) (fun k x h => by cases h) rfl rfl (by kernel_rfl) (by kernel_rfl)) (Cv.refl _)) <| aw_seq <| aw_seq ?_
  refine aw_region eqok [] [] [] [1, 2, 3, 6, 7, 8, 12] [3, 6, 7, 100001] [] ⟨[(1, tI radius), (2, tI kind), (3, tP 3 0), (6, tP 6 0), (7, tP 7 0), (8, tI 2), (12, tB true)], [(3, .cells (TPoint.c c) 29), (6, .cells [.i 0, .val (.slice none 0 0), .i 0] 26), (7, .cells [.i 2, .own 100001 7 (([wCircle_0 c radius kind] ++ [wCircle_1 c radius kind]).length), .i 0] 26), (100001, .row 7 (([wCircle_0 c radius kind] ++ [wCircle_1 c radius kind]).length) (rowF TEdge.c ([wCircle_0 c radius kind] ++ [wCircle_1 c radius kind])) 35)]⟩ .nil (by kernel_rfl) .nil <| ath_n ?_
  refine aw_cond_t (by kernel_rfl) <| aw_skip ?_
  refine ath_n <| aw_seq ?_
  refine aw_block <| aw_seq ?_
  refine aw_region eqok [] [] [] [1, 2, 3, 6, 7, 8, 9] [3, 6, 7, 100001] [] ⟨[(1, tI radius), (2, tI kind), (3, tP 3 0), (6, tP 6 0), (7, tP 7 0), (8, tI 2), (9, tI 2)], [(3, .cells (TPoint.c c) 29), (6, .cells [.i 0, .val (.slice none 0 0), .i 0] 26), (7, .cells [.i 2, .own 100001 7 (([wCircle_0 c radius kind] ++ [wCircle_1 c radius kind]).length), .i 0] 26), (100001, .row 7 (([wCircle_0 c radius kind] ++ [wCircle_1 c radius kind]).length) (rowF TEdge.c ([wCircle_0 c radius kind] ++ [wCircle_1 c radius kind])) 35)]⟩ .nil (by kernel_rfl) .nil <| ath_n ?_
  refine aw_seq <| aw_seq ?_
  refine aw_region eqok [] [] [] [1, 2, 3, 6, 7, 8, 9, 17] [3, 6, 7, 100001] [] ⟨[(1, tI radius), (2, tI kind), (3, tP 3 0), (6, tP 6 0), (7, tP 7 0), (8, tI 2), (9, tI 2), (17, tB (decide ((kind : Int) = 3)))], [(3, .cells (TPoint.c c) 29), (6, .cells [.i 0, .val (.slice none 0 0), .i 0] 26), (7, .cells [.i 2, .own 100001 7 (([wCircle_0 c radius kind] ++ [wCircle_1 c radius kind]).length), .i 0] 26), (100001, .row 7 (([wCircle_0 c radius kind] ++ [wCircle_1 c radius kind]).length) (rowF TEdge.c ([wCircle_0 c radius kind] ++ [wCircle_1 c radius kind])) 35)]⟩ .nil (by kernel_rfl) .nil <| ath_n ?_
  refine aw_joinC (⟨[(1, tI radius), (2, tI kind), (3, tP 3 0), (6, tP 6 0), (7, tP 7 0), (8, tI 2), (9, tI 2)], [(3, .cells (TPoint.c c) 29), (6, .cells [.i 0, .val (.slice none 0 0), .i 0] 26), (7, .cells [.i 2, .own 100001 7 (([wCircle_0 c radius kind] ++ [wCircle_1 c radius kind]).length), .i 0] 26), (100001, .row 7 (([wCircle_0 c radius kind] ++ [wCircle_1 c radius kind]).length) (rowF TEdge.c ([wCircle_0 c radius kind] ++ [wCircle_1 c radius kind])) 35)]⟩) ?_ ?_
  · refine aw_cond (decide ((kind : Int) = 3)) (by kernel_rfl) (fun h1 => ?_) (fun h1 => ?_)
    · have g1 := of_decide_eq_true h1
      refine aw_region eqok [] [] [] [1, 2, 3, 6, 7, 8, 9] [3, 6, 7, 100001] [] ⟨[(1, tI radius), (2, tI kind), (3, tP 3 0), (6, tP 6 0), (7, tP 7 0), (8, tI 2), (9, tI 2)], [(3, .cells (TPoint.c c) 29), (6, .cells [.i 0, .val (.slice none 0 0), .i 0] 26), (7, .cells [.i 2, .own 100001 7 (([wCircle_0 c radius kind] ++ [wCircle_1 c radius kind]).length), .i 0] 26), (100001, .row 7 (([wCircle_0 c radius kind] ++ [wCircle_1 c radius kind]).length) (rowF TEdge.c ([wCircle_0 c radius kind] ++ [wCircle_1 c radius kind])) 35)]⟩ .nil (by kernel_rfl) .nil <| ath_n ?_
      refine cv_eq ?_
      first | rfl | (simp only [h1, cond_true, cond_false]; done) | (simp only [h1, cond_true, cond_false]; rfl)
    · have g1 := of_decide_eq_false h1
      refine aw_skip <| ath_n ?_
      refine Cv.trans (cv_keep [1, 2, 3, 6, 7, 8, 9] [3, 6, 7, 100001] (⟨[(1, tI radius), (2, tI kind), (3, tP 3 0), (6, tP 6 0), (7, tP 7 0), (8, tI 2), (9, tI 2)], [(3, .cells (TPoint.c c) 29), (6, .cells [.i 0, .val (.slice none 0 0), .i 0] 26), (7, .cells [.i 2, .own 100001 7 (([wCircle_0 c radius kind] ++ [wCircle_1 c radius kind]).length), .i 0] 26), (100001, .row 7 (([wCircle_0 c radius kind] ++ [wCircle_1 c radius kind]).length) (rowF TEdge.c ([wCircle_0 c radius kind] ++ [wCircle_1 c radius kind])) 35)]⟩) (by kernel_rfl)) (cv_eq ?_)
      first | rfl | (simp only [h1, cond_true, cond_false]; done) | (simp only [h1, cond_true, cond_false]; rfl)
  refine aw_draw mixed eqok [] [] [(26, cref06Arc c radius 2 kind)] [1, 2, 3, 6, 7, 8] [3, 6, 7, 28] [Same (cref06Arc c radius 2 kind).2.1, ([wCircle_0 c radius kind] ++ [wCircle_1 c radius kind]).length = ([wCircle_0 c radius kind] ++ [wCircle_1 c radius kind]).length, (([wCircle_0 c radius kind] ++ [wCircle_1 c radius kind]).length) + 1 ≤ maxLen, ((([wCircle_0 c radius kind] ++ [wCircle_1 c radius kind]).length) + 1) * 56 ≤ 140737488355328] ⟨[(1, tI radius), (2, tI kind), (3, tP 3 0), (6, tP 6 0), (7, tP 7 0), (8, tI 2)], [(3, .cells (TPoint.c c) 29), (6, .cells [.i 0, .val (.slice none 0 0), .i 0] 26), (7, .cells [.i 2, .own 28 7 ((([wCircle_0 c radius kind] ++ [wCircle_1 c radius kind]).length) + 1), .i 0] 26), (28, .row 7 ((([wCircle_0 c radius kind] ++ [wCircle_1 c radius kind]).length) + 1) (fun i j => if i < (([wCircle_0 c radius kind] ++ [wCircle_1 c radius kind]).length) then (rowF TEdge.c ([wCircle_0 c radius kind] ++ [wCircle_1 c radius kind])) i j else (colsC 7 1 [.i ((Fref06Arc c radius 2 kind).Kind), .i (((Fref06Arc c radius 2 kind).A).X), .i (((Fref06Arc c radius 2 kind).A).Y), .i (((Fref06Arc c radius 2 kind).B).X), .i (((Fref06Arc c radius 2 kind).B).Y), .i (((Fref06Arc c radius 2 kind).C).X), .i (((Fref06Arc c radius 2 kind).C).Y)]) (i - (([wCircle_0 c radius kind] ++ [wCircle_1 c radius kind]).length)) j) 35)]⟩ (.cons (okref06Arc c radius 2 kind) .nil) (by kernel_rfl) (by kernel_rfl) (.cons rfl (.cons rfl (.cons au3 (.cons au3 .nil)))) <| abl_n <| ath_n ?_
  refine aw_cv (Cv.trans (cv_ce (⟨[(1, tI radius), (2, tI kind), (3, tP 3 0), (6, tP 6 0), (7, tP 7 0), (8, tI 2)], [(3, .cells (TPoint.c c) 29), (6, .cells [.i 0, .val (.slice none 0 0), .i 0] 26), (7, .cells [.i 2, .own 28 7 ((([wCircle_0 c radius kind] ++ [wCircle_1 c radius kind]) ++ [Fref06Arc c radius 2 kind]).length), .i 0] 26), (28, .row 7 ((([wCircle_0 c radius kind] ++ [wCircle_1 c radius kind]) ++ [Fref06Arc c radius 2 kind]).length) (rowF TEdge.c (([wCircle_0 c radius kind] ++ [wCircle_1 c radius kind]) ++ [Fref06Arc c radius 2 kind])) 35)]⟩) (.cons ⟨rfl, .refl _⟩ (.cons ⟨rfl, .refl _⟩ (.cons ⟨rfl, .refl _⟩ (.cons ⟨rfl, .refl _⟩ (.cons ⟨rfl, .refl _⟩ (.cons ⟨rfl, .refl _⟩ .nil)))))) (.cons ⟨rfl, .refl _⟩ (.cons ⟨rfl, .refl _⟩ (.cons ⟨rfl, .cells _ (.cons (.refl _) (.cons (.own _ _ au4) (.cons (.refl _) .nil)))⟩ (.cons ⟨rfl, bke_told 35 (told_app (told_rfl 7 TEdge.c ([wCircle_0 c radius kind] ++ [wCircle_1 c radius kind])) (told_lit (c := TEdge.c) (xs := ([Fref06Arc c radius 2 kind] : List TEdge)) rfl (by kernel_rfl)))⟩ .nil))))) (Cv.refl _)) ?_
  refine aw_region eqok [] [] [] [1, 2, 3, 6, 7, 8] [3, 6, 7, 28] [] ⟨[(1, tI radius), (2, tI kind), (3, tP 3 0), (6, tP 6 0), (7, tP 7 0), (8, tI 3)], [(3, .cells (TPoint.c c) 29), (6, .cells [.i 0, .val (.slice none 0 0), .i 0] 26), (7, .cells [.i 2, .own 28 7 ((([wCircle_0 c radius kind] ++ [wCircle_1 c radius kind]) ++ [Fref06Arc c radius 2 kind]).length), .i 0] 26), (28, .row 7 ((([wCircle_0 c radius kind] ++ [wCircle_1 c radius kind]) ++ [Fref06Arc c radius 2 kind]).length) (rowF TEdge.c (([wCircle_0 c radius kind] ++ [wCircle_1 c radius kind]) ++ [Fref06Arc c radius 2 kind])) 35)]⟩ .nil (by kernel_rfl) .nil <| ath_n ?_
  refine aw_round ?_
  refine aw_cv (Cv.trans (cv_ren (⟨[(1, tI radius), (2, tI kind), (3, tP 3 0), (6, tP 6 0), (7, tP 7 0), (8, tI 3)], [(3, .cells (TPoint.c c) 29), (6, .cells [.i 0, .val (.slice none 0 0), .i 0] 26), (7, .cells [.i 2, .own 100002 7 ((([wCircle_0 c radius kind] ++ [wCircle_1 c radius kind]) ++ [Fref06Arc c radius 2 kind]).length), .i 0] 26), (100002, .row 7 ((([wCircle_0 c radius kind] ++ [wCircle_1 c radius kind]) ++ [Fref06Arc c radius 2 kind]).length) (rowF TEdge.c (([wCircle_0 c radius kind] ++ [wCircle_1 c radius kind]) ++ [Fref06Arc c radius 2 kind])) 35)]⟩) 28 100002 (K := none) (fun k x h => by cases h) rfl rfl (by kernel_rfl) (by kernel_rfl)) (Cv.refl _)) <| aw_seq <| aw_seq ?_
  refine aw_region eqok [] [] [] [1, 2, 3, 6, 7, 8, 12] [3, 6, 7, 100002] [] ⟨[(1, tI radius), (2, tI kind), (3, tP 3 0), (6, tP 6 0), (7, tP 7 0), (8, tI 3), (12, tB true)], [(3, .cells (TPoint.c c) 29), (6, .cells [.i 0, .val (.slice none 0 0), .i 0] 26), (7, .cells [.i 2, .own 100002 7 ((([wCircle_0 c radius kind] ++ [wCircle_1 c radius kind]) ++ [Fref06Arc c radius 2 kind]).length), .i 0] 26), (100002, .row 7 ((([wCircle_0 c radius kind] ++ [wCircle_1 c radius kind]) ++ [Fref06Arc c radius 2 kind]).length) (rowF TEdge.c (([wCircle_0 c radius kind] ++ [wCircle_1 c radius kind]) ++ [Fref06Arc c radius 2 kind])) 35)]⟩ .nil (by kernel_rfl) .nil <| ath_n ?_
  refine aw_cond_t (by kernel_rfl) <| aw_skip ?_
  refine ath_n <| aw_seq ?_
  refine aw_block <| aw_seq ?_
  refine aw_region eqok [] [] [] [1, 2, 3, 6, 7, 8, 9] [3, 6, 7, 100002] [] ⟨[(1, tI radius), (2, tI kind), (3, tP 3 0), (6, tP 6 0), (7, tP 7 0), (8, tI 3), (9, tI 3)], [(3, .cells (TPoint.c c) 29), (6, .cells [.i 0, .val (.slice none 0 0), .i 0] 26), (7, .cells [.i 2, .own 100002 7 ((([wCircle_0 c radius kind] ++ [wCircle_1 c radius kind]) ++ [Fref06Arc c radius 2 kind]).length), .i 0] 26), (100002, .row 7 ((([wCircle_0 c radius kind] ++ [wCircle_1 c radius kind]) ++ [Fref06Arc c radius 2 kind]).length) (rowF TEdge.c (([wCircle_0 c radius kind] ++ [wCircle_1 c radius kind]) ++ [Fref06Arc c radius 2 kind])) 35)]⟩ .nil (by kernel_rfl) .nil <| ath_n ?_
  refine aw_seq <| aw_seq ?_
  refine aw_region eqok [] [] [] [1, 2, 3, 6, 7, 8, 9, 17] [3, 6, 7, 100002] [] ⟨[(1, tI radius), (2, tI kind), (3, tP 3 0), (6, tP 6 0), (7, tP 7 0), (8, tI 3), (9, tI 3), (17, tB (decide ((kind : Int) = 3)))], [(3, .cells (TPoint.c c) 29), (6, .cells [.i 0, .val (.slice none 0 0), .i 0] 26), (7, .cells [.i 2, .own 100002 7 ((([wCircle_0 c radius kind] ++ [wCircle_1 c radius kind]) ++ [Fref06Arc c radius 2 kind]).length), .i 0] 26), (100002, .row 7 ((([wCircle_0 c radius kind] ++ [wCircle_1 c radius kind]) ++ [Fref06Arc c radius 2 kind]).length) (rowF TEdge.c (([wCircle_0 c radius kind] ++ [wCircle_1 c radius kind]) ++ [Fref06Arc c radius 2 kind])) 35)]⟩ .nil (by kernel_rfl) .nil <| ath_n ?_
  refine aw_joinC (⟨[(1, tI radius), (2, tI kind), (3, tP 3 0), (6, tP 6 0), (7, tP 7 0), (8, tI 3), (9, tI (bif decide ((kind : Int) = 3) then 1 else 3))], [(3, .cells (TPoint.c c) 29), (6, .cells [.i 0, .val (.slice none 0 0), .i 0] 26), (7, .cells [.i 2, .own 100002 7 ((([wCircle_0 c radius kind] ++ [wCircle_1 c radius kind]) ++ [Fref06Arc c radius 2 kind]).length), .i 0] 26), (100002, .row 7 ((([wCircle_0 c radius kind] ++ [wCircle_1 c radius kind]) ++ [Fref06Arc c radius 2 kind]).length) (rowF TEdge.c (([wCircle_0 c radius kind] ++ [wCircle_1 c radius kind]) ++ [Fref06Arc c radius 2 kind])) 35)]⟩) ?_ ?_
  · refine aw_cond (decide ((kind : Int) = 3)) (by kernel_rfl) (fun h1 => ?_) (fun h1 => ?_)
    · have g1 := of_decide_eq_true h1
      refine aw_region eqok [] [] [] [1, 2, 3, 6, 7, 8, 9] [3, 6, 7, 100002] [] ⟨[(1, tI radius), (2, tI kind), (3, tP 3 0), (6, tP 6 0), (7, tP 7 0), (8, tI 3), (9, tI 1)], [(3, .cells (TPoint.c c) 29), (6, .cells [.i 0, .val (.slice none 0 0), .i 0] 26), (7, .cells [.i 2, .own 100002 7 ((([wCircle_0 c radius kind] ++ [wCircle_1 c radius kind]) ++ [Fref06Arc c radius 2 kind]).length), .i 0] 26), (100002, .row 7 ((([wCircle_0 c radius kind] ++ [wCircle_1 c radius kind]) ++ [Fref06Arc c radius 2 kind]).length) (rowF TEdge.c (([wCircle_0 c radius kind] ++ [wCircle_1 c radius kind]) ++ [Fref06Arc c radius 2 kind])) 35)]⟩ .nil (by kernel_rfl) .nil <| ath_n ?_
      refine cv_eq ?_
      first | rfl | (simp only [h1, cond_true, cond_false]; done) | (simp only [h1, cond_true, cond_false]; rfl)
    · have g1 := of_decide_eq_false h1
      refine aw_skip <| ath_n ?_
      refine Cv.trans (cv_keep [1, 2, 3, 6, 7, 8, 9] [3, 6, 7, 100002] (⟨[(1, tI radius), (2, tI kind), (3, tP 3 0), (6, tP 6 0), (7, tP 7 0), (8, tI 3), (9, tI 3)], [(3, .cells (TPoint.c c) 29), (6, .cells [.i 0, .val (.slice none 0 0), .i 0] 26), (7, .cells [.i 2, .own 100002 7 ((([wCircle_0 c radius kind] ++ [wCircle_1 c radius kind]) ++ [Fref06Arc c radius 2 kind]).length), .i 0] 26), (100002, .row 7 ((([wCircle_0 c radius kind] ++ [wCircle_1 c radius kind]) ++ [Fref06Arc c radius 2 kind]).length) (rowF TEdge.c (([wCircle_0 c radius kind] ++ [wCircle_1 c radius kind]) ++ [Fref06Arc c radius 2 kind])) 35)]⟩) (by kernel_rfl)) (cv_eq ?_)
      first | rfl | (simp only [h1, cond_true, cond_false]; done) | (simp only [h1, cond_true, cond_false]; rfl)
  refine aw_draw mixed eqok [] [] [(26, cref06Arc c radius (bif decide ((kind : Int) = 3) then 1 else 3) kind)] [1, 2, 3, 6, 7, 8] [3, 6, 7, 28] [Same (cref06Arc c radius (bif decide ((kind : Int) = 3) then 1 else 3) kind).2.1, (([wCircle_0 c radius kind] ++ [wCircle_1 c radius kind]) ++ [Fref06Arc c radius 2 kind]).length = (([wCircle_0 c radius kind] ++ [wCircle_1 c radius kind]) ++ [Fref06Arc c radius 2 kind]).length, ((([wCircle_0 c radius kind] ++ [wCircle_1 c radius kind]) ++ [Fref06Arc c radius 2 kind]).length) + 1 ≤ maxLen, (((([wCircle_0 c radius kind] ++ [wCircle_1 c radius kind]) ++ [Fref06Arc c radius 2 kind]).length) + 1) * 56 ≤ 140737488355328] ⟨[(1, tI radius), (2, tI kind), (3, tP 3 0), (6, tP 6 0), (7, tP 7 0), (8, tI 3)], [(3, .cells (TPoint.c c) 29), (6, .cells [.i 0, .val (.slice none 0 0), .i 0] 26), (7, .cells [.i 2, .own 28 7 (((([wCircle_0 c radius kind] ++ [wCircle_1 c radius kind]) ++ [Fref06Arc c radius 2 kind]).length) + 1), .i 0] 26), (28, .row 7 (((([wCircle_0 c radius kind] ++ [wCircle_1 c radius kind]) ++ [Fref06Arc c radius 2 kind]).length) + 1) (fun i j => if i < ((([wCircle_0 c radius kind] ++ [wCircle_1 c radius kind]) ++ [Fref06Arc c radius 2 kind]).length) then (rowF TEdge.c (([wCircle_0 c radius kind] ++ [wCircle_1 c radius kind]) ++ [Fref06Arc c radius 2 kind])) i j else (colsC 7 1 [.i ((wCircle_2 c radius kind).Kind), .i (((wCircle_2 c radius kind).A).X), .i (((wCircle_2 c radius kind).A).Y), .i (((wCircle_2 c radius kind).B).X), .i (((wCircle_2 c radius kind).B).Y), .i (((wCircle_2 c radius kind).C).X), .i (((wCircle_2 c radius kind).C).Y)]) (i - ((([wCircle_0 c radius kind] ++ [wCircle_1 c radius kind]) ++ [Fref06Arc c radius 2 kind]).length)) j) 35)]⟩ (.cons (okref06Arc c radius (bif decide ((kind : Int) = 3) then 1 else 3) kind) .nil) (by kernel_rfl) (by kernel_rfl) (.cons rfl (.cons rfl (.cons au3 (.cons au3 .nil)))) <| abl_n <| ath_n ?_
  refine aw_cv (Cv.trans (cv_ce (⟨[(1, tI radius), (2, tI kind), (3, tP 3 0), (6, tP 6 0), (7, tP 7 0), (8, tI 3)], [(3, .cells (TPoint.c c) 29), (6, .cells [.i 0, .val (.slice none 0 0), .i 0] 26), (7, .cells [.i 2, .own 28 7 (((([wCircle_0 c radius kind] ++ [wCircle_1 c radius kind]) ++ [Fref06Arc c radius 2 kind]) ++ [wCircle_2 c radius kind]).length), .i 0] 26), (28, .row 7 (((([wCircle_0 c radius kind] ++ [wCircle_1 c radius kind]) ++ [Fref06Arc c radius 2 kind]) ++ [wCircle_2 c radius kind]).length) (rowF TEdge.c ((([wCircle_0 c radius kind] ++ [wCircle_1 c radius kind]) ++ [Fref06Arc c radius 2 kind]) ++ [wCircle_2 c radius kind])) 35)]⟩) (.cons ⟨rfl, .refl _⟩ (.cons ⟨rfl, .refl _⟩ (.cons ⟨rfl, .refl _⟩ (.cons ⟨rfl, .refl _⟩ (.cons ⟨rfl, .refl _⟩ (.cons ⟨rfl, .refl _⟩ .nil)))))) (.cons ⟨rfl, .refl _⟩ (.cons ⟨rfl, .refl _⟩ (.cons ⟨rfl, .cells _ (.cons (.refl _) (.cons (.own _ _ au4) (.cons (.refl _) .nil)))⟩ (.cons ⟨rfl, bke_told 35 (told_app (told_rfl 7 TEdge.c (([wCircle_0 c radius kind] ++ [wCircle_1 c radius kind]) ++ [Fref06Arc c radius 2 kind])) (told_lit (c := TEdge.c) (xs := ([wCircle_2 c radius kind] : List TEdge)) rfl (by kernel_rfl)))⟩ .nil))))) (Cv.refl _)) ?_
  refine aw_region eqok [] [] [] [1, 2, 3, 6, 7, 8] [3, 6, 7, 28] [] ⟨[(1, tI radius), (2, tI kind), (3, tP 3 0), (6, tP 6 0), (7, tP 7 0), (8, tI 4)], [(3, .cells (TPoint.c c) 29), (6, .cells [.i 0, .val (.slice none 0 0), .i 0] 26), (7, .cells [.i 2, .own 28 7 (((([wCircle_0 c radius kind] ++ [wCircle_1 c radius kind]) ++ [Fref06Arc c radius 2 kind]) ++ [wCircle_2 c radius kind]).length), .i 0] 26), (28, .row 7 (((([wCircle_0 c radius kind] ++ [wCircle_1 c radius kind]) ++ [Fref06Arc c radius 2 kind]) ++ [wCircle_2 c radius kind]).length) (rowF TEdge.c ((([wCircle_0 c radius kind] ++ [wCircle_1 c radius kind]) ++ [Fref06Arc c radius 2 kind]) ++ [wCircle_2 c radius kind])) 35)]⟩ .nil (by kernel_rfl) .nil <| ath_n ?_
  refine aw_round ?_
  refine aw_cv (Cv.trans (cv_ren (⟨[(1, tI radius), (2, tI kind), (3, tP 3 0), (6, tP 6 0), (7, tP 7 0), (8, tI 4)], [(3, .cells (TPoint.c c) 29), (6, .cells [.i 0, .val (.slice none 0 0), .i 0] 26), (7, .cells [.i 2, .own 100003 7 (((([wCircle_0 c radius kind] ++ [wCircle_1 c radius kind]) ++ [Fref06Arc c radius 2 kind]) ++ [wCircle_2 c radius kind]).length), .i 0] 26), (100003, .row 7 (((([wCircle_0 c radius kind] ++ [wCircle_1 c radius kind]) ++ [Fref06Arc c radius 2 kind]) ++ [wCircle_2 c radius kind]).length) (rowF TEdge.c ((([wCircle_0 c radius kind] ++ [wCircle_1 c radius kind]) ++ [Fref06Arc c radius 2 kind]) ++ [wCircle_2 c radius kind])) 35)]⟩) 28 100003 (K := none) (fun k x h => by cases h) rfl rfl (by kernel_rfl) (by kernel_rfl)) (Cv.refl _)) <| aw_seq <| aw_seq ?_
  refine aw_region eqok [] [] [] [1, 2, 3, 6, 7, 8, 12] [3, 6, 7, 100003] [] ⟨[(1, tI radius), (2, tI kind), (3, tP 3 0), (6, tP 6 0), (7, tP 7 0), (8, tI 4), (12, tB false)], [(3, .cells (TPoint.c c) 29), (6, .cells [.i 0, .val (.slice none 0 0), .i 0] 26), (7, .cells [.i 2, .own 100003 7 (((([wCircle_0 c radius kind] ++ [wCircle_1 c radius kind]) ++ [Fref06Arc c radius 2 kind]) ++ [wCircle_2 c radius kind]).length), .i 0] 26), (100003, .row 7 (((([wCircle_0 c radius kind] ++ [wCircle_1 c radius kind]) ++ [Fref06Arc c radius 2 kind]) ++ [wCircle_2 c radius kind]).length) (rowF TEdge.c ((([wCircle_0 c radius kind] ++ [wCircle_1 c radius kind]) ++ [Fref06Arc c radius 2 kind]) ++ [wCircle_2 c radius kind])) 35)]⟩ .nil (by kernel_rfl) .nil <| ath_n ?_
  refine aw_cond_f (by kernel_rfl) <| aw_exit ?_
  refine ath_e <| ath_e ?_
  refine abl_hit <| ath_n <| aw_seq ?_
  refine aw_region eqok [] [] [] [6] [6, 100003] [] ⟨[(6, tP 6 0)], [(6, .cells [.i 2, .own 100003 7 (((([wCircle_0 c radius kind] ++ [wCircle_1 c radius kind]) ++ [Fref06Arc c radius 2 kind]) ++ [wCircle_2 c radius kind]).length), .i 0] 26), (100003, .row 7 (((([wCircle_0 c radius kind] ++ [wCircle_1 c radius kind]) ++ [Fref06Arc c radius 2 kind]) ++ [wCircle_2 c radius kind]).length) (rowF TEdge.c ((([wCircle_0 c radius kind] ++ [wCircle_1 c radius kind]) ++ [Fref06Arc c radius 2 kind]) ++ [wCircle_2 c radius kind])) 35)]⟩ .nil (by kernel_rfl) .nil <| ath_n <| aw_ret ?_
  exact ⟨_, Cv.trans (cv_fz (⟨[(6, tP 6 0)], [(6, .cells [.i 2, lst 7 TEdge.c ((([wCircle_0 c radius kind] ++ [wCircle_1 c radius kind]) ++ [Fref06Arc c radius 2 kind]) ++ [wCircle_2 c radius kind]), .i 0] 26)]⟩) 100003 7 (((([wCircle_0 c radius kind] ++ [wCircle_1 c radius kind]) ++ [Fref06Arc c radius 2 kind]) ++ [wCircle_2 c radius kind]).length) (rowF TEdge.c ((([wCircle_0 c radius kind] ++ [wCircle_1 c radius kind]) ++ [Fref06Arc c radius 2 kind]) ++ [wCircle_2 c radius kind])) 35 (K := none) (fun k x h => by cases h) (by kernel_rfl) (by kernel_rfl) (.cons ⟨rfl, rfl⟩ .nil) (by kernel_rfl)) (Cv.refl _), .inl rfl, .av (.agg [.i 2, lst 7 TEdge.c ((([wCircle_0 c radius kind] ++ [wCircle_1 c radius kind]) ++ [Fref06Arc c radius 2 kind]) ++ [wCircle_2 c radius kind]), .i 0]), by kernel_rfl, tve_eq (by rfl)⟩
theorem okCircle (c : TPoint) (radius : Int) (kind : Int) : CallOk Try.prog (cCircle c radius kind).1 (cCircle c radius kind).2.1 (cCircle c radius kind).2.2 := callOk_pure (fun _ _ => by kernel_rfl) fun _ => pCircle c radius kind
def wRounded_0 (r : TRect) (radius : Int) : TEdge := Fref06Arc (TPoint.mk (W64 (r.X1 - radius)) (W64 (r.Y0 + radius))) radius 3 2
def wRounded_1 (r : TRect) (radius : Int) : TEdge := Fref06Arc (TPoint.mk (W64 (r.X1 - radius)) (W64 (r.Y1 - radius))) radius 4 2
def wRounded_2 (r : TRect) (radius : Int) : TEdge := Fref09line ((wRounded_0 r radius).B) ((wRounded_1 r radius).A)
def wRounded_3 (r : TRect) (radius : Int) : TEdge := Fref06Arc (TPoint.mk (W64 (r.X0 + radius)) (W64 (r.Y1 - radius))) radius 5 2
def wRounded_4 (r : TRect) (radius : Int) : TEdge := Fref09line ((wRounded_1 r radius).B) ((wRounded_3 r radius).A)
def wRounded_5 (r : TRect) (radius : Int) : TEdge := Fref06Arc (TPoint.mk (W64 (r.X0 + radius)) (W64 (r.Y0 + radius))) radius 6 2
def wRounded_6 (r : TRect) (radius : Int) : TEdge := Fref09line ((wRounded_3 r radius).B) ((wRounded_5 r radius).A)
def wRounded_7 (r : TRect) (radius : Int) : TEdge := Fref06Arc (TPoint.mk (W64 (r.X1 - radius)) (W64 (r.Y0 + radius))) radius 7 2
def wRounded_8 (r : TRect) (radius : Int) : TEdge := Fref09line ((wRounded_5 r radius).B) ((wRounded_7 r radius).A)
def FRounded (r : TRect) (radius : Int) : TShape := TShape.mk 2 ((([wRounded_0 r radius, wRounded_2 r radius] ++ [wRounded_1 r radius, wRounded_4 r radius]) ++ [wRounded_3 r radius, wRounded_6 r radius]) ++ [wRounded_5 r radius, wRounded_8 r radius]) 0
def cRounded (r : TRect) (radius : Int) : FuncId × List Av × Ef := (43, [.agg (TRect.c r), .one (.i radius)], .val [] (.av (.agg (TShape.c (FRounded r radius)))))
theorem pRounded (r : TRect) (radius : Int) : Pure Try.prog 43 (cRounded r radius).2.1 (.av (.agg (TShape.c (FRounded r radius)))) := by
  refine pure_of_awF Try.func43 rfl (by kernel_rfl) (by kernel_rfl) fun W0 M0 => ?_
  refine aw_seq ?_
  refine aw_region eqok [] [] [] [1, 2, 4] [2, 4] [] ⟨[(1, tI radius), (2, tP 2 0), (4, tP 4 0)], [(2, .cells (TRect.c r) 54), (4, .cells [.i 0, .val (.slice none 0 0), .i 0] 26)]⟩ .nil (by kernel_rfl) .nil <| ath_n <| aw_seq ?_
  refine aw_region eqok [] [] [] [1, 2, 4, 5] [2, 4, 5] [] ⟨[(1, tI radius), (2, tP 2 0), (4, tP 4 0), (5, tP 5 0)], [(2, .cells (TRect.c r) 54), (4, .cells [.i 0, .val (.slice none 0 0), .i 0] 26), (5, .cells [.i 2, .val (.slice none 0 0), .i 0] 26)]⟩ .nil (by kernel_rfl) .nil <| ath_n <| aw_seq ?_
  refine aw_region eqok [] [] [] [1, 4, 5, 6] [4, 5, 6] [] ⟨[(1, tI radius), (4, tP 4 0), (5, tP 5 0), (6, tP 6 0)], [(4, .cells [.i 0, .val (.slice none 0 0), .i 0] 26), (5, .cells [.i 2, .val (.slice none 0 0), .i 0] 26), (6, .cells [.i (W64 (r.X1 - radius)), .i (W64 (r.Y0 + radius)), .i (W64 (r.X1 - radius)), .i (W64 (r.Y1 - radius)), .i (W64 (r.X0 + radius)), .i (W64 (r.Y1 - radius)), .i (W64 (r.X0 + radius)), .i (W64 (r.Y0 + radius))] 97)]⟩ .nil (by kernel_rfl) .nil <| ath_n ?_
  refine aw_seq <| aw_seq ?_
  refine aw_region eqok [] [] [] [1, 4, 5, 6, 7] [4, 5, 6] [] ⟨[(1, tI radius), (4, tP 4 0), (5, tP 5 0), (6, tP 6 0), (7, tI 0)], [(4, .cells [.i 0, .val (.slice none 0 0), .i 0] 26), (5, .cells [.i 2, .val (.slice none 0 0), .i 0] 26), (6, .cells [.i (W64 (r.X1 - radius)), .i (W64 (r.Y0 + radius)), .i (W64 (r.X1 - radius)), .i (W64 (r.Y1 - radius)), .i (W64 (r.X0 + radius)), .i (W64 (r.Y1 - radius)), .i (W64 (r.X0 + radius)), .i (W64 (r.Y0 + radius))] 97)]⟩ .nil (by kernel_rfl) .nil <| ath_n <| aw_block ?_
  refine aw_unroll 5 ?_
  refine aw_round <| aw_seq <| aw_seq ?_
  refine aw_region eqok [] [] [] [1, 4, 5, 6, 7, 49] [4, 5, 6] [] ⟨[(1, tI radius), (4, tP 4 0), (5, tP 5 0), (6, tP 6 0), (7, tI 0), (49, tB true)], [(4, .cells [.i 0, .val (.slice none 0 0), .i 0] 26), (5, .cells [.i 2, .val (.slice none 0 0), .i 0] 26), (6, .cells [.i (W64 (r.X1 - radius)), .i (W64 (r.Y0 + radius)), .i (W64 (r.X1 - radius)), .i (W64 (r.Y1 - radius)), .i (W64 (r.X0 + radius)), .i (W64 (r.Y1 - radius)), .i (W64 (r.X0 + radius)), .i (W64 (r.Y0 + radius))] 97)]⟩ .nil (by kernel_rfl) .nil <| ath_n ?_
  refine aw_cond_t (by kernel_rfl) <| aw_skip ?_
  refine ath_n <| aw_seq ?_
  refine aw_block <| aw_seq ?_
  refine aw_region eqok [] [] [(58, cref06Arc (TPoint.mk (W64 (r.X1 - radius)) (W64 (r.Y0 + radius))) radius 3 2)] [1, 4, 5, 6, 7, 8] [4, 5, 6, 8] [0 ≤ (0 : Int) ∧ (0 : Int) < (4 : Int), Same (cref06Arc (TPoint.mk (W64 (r.X1 - radius)) (W64 (r.Y0 + radius))) radius 3 2).2.1] ⟨[(1, tI radius), (4, tP 4 0), (5, tP 5 0), (6, tP 6 0), (7, tI 0), (8, tP 8 0)], [(4, .cells [.i 0, .val (.slice none 0 0), .i 0] 26), (5, .cells [.i 2, .val (.slice none 0 0), .i 0] 26), (6, .cells [.i (W64 (r.X1 - radius)), .i (W64 (r.Y0 + radius)), .i (W64 (r.X1 - radius)), .i (W64 (r.Y1 - radius)), .i (W64 (r.X0 + radius)), .i (W64 (r.Y1 - radius)), .i (W64 (r.X0 + radius)), .i (W64 (r.Y0 + radius))] 97), (8, .cells (TEdge.c (wRounded_0 r radius)) 35)]⟩ (.cons (okref06Arc (TPoint.mk (W64 (r.X1 - radius)) (W64 (r.Y0 + radius))) radius 3 2) .nil) (by kernel_rfl) (.cons (by decide) (.cons rfl .nil)) <| ath_n <| aw_seq ?_
  refine aw_region eqok [] [] [(67, cref06Arc (TPoint.mk (W64 (r.X1 - radius)) (W64 (r.Y1 - radius))) radius 4 2)] [1, 4, 5, 6, 7, 8, 9] [4, 5, 6, 8, 9] [(4 : Int) ≠ 0, 0 ≤ (1 : Int) ∧ (1 : Int) < (4 : Int), Same (cref06Arc (TPoint.mk (W64 (r.X1 - radius)) (W64 (r.Y1 - radius))) radius 4 2).2.1] ⟨[(1, tI radius), (4, tP 4 0), (5, tP 5 0), (6, tP 6 0), (7, tI 0), (8, tP 8 0), (9, tP 9 0)], [(4, .cells [.i 0, .val (.slice none 0 0), .i 0] 26), (5, .cells [.i 2, .val (.slice none 0 0), .i 0] 26), (6, .cells [.i (W64 (r.X1 - radius)), .i (W64 (r.Y0 + radius)), .i (W64 (r.X1 - radius)), .i (W64 (r.Y1 - radius)), .i (W64 (r.X0 + radius)), .i (W64 (r.Y1 - radius)), .i (W64 (r.X0 + radius)), .i (W64 (r.Y0 + radius))] 97), (8, .cells (TEdge.c (wRounded_0 r radius)) 35), (9, .cells (TEdge.c (wRounded_1 r radius)) 35)]⟩ (.cons (okref06Arc (TPoint.mk (W64 (r.X1 - radius)) (W64 (r.Y1 - radius))) radius 4 2) .nil) (by kernel_rfl) (.cons au6 (.cons (by decide) (.cons rfl .nil))) <| ath_n ?_
  refine aw_draw mixed eqok [] [] [(75, cref09line ((wRounded_0 r radius).B) ((wRounded_1 r radius).A))] [1, 4, 5, 6, 7] [4, 5, 6, 77] [Same (cref09line ((wRounded_0 r radius).B) ((wRounded_1 r radius).A)).2.1, 2 ≤ maxLen, 2 * 56 ≤ 140737488355328] ⟨[(1, tI radius), (4, tP 4 0), (5, tP 5 0), (6, tP 6 0), (7, tI 0)], [(4, .cells [.i 0, .val (.slice none 0 0), .i 0] 26), (5, .cells [.i 2, .own 77 7 2, .i 0] 26), (6, .cells [.i (W64 (r.X1 - radius)), .i (W64 (r.Y0 + radius)), .i (W64 (r.X1 - radius)), .i (W64 (r.Y1 - radius)), .i (W64 (r.X0 + radius)), .i (W64 (r.Y1 - radius)), .i (W64 (r.X0 + radius)), .i (W64 (r.Y0 + radius))] 97), (77, .row 7 2 (colsC 7 2 [.i ((wRounded_0 r radius).Kind), .i (((wRounded_0 r radius).A).X), .i (((wRounded_0 r radius).A).Y), .i (((wRounded_0 r radius).B).X), .i (((wRounded_0 r radius).B).Y), .i (((wRounded_0 r radius).C).X), .i (((wRounded_0 r radius).C).Y), .i ((wRounded_2 r radius).Kind), .i (((wRounded_2 r radius).A).X), .i (((wRounded_2 r radius).A).Y), .i (((wRounded_2 r radius).B).X), .i (((wRounded_2 r radius).B).Y), .i (((wRounded_2 r radius).C).X), .i (((wRounded_2 r radius).C).Y)]) 35)]⟩ (.cons (okref09line ((wRounded_0 r radius).B) ((wRounded_1 r radius).A)) .nil) (by kernel_rfl) (by kernel_rfl) (.cons rfl (.cons au3 (.cons au3 .nil))) <| abl_n <| ath_n ?_
  refine aw_cv (Cv.trans (cv_ce (⟨[(1, tI radius), (4, tP 4 0), (5, tP 5 0), (6, tP 6 0), (7, tI 0)], [(4, .cells [.i 0, .val (.slice none 0 0), .i 0] 26), (5, .cells [.i 2, .own 77 7 ([wRounded_0 r radius, wRounded_2 r radius].length), .i 0] 26), (6, .cells [.i (W64 (r.X1 - radius)), .i (W64 (r.Y0 + radius)), .i (W64 (r.X1 - radius)), .i (W64 (r.Y1 - radius)), .i (W64 (r.X0 + radius)), .i (W64 (r.Y1 - radius)), .i (W64 (r.X0 + radius)), .i (W64 (r.Y0 + radius))] 97), (77, .row 7 ([wRounded_0 r radius, wRounded_2 r radius].length) (rowF TEdge.c [wRounded_0 r radius, wRounded_2 r radius]) 35)]⟩) (.cons ⟨rfl, .refl _⟩ (.cons ⟨rfl, .refl _⟩ (.cons ⟨rfl, .refl _⟩ (.cons ⟨rfl, .refl _⟩ (.cons ⟨rfl, .refl _⟩ .nil))))) (.cons ⟨rfl, .refl _⟩ (.cons ⟨rfl, .cells _ (.cons (.refl _) (.cons (.own _ _ au4) (.cons (.refl _) .nil)))⟩ (.cons ⟨rfl, .refl _⟩ (.cons ⟨rfl, bke_told 35 (told_lit (c := TEdge.c) (xs := ([wRounded_0 r radius, wRounded_2 r radius] : List TEdge)) rfl (by kernel_rfl))⟩ .nil))))) (Cv.refl _)) ?_
  refine aw_region eqok [] [] [] [1, 4, 5, 6, 7] [4, 5, 6, 77] [] ⟨[(1, tI radius), (4, tP 4 0), (5, tP 5 0), (6, tP 6 0), (7, tI 1)], [(4, .cells [.i 0, .val (.slice none 0 0), .i 0] 26), (5, .cells [.i 2, .own 77 7 ([wRounded_0 r radius, wRounded_2 r radius].length), .i 0] 26), (6, .cells [.i (W64 (r.X1 - radius)), .i (W64 (r.Y0 + radius)), .i (W64 (r.X1 - radius)), .i (W64 (r.Y1 - radius)), .i (W64 (r.X0 + radius)), .i (W64 (r.Y1 - radius)), .i (W64 (r.X0 + radius)), .i (W64 (r.Y0 + radius))] 97), (77, .row 7 ([wRounded_0 r radius, wRounded_2 r radius].length) (rowF TEdge.c [wRounded_0 r radius, wRounded_2 r radius]) 35)]⟩ .nil (by kernel_rfl) .nil <| ath_n ?_
  refine aw_round ?_
  refine aw_cv (Cv.trans (cv_ren (⟨[(1, tI radius), (4, tP 4 0), (5, tP 5 0), (6, tP 6 0), (7, tI 1)], [(4, .cells [.i 0, .val (.slice none 0 0), .i 0] 26), (5, .cells [.i 2, .own 100000 7 ([wRounded_0 r radius, wRounded_2 r radius].length), .i 0] 26), (6, .cells [.i (W64 (r.X1 - radius)), .i (W64 (r.Y0 + radius)), .i (W64 (r.X1 - radius)), .i (W64 (r.Y1 - radius)), .i (W64 (r.X0 + radius)), .i (W64 (r.Y1 - radius)), .i (W64 (r.X0 + radius)), .i (W64 (r.Y0 + radius))] 97), (100000, .row 7 ([wRounded_0 r radius, wRounded_2 r radius].length) (rowF TEdge.c [wRounded_0 r radius, wRounded_2 r radius]) 35)]⟩) 77 100000 (K := none) (fun k x h => by cases h) rfl rfl (by kernel_rfl) (by kernel_rfl)) (Cv.refl _)) <| aw_seq <| aw_seq ?_
  refine aw_region eqok [] [] [] [1, 4, 5, 6, 7, 49] [4, 5, 6, 100000] [] ⟨[(1, tI radius), (4, tP 4 0), (5, tP 5 0), (6, tP 6 0), (7, tI 1), (49, tB true)], [(4, .cells [.i 0, .val (.slice none 0 0), .i 0] 26), (5, .cells [.i 2, .own 100000 7 ([wRounded_0 r radius, wRounded_2 r radius].length), .i 0] 26), (6, .cells [.i (W64 (r.X1 - radius)), .i (W64 (r.Y0 + radius)), .i (W64 (r.X1 - radius)), .i (W64 (r.Y1 - radius)), .i (W64 (r.X0 + radius)), .i (W64 (r.Y1 - radius)), .i (W64 (r.X0 + radius)), .i (W64 (r.Y0 + radius))] 97), (100000, .row 7 ([wRounded_0 r radius, wRounded_2 r radius].length) (rowF TEdge.c [wRounded_0 r radius, wRounded_2 r radius]) 35)]⟩ .nil (by kernel_rfl) .nil <| ath_n ?_
  refine aw_cond_t (by kernel_rfl) <| aw_skip ?_
  refine ath_n <| aw_seq ?_
  refine aw_block <| aw_seq ?_
  refine aw_region eqok [] [] [(58, cref06Arc (TPoint.mk (W64 (r.X1 - radius)) (W64 (r.Y1 - radius))) radius 4 2)] [1, 4, 5, 6, 7, 8] [4, 5, 6, 8, 100000] [0 ≤ (1 : Int) ∧ (1 : Int) < (4 : Int), Same (cref06Arc (TPoint.mk (W64 (r.X1 - radius)) (W64 (r.Y1 - radius))) radius 4 2).2.1] ⟨[(1, tI radius), (4, tP 4 0), (5, tP 5 0), (6, tP 6 0), (7, tI 1), (8, tP 8 0)], [(4, .cells [.i 0, .val (.slice none 0 0), .i 0] 26), (5, .cells [.i 2, .own 100000 7 ([wRounded_0 r radius, wRounded_2 r radius].length), .i 0] 26), (6, .cells [.i (W64 (r.X1 - radius)), .i (W64 (r.Y0 + radius)), .i (W64 (r.X1 - radius)), .i (W64 (r.Y1 - radius)), .i (W64 (r.X0 + radius)), .i (W64 (r.Y1 - radius)), .i (W64 (r.X0 + radius)), .i (W64 (r.Y0 + radius))] 97), (8, .cells (TEdge.c (wRounded_1 r radius)) 35), (100000, .row 7 ([wRounded_0 r radius, wRounded_2 r radius].length) (rowF TEdge.c [wRounded_0 r radius, wRounded_2 r radius]) 35)]⟩ (.cons (okref06Arc (TPoint.mk (W64 (r.X1 - radius)) (W64 (r.Y1 - radius))) radius 4 2) .nil) (by kernel_rfl) (.cons (by decide) (.cons rfl .nil)) <| ath_n <| aw_seq ?_
  refine aw_region eqok [] [] [(67, cref06Arc (TPoint.mk (W64 (r.X0 + radius)) (W64 (r.Y1 - radius))) radius 5 2)] [1, 4, 5, 6, 7, 8, 9] [4, 5, 6, 8, 9, 100000] [(4 : Int) ≠ 0, 0 ≤ (2 : Int) ∧ (2 : Int) < (4 : Int), Same (cref06Arc (TPoint.mk (W64 (r.X0 + radius)) (W64 (r.Y1 - radius))) radius 5 2).2.1] ⟨[(1, tI radius), (4, tP 4 0), (5, tP 5 0), (6, tP 6 0), (7, tI 1), (8, tP 8 0), (9, tP 9 0)], [(4, .cells [.i 0, .val (.slice none 0 0), .i 0] 26), (5, .cells [.i 2, .own 100000 7 ([wRounded_0 r radius, wRounded_2 r radius].length), .i 0] 26), (6, .cells [.i (W64 (r.X1 - radius)), .i (W64 (r.Y0 + radius)), .i (W64 (r.X1 - radius)), .i (W64 (r.Y1 - radius)), .i (W64 (r.X0 + radius)), .i (W64 (r.Y1 - radius)), .i (W64 (r.X0 + radius)), .i (W64 (r.Y0 + radius))] 97), (8, .cells (TEdge.c (wRounded_1 r radius)) 35), (9, .cells (TEdge.c (wRounded_3 r radius)) 35), (100000, .row 7 ([wRounded_0 r radius, wRounded_2 r radius].length) (rowF TEdge.c [wRounded_0 r radius, wRounded_2 r radius]) 35)]⟩ (.cons (okref06Arc (TPoint.mk (W64 (r.X0 + radius)) (W64 (r.Y1 - radius))) radius 5 2) .nil) (by kernel_rfl) (.cons au6 (.cons (by decide) (.cons rfl .nil))) <| ath_n ?_
  refine aw_draw mixed eqok [] [] [(75, cref09line ((wRounded_1 r radius).B) ((wRounded_3 r radius).A))] [1, 4, 5, 6, 7] [4, 5, 6, 77] [Same (cref09line ((wRounded_1 r radius).B) ((wRounded_3 r radius).A)).2.1, [wRounded_0 r radius, wRounded_2 r radius].length = [wRounded_0 r radius, wRounded_2 r radius].length, ([wRounded_0 r radius, wRounded_2 r radius].length) + 2 ≤ maxLen, (([wRounded_0 r radius, wRounded_2 r radius].length) + 2) * 56 ≤ 140737488355328] ⟨[(1, tI radius), (4, tP 4 0), (5, tP 5 0), (6, tP 6 0), (7, tI 1)], [(4, .cells [.i 0, .val (.slice none 0 0), .i 0] 26), (5, .cells [.i 2, .own 77 7 (([wRounded_0 r radius, wRounded_2 r radius].length) + 2), .i 0] 26), (6, .cells [.i (W64 (r.X1 - radius)), .i (W64 (r.Y0 + radius)), .i (W64 (r.X1 - radius)), .i (W64 (r.Y1 - radius)), .i (W64 (r.X0 + radius)), .i (W64 (r.Y1 - radius)), .i (W64 (r.X0 + radius)), .i (W64 (r.Y0 + radius))] 97), (77, .row 7 (([wRounded_0 r radius, wRounded_2 r radius].length) + 2) (fun i j => if i < ([wRounded_0 r radius, wRounded_2 r radius].length) then (rowF TEdge.c [wRounded_0 r radius, wRounded_2 r radius]) i j else (colsC 7 2 [.i ((wRounded_1 r radius).Kind), .i (((wRounded_1 r radius).A).X), .i (((wRounded_1 r radius).A).Y), .i (((wRounded_1 r radius).B).X), .i (((wRounded_1 r radius).B).Y), .i (((wRounded_1 r radius).C).X), .i (((wRounded_1 r radius).C).Y), .i ((wRounded_4 r radius).Kind), .i (((wRounded_4 r radius).A).X), .i (((wRounded_4 r radius).A).Y), .i (((wRounded_4 r radius).B).X), .i (((wRounded_4 r radius).B).Y), .i (((wRounded_4 r radius).C).X), .i (((wRounded_4 r radius).C).Y)]) (i - ([wRounded_0 r radius, wRounded_2 r radius].length)) j) 35)]⟩ (.cons (okref09line ((wRounded_1 r radius).B) ((wRounded_3 r radius).A)) .nil) (by kernel_rfl) (by kernel_rfl) (.cons rfl (.cons rfl (.cons au3 (.cons au3 .nil)))) <| abl_n <| ath_n ?_
  refine aw_cv (Cv.trans (cv_ce (⟨[(1, tI radius), (4, tP 4 0), (5, tP 5 0), (6, tP 6 0), (7, tI 1)], [(4, .cells [.i 0, .val (.slice none 0 0), .i 0] 26), (5, .cells [.i 2, .own 77 7 (([wRounded_0 r radius, wRounded_2 r radius] ++ [wRounded_1 r radius, wRounded_4 r radius]).length), .i 0] 26), (6, .cells [.i (W64 (r.X1 - radius)), .i (W64 (r.Y0 + radius)), .i (W64 (r.X1 - radius)), .i (W64 (r.Y1 - radius)), .i (W64 (r.X0 + radius)), .i (W64 (r.Y1 - radius)), .i (W64 (r.X0 + radius)), .i (W64 (r.Y0 + radius))] 97), (77, .row 7 (([wRounded_0 r radius, wRounded_2 r radius] ++ [wRounded_1 r radius, wRounded_4 r radius]).length) (rowF TEdge.c ([wRounded_0 r radius, wRounded_2 r radius] ++ [wRounded_1 r radius, wRounded_4 r radius])) 35)]⟩) (.cons ⟨rfl, .refl _⟩ (.cons ⟨rfl, .refl _⟩ (.cons ⟨rfl, .refl _⟩ (.cons ⟨rfl, .refl _⟩ (.cons ⟨rfl, .refl _⟩ .nil))))) (.cons ⟨rfl, .refl _⟩ (.cons ⟨rfl, .cells _ (.cons (.refl _) (.cons (.own _ _ au4) (.cons (.refl _) .nil)))⟩ (.cons ⟨rfl, .refl _⟩ (.cons ⟨rfl, bke_told 35 (told_app (told_rfl 7 TEdge.c [wRounded_0 r radius, wRounded_2 r radius]) (told_lit (c := TEdge.c) (xs := ([wRounded_1 r radius, wRounded_4 r radius] : List TEdge)) rfl (by kernel_rfl)))⟩ .nil))))) (Cv.refl _)) ?_
  refine aw_region eqok [] [] [] [1, 4, 5, 6, 7] [4, 5, 6, 77] [] ⟨[(1, tI radius), (4, tP 4 0), (5, tP 5 0), (6, tP 6 0), (7, tI 2)], [(4, .cells [.i 0, .val (.slice none 0 0), .i 0] 26), (5, .cells [.i 2, .own 77 7 (([wRounded_0 r radius, wRounded_2 r radius] ++ [wRounded_1 r radius, wRounded_4 r radius]).length), .i 0] 26), (6, .cells [.i (W64 (r.X1 - radius)), .i (W64 (r.Y0 + radius)), .i (W64 (r.X1 - radius)), .i (W64 (r.Y1 - radius)), .i (W64 (r.X0 + radius)), .i (W64 (r.Y1 - radius)), .i (W64 (r.X0 + radius)), .i (W64 (r.Y0 + radius))] 97), (77, .row 7 (([wRounded_0 r radius, wRounded_2 r radius] ++ [wRounded_1 r radius, wRounded_4 r radius]).length) (rowF TEdge.c ([wRounded_0 r radius, wRounded_2 r radius] ++ [wRounded_1 r radius, wRounded_4 r radius])) 35)]⟩ .nil (by kernel_rfl) .nil <| ath_n ?_
  refine aw_round ?_
  refine aw_cv (Cv.trans (cv_ren (⟨[(1, tI radius), (4, tP 4 0), (5, tP 5 0), (6, tP 6 0), (7, tI 2)], [(4, .cells [.i 0, .val (.slice none 0 0), .i 0] 26), (5, .cells [.i 2, .own 100001 7 (([wRounded_0 r radius, wRounded_2 r radius] ++ [wRounded_1 r radius, wRounded_4 r radius]).length), .i 0] 26), (6, .cells [.i (W64 (r.X1 - radius)), .i (W64 (r.Y0 + radius)), .i (W64 (r.X1 - radius)), .i (W64 (r.Y1 - radius)), .i (W64 (r.X0 + radius)), .i (W64 (r.Y1 - radius)), .i (W64 (r.X0 + radius)), .i (W64 (r.Y0 + radius))] 97), (100001, .row 7 (([wRounded_0 r radius, wRounded_2 r radius] ++ [wRounded_1 r radius, wRounded_4 r radius]).length) (rowF TEdge.c ([wRounded_0 r radius, wRounded_2 r radius] ++ [wRounded_1 r radius, wRounded_4 r radius])) 35)]⟩) 77 100001 (K := none) (fun k x h => by cases h) rfl rfl (by kernel_rfl) (by kernel_rfl)) (Cv.refl _)) <| aw_seq <| aw_seq ?_
  refine aw_region eqok [] [] [] [1, 4, 5, 6, 7, 49] [4, 5, 6, 100001] [] ⟨[(1, tI radius), (4, tP 4 0), (5, tP 5 0), (6, tP 6 0), (7, tI 2), (49, tB true)], [(4, .cells [.i 0, .val (.slice none 0 0), .i 0] 26), (5, .cells [.i 2, .own 100001 7 (([wRounded_0 r radius, wRounded_2 r radius] ++ [wRounded_1 r radius, wRounded_4 r radius]).length), .i 0] 26), (6, .cells [.i (W64 (r.X1 - radius)), .i (W64 (r.Y0 + radius)), .i (W64 (r.X1 - radius)), .i (W64 (r.Y1 - radius)), .i (W64 (r.X0 + radius)), .i (W64 (r.Y1 - radius)), .i (W64 (r.X0 + radius)), .i (W64 (r.Y0 + radius))] 97), (100001, .row 7 (([wRounded_0 r radius, wRounded_2 r radius] ++ [wRounded_1 r radius, wRounded_4 r radius]).length) (rowF TEdge.c ([wRounded_0 r radius, wRounded_2 r radius] ++ [wRounded_1 r radius, wRounded_4 r radius])) 35)]⟩ .nil (by kernel_rfl) .nil <| ath_n ?_
  refine aw_cond_t (by kernel_rfl) <| aw_skip ?_
  refine ath_n <| aw_seq ?_
  refine aw_block <| aw_seq ?_
  refine aw_region eqok [] [] [(58, cref06Arc (TPoint.mk (W64 (r.X0 + radius)) (W64 (r.Y1 - radius))) radius 5 2)] [1, 4, 5, 6, 7, 8] [4, 5, 6, 8, 100001] [0 ≤ (2 : Int) ∧ (2 : Int) < (4 : Int), Same (cref06Arc (TPoint.mk (W64 (r.X0 + radius)) (W64 (r.Y1 - radius))) radius 5 2).2.1] ⟨[(1, tI radius), (4, tP 4 0), (5, tP 5 0), (6, tP 6 0), (7, tI 2), (8, tP 8 0)], [(4, .cells [.i 0, .val (.slice none 0 0), .i 0] 26), (5, .cells [.i 2, .own 100001 7 (([wRounded_0 r radius, wRounded_2 r radius] ++ [wRounded_1 r radius, wRounded_4 r radius]).length), .i 0] 26), (6, .cells [.i (W64 (r.X1 - radius)), .i (W64 (r.Y0 + radius)), .i (W64 (r.X1 - radius)), .i (W64 (r.Y1 - radius)), .i (W64 (r.X0 + radius)), .i (W64 (r.Y1 - radius)), .i (W64 (r.X0 + radius)), .i (W64 (r.Y0 + radius))] 97), (8, .cells (TEdge.c (wRounded_3 r radius)) 35), (100001, .row 7 (([wRounded_0 r radius, wRounded_2 r radius] ++ [wRounded_1 r radius, wRounded_4 r radius]).length) (rowF TEdge.c ([wRounded_0 r radius, wRounded_2 r radius] ++ [wRounded_1 r radius, wRounded_4 r radius])) 35)]⟩ (.cons (okref06Arc (TPoint.mk (W64 (r.X0 + radius)) (W64 (r.Y1 - radius))) radius 5 2) .nil) (by kernel_rfl) (.cons (by decide) (.cons rfl .nil)) <| ath_n <| aw_seq ?_
  refine aw_region eqok [] [] [(67, cref06Arc (TPoint.mk (W64 (r.X0 + radius)) (W64 (r.Y0 + radius))) radius 6 2)] [1, 4, 5, 6, 7, 8, 9] [4, 5, 6, 8, 9, 100001] [(4 : Int) ≠ 0, 0 ≤ (3 : Int) ∧ (3 : Int) < (4 : Int), Same (cref06Arc (TPoint.mk (W64 (r.X0 + radius)) (W64 (r.Y0 + radius))) radius 6 2).2.1] ⟨[(1, tI radius), (4, tP 4 0), (5, tP 5 0), (6, tP 6 0), (7, tI 2), (8, tP 8 0), (9, tP 9 0)], [(4, .cells [.i 0, .val (.slice none 0 0), .i 0] 26), (5, .cells [.i 2, .own 100001 7 (([wRounded_0 r radius, wRounded_2 r radius] ++ [wRounded_1 r radius, wRounded_4 r radius]).length), .i 0] 26), (6, .cells [.i (W64 (r.X1 - radius)), .i (W64 (r.Y0 + radius)), .i (W64 (r.X1 - radius)), .i (W64 (r.Y1 - radius)), .i (W64 (r.X0 + radius)), .i (W64 (r.Y1 - radius)), .i (W64 (r.X0 + radius)), .i (W64 (r.Y0 + radius))] 97), (8, .cells (TEdge.c (wRounded_3 r radius)) 35), (9, .cells (TEdge.c (wRounded_5 r radius)) 35), (100001, .row 7 (([wRounded_0 r radius, wRounded_2 r radius] ++ [wRounded_1 r radius, wRounded_4 r radius]).length) (rowF TEdge.c ([wRounded_0 r radius, wRounded_2 r radius] ++ [wRounded_1 r radius, wRounded_4 r radius])) 35)]⟩ (.cons (okref06Arc (TPoint.mk (W64 (r.X0 + radius)) (W64 (r.Y0 + radius))) radius 6 2) .nil) (by kernel_rfl) (.cons au6 (.cons (by decide) (.cons rfl .nil))) <| ath_n ?_
  refine aw_draw mixed eqok [] [] [(75, cref09line ((wRounded_3 r radius).B) ((wRounded_5 r radius).A))] [1, 4, 5, 6, 7] [4, 5, 6, 77] [Same (cref09line ((wRounded_3 r radius).B) ((wRounded_5 r radius).A)).2.1, ([wRounded_0 r radius, wRounded_2 r radius] ++ [wRounded_1 r radius, wRounded_4 r radius]).length = ([wRounded_0 r radius, wRounded_2 r radius] ++ [wRounded_1 r radius, wRounded_4 r radius]).length, (([wRounded_0 r radius, wRounded_2 r radius] ++ [wRounded_1 r radius, wRounded_4 r radius]).length) + 2 ≤ maxLen, ((([wRounded_0 r radius, wRounded_2 r radius] ++ [wRounded_1 r radius, wRounded_4 r radius]).length) + 2) * 56 ≤ 140737488355328] ⟨[(1, tI radius), (4, tP 4 0), (5, tP 5 0), (6, tP 6 0), (7, tI 2)], [(4, .cells [.i 0, .val (.slice none 0 0), .i 0] 26), (5, .cells [.i 2, .own 77 7 ((([wRounded_0 r radius, wRounded_2 r radius] ++ [wRounded_1 r radius, wRounded_4 r radius]).length) + 2), .i 0] 26), (6, .cells [.i (W64 (r.X1 - radius)), .i (W64 (r.Y0 + radius)), .i (W64 (r.X1 - radius)), .i (W64 (r.Y1 - radius)), .i (W64 (r.X0 + radius)), .i (W64 (r.Y1 - radius)), .i (W64 (r.X0 + radius)), .i (W64 (r.Y0 + radius))] 97), (77, .row 7 ((([wRounded_0 r radius, wRounded_2 r radius] ++ [wRounded_1 r radius, wRounded_4 r radius]).length) + 2) (fun i j => if i < (([wRounded_0 r radius, wRounded_2 r radius] ++ [wRounded_1 r radius, wRounded_4 r radius]).length) then (rowF TEdge.c ([wRounded_0 r radius, wRounded_2 r radius] ++ [wRounded_1 r radius, wRounded_4 r radius])) i j else (colsC 7 2 [.i ((wRounded_3 r radius).Kind), .i (((wRounded_3 r radius).A).X), .i (((wRounded_3 r radius).A).Y), .i (((wRounded_3 r radius).B).X), .i (((wRounded_3 r radius).B).Y), .i (((wRounded_3 r radius).C).X), .i (((wRounded_3 r radius).C).Y), .i ((wRounded_6 r radius).Kind), .i (((wRounded_6 r radius).A).X), .i (((wRounded_6 r radius).A).Y), .i (((wRounded_6 r radius).B).X), .i (((wRounded_6 r radius).B).Y), .i (((wRounded_6 r radius).C).X), .i (((wRounded_6 r radius).C).Y)]) (i - (([wRounded_0 r radius, wRounded_2 r radius] ++ [wRounded_1 r radius, wRounded_4 r radius]).length)) j) 35)]⟩ (.cons (okref09line ((wRounded_3 r radius).B) ((wRounded_5 r radius).A)) .nil) (by kernel_rfl) (by kernel_rfl) (.cons rfl (.cons rfl (.cons au3 (.cons au3 .nil)))) <| abl_n <| ath_n ?_
  refine aw_cv (Cv.trans (cv_ce (⟨[(1, tI radius), (4, tP 4 0), (5, tP 5 0), (6, tP 6 0), (7, tI 2)], [(4, .cells [.i 0, .val (.slice none 0 0), .i 0] 26), (5, .cells [.i 2, .own 77 7 ((([wRounded_0 r radius, wRounded_2 r radius] ++ [wRounded_1 r radius, wRounded_4 r radius]) ++ [wRounded_3 r radius, wRounded_6 r radius]).length), .i 0] 26), (6, .cells [.i (W64 (r.X1 - radius)), .i (W64 (r.Y0 + radius)), .i (W64 (r.X1 - radius)), .i (W64 (r.Y1 - radius)), .i (W64 (r.X0 + radius)), .i (W64 (r.Y1 - radius)), .i (W64 (r.X0 + radius)), .i (W64 (r.Y0 + radius))] 97), (77, .row 7 ((([wRounded_0 r radius, wRounded_2 r radius] ++ [wRounded_1 r radius, wRounded_4 r radius]) ++ [wRounded_3 r radius, wRounded_6 r radius]).length) (rowF TEdge.c (([wRounded_0 r radius, wRounded_2 r radius] ++ [wRounded_1 r radius, wRounded_4 r radius]) ++ [wRounded_3 r radius, wRounded_6 r radius])) 35)]⟩) (.cons ⟨rfl, .refl _⟩ (.cons ⟨rfl, .refl _⟩ (.cons ⟨rfl, .refl _⟩ (.cons ⟨rfl, .refl _⟩ (.cons ⟨rfl, .refl _⟩ .nil))))) (.cons ⟨rfl, .refl _⟩ (.cons ⟨rfl, .cells _ (.cons (.refl _) (.cons (.own _ _ au4) (.cons (.refl _) .nil)))⟩ (.cons ⟨rfl, .refl _⟩ (.cons ⟨rfl, bke_told 35 (told_app (told_rfl 7 TEdge.c ([wRounded_0 r radius, wRounded_2 r radius] ++ [wRounded_1 r radius, wRounded_4 r radius])) (told_lit (c := TEdge.c) (xs := ([wRounded_3 r radius, wRounded_6 r radius] : List TEdge)) rfl (by kernel_rfl)))⟩ .nil))))) (Cv.refl _)) ?_
  refine aw_region eqok [] [] [] [1, 4, 5, 6, 7] [4, 5, 6, 77] [] ⟨[(1, tI radius), (4, tP 4 0), (5, tP 5 0), (6, tP 6 0), (7, tI 3)], [(4, .cells [.i 0, .val (.slice none 0 0), .i 0] 26), (5, .cells [.i 2, .own 77 7 ((([wRounded_0 r radius, wRounded_2 r radius] ++ [wRounded_1 r radius, wRounded_4 r radius]) ++ [wRounded_3 r radius, wRounded_6 r radius]).length), .i 0] 26), (6, .cells [.i (W64 (r.X1 - radius)), .i (W64 (r.Y0 + radius)), .i (W64 (r.X1 - radius)), .i (W64 (r.Y1 - radius)), .i (W64 (r.X0 + radius)), .i (W64 (r.Y1 - radius)), .i (W64 (r.X0 + radius)), .i (W64 (r.Y0 + radius))] 97), (77, .row 7 ((([wRounded_0 r radius, wRounded_2 r radius] ++ [wRounded_1 r radius, wRounded_4 r radius]) ++ [wRounded_3 r radius, wRounded_6 r radius]).length) (rowF TEdge.c (([wRounded_0 r radius, wRounded_2 r radius] ++ [wRounded_1 r radius, wRounded_4 r radius]) ++ [wRounded_3 r radius, wRounded_6 r radius])) 35)]⟩ .nil (by kernel_rfl) .nil <| ath_n ?_
  refine aw_round ?_
  refine aw_cv (Cv.trans (cv_ren (⟨[(1, tI radius), (4, tP 4 0), (5, tP 5 0), (6, tP 6 0), (7, tI 3)], [(4, .cells [.i 0, .val (.slice none 0 0), .i 0] 26), (5, .cells [.i 2, .own 100002 7 ((([wRounded_0 r radius, wRounded_2 r radius] ++ [wRounded_1 r radius, wRounded_4 r radius]) ++ [wRounded_3 r radius, wRounded_6 r radius]).length), .i 0] 26), (6, .cells [.i (W64 (r.X1 - radius)), .i (W64 (r.Y0 + radius)), .i (W64 (r.X1 - radius)), .i (W64 (r.Y1 - radius)), .i (W64 (r.X0 + radius)), .i (W64 (r.Y1 - radius)), .i (W64 (r.X0 + radius)), .i (W64 (r.Y0 + radius))] 97), (100002, .row 7 ((([wRounded_0 r radius, wRounded_2 r radius] ++ [wRounded_1 r radius, wRounded_4 r radius]) ++ [wRounded_3 r radius, wRounded_6 r radius]).length) (rowF TEdge.c (([wRounded_0 r radius, wRounded_2 r radius] ++ [wRounded_1 r radius, wRounded_4 r radius]) ++ [wRounded_3 r radius, wRounded_6 r radius])) 35)]⟩) 77 100002 (K := none) (fun k x h => by cases h) rfl rfl (by kernel_rfl) (by kernel_rfl)) (Cv.refl _)) <| aw_seq <| aw_seq ?_
  refine aw_region eqok [] [] [] [1, 4, 5, 6, 7, 49] [4, 5, 6, 100002] [] ⟨[(1, tI radius), (4, tP 4 0), (5, tP 5 0), (6, tP 6 0), (7, tI 3), (49, tB true)], [(4, .cells [.i 0, .val (.slice none 0 0), .i 0] 26), (5, .cells [.i 2, .own 100002 7 ((([wRounded_0 r radius, wRounded_2 r radius] ++ [wRounded_1 r radius, wRounded_4 r radius]) ++ [wRounded_3 r radius, wRounded_6 r radius]).length), .i 0] 26), (6, .cells [.i (W64 (r.X1 - radius)), .i (W64 (r.Y0 + radius)), .i (W64 (r.X1 - radius)), .i (W64 (r.Y1 - radius)), .i (W64 (r.X0 + radius)), .i (W64 (r.Y1 - radius)), .i (W64 (r.X0 + radius)), .i (W64 (r.Y0 + radius))] 97), (100002, .row 7 ((([wRounded_0 r radius, wRounded_2 r radius] ++ [wRounded_1 r radius, wRounded_4 r radius]) ++ [wRounded_3 r radius, wRounded_6 r radius]).length) (rowF TEdge.c (([wRounded_0 r radius, wRounded_2 r radius] ++ [wRounded_1 r radius, wRounded_4 r radius]) ++ [wRounded_3 r radius, wRounded_6 r radius])) 35)]⟩ .nil (by kernel_rfl) .nil <| ath_n ?_
  refine aw_cond_t (by kernel_rfl) <| aw_skip ?_
  refine ath_n <| aw_seq ?_
  refine aw_block <| aw_seq ?_
  refine aw_region eqok [] [] [(58, cref06Arc (TPoint.mk (W64 (r.X0 + radius)) (W64 (r.Y0 + radius))) radius 6 2)] [1, 4, 5, 6, 7, 8] [4, 5, 6, 8, 100002] [0 ≤ (3 : Int) ∧ (3 : Int) < (4 : Int), Same (cref06Arc (TPoint.mk (W64 (r.X0 + radius)) (W64 (r.Y0 + radius))) radius 6 2).2.1] ⟨[(1, tI radius), (4, tP 4 0), (5, tP 5 0), (6, tP 6 0), (7, tI 3), (8, tP 8 0)], [(4, .cells [.i 0, .val (.slice none 0 0), .i 0] 26), (5, .cells [.i 2, .own 100002 7 ((([wRounded_0 r radius, wRounded_2 r radius] ++ [wRounded_1 r radius, wRounded_4 r radius]) ++ [wRounded_3 r radius, wRounded_6 r radius]).length), .i 0] 26), (6, .cells [.i (W64 (r.X1 - radius)), .i (W64 (r.Y0 + radius)), .i (W64 (r.X1 - radius)), .i (W64 (r.Y1 - radius)), .i (W64 (r.X0 + radius)), .i (W64 (r.Y1 - radius)), .i (W64 (r.X0 + radius)), .i (W64 (r.Y0 + radius))] 97), (8, .cells (TEdge.c (wRounded_5 r radius)) 35), (100002, .row 7 ((([wRounded_0 r radius, wRounded_2 r radius] ++ [wRounded_1 r radius, wRounded_4 r radius]) ++ [wRounded_3 r radius, wRounded_6 r radius]).length) (rowF TEdge.c (([wRounded_0 r radius, wRounded_2 r radius] ++ [wRounded_1 r radius, wRounded_4 r radius]) ++ [wRounded_3 r radius, wRounded_6 r radius])) 35)]⟩ (.cons (okref06Arc (TPoint.mk (W64 (r.X0 + radius)) (W64 (r.Y0 + radius))) radius 6 2) .nil) (by kernel_rfl) (.cons (by decide) (.cons rfl .nil)) <| ath_n <| aw_seq ?_
  refine aw_region eqok [] [] [(67, cref06Arc (TPoint.mk (W64 (r.X1 - radius)) (W64 (r.Y0 + radius))) radius 7 2)] [1, 4, 5, 6, 7, 8, 9] [4, 5, 6, 8, 9, 100002] [(4 : Int) ≠ 0, 0 ≤ (0 : Int) ∧ (0 : Int) < (4 : Int), Same (cref06Arc (TPoint.mk (W64 (r.X1 - radius)) (W64 (r.Y0 + radius))) radius 7 2).2.1] ⟨[(1, tI radius), (4, tP 4 0), (5, tP 5 0), (6, tP 6 0), (7, tI 3), (8, tP 8 0), (9, tP 9 0)], [(4, .cells [.i 0, .val (.slice none 0 0), .i 0] 26), (5, .cells [.i 2, .own 100002 7 ((([wRounded_0 r radius, wRounded_2 r radius] ++ [wRounded_1 r radius, wRounded_4 r radius]) ++ [wRounded_3 r radius, wRounded_6 r radius]).length), .i 0] 26), (6, .cells [.i (W64 (r.X1 - radius)), .i (W64 (r.Y0 + radius)), .i (W64 (r.X1 - radius)), .i (W64 (r.Y1 - radius)), .i (W64 (r.X0 + radius)), .i (W64 (r.Y1 - radius)), .i (W64 (r.X0 + radius)), .i (W64 (r.Y0 + radius))] 97), (8, .cells (TEdge.c (wRounded_5 r radius)) 35), (9, .cells (TEdge.c (wRounded_7 r radius)) 35), (100002, .row 7 ((([wRounded_0 r radius, wRounded_2 r radius] ++ [wRounded_1 r radius, wRounded_4 r radius]) ++ [wRounded_3 r radius, wRounded_6 r radius]).length) (rowF TEdge.c (([wRounded_0 r radius, wRounded_2 r radius] ++ [wRounded_1 r radius, wRounded_4 r radius]) ++ [wRounded_3 r radius, wRounded_6 r radius])) 35)]⟩ (.cons (okref06Arc (TPoint.mk (W64 (r.X1 - radius)) (W64 (r.Y0 + radius))) radius 7 2) .nil) (by kernel_rfl) (.cons au6 (.cons (by decide) (.cons rfl .nil))) <| ath_n ?_
  refine aw_draw mixed eqok [] [] [(75, cref09line ((wRounded_5 r radius).B) ((wRounded_7 r radius).A))] [1, 4, 5, 6, 7] [4, 5, 6, 77] [Same (cref09line ((wRounded_5 r radius).B) ((wRounded_7 r radius).A)).2.1, (([wRounded_0 r radius, wRounded_2 r radius] ++ [wRounded_1 r radius, wRounded_4 r radius]) ++ [wRounded_3 r radius, wRounded_6 r radius]).length = (([wRounded_0 r radius, wRounded_2 r radius] ++ [wRounded_1 r radius, wRounded_4 r radius]) ++ [wRounded_3 r radius, wRounded_6 r radius]).length, ((([wRounded_0 r radius, wRounded_2 r radius] ++ [wRounded_1 r radius, wRounded_4 r radius]) ++ [wRounded_3 r radius, wRounded_6 r radius]).length) + 2 ≤ maxLen, (((([wRounded_0 r radius, wRounded_2 r radius] ++ [wRounded_1 r radius, wRounded_4 r radius]) ++ [wRounded_3 r radius, wRounded_6 r radius]).length) + 2) * 56 ≤ 140737488355328] ⟨[(1, tI radius), (4, tP 4 0), (5, tP 5 0), (6, tP 6 0), (7, tI 3)], [(4, .cells [.i 0, .val (.slice none 0 0), .i 0] 26), (5, .cells [.i 2, .own 77 7 (((([wRounded_0 r radius, wRounded_2 r radius] ++ [wRounded_1 r radius, wRounded_4 r radius]) ++ [wRounded_3 r radius, wRounded_6 r radius]).length) + 2), .i 0] 26), (6, .cells [.i (W64 (r.X1 - radius)), .i (W64 (r.Y0 + radius)), .i (W64 (r.X1 - radius)), .i (W64 (r.Y1 - radius)), .i (W64 (r.X0 + radius)), .i (W64 (r.Y1 - radius)), .i (W64 (r.X0 + radius)), .i (W64 (r.Y0 + radius))] 97), (77, .row 7 (((([wRounded_0 r radius, wRounded_2 r radius] ++ [wRounded_1 r radius, wRounded_4 r radius]) ++ [wRounded_3 r radius, wRounded_6 r radius]).length) + 2) (fun i j => if i < ((([wRounded_0 r radius, wRounded_2 r radius] ++ [wRounded_1 r radius, wRounded_4 r radius]) ++ [wRounded_3 r radius, wRounded_6 r radius]).length) then (rowF TEdge.c (([wRounded_0 r radius, wRounded_2 r radius] ++ [wRounded_1 r radius, wRounded_4 r radius]) ++ [wRounded_3 r radius, wRounded_6 r radius])) i j else (colsC 7 2 [.i ((wRounded_5 r radius).Kind), .i (((wRounded_5 r radius).A).X), .i (((wRounded_5 r radius).A).Y), .i (((wRounded_5 r radius).B).X), .i (((wRounded_5 r radius).B).Y), .i (((wRounded_5 r radius).C).X), .i (((wRounded_5 r radius).C).Y), .i ((wRounded_8 r radius).Kind), .i (((wRounded_8 r radius).A).X), .i (((wRounded_8 r radius).A).Y), .i (((wRounded_8 r radius).B).X), .i (((wRounded_8 r radius).B).Y), .i (((wRounded_8 r radius).C).X), .i (((wRounded_8 r radius).C).Y)]) (i - ((([wRounded_0 r radius, wRounded_2 r radius] ++ [wRounded_1 r radius, wRounded_4 r radius]) ++ [wRounded_3 r radius, wRounded_6 r radius]).length)) j) 35)]⟩ (.cons (okref09line ((wRounded_5 r radius).B) ((wRounded_7 r radius).A)) .nil) (by kernel_rfl) (by kernel_rfl) (.cons rfl (.cons rfl (.cons au3 (.cons au3 .nil)))) <| abl_n <| ath_n ?_
  refine aw_cv (Cv.trans (cv_ce (⟨[(1, tI radius), (4, tP 4 0), (5, tP 5 0), (6, tP 6 0), (7, tI 3)], [(4, .cells [.i 0, .val (.slice none 0 0), .i 0] 26), (5, .cells [.i 2, .own 77 7 (((([wRounded_0 r radius, wRounded_2 r radius] ++ [wRounded_1 r radius, wRounded_4 r radius]) ++ [wRounded_3 r radius, wRounded_6 r radius]) ++ [wRounded_5 r radius, wRounded_8 r radius]).length), .i 0] 26), (6, .cells [.i (W64 (r.X1 - radius)), .i (W64 (r.Y0 + radius)), .i (W64 (r.X1 - radius)), .i (W64 (r.Y1 - radius)), .i (W64 (r.X0 + radius)), .i (W64 (r.Y1 - radius)), .i (W64 (r.X0 + radius)), .i (W64 (r.Y0 + radius))] 97), (77, .row 7 (((([wRounded_0 r radius, wRounded_2 r radius] ++ [wRounded_1 r radius, wRounded_4 r radius]) ++ [wRounded_3 r radius, wRounded_6 r radius]) ++ [wRounded_5 r radius, wRounded_8 r radius]).length) (rowF TEdge.c ((([wRounded_0 r radius, wRounded_2 r radius] ++ [wRounded_1 r radius, wRounded_4 r radius]) ++ [wRounded_3 r radius, wRounded_6 r radius]) ++ [wRounded_5 r radius, wRounded_8 r radius])) 35)]⟩) (.cons ⟨rfl, .refl _⟩ (.cons ⟨rfl, .refl _⟩ (.cons ⟨rfl, .refl _⟩ (.cons ⟨rfl, .refl _⟩ (.cons ⟨rfl, .refl _⟩ .nil))))) (.cons ⟨rfl, .refl _⟩ (.cons ⟨rfl, .cells _ (.cons (.refl _) (.cons (.own _ _ au4) (.cons (.refl _) .nil)))⟩ (.cons ⟨rfl, .refl _⟩ (.cons ⟨rfl, bke_told 35 (told_app (told_rfl 7 TEdge.c (([wRounded_0 r radius, wRounded_2 r radius] ++ [wRounded_1 r radius, wRounded_4 r radius]) ++ [wRounded_3 r radius, wRounded_6 r radius])) (told_lit (c := TEdge.c) (xs := ([wRounded_5 r radius, wRounded_8 r radius] : List TEdge)) rfl (by kernel_rfl)))⟩ .nil))))) (Cv.refl _)) ?_
  refine aw_region eqok [] [] [] [1, 4, 5, 6, 7] [4, 5, 6, 77] [] ⟨[(1, tI radius), (4, tP 4 0), (5, tP 5 0), (6, tP 6 0), (7, tI 4)], [(4, .cells [.i 0, .val (.slice none 0 0), .i 0] 26), (5, .cells [.i 2, .own 77 7 (((([wRounded_0 r radius, wRounded_2 r radius] ++ [wRounded_1 r radius, wRounded_4 r radius]) ++ [wRounded_3 r radius, wRounded_6 r radius]) ++ [wRounded_5 r radius, wRounded_8 r radius]).length), .i 0] 26), (6, .cells [.i (W64 (r.X1 - radius)), .i (W64 (r.Y0 + radius)), .i (W64 (r.X1 - radius)), .i (W64 (r.Y1 - radius)), .i (W64 (r.X0 + radius)), .i (W64 (r.Y1 - radius)), .i (W64 (r.X0 + radius)), .i (W64 (r.Y0 + radius))] 97), (77, .row 7 (((([wRounded_0 r radius, wRounded_2 r radius] ++ [wRounded_1 r radius, wRounded_4 r radius]) ++ [wRounded_3 r radius, wRounded_6 r radius]) ++ [wRounded_5 r radius, wRounded_8 r radius]).length) (rowF TEdge.c ((([wRounded_0 r radius, wRounded_2 r radius] ++ [wRounded_1 r radius, wRounded_4 r radius]) ++ [wRounded_3 r radius, wRounded_6 r radius]) ++ [wRounded_5 r radius, wRounded_8 r radius])) 35)]⟩ .nil (by kernel_rfl) .nil <| ath_n ?_
  refine aw_round ?_
  refine aw_cv (Cv.trans (cv_ren (⟨[(1, tI radius), (4, tP 4 0), (5, tP 5 0), (6, tP 6 0), (7, tI 4)], [(4, .cells [.i 0, .val (.slice none 0 0), .i 0] 26), (5, .cells [.i 2, .own 100003 7 (((([wRounded_0 r radius, wRounded_2 r radius] ++ [wRounded_1 r radius, wRounded_4 r radius]) ++ [wRounded_3 r radius, wRounded_6 r radius]) ++ [wRounded_5 r radius, wRounded_8 r radius]).length), .i 0] 26), (6, .cells [.i (W64 (r.X1 - radius)), .i (W64 (r.Y0 + radius)), .i (W64 (r.X1 - radius)), .i (W64 (r.Y1 - radius)), .i (W64 (r.X0 + radius)), .i (W64 (r.Y1 - radius)), .i (W64 (r.X0 + radius)), .i (W64 (r.Y0 + radius))] 97), (100003, .row 7 (((([wRounded_0 r radius, wRounded_2 r radius] ++ [wRounded_1 r radius, wRounded_4 r radius]) ++ [wRounded_3 r radius, wRounded_6 r radius]) ++ [wRounded_5 r radius, wRounded_8 r radius]).length) (rowF TEdge.c ((([wRounded_0 r radius, wRounded_2 r radius] ++ [wRounded_1 r radius, wRounded_4 r radius]) ++ [wRounded_3 r radius, wRounded_6 r radius]) ++ [wRounded_5 r radius, wRounded_8 r radius])) 35)]⟩) 77 100003 (K := none) (fun k x h => by cases h) rfl rfl (by kernel_rfl) (by kernel_rfl)) (Cv.refl _)) <| aw_seq <| aw_seq ?_
  refine aw_region eqok [] [] [] [1, 4, 5, 6, 7, 49] [4, 5, 6, 100003] [] ⟨[(1, tI radius), (4, tP 4 0), (5, tP 5 0), (6, tP 6 0), (7, tI 4), (49, tB false)], [(4, .cells [.i 0, .val (.slice none 0 0), .i 0] 26), (5, .cells [.i 2, .own 100003 7 (((([wRounded_0 r radius, wRounded_2 r radius] ++ [wRounded_1 r radius, wRounded_4 r radius]) ++ [wRounded_3 r radius, wRounded_6 r radius]) ++ [wRounded_5 r radius, wRounded_8 r radius]).length), .i 0] 26), (6, .cells [.i (W64 (r.X1 - radius)), .i (W64 (r.Y0 + radius)), .i (W64 (r.X1 - radius)), .i (W64 (r.Y1 - radius)), .i (W64 (r.X0 + radius)), .i (W64 (r.Y1 - radius)), .i (W64 (r.X0 + radius)), .i (W64 (r.Y0 + radius))] 97), (100003, .row 7 (((([wRounded_0 r radius, wRounded_2 r radius] ++ [wRounded_1 r radius, wRounded_4 r radius]) ++ [wRounded_3 r radius, wRounded_6 r radius]) ++ [wRounded_5 r radius, wRounded_8 r radius]).length) (rowF TEdge.c ((([wRounded_0 r radius, wRounded_2 r radius] ++ [wRounded_1 r radius, wRounded_4 r radius]) ++ [wRounded_3 r radius, wRounded_6 r radius]) ++ [wRounded_5 r radius, wRounded_8 r radius])) 35)]⟩ .nil (by kernel_rfl) .nil <| ath_n ?_
  refine aw_cond_f (by kernel_rfl) <| aw_exit ?_
  refine ath_e <| ath_e ?_
  refine abl_hit <| ath_n <| aw_seq ?_
  refine aw_region eqok [] [] [] [4] [4, 100003] [] ⟨[(4, tP 4 0)], [(4, .cells [.i 2, .own 100003 7 (((([wRounded_0 r radius, wRounded_2 r radius] ++ [wRounded_1 r radius, wRounded_4 r radius]) ++ [wRounded_3 r radius, wRounded_6 r radius]) ++ [wRounded_5 r radius, wRounded_8 r radius]).length), .i 0] 26), (100003, .row 7 (((([wRounded_0 r radius, wRounded_2 r radius] ++ [wRounded_1 r radius, wRounded_4 r radius]) ++ [wRounded_3 r radius, wRounded_6 r radius]) ++ [wRounded_5 r radius, wRounded_8 r radius]).length) (rowF TEdge.c ((([wRounded_0 r radius, wRounded_2 r radius] ++ [wRounded_1 r radius, wRounded_4 r radius]) ++ [wRounded_3 r radius, wRounded_6 r radius]) ++ [wRounded_5 r radius, wRounded_8 r radius])) 35)]⟩ .nil (by kernel_rfl) .nil <| ath_n <| aw_ret ?_
  exact ⟨_, Cv.trans (cv_fz (⟨[(4, tP 4 0)], [(4, .cells [.i 2, lst 7 TEdge.c ((([wRounded_0 r radius, wRounded_2 r radius] ++ [wRounded_1 r radius, wRounded_4 r radius]) ++ [wRounded_3 r radius, wRounded_6 r radius]) ++ [wRounded_5 r radius, wRounded_8 r radius]), .i 0] 26)]⟩) 100003 7 (((([wRounded_0 r radius, wRounded_2 r radius] ++ [wRounded_1 r radius, wRounded_4 r radius]) ++ [wRounded_3 r radius, wRounded_6 r radius]) ++ [wRounded_5 r radius, wRounded_8 r radius]).length) (rowF TEdge.c ((([wRounded_0 r radius, wRounded_2 r radius] ++ [wRounded_1 r radius, wRounded_4 r radius]) ++ [wRounded_3 r radius, wRounded_6 r radius]) ++ [wRounded_5 r radius, wRounded_8 r radius])) 35 (K := none) (fun k x h => by cases h) (by kernel_rfl) (by kernel_rfl) (.cons ⟨rfl, rfl⟩ .nil) (by kernel_rfl)) (Cv.refl _), .inl rfl, .av (.agg [.i 2, lst 7 TEdge.c ((([wRounded_0 r radius, wRounded_2 r radius] ++ [wRounded_1 r radius, wRounded_4 r radius]) ++ [wRounded_3 r radius, wRounded_6 r radius]) ++ [wRounded_5 r radius, wRounded_8 r radius]), .i 0]), by kernel_rfl, tve_eq (by rfl)⟩
theorem okRounded (r : TRect) (radius : Int) : CallOk Try.prog (cRounded r radius).1 (cRounded r radius).2.1 (cRounded r radius).2.2 := callOk_pure (fun _ _ => by kernel_rfl) fun _ => pRounded r radius
def FDiscR (x0 : TPoint) (x1 : Int) : TShape := TShape.mk 1 [TEdge.mk 1 x0 x0 (TPoint.mk 0 0)] x1
def cDiscR (x0 : TPoint) (x1 : Int) : FuncId × List Av × Ef := (35, [.agg (TPoint.c x0), .one (.i x1)], .val [] (.av (.agg (TShape.c (FDiscR x0 x1)))))
theorem pDiscR (x0 : TPoint) (x1 : Int) : Pure Try.prog 35 (cDiscR x0 x1).2.1 (.av (.agg (TShape.c (FDiscR x0 x1)))) := by
  refine pure_of_awF Try.func35 rfl (by kernel_rfl) (by kernel_rfl) fun W0 M0 => ?_
  refine aw_seq ?_
  refine aw_region eqok [] [] [] [1, 2, 4] [2, 4] [] ⟨[(1, tI x1), (2, tP 2 0), (4, tP 4 0)], [(2, .cells (TPoint.c x0) 29), (4, .cells [.i 0, .val (.slice none 0 0), .i 0] 26)]⟩ .nil (by kernel_rfl) .nil <| ath_n <| aw_seq ?_
  refine aw_region eqok [] [] [] [4] [4] [] ⟨[(4, tP 4 0)], [(4, .cells [.i 1, .list true 7 1 (colsC 7 1 [.i 1, .i x0.X, .i x0.Y, .i x0.X, .i x0.Y, .i 0, .i 0]), .i x1] 26)]⟩ .nil (by kernel_rfl) .nil <| ath_n <| aw_ret ?_
  exact ⟨_, Cv.refl _, .inl rfl, .av (.agg [.i 1, .list true 7 1 (colsC 7 1 [.i 1, .i x0.X, .i x0.Y, .i x0.X, .i x0.Y, .i 0, .i 0]), .i x1]), by kernel_rfl, tve_of (y := .av (.agg [.i 1, lst 7 TEdge.c [TEdge.mk 1 x0 x0 (TPoint.mk 0 0)], .i x1])) (.av (.agg (.cons (.refl _) (.cons (cle_told true (told_lit (c := TEdge.c) (xs := ([TEdge.mk 1 x0 x0 (TPoint.mk 0 0)] : List TEdge)) rfl (by kernel_rfl))) (.cons (.refl _) .nil))))) (by rfl)⟩
theorem okDiscR (x0 : TPoint) (x1 : Int) : CallOk Try.prog (cDiscR x0 x1).1 (cDiscR x0 x1).2.1 (cDiscR x0 x1).2.2 := callOk_pure (fun _ _ => by kernel_rfl) fun _ => pDiscR x0 x1
end Go.Proofs.Ytpnlegfdkkcnlaa
namespace Go.Proofs.Ytpnlegfdkkcnlaa
set_option maxRecDepth 100000
open Go.RowKit
set_option linter.unusedVariables false
set_option linter.unusedSimpArgs false
def wpathOf_0 (d : TDraw) : FuncId × List Av × Ef := (38, ([.one (.ptr 1000 0), .one (.i 3)] : List Av).map (renA 1000 1000), wrI 1000 (.cells (TDraw.c d) 69) (tI ((FNext d 3).1)) (.cells (TDraw.c ((FNext d 3).2)) 69))
def wpathOf_15 (v0 : TDraw) : FuncId × List Av × Ef := (39, ([.one (.ptr 1000 0), .one (.i 40)] : List Av).map (renA 1000 1000), wrI 1000 (.cells (TDraw.c v0) 69) (.av (.agg (TPoint.c ((FNear v0 40).1)))) (.cells (TDraw.c ((FNear v0 40).2)) 69))
def wpathOf_16 (v3 : TPoint) (v0 : TDraw) : TEdge := Fref09line v3 (Fref05Add v3 ((FNear v0 40).1))
def wpathOf_17 (v0 : TDraw) : FuncId × List Av × Ef := (38, ([.one (.ptr 1000 0), .one (.i 3)] : List Av).map (renA 1000 1000), wrI 1000 (.cells (TDraw.c ((FNear v0 40).2)) 69) (tI ((FNext ((FNear v0 40).2) 3).1)) (.cells (TDraw.c ((FNext ((FNear v0 40).2) 3).2)) 69))
def wpathOf_18 (v0 : TDraw) : FuncId × List Av × Ef := (38, ([.one (.ptr 1000 0), .one (.i 30)] : List Av).map (renA 1000 1000), wrI 1000 (.cells (TDraw.c ((FNext ((FNear v0 40).2) 3).2)) 69) (tI ((FNext ((FNext ((FNear v0 40).2) 3).2) 30).1)) (.cells (TDraw.c ((FNext ((FNext ((FNear v0 40).2) 3).2) 30).2)) 69))
def wpathOf_19 (v0 : TDraw) : TDraw := (FNext ((FNext ((FNear v0 40).2) 3).2) 30).2
def wpathOf_20 (v0 : TDraw) : FuncId × List Av × Ef := (38, ([.one (.ptr 1000 0), .one (.i 4)] : List Av).map (renA 1000 1000), wrI 1000 (.cells (TDraw.c (wpathOf_19 v0)) 69) (tI ((FNext (wpathOf_19 v0) 4).1)) (.cells (TDraw.c ((FNext (wpathOf_19 v0) 4).2)) 69))
def wpathOf_21 (v0 : TDraw) : FuncId × List Av × Ef := (38, ([.one (.ptr 1000 0), .one (.i 4)] : List Av).map (renA 1000 1000), wrI 1000 (.cells (TDraw.c ((FNext (wpathOf_19 v0) 4).2)) 69) (tI ((FNext ((FNext (wpathOf_19 v0) 4).2) 4).1)) (.cells (TDraw.c ((FNext ((FNext (wpathOf_19 v0) 4).2) 4).2)) 69))
def wpathOf_22 (v0 : TDraw) : TDraw := (FNext ((FNext (wpathOf_19 v0) 4).2) 4).2
def wpathOf_23 (v0 : TDraw) : TPoint := Fref05Apply (TMotion.mk (TPoint.mk 0 0) ((FNext ((FNext (wpathOf_19 v0) 4).2) 4).1) false) (TPoint.mk (([5, 10, 25, W64 (1 + ((FNext ((FNext ((FNear v0 40).2) 3).2) 30).1))] : List Int).getD (((FNext (wpathOf_19 v0) 4).1).toNat) 0) 0)
def wpathOf_24 (v0 : TDraw) : FuncId × List Av × Ef := (38, ([.one (.ptr 1000 0), .one (.i 2)] : List Av).map (renA 1000 1000), wrI 1000 (.cells (TDraw.c (wpathOf_22 v0)) 69) (tI ((FNext (wpathOf_22 v0) 2).1)) (.cells (TDraw.c ((FNext (wpathOf_22 v0) 2).2)) 69))
def wpathOf_25 (v3 : TPoint) (v0 : TDraw) : TEdge := Fref06Arc (Fref05Sub v3 (wpathOf_23 v0)) (([5, 10, 25, W64 (1 + ((FNext ((FNext ((FNear v0 40).2) 3).2) 30).1))] : List Int).getD (((FNext (wpathOf_19 v0) 4).1).toNat) 0) ((FNext ((FNext (wpathOf_19 v0) 4).2) 4).1) (W64 (2 + ((FNext (wpathOf_22 v0) 2).1)))
def wpathOf_26 (v0 : TDraw) (v3 : TPoint) : TEdge := bif decide ((((FNext ((FNear v0 40).2) 3).1) : Int) = 0) then (wpathOf_25 v3 v0) else (wpathOf_16 v3 v0)
def wpathOf_27 (v0 : TDraw) (v3 : TPoint) : TPoint := (bif decide ((((FNext ((FNear v0 40).2) 3).1) : Int) = 0) then (wpathOf_25 v3 v0) else (wpathOf_16 v3 v0)).B
def wpathOf_28 (v0 : TDraw) : FuncId × List Av × Ef := (38, ([.one (.ptr 1000 0), .one (.i 12)] : List Av).map (renA 1000 1000), wrI 1000 (.cells (TDraw.c v0) 69) (tI ((FNext v0 12).1)) (.cells (TDraw.c ((FNext v0 12).2)) 69))
def FpathOf_l0 (d : TDraw) (at_ : TPoint) : Nat → List TEdge → TPoint → TDraw → Int → (TShape × TDraw)
  | 0, _, _, _, _ => default
  | n0 + 1, v5_1, v3, v0, v7 => bif decide ((v7 : Int) < (W64 (1 + ((FNext d 3).1)))) then ((FpathOf_l0 d at_ n0) (v5_1 ++ [wpathOf_26 v0 v3]) (wpathOf_27 v0 v3) (bif decide ((((FNext ((FNear v0 40).2) 3).1) : Int) = 0) then ((FNext (wpathOf_22 v0) 2).2) else ((FNext ((FNear v0 40).2) 3).2)) (v7 + 1)) else ((TShape.mk 1 v5_1 ((FNext v0 12).1), (FNext v0 12).2))
def FpathOf (d : TDraw) (at_ : TPoint) : (TShape × TDraw) := FpathOf_l0 d at_ ((((W64 (1 + ((FNext d 3).1)))) - 0).toNat + 1) (([] : List TEdge)) at_ ((FNext d 3).2) 0
theorem ppathOf  (d : TDraw) (at_ : TPoint) (hd : DrawOk d) : Wr Try.prog 40 1000 [.one (.ptr 1000 0), .agg (TPoint.c at_)] (.cells (TDraw.c d) 69) (.av (.agg (TShape.c ((FpathOf d at_).1)))) (.cells (TDraw.c ((FpathOf d at_).2)) 69) := by
  refine wr_of_awF Try.func40 rfl (by kernel_rfl) (by kernel_rfl) (by kernel_rfl) (by kernel_rfl) fun W0 M0 X hX => ?_
  refine aw_seq ?_
  refine aw_region eqok [] [] [] [0, 3, 4] [3, 4, 1000] [] ⟨[(0, tP 1000 0), (3, tP 3 0), (4, tP 4 0)], [(3, .cells (TPoint.c at_) 29), (4, .cells [.i 0, .val (.slice none 0 0), .i 0] 26), (1000, .cells (TDraw.c d) 69)]⟩ .nil (by kernel_rfl) .nil <| ath_n <| aw_seq ?_
  refine aw_region eqok [] [] [] [0, 3, 4, 5] [3, 4, 5, 1000] [] ⟨[(0, tP 1000 0), (3, tP 3 0), (4, tP 4 0), (5, tP 5 0)], [(3, .cells (TPoint.c at_) 29), (4, .cells [.i 0, .val (.slice none 0 0), .i 0] 26), (5, .cells [.i 1, .val (.slice none 0 0), .i 0] 26), (1000, .cells (TDraw.c d) 69)]⟩ .nil (by kernel_rfl) .nil <| ath_n <| aw_seq ?_
  refine aw_region eqok [] [] [(14, (wpathOf_0 d))] [0, 3, 4, 5, 6] [3, 4, 5, 1000] [Same ((wpathOf_0 d)).2.1, SameB (.cells (TDraw.c d) 69)] ⟨[(0, tP 1000 0), (3, tP 3 0), (4, tP 4 0), (5, tP 5 0), (6, tI (W64 (1 + ((FNext d 3).1))))], [(3, .cells (TPoint.c at_) 29), (4, .cells [.i 0, .val (.slice none 0 0), .i 0] 26), (5, .cells [.i 1, .val (.slice none 0 0), .i 0] 26), (1000, .cells (TDraw.c ((FNext d 3).2)) 69)]⟩ (.cons (callOk_wr (fun _ _ => by kernel_rfl) (by kernel_rfl) (by kernel_rfl) (pNext d 3 (by repeat (first | assumption | exact draw_new (by assumption) | refine next_ok ?_ | refine near_ok ?_ | refine draw_bif ?_ ?_ | refine hKd _ _ ?_ | refine cond_dk _ ?_)) au2)) .nil) (by kernel_rfl) (.cons rfl (.cons rfl .nil)) <| ath_n ?_
  refine aw_seq <| aw_seq ?_
  refine aw_region eqok [] [] [] [0, 3, 4, 5, 6, 7] [3, 4, 5, 1000] [] ⟨[(0, tP 1000 0), (3, tP 3 0), (4, tP 4 0), (5, tP 5 0), (6, tI (W64 (1 + ((FNext d 3).1)))), (7, tI 0)], [(3, .cells (TPoint.c at_) 29), (4, .cells [.i 0, .val (.slice none 0 0), .i 0] 26), (5, .cells [.i 1, .val (.slice none 0 0), .i 0] 26), (1000, .cells (TDraw.c ((FNext d 3).2)) 69)]⟩ .nil (by kernel_rfl) .nil <| ath_n <| aw_block ?_
  refine aw_cv (Cv.trans (cv_ghost (⟨[(0, tP 1000 0), (3, tP 3 0), (4, tP 4 0), (5, tP 5 0), (6, tI (W64 (1 + ((FNext d 3).1)))), (7, tI 0)], [(100000, .row 7 0 (fun _ _ => default) 35), (3, .cells (TPoint.c at_) 29), (4, .cells [.i 0, .val (.slice none 0 0), .i 0] 26), (5, .cells [.i 1, .own 100000 7 0, .i 0] 26), (1000, .cells (TDraw.c ((FNext d 3).2)) 69)]⟩) 100000 7 (fun _ _ => default) 35 [] [(5, [1])] (K := some 1000) hX rfl (by kernel_rfl) (by kernel_rfl)) (Cv.trans (cv_ce (⟨[(0, tP 1000 0), (3, tP 3 0), (4, tP 4 0), (5, tP 5 0), (6, tI (W64 (1 + ((FNext d 3).1)))), (7, tI 0)], [(100000, .row 7 ((([] : List TEdge)).length) (rowF TEdge.c (([] : List TEdge))) 35), (3, .cells (TPoint.c at_) 29), (4, .cells [.i 0, .val (.slice none 0 0), .i 0] 26), (5, .cells [.i 1, .own 100000 7 ((([] : List TEdge)).length), .i 0] 26), (1000, .cells (TDraw.c ((FNext d 3).2)) 69)]⟩) (.cons ⟨rfl, .refl _⟩ (.cons ⟨rfl, .refl _⟩ (.cons ⟨rfl, .refl _⟩ (.cons ⟨rfl, .refl _⟩ (.cons ⟨rfl, .refl _⟩ (.cons ⟨rfl, .refl _⟩ .nil)))))) (.cons ⟨rfl, bke_told 35 (told_nil 7 (fun _ _ => default) TEdge.c)⟩ (.cons ⟨rfl, .refl _⟩ (.cons ⟨rfl, .refl _⟩ (.cons ⟨rfl, .cells _ (.cons (.refl _) (.cons (.own _ _ au4) (.cons (.refl _) .nil)))⟩ (.cons ⟨rfl, .refl _⟩ .nil)))))) (Cv.trans (cv_keep [0, 3, 4, 5, 6, 7] [3, 4, 5, 1000, 100000] (⟨[(0, tP 1000 0), (3, tP 3 0), (4, tP 4 0), (5, tP 5 0), (6, tI (W64 (1 + ((FNext d 3).1)))), (7, tI 0)], [(3, .cells (TPoint.c at_) 29), (4, .cells [.i 0, .val (.slice none 0 0), .i 0] 26), (5, .cells [.i 1, .own 100000 7 ((([] : List TEdge)).length), .i 0] 26), (1000, .cells (TDraw.c ((FNext d 3).2)) 69), (100000, .row 7 ((([] : List TEdge)).length) (rowF TEdge.c (([] : List TEdge))) 35)]⟩) (by kernel_rfl)) (Cv.refl _)))) ?_
  refine aw_loopC (ι := Nat × List TEdge × TPoint × TDraw × Int) (fun x => ⟨[(0, tP 1000 0), (3, tP 3 0), (4, tP 4 0), (5, tP 5 0), (6, tI (W64 (1 + ((FNext d 3).1)))), (7, tI x.2.2.2.2)], [(3, .cells (TPoint.c x.2.2.1) 29), (4, .cells [.i 0, .val (.slice none 0 0), .i 0] 26), (5, .cells [.i 1, .own 100000 7 x.2.1.length, .i 0] 26), (1000, .cells (TDraw.c x.2.2.2.1) 69), (100000, .row 7 x.2.1.length (rowF TEdge.c x.2.1) 35)]⟩) (fun x => (((W64 (1 + ((FNext d 3).1)))) - x.2.2.2.2).toNat < x.1 ∧ (DrawOk x.2.2.2.1 ∧ 0 ≤ x.2.2.2.2 ∧ (x.2.2.2.2 ≤ (W64 (1 + ((FNext d 3).1))) ∨ x.2.2.2.2 = 0) ∧ (x.2.1.length : Int) ≤ 0 + 1 * (x.2.2.2.2 - 0)) ∧ FpathOf_l0 d at_ x.1 x.2.1 x.2.2.1 x.2.2.2.1 x.2.2.2.2 = FpathOf d at_) (fun x => x.1) ?_ ((((W64 (1 + ((FNext d 3).1)))) - 0).toNat + 1, ([] : List TEdge), at_, (FNext d 3).2, 0) ⟨Nat.lt_succ_self _, ⟨(by show DrawOk ((FNext d 3).2); repeat (first | assumption | exact draw_new (by assumption) | refine next_ok ?_ | refine near_ok ?_ | refine draw_bif ?_ ?_ | refine hKd _ _ ?_ | refine cond_dk _ ?_)), (by show 0 ≤ 0; first | trivial | omega | (simp only [List.length_append, List.length_cons, List.length_nil]; omega) | (simp only [List.length_set, List.length_append, List.length_cons, List.length_nil]; omega) | (simp only [W64_def]; omega) | (simp; omega) | simp), (by show (0 ≤ (W64 (1 + ((FNext d 3).1))) ∨ 0 = 0); first | trivial | omega | (simp only [List.length_append, List.length_cons, List.length_nil]; omega) | (simp only [List.length_set, List.length_append, List.length_cons, List.length_nil]; omega) | (simp only [W64_def]; omega) | (simp; omega) | simp), (by show ((([] : List TEdge)).length : Int) ≤ 0 + 1 * (0 - 0); first | trivial | omega | (simp only [List.length_append, List.length_cons, List.length_nil]; omega) | (simp only [List.length_set, List.length_append, List.length_cons, List.length_nil]; omega) | (simp only [W64_def]; omega) | (simp; omega) | simp)⟩, (by simp only [FpathOf, cond_true, cond_false])⟩
  rintro ⟨n0, v5_1, v3, v0, v7⟩ ⟨hn, hinv, hF⟩
  have hm0 : (((W64 (1 + ((FNext d 3).1)))) - v7).toNat < n0 := hn; have hinv0 : DrawOk v0 ∧ 0 ≤ v7 ∧ (v7 ≤ (W64 (1 + ((FNext d 3).1))) ∨ v7 = 0) ∧ (v5_1.length : Int) ≤ 0 + 1 * (v7 - 0) := hinv; have hF0 : FpathOf_l0 d at_ n0 v5_1 v3 v0 v7 = FpathOf d at_ := hF; clear hn hinv hF
  cases n0 with
  | zero => exact absurd hm0 (Nat.not_lt_zero _)
  | succ n0 =>
    have hi0_0 := hinv0.1
    refine aw_seq <| aw_seq ?_
    refine aw_region eqok [] [] [] [0, 3, 4, 5, 6, 7, 18] [3, 4, 5, 1000, 100000] [] ⟨[(0, tP 1000 0), (3, tP 3 0), (4, tP 4 0), (5, tP 5 0), (6, tI (W64 (1 + ((FNext d 3).1)))), (7, tI v7), (18, tB (decide ((v7 : Int) < (W64 (1 + ((FNext d 3).1))))))], [(3, .cells (TPoint.c v3) 29), (4, .cells [.i 0, .val (.slice none 0 0), .i 0] 26), (5, .cells [.i 1, .own 100000 7 v5_1.length, .i 0] 26), (1000, .cells (TDraw.c v0) 69), (100000, .row 7 v5_1.length (rowF TEdge.c v5_1) 35)]⟩ .nil (by kernel_rfl) .nil <| ath_n ?_
    refine aw_cond (decide ((v7 : Int) < (W64 (1 + ((FNext d 3).1))))) (by kernel_rfl) (fun h1 => ?_) (fun h1 => ?_)
    · have g1 := of_decide_eq_true h1
      have k1 := lt_many g1 (by decide) (by decide) (by decide) (by decide)
      refine aw_skip <| ath_n ?_
      refine aw_seq <| aw_block <| aw_seq ?_
      refine aw_draw mixed eqok [] [] [(24, (wpathOf_15 v0)), (25, cref05Add v3 ((FNear v0 40).1)), (26, cref09line v3 (Fref05Add v3 ((FNear v0 40).1)))] [0, 3, 4, 5, 6, 7, 8] [3, 4, 5, 8, 1000, 100000] [Same ((wpathOf_15 v0)).2.1, SameB (.cells (TDraw.c v0) 69), Same (cref05Add v3 ((FNear v0 40).1)).2.1, Same (cref09line v3 (Fref05Add v3 ((FNear v0 40).1))).2.1] ⟨[(0, tP 1000 0), (3, tP 3 0), (4, tP 4 0), (5, tP 5 0), (6, tI (W64 (1 + ((FNext d 3).1)))), (7, tI v7), (8, tP 8 0)], [(3, .cells (TPoint.c v3) 29), (4, .cells [.i 0, .val (.slice none 0 0), .i 0] 26), (5, .cells [.i 1, .own 100000 7 v5_1.length, .i 0] 26), (8, .cells (TEdge.c (wpathOf_16 v3 v0)) 35), (1000, .cells (TDraw.c ((FNear v0 40).2)) 69), (100000, .row 7 v5_1.length (rowF TEdge.c v5_1) 35)]⟩ (.cons (callOk_wr (fun _ _ => by kernel_rfl) (by kernel_rfl) (by kernel_rfl) (pNear v0 40 (by repeat (first | assumption | exact draw_new (by assumption) | refine next_ok ?_ | refine near_ok ?_ | refine draw_bif ?_ ?_ | refine hKd _ _ ?_ | refine cond_dk _ ?_)) (by omega))) (.cons (okref05Add v3 ((FNear v0 40).1)) (.cons (okref09line v3 (Fref05Add v3 ((FNear v0 40).1))) .nil))) (by kernel_rfl) (by kernel_rfl) (.cons rfl (.cons rfl (.cons rfl (.cons rfl .nil)))) <| ath_n ?_
      refine aw_seq <| aw_seq ?_
      refine aw_region eqok [] [] [(28, (wpathOf_17 v0))] [0, 3, 4, 5, 6, 7, 8, 29] [3, 4, 5, 8, 1000, 100000] [Same ((wpathOf_17 v0)).2.1, SameB (.cells (TDraw.c ((FNear v0 40).2)) 69)] ⟨[(0, tP 1000 0), (3, tP 3 0), (4, tP 4 0), (5, tP 5 0), (6, tI (W64 (1 + ((FNext d 3).1)))), (7, tI v7), (8, tP 8 0), (29, tB (decide ((((FNext ((FNear v0 40).2) 3).1) : Int) = 0)))], [(3, .cells (TPoint.c v3) 29), (4, .cells [.i 0, .val (.slice none 0 0), .i 0] 26), (5, .cells [.i 1, .own 100000 7 v5_1.length, .i 0] 26), (8, .cells (TEdge.c (wpathOf_16 v3 v0)) 35), (1000, .cells (TDraw.c ((FNext ((FNear v0 40).2) 3).2)) 69), (100000, .row 7 v5_1.length (rowF TEdge.c v5_1) 35)]⟩ (.cons (callOk_wr (fun _ _ => by kernel_rfl) (by kernel_rfl) (by kernel_rfl) (pNext ((FNear v0 40).2) 3 (by repeat (first | assumption | exact draw_new (by assumption) | refine next_ok ?_ | refine near_ok ?_ | refine draw_bif ?_ ?_ | refine hKd _ _ ?_ | refine cond_dk _ ?_)) au2)) .nil) (by kernel_rfl) (.cons rfl (.cons rfl .nil)) <| ath_n ?_
      refine aw_joinC (⟨[(0, tP 1000 0), (3, tP 3 0), (4, tP 4 0), (5, tP 5 0), (6, tI (W64 (1 + ((FNext d 3).1)))), (7, tI v7), (8, tP 8 0)], [(3, .cells (TPoint.c v3) 29), (4, .cells [.i 0, .val (.slice none 0 0), .i 0] 26), (5, .cells [.i 1, .own 100000 7 v5_1.length, .i 0] 26), (8, .cells (TEdge.c (bif decide ((((FNext ((FNear v0 40).2) 3).1) : Int) = 0) then (wpathOf_25 v3 v0) else (wpathOf_16 v3 v0))) 35), (1000, .cells (TDraw.c (bif decide ((((FNext ((FNear v0 40).2) 3).1) : Int) = 0) then ((FNext (wpathOf_22 v0) 2).2) else ((FNext ((FNear v0 40).2) 3).2))) 69), (100000, .row 7 v5_1.length (rowF TEdge.c v5_1) 35)]⟩) ?_ ?_
      · refine aw_cond (decide ((((FNext ((FNear v0 40).2) 3).1) : Int) = 0)) (by kernel_rfl) (fun h2 => ?_) (fun h2 => ?_)
        · have g2 := of_decide_eq_true h2
          refine aw_seq ?_
          refine aw_region eqok [] [] [(31, (wpathOf_18 v0)), (35, (wpathOf_20 v0))] [0, 3, 4, 5, 6, 7, 8, 9] [3, 4, 5, 8, 1000, 100000] [Same ((wpathOf_18 v0)).2.1, SameB (.cells (TDraw.c ((FNext ((FNear v0 40).2) 3).2)) 69), Same ((wpathOf_20 v0)).2.1, SameB (.cells (TDraw.c (wpathOf_19 v0)) 69), 0 ≤ ((FNext (wpathOf_19 v0) 4).1 : Int) ∧ ((FNext (wpathOf_19 v0) 4).1 : Int) < ((4 : Nat) : Int)] ⟨[(0, tP 1000 0), (3, tP 3 0), (4, tP 4 0), (5, tP 5 0), (6, tI (W64 (1 + ((FNext d 3).1)))), (7, tI v7), (8, tP 8 0), (9, tI (([5, 10, 25, W64 (1 + ((FNext ((FNext ((FNear v0 40).2) 3).2) 30).1))] : List Int).getD (((FNext (wpathOf_19 v0) 4).1).toNat) 0))], [(3, .cells (TPoint.c v3) 29), (4, .cells [.i 0, .val (.slice none 0 0), .i 0] 26), (5, .cells [.i 1, .own 100000 7 v5_1.length, .i 0] 26), (8, .cells (TEdge.c (wpathOf_16 v3 v0)) 35), (1000, .cells (TDraw.c ((FNext (wpathOf_19 v0) 4).2)) 69), (100000, .row 7 v5_1.length (rowF TEdge.c v5_1) 35)]⟩ (.cons (callOk_wr (fun _ _ => by kernel_rfl) (by kernel_rfl) (by kernel_rfl) (pNext ((FNext ((FNear v0 40).2) 3).2) 30 (by repeat (first | assumption | exact draw_new (by assumption) | refine next_ok ?_ | refine near_ok ?_ | refine draw_bif ?_ ?_ | refine hKd _ _ ?_ | refine cond_dk _ ?_)) au2)) (.cons (callOk_wr (fun _ _ => by kernel_rfl) (by kernel_rfl) (by kernel_rfl) (pNext (wpathOf_19 v0) 4 (by repeat (first | assumption | exact draw_new (by assumption) | refine next_ok ?_ | refine near_ok ?_ | refine draw_bif ?_ ?_ | refine hKd _ _ ?_ | refine cond_dk _ ?_)) au2)) .nil)) (by kernel_rfl) (.cons rfl (.cons rfl (.cons rfl (.cons rfl (.cons au7 .nil))))) <| ath_n <| aw_seq ?_
          refine aw_region eqok [] [] [(39, (wpathOf_21 v0))] [0, 3, 4, 5, 6, 7, 8, 9, 10] [3, 4, 5, 8, 1000, 100000] [Same ((wpathOf_21 v0)).2.1, SameB (.cells (TDraw.c ((FNext (wpathOf_19 v0) 4).2)) 69)] ⟨[(0, tP 1000 0), (3, tP 3 0), (4, tP 4 0), (5, tP 5 0), (6, tI (W64 (1 + ((FNext d 3).1)))), (7, tI v7), (8, tP 8 0), (9, tI (([5, 10, 25, W64 (1 + ((FNext ((FNext ((FNear v0 40).2) 3).2) 30).1))] : List Int).getD (((FNext (wpathOf_19 v0) 4).1).toNat) 0)), (10, tI ((FNext ((FNext (wpathOf_19 v0) 4).2) 4).1))], [(3, .cells (TPoint.c v3) 29), (4, .cells [.i 0, .val (.slice none 0 0), .i 0] 26), (5, .cells [.i 1, .own 100000 7 v5_1.length, .i 0] 26), (8, .cells (TEdge.c (wpathOf_16 v3 v0)) 35), (1000, .cells (TDraw.c (wpathOf_22 v0)) 69), (100000, .row 7 v5_1.length (rowF TEdge.c v5_1) 35)]⟩ (.cons (callOk_wr (fun _ _ => by kernel_rfl) (by kernel_rfl) (by kernel_rfl) (pNext ((FNext (wpathOf_19 v0) 4).2) 4 (by repeat (first | assumption | exact draw_new (by assumption) | refine next_ok ?_ | refine near_ok ?_ | refine draw_bif ?_ ?_ | refine hKd _ _ ?_ | refine cond_dk _ ?_)) au2)) .nil) (by kernel_rfl) (.cons rfl (.cons rfl .nil)) <| ath_n <| aw_seq ?_
          refine aw_draw mixed eqok [] [] [(45, cref05Apply (TMotion.mk (TPoint.mk 0 0) ((FNext ((FNext (wpathOf_19 v0) 4).2) 4).1) false) (TPoint.mk (([5, 10, 25, W64 (1 + ((FNext ((FNext ((FNear v0 40).2) 3).2) 30).1))] : List Int).getD (((FNext (wpathOf_19 v0) 4).1).toNat) 0) 0)), (46, cref05Sub v3 (wpathOf_23 v0))] [0, 3, 4, 5, 6, 7, 8, 9, 10, 11] [3, 4, 5, 8, 11, 1000, 100000] [Same (cref05Apply (TMotion.mk (TPoint.mk 0 0) ((FNext ((FNext (wpathOf_19 v0) 4).2) 4).1) false) (TPoint.mk (([5, 10, 25, W64 (1 + ((FNext ((FNext ((FNear v0 40).2) 3).2) 30).1))] : List Int).getD (((FNext (wpathOf_19 v0) 4).1).toNat) 0) 0)).2.1, Same (cref05Sub v3 (wpathOf_23 v0)).2.1] ⟨[(0, tP 1000 0), (3, tP 3 0), (4, tP 4 0), (5, tP 5 0), (6, tI (W64 (1 + ((FNext d 3).1)))), (7, tI v7), (8, tP 8 0), (9, tI (([5, 10, 25, W64 (1 + ((FNext ((FNext ((FNear v0 40).2) 3).2) 30).1))] : List Int).getD (((FNext (wpathOf_19 v0) 4).1).toNat) 0)), (10, tI ((FNext ((FNext (wpathOf_19 v0) 4).2) 4).1)), (11, tP 11 0)], [(3, .cells (TPoint.c v3) 29), (4, .cells [.i 0, .val (.slice none 0 0), .i 0] 26), (5, .cells [.i 1, .own 100000 7 v5_1.length, .i 0] 26), (8, .cells (TEdge.c (wpathOf_16 v3 v0)) 35), (11, .cells (TPoint.c (Fref05Sub v3 (wpathOf_23 v0))) 29), (1000, .cells (TDraw.c (wpathOf_22 v0)) 69), (100000, .row 7 v5_1.length (rowF TEdge.c v5_1) 35)]⟩ (.cons (okref05Apply (TMotion.mk (TPoint.mk 0 0) ((FNext ((FNext (wpathOf_19 v0) 4).2) 4).1) false) (TPoint.mk (([5, 10, 25, W64 (1 + ((FNext ((FNext ((FNear v0 40).2) 3).2) 30).1))] : List Int).getD (((FNext (wpathOf_19 v0) 4).1).toNat) 0) 0)) (.cons (okref05Sub v3 (wpathOf_23 v0)) .nil)) (by kernel_rfl) (by kernel_rfl) (.cons rfl (.cons rfl .nil)) <| ath_n ?_
          refine aw_draw mixed eqok [] [] [(51, (wpathOf_24 v0)), (53, cref06Arc (Fref05Sub v3 (wpathOf_23 v0)) (([5, 10, 25, W64 (1 + ((FNext ((FNext ((FNear v0 40).2) 3).2) 30).1))] : List Int).getD (((FNext (wpathOf_19 v0) 4).1).toNat) 0) ((FNext ((FNext (wpathOf_19 v0) 4).2) 4).1) (W64 (2 + ((FNext (wpathOf_22 v0) 2).1))))] [0, 3, 4, 5, 6, 7, 8] [3, 4, 5, 8, 1000, 100000] [Same ((wpathOf_24 v0)).2.1, SameB (.cells (TDraw.c (wpathOf_22 v0)) 69), Same (cref06Arc (Fref05Sub v3 (wpathOf_23 v0)) (([5, 10, 25, W64 (1 + ((FNext ((FNext ((FNear v0 40).2) 3).2) 30).1))] : List Int).getD (((FNext (wpathOf_19 v0) 4).1).toNat) 0) ((FNext ((FNext (wpathOf_19 v0) 4).2) 4).1) (W64 (2 + ((FNext (wpathOf_22 v0) 2).1)))).2.1] ⟨[(0, tP 1000 0), (3, tP 3 0), (4, tP 4 0), (5, tP 5 0), (6, tI (W64 (1 + ((FNext d 3).1)))), (7, tI v7), (8, tP 8 0)], [(3, .cells (TPoint.c v3) 29), (4, .cells [.i 0, .val (.slice none 0 0), .i 0] 26), (5, .cells [.i 1, .own 100000 7 v5_1.length, .i 0] 26), (8, .cells (TEdge.c (wpathOf_25 v3 v0)) 35), (1000, .cells (TDraw.c ((FNext (wpathOf_22 v0) 2).2)) 69), (100000, .row 7 v5_1.length (rowF TEdge.c v5_1) 35)]⟩ (.cons (callOk_wr (fun _ _ => by kernel_rfl) (by kernel_rfl) (by kernel_rfl) (pNext (wpathOf_22 v0) 2 (by repeat (first | assumption | exact draw_new (by assumption) | refine next_ok ?_ | refine near_ok ?_ | refine draw_bif ?_ ?_ | refine hKd _ _ ?_ | refine cond_dk _ ?_)) au2)) (.cons (okref06Arc (Fref05Sub v3 (wpathOf_23 v0)) (([5, 10, 25, W64 (1 + ((FNext ((FNext ((FNear v0 40).2) 3).2) 30).1))] : List Int).getD (((FNext (wpathOf_19 v0) 4).1).toNat) 0) ((FNext ((FNext (wpathOf_19 v0) 4).2) 4).1) (W64 (2 + ((FNext (wpathOf_22 v0) 2).1)))) .nil)) (by kernel_rfl) (by kernel_rfl) (.cons rfl (.cons rfl (.cons rfl .nil))) <| ath_n ?_
          refine cv_eq ?_
          first | rfl | (simp only [h2, cond_true, cond_false]; done) | (simp only [h2, cond_true, cond_false]; rfl)
        · have g2 := of_decide_eq_false h2
          refine aw_skip <| ath_n ?_
          refine Cv.trans (cv_keep [0, 3, 4, 5, 6, 7, 8] [3, 4, 5, 8, 1000, 100000] (⟨[(0, tP 1000 0), (3, tP 3 0), (4, tP 4 0), (5, tP 5 0), (6, tI (W64 (1 + ((FNext d 3).1)))), (7, tI v7), (8, tP 8 0)], [(3, .cells (TPoint.c v3) 29), (4, .cells [.i 0, .val (.slice none 0 0), .i 0] 26), (5, .cells [.i 1, .own 100000 7 v5_1.length, .i 0] 26), (8, .cells (TEdge.c (wpathOf_16 v3 v0)) 35), (1000, .cells (TDraw.c ((FNext ((FNear v0 40).2) 3).2)) 69), (100000, .row 7 v5_1.length (rowF TEdge.c v5_1) 35)]⟩) (by kernel_rfl)) (cv_eq ?_)
          first | rfl | (simp only [h2, cond_true, cond_false]; done) | (simp only [h2, cond_true, cond_false]; rfl)
      refine aw_seq ?_
      refine aw_region eqok [] [] [] [0, 3, 4, 5, 6, 7, 8] [3, 4, 5, 8, 58, 1000] [v5_1.length = v5_1.length, v5_1.length + 1 ≤ maxLen, (v5_1.length + 1) * 56 ≤ 140737488355328] ⟨[(0, tP 1000 0), (3, tP 3 0), (4, tP 4 0), (5, tP 5 0), (6, tI (W64 (1 + ((FNext d 3).1)))), (7, tI v7), (8, tP 8 0)], [(3, .cells (TPoint.c v3) 29), (4, .cells [.i 0, .val (.slice none 0 0), .i 0] 26), (5, .cells [.i 1, .own 58 7 (v5_1.length + 1), .i 0] 26), (8, .cells (TEdge.c (bif decide ((((FNext ((FNear v0 40).2) 3).1) : Int) = 0) then (wpathOf_25 v3 v0) else (wpathOf_16 v3 v0))) 35), (58, .row 7 (v5_1.length + 1) (fun i j => if i < v5_1.length then (rowF TEdge.c v5_1) i j else (colsC 7 1 [.i ((wpathOf_26 v0 v3).Kind), .i (((wpathOf_26 v0 v3).A).X), .i (((wpathOf_26 v0 v3).A).Y), .i (((wpathOf_26 v0 v3).B).X), .i (((wpathOf_26 v0 v3).B).Y), .i (((wpathOf_26 v0 v3).C).X), .i (((wpathOf_26 v0 v3).C).Y)]) (i - v5_1.length) j) 35), (1000, .cells (TDraw.c (bif decide ((((FNext ((FNear v0 40).2) 3).1) : Int) = 0) then ((FNext (wpathOf_22 v0) 2).2) else ((FNext ((FNear v0 40).2) 3).2))) 69)]⟩ .nil (by kernel_rfl) (.cons rfl (.cons au3 (.cons au3 .nil))) <| ath_n ?_
      refine aw_cv (Cv.trans (cv_ce (⟨[(0, tP 1000 0), (3, tP 3 0), (4, tP 4 0), (5, tP 5 0), (6, tI (W64 (1 + ((FNext d 3).1)))), (7, tI v7), (8, tP 8 0)], [(3, .cells (TPoint.c v3) 29), (4, .cells [.i 0, .val (.slice none 0 0), .i 0] 26), (5, .cells [.i 1, .own 58 7 ((v5_1 ++ [wpathOf_26 v0 v3]).length), .i 0] 26), (8, .cells (TEdge.c (bif decide ((((FNext ((FNear v0 40).2) 3).1) : Int) = 0) then (wpathOf_25 v3 v0) else (wpathOf_16 v3 v0))) 35), (58, .row 7 ((v5_1 ++ [wpathOf_26 v0 v3]).length) (rowF TEdge.c (v5_1 ++ [wpathOf_26 v0 v3])) 35), (1000, .cells (TDraw.c (bif decide ((((FNext ((FNear v0 40).2) 3).1) : Int) = 0) then ((FNext (wpathOf_22 v0) 2).2) else ((FNext ((FNear v0 40).2) 3).2))) 69)]⟩) (.cons ⟨rfl, .refl _⟩ (.cons ⟨rfl, .refl _⟩ (.cons ⟨rfl, .refl _⟩ (.cons ⟨rfl, .refl _⟩ (.cons ⟨rfl, .refl _⟩ (.cons ⟨rfl, .refl _⟩ (.cons ⟨rfl, .refl _⟩ .nil))))))) (.cons ⟨rfl, .refl _⟩ (.cons ⟨rfl, .refl _⟩ (.cons ⟨rfl, .cells _ (.cons (.refl _) (.cons (.own _ _ au4) (.cons (.refl _) .nil)))⟩ (.cons ⟨rfl, .refl _⟩ (.cons ⟨rfl, bke_told 35 (told_app (told_rfl 7 TEdge.c v5_1) (told_lit (c := TEdge.c) (xs := ([wpathOf_26 v0 v3] : List TEdge)) rfl (by kernel_rfl)))⟩ (.cons ⟨rfl, .refl _⟩ .nil))))))) (Cv.refl _)) ?_
      refine aw_region eqok [] [] [] [0, 3, 4, 5, 6, 7] [3, 4, 5, 58, 1000] [] ⟨[(0, tP 1000 0), (3, tP 3 0), (4, tP 4 0), (5, tP 5 0), (6, tI (W64 (1 + ((FNext d 3).1)))), (7, tI v7)], [(3, .cells (TPoint.c (wpathOf_27 v0 v3)) 29), (4, .cells [.i 0, .val (.slice none 0 0), .i 0] 26), (5, .cells [.i 1, .own 58 7 ((v5_1 ++ [wpathOf_26 v0 v3]).length), .i 0] 26), (58, .row 7 ((v5_1 ++ [wpathOf_26 v0 v3]).length) (rowF TEdge.c (v5_1 ++ [wpathOf_26 v0 v3])) 35), (1000, .cells (TDraw.c (bif decide ((((FNext ((FNear v0 40).2) 3).1) : Int) = 0) then ((FNext (wpathOf_22 v0) 2).2) else ((FNext ((FNear v0 40).2) 3).2))) 69)]⟩ .nil (by kernel_rfl) .nil <| abl_n <| ath_n ?_
      refine aw_region eqok [] [] [] [0, 3, 4, 5, 6, 7] [3, 4, 5, 58, 1000] [] ⟨[(0, tP 1000 0), (3, tP 3 0), (4, tP 4 0), (5, tP 5 0), (6, tI (W64 (1 + ((FNext d 3).1)))), (7, tI (W64 (v7 + 1)))], [(3, .cells (TPoint.c (wpathOf_27 v0 v3)) 29), (4, .cells [.i 0, .val (.slice none 0 0), .i 0] 26), (5, .cells [.i 1, .own 58 7 ((v5_1 ++ [wpathOf_26 v0 v3]).length), .i 0] 26), (58, .row 7 ((v5_1 ++ [wpathOf_26 v0 v3]).length) (rowF TEdge.c (v5_1 ++ [wpathOf_26 v0 v3])) 35), (1000, .cells (TDraw.c (bif decide ((((FNext ((FNear v0 40).2) 3).1) : Int) = 0) then ((FNext (wpathOf_22 v0) 2).2) else ((FNext ((FNear v0 40).2) 3).2))) 69)]⟩ .nil (by kernel_rfl) .nil ?_
      (try rw [(show W64 (v7 + 1) = v7 + 1 from W64_id (by omega) au5)])
      refine ath_n ?_
      refine ⟨(n0, v5_1 ++ [wpathOf_26 v0 v3], wpathOf_27 v0 v3, bif decide ((((FNext ((FNear v0 40).2) 3).1) : Int) = 0) then ((FNext (wpathOf_22 v0) 2).2) else ((FNext ((FNear v0 40).2) 3).2), v7 + 1), ⟨?_, ?_, (by rw [← hF0]; simp only [FpathOf_l0, h1, cond_true, cond_false])⟩, Nat.lt_succ_self _, Cv.trans (cv_ren (⟨[(0, tP 1000 0), (3, tP 3 0), (4, tP 4 0), (5, tP 5 0), (6, tI (W64 (1 + ((FNext d 3).1)))), (7, tI (v7 + 1))], [(3, .cells (TPoint.c (wpathOf_27 v0 v3)) 29), (4, .cells [.i 0, .val (.slice none 0 0), .i 0] 26), (5, .cells [.i 1, .own 100000 7 ((v5_1 ++ [wpathOf_26 v0 v3]).length), .i 0] 26), (100000, .row 7 ((v5_1 ++ [wpathOf_26 v0 v3]).length) (rowF TEdge.c (v5_1 ++ [wpathOf_26 v0 v3])) 35), (1000, .cells (TDraw.c (bif decide ((((FNext ((FNear v0 40).2) 3).1) : Int) = 0) then ((FNext (wpathOf_22 v0) 2).2) else ((FNext ((FNear v0 40).2) 3).2))) 69)]⟩) 58 100000 (K := some 1000) hX rfl rfl (by kernel_rfl) (by kernel_rfl)) (Cv.trans (cv_keep [0, 3, 4, 5, 6, 7] [3, 4, 5, 1000, 100000] (⟨[(0, tP 1000 0), (3, tP 3 0), (4, tP 4 0), (5, tP 5 0), (6, tI (W64 (1 + ((FNext d 3).1)))), (7, tI (v7 + 1))], [(3, .cells (TPoint.c (wpathOf_27 v0 v3)) 29), (4, .cells [.i 0, .val (.slice none 0 0), .i 0] 26), (5, .cells [.i 1, .own 100000 7 ((v5_1 ++ [wpathOf_26 v0 v3]).length), .i 0] 26), (1000, .cells (TDraw.c (bif decide ((((FNext ((FNear v0 40).2) 3).1) : Int) = 0) then ((FNext (wpathOf_22 v0) 2).2) else ((FNext ((FNear v0 40).2) 3).2))) 69), (100000, .row 7 ((v5_1 ++ [wpathOf_26 v0 v3]).length) (rowF TEdge.c (v5_1 ++ [wpathOf_26 v0 v3])) 35)]⟩) (by kernel_rfl)) (cv_eq (by kernel_rfl)))⟩
      · show (((W64 (1 + ((FNext d 3).1)))) - (v7 + 1)).toNat < n0; omega
      · exact ⟨(by show DrawOk (bif decide ((((FNext ((FNear v0 40).2) 3).1) : Int) = 0) then ((FNext (wpathOf_22 v0) 2).2) else ((FNext ((FNear v0 40).2) 3).2)); repeat (first | assumption | exact draw_new (by assumption) | refine next_ok ?_ | refine near_ok ?_ | refine draw_bif ?_ ?_ | refine hKd _ _ ?_ | refine cond_dk _ ?_)), (by show 0 ≤ (v7 + 1); first | trivial | omega | (simp only [List.length_append, List.length_cons, List.length_nil]; omega) | (simp only [List.length_set, List.length_append, List.length_cons, List.length_nil]; omega) | (simp only [W64_def]; omega) | (simp; omega) | simp), (by show ((v7 + 1) ≤ (W64 (1 + ((FNext d 3).1))) ∨ (v7 + 1) = 0); first | trivial | omega | (simp only [List.length_append, List.length_cons, List.length_nil]; omega) | (simp only [List.length_set, List.length_append, List.length_cons, List.length_nil]; omega) | (simp only [W64_def]; omega) | (simp; omega) | simp), (by show ((v5_1 ++ [wpathOf_26 v0 v3]).length : Int) ≤ 0 + 1 * ((v7 + 1) - 0); first | trivial | omega | (simp only [List.length_append, List.length_cons, List.length_nil]; omega) | (simp only [List.length_set, List.length_append, List.length_cons, List.length_nil]; omega) | (simp only [W64_def]; omega) | (simp; omega) | simp)⟩
    · have g1 := of_decide_eq_false h1
      have k1 := ge_many g1 (by decide) (by decide) (by decide) (by decide)
      refine aw_exit <| ath_e ?_
      refine ath_e <| abl_hit ?_
      refine ath_n <| aw_seq ?_
      refine aw_region eqok [] [] [(63, (wpathOf_28 v0))] [4, 5] [4, 5, 1000, 100000] [Same ((wpathOf_28 v0)).2.1, SameB (.cells (TDraw.c v0) 69)] ⟨[(4, tP 4 0), (5, tP 5 0)], [(4, .cells [.i 0, .val (.slice none 0 0), .i 0] 26), (5, .cells [.i 1, .own 100000 7 v5_1.length, .i ((FNext v0 12).1)] 26), (1000, .cells (TDraw.c ((FNext v0 12).2)) 69), (100000, .row 7 v5_1.length (rowF TEdge.c v5_1) 35)]⟩ (.cons (callOk_wr (fun _ _ => by kernel_rfl) (by kernel_rfl) (by kernel_rfl) (pNext v0 12 (by repeat (first | assumption | exact draw_new (by assumption) | refine next_ok ?_ | refine near_ok ?_ | refine draw_bif ?_ ?_ | refine hKd _ _ ?_ | refine cond_dk _ ?_)) au2)) .nil) (by kernel_rfl) (.cons rfl (.cons rfl .nil)) <| ath_n <| aw_seq ?_
      refine aw_region eqok [] [] [] [4] [4, 1000, 100000] [] ⟨[(4, tP 4 0)], [(4, .cells [.i 1, .own 100000 7 v5_1.length, .i ((FNext v0 12).1)] 26), (1000, .cells (TDraw.c ((FNext v0 12).2)) 69), (100000, .row 7 v5_1.length (rowF TEdge.c v5_1) 35)]⟩ .nil (by kernel_rfl) .nil <| ath_n <| aw_ret ?_
      exact ⟨_, Cv.trans (cv_fz (⟨[(4, tP 4 0)], [(4, .cells [.i 1, lst 7 TEdge.c v5_1, .i ((FNext v0 12).1)] 26), (1000, .cells (TDraw.c ((FNext v0 12).2)) 69)]⟩) 100000 7 v5_1.length (rowF TEdge.c v5_1) 35 (K := some 1000) hX (by kernel_rfl) (by kernel_rfl) (.cons ⟨rfl, rfl⟩ .nil) (by kernel_rfl)) (Cv.refl _), .inl rfl, .av (.agg [.i 1, lst 7 TEdge.c v5_1, .i ((FNext v0 12).1)]), by kernel_rfl, ⟨tve_eq (by rw [← hF0]; first | (simp only [FpathOf_l0, h1, cond_true, cond_false]; done) | (simp only [FpathOf_l0, h1, cond_true, cond_false]; rfl)), .cells (TDraw.c ((FNext v0 12).2)) 69, by kernel_rfl, bke_eq (by rw [← hF0]; first | (simp only [FpathOf_l0, h1, cond_true, cond_false]; done) | (simp only [FpathOf_l0, h1, cond_true, cond_false]; kernel_rfl))⟩⟩
def wMade9_0 (l : (List Int)) : FuncId × List Av × Ef := (38, ([.one (.ptr 1000 0), .one (.i 7)] : List Av).map (renA 1000 14), wrI 14 (.cells [lst 1 (fun x => [.i x]) l, .i 0] 69) (tI ((FNext (TDraw.mk l 0) 7).1)) (.cells (TDraw.c ((FNext (TDraw.mk l 0) 7).2)) 69))
def wMade9_1 (l : (List Int)) : FuncId × List Av × Ef := (39, ([.one (.ptr 1000 0), .one (.i 100)] : List Av).map (renA 1000 14), wrI 14 (.cells (TDraw.c ((FNext (TDraw.mk l 0) 7).2)) 69) (.av (.agg (TPoint.c ((FNear ((FNext (TDraw.mk l 0) 7).2) 100).1)))) (.cells (TDraw.c ((FNear ((FNext (TDraw.mk l 0) 7).2) 100).2)) 69))
def wMade9_2 (l : (List Int)) : TDraw := (FNear ((FNext (TDraw.mk l 0) 7).2) 100).2
def wMade9_3 (l : (List Int)) : TPoint := (FNear ((FNext (TDraw.mk l 0) 7).2) 100).1
def wMade9_4 (l : (List Int)) : FuncId × List Av × Ef := (38, ([.one (.ptr 1000 0), .one (.i 60)] : List Av).map (renA 1000 14), wrI 14 (.cells (TDraw.c (wMade9_2 l)) 69) (tI ((FNext (wMade9_2 l) 60).1)) (.cells (TDraw.c ((FNext (wMade9_2 l) 60).2)) 69))
def wMade9_5 (l : (List Int)) : FuncId × List Av × Ef := (38, ([.one (.ptr 1000 0), .one (.i 60)] : List Av).map (renA 1000 14), wrI 14 (.cells (TDraw.c ((FNext (wMade9_2 l) 60).2)) 69) (tI ((FNext ((FNext (wMade9_2 l) 60).2) 60).1)) (.cells (TDraw.c ((FNext ((FNext (wMade9_2 l) 60).2) 60).2)) 69))
def wMade9_6 (l : (List Int)) : FuncId × List Av × Ef := (38, ([.one (.ptr 1000 0), .one (.i 40)] : List Av).map (renA 1000 14), wrI 14 (.cells (TDraw.c ((FNext ((FNext (wMade9_2 l) 60).2) 60).2)) 69) (tI ((FNext ((FNext ((FNext (wMade9_2 l) 60).2) 60).2) 40).1)) (.cells (TDraw.c ((FNext ((FNext ((FNext (wMade9_2 l) 60).2) 60).2) 40).2)) 69))
def wMade9_7 (l : (List Int)) : TDraw := (FNext ((FNext ((FNext (wMade9_2 l) 60).2) 60).2) 40).2
def wMade9_8 (l : (List Int)) : TShape := FDiscR (wMade9_3 l) ((FNext ((FNext ((FNext (wMade9_2 l) 60).2) 60).2) 40).1)
def wMade9_9 (l : (List Int)) : TShape := FRectR (TRect.mk ((wMade9_3 l).X) ((wMade9_3 l).Y) (W64 (((wMade9_3 l).X) + (W64 (12 + ((FNext (wMade9_2 l) 60).1))))) (W64 (((wMade9_3 l).Y) + (W64 (12 + ((FNext ((FNext (wMade9_2 l) 60).2) 60).1))))))
def wMade9_10 (l : (List Int)) : FuncId × List Av × Ef := (40, ([.one (.ptr 1000 0), .agg (TPoint.c (wMade9_3 l))] : List Av).map (renA 1000 14), wrI 14 (.cells (TDraw.c ((FNext ((FNext (wMade9_2 l) 60).2) 60).2)) 69) (.av (.agg (TShape.c ((FpathOf ((FNext ((FNext (wMade9_2 l) 60).2) 60).2) (wMade9_3 l)).1)))) (.cells (TDraw.c ((FpathOf ((FNext ((FNext (wMade9_2 l) 60).2) 60).2) (wMade9_3 l)).2)) 69))
def wMade9_12 (l : (List Int)) : TShape := (FpathOf ((FNext ((FNext (wMade9_2 l) 60).2) 60).2) (wMade9_3 l)).1
def wMade9_13 (l : (List Int)) : FuncId × List Av × Ef := (38, ([.one (.ptr 1000 0), .one (.i 4)] : List Av).map (renA 1000 14), wrI 14 (.cells (TDraw.c ((FNext ((FNext (wMade9_2 l) 60).2) 60).2)) 69) (tI ((FNext ((FNext ((FNext (wMade9_2 l) 60).2) 60).2) 4).1)) (.cells (TDraw.c ((FNext ((FNext ((FNext (wMade9_2 l) 60).2) 60).2) 4).2)) 69))
def wMade9_14 (l : (List Int)) : TDraw := (FNext ((FNext ((FNext (wMade9_2 l) 60).2) 60).2) 4).2
def wMade9_17 (v3 : TDraw) : FuncId × List Av × Ef := (39, ([.one (.ptr 1000 0), .one (.i 30)] : List Av).map (renA 1000 14), wrI 14 (.cells (TDraw.c v3) 69) (.av (.agg (TPoint.c ((FNear v3 30).1)))) (.cells (TDraw.c ((FNear v3 30).2)) 69))
def wMade9_18 (l : (List Int)) : FuncId × List Av × Ef := (38, ([.one (.ptr 1000 0), .one (.i 5)] : List Av).map (renA 1000 14), wrI 14 (.cells (TDraw.c (wMade9_7 l)) 69) (tI ((FNext (wMade9_7 l) 5).1)) (.cells (TDraw.c ((FNext (wMade9_7 l) 5).2)) 69))
def wMade9_19 (l : (List Int)) : FuncId × List Av × Ef := (38, ([.one (.ptr 1000 0), .one (.i 2)] : List Av).map (renA 1000 14), wrI 14 (.cells (TDraw.c ((FNext (wMade9_7 l) 5).2)) 69) (tI ((FNext ((FNext (wMade9_7 l) 5).2) 2).1)) (.cells (TDraw.c ((FNext ((FNext (wMade9_7 l) 5).2) 2).2)) 69))
def wMade9_20 (l : (List Int)) : TShape := FCircle (wMade9_3 l) (([5, 10, 25, 65, W64 (1 + ((FNext ((FNext ((FNext (wMade9_2 l) 60).2) 60).2) 40).1))] : List Int).getD (((FNext (wMade9_7 l) 5).1).toNat) 0) (W64 (2 + ((FNext ((FNext (wMade9_7 l) 5).2) 2).1)))
def wMade9_21 (l : (List Int)) : FuncId × List Av × Ef := (38, ([.one (.ptr 1000 0), .one (.i 5)] : List Av).map (renA 1000 14), wrI 14 (.cells (TDraw.c ((FNext ((FNext (wMade9_2 l) 60).2) 60).2)) 69) (tI ((FNext ((FNext ((FNext (wMade9_2 l) 60).2) 60).2) 5).1)) (.cells (TDraw.c ((FNext ((FNext ((FNext (wMade9_2 l) 60).2) 60).2) 5).2)) 69))
def wMade9_23 (l : (List Int)) : TShape := FRounded (TRect.mk ((wMade9_3 l).X) ((wMade9_3 l).Y) (W64 (((wMade9_3 l).X) + (W64 (12 + ((FNext (wMade9_2 l) 60).1))))) (W64 (((wMade9_3 l).Y) + (W64 (12 + ((FNext ((FNext (wMade9_2 l) 60).2) 60).1)))))) (W64 (1 + ((FNext ((FNext ((FNext (wMade9_2 l) 60).2) 60).2) 5).1)))
def FMade9_l0 (l : (List Int)) : Nat → List TPoint → TDraw → Int → TShape
  | 0, _, _, _ => default
  | n0 + 1, v9, v3, v11 => bif decide ((v11 : Int) < (W64 (2 + ((FNext ((FNext ((FNext (wMade9_2 l) 60).2) 60).2) 4).1)))) then ((FMade9_l0 l n0) (v9 ++ [Fref05Add (wMade9_3 l) ((FNear v3 30).1)]) ((FNear v3 30).2) (v11 + 1)) else (FLoop v9)
def FMade9 (l : (List Int)) : TShape := bif decide ((((FNext (TDraw.mk l 0) 7).1) : Int) = 0) then (wMade9_8 l) else (bif decide ((((FNext (TDraw.mk l 0) 7).1) : Int) = 1) then (wMade9_9 l) else (bif bif decide ((((FNext (TDraw.mk l 0) 7).1) : Int) = 2) then (decide ((((FNext (TDraw.mk l 0) 7).1) : Int) = 2)) else (decide ((((FNext (TDraw.mk l 0) 7).1) : Int) = 3)) then (wMade9_12 l) else (bif decide ((((FNext (TDraw.mk l 0) 7).1) : Int) = 4) then (FMade9_l0 l ((((W64 (2 + ((FNext ((FNext ((FNext (wMade9_2 l) 60).2) 60).2) 4).1)))) - 0).toNat + 1) (([] : List TPoint)) (wMade9_14 l) 0) else (bif decide ((((FNext (TDraw.mk l 0) 7).1) : Int) = 5) then (wMade9_20 l) else (wMade9_23 l)))))
def cMade9 (l : (List Int)) : FuncId × List Av × Ef := (12, [.one (lst 1 (fun x => [.i x]) l)], .val [] (.av (.agg (TShape.c (FMade9 l)))))
theorem pMade9 (l : (List Int)) (hl : (l.length : Int) ≤ 9223372036854775807) : Pure Try.prog 12 (cMade9 l).2.1 (.av (.agg (TShape.c (FMade9 l)))) := by
  refine pure_of_awF Try.func12 rfl (by kernel_rfl) (by kernel_rfl) fun W0 M0 => ?_
  have hd0 := draw_new hl
  refine aw_seq ?_
  refine aw_region eqok [] [] [] [0, 2] [2] [] ⟨[(0, .av (.one (lst 1 (fun x => [.i x]) l))), (2, tP 2 0)], [(2, .cells [.i 0, .val (.slice none 0 0), .i 0] 26)]⟩ .nil (by kernel_rfl) .nil <| ath_n <| aw_seq ?_
  refine aw_region eqok [] [] [] [2, 3] [2, 14] [] ⟨[(2, tP 2 0), (3, tP 14 0)], [(2, .cells [.i 0, .val (.slice none 0 0), .i 0] 26), (14, .cells [lst 1 (fun x => [.i x]) l, .i 0] 69)]⟩ .nil (by kernel_rfl) .nil <| ath_n <| aw_seq ?_
  refine aw_region eqok [] [] [(16, (wMade9_0 l))] [2, 3, 4] [2, 14] [Same ((wMade9_0 l)).2.1, SameB (.cells [lst 1 (fun x => [.i x]) l, .i 0] 69)] ⟨[(2, tP 2 0), (3, tP 14 0), (4, tI ((FNext (TDraw.mk l 0) 7).1))], [(2, .cells [.i 0, .val (.slice none 0 0), .i 0] 26), (14, .cells (TDraw.c ((FNext (TDraw.mk l 0) 7).2)) 69)]⟩ (.cons (callOk_wr (fun _ _ => by kernel_rfl) (by kernel_rfl) (by kernel_rfl) (pNext (TDraw.mk l 0) 7 (by repeat (first | assumption | exact draw_new (by assumption) | refine next_ok ?_ | refine near_ok ?_ | refine draw_bif ?_ ?_ | refine hKd _ _ ?_ | refine cond_dk _ ?_)) au2)) .nil) (by kernel_rfl) (.cons rfl (.cons rfl .nil)) <| ath_n <| aw_seq ?_
  refine aw_region eqok [] [] [(18, (wMade9_1 l))] [2, 3, 4, 5] [2, 5, 14] [Same ((wMade9_1 l)).2.1, SameB (.cells (TDraw.c ((FNext (TDraw.mk l 0) 7).2)) 69)] ⟨[(2, tP 2 0), (3, tP 14 0), (4, tI ((FNext (TDraw.mk l 0) 7).1)), (5, tP 5 0)], [(2, .cells [.i 0, .val (.slice none 0 0), .i 0] 26), (5, .cells (TPoint.c (wMade9_3 l)) 29), (14, .cells (TDraw.c (wMade9_2 l)) 69)]⟩ (.cons (callOk_wr (fun _ _ => by kernel_rfl) (by kernel_rfl) (by kernel_rfl) (pNear ((FNext (TDraw.mk l 0) 7).2) 100 (by repeat (first | assumption | exact draw_new (by assumption) | refine next_ok ?_ | refine near_ok ?_ | refine draw_bif ?_ ?_ | refine hKd _ _ ?_ | refine cond_dk _ ?_)) (by omega))) .nil) (by kernel_rfl) (.cons rfl (.cons rfl .nil)) <| ath_n <| aw_seq ?_
  refine aw_region eqok [] [] [(20, (wMade9_4 l))] [2, 3, 4, 5, 6] [2, 5, 14] [Same ((wMade9_4 l)).2.1, SameB (.cells (TDraw.c (wMade9_2 l)) 69)] ⟨[(2, tP 2 0), (3, tP 14 0), (4, tI ((FNext (TDraw.mk l 0) 7).1)), (5, tP 5 0), (6, tI (W64 (12 + ((FNext (wMade9_2 l) 60).1))))], [(2, .cells [.i 0, .val (.slice none 0 0), .i 0] 26), (5, .cells (TPoint.c (wMade9_3 l)) 29), (14, .cells (TDraw.c ((FNext (wMade9_2 l) 60).2)) 69)]⟩ (.cons (callOk_wr (fun _ _ => by kernel_rfl) (by kernel_rfl) (by kernel_rfl) (pNext (wMade9_2 l) 60 (by repeat (first | assumption | exact draw_new (by assumption) | refine next_ok ?_ | refine near_ok ?_ | refine draw_bif ?_ ?_ | refine hKd _ _ ?_ | refine cond_dk _ ?_)) au2)) .nil) (by kernel_rfl) (.cons rfl (.cons rfl .nil)) <| ath_n <| aw_seq ?_
  refine aw_region eqok [] [] [(23, (wMade9_5 l))] [2, 3, 4, 5, 6, 7] [2, 5, 14] [Same ((wMade9_5 l)).2.1, SameB (.cells (TDraw.c ((FNext (wMade9_2 l) 60).2)) 69)] ⟨[(2, tP 2 0), (3, tP 14 0), (4, tI ((FNext (TDraw.mk l 0) 7).1)), (5, tP 5 0), (6, tI (W64 (12 + ((FNext (wMade9_2 l) 60).1)))), (7, tI (W64 (12 + ((FNext ((FNext (wMade9_2 l) 60).2) 60).1))))], [(2, .cells [.i 0, .val (.slice none 0 0), .i 0] 26), (5, .cells (TPoint.c (wMade9_3 l)) 29), (14, .cells (TDraw.c ((FNext ((FNext (wMade9_2 l) 60).2) 60).2)) 69)]⟩ (.cons (callOk_wr (fun _ _ => by kernel_rfl) (by kernel_rfl) (by kernel_rfl) (pNext ((FNext (wMade9_2 l) 60).2) 60 (by repeat (first | assumption | exact draw_new (by assumption) | refine next_ok ?_ | refine near_ok ?_ | refine draw_bif ?_ ?_ | refine hKd _ _ ?_ | refine cond_dk _ ?_)) au2)) .nil) (by kernel_rfl) (.cons rfl (.cons rfl .nil)) <| ath_n <| aw_seq ?_
  refine aw_region eqok [] [] [] [2, 3, 4, 5, 8] [2, 5, 8, 14] [] ⟨[(2, tP 2 0), (3, tP 14 0), (4, tI ((FNext (TDraw.mk l 0) 7).1)), (5, tP 5 0), (8, tP 8 0)], [(2, .cells [.i 0, .val (.slice none 0 0), .i 0] 26), (5, .cells (TPoint.c (wMade9_3 l)) 29), (8, .cells [.i ((wMade9_3 l).X), .i ((wMade9_3 l).Y), .i (W64 (((wMade9_3 l).X) + (W64 (12 + ((FNext (wMade9_2 l) 60).1))))), .i (W64 (((wMade9_3 l).Y) + (W64 (12 + ((FNext ((FNext (wMade9_2 l) 60).2) 60).1)))))] 54), (14, .cells (TDraw.c ((FNext ((FNext (wMade9_2 l) 60).2) 60).2)) 69)]⟩ .nil (by kernel_rfl) .nil <| ath_n ?_
  refine aw_seq <| aw_seq ?_
  refine aw_region eqok [] [] [] [2, 3, 5, 8, 38] [2, 5, 8, 14] [] ⟨[(2, tP 2 0), (3, tP 14 0), (5, tP 5 0), (8, tP 8 0), (38, tI ((FNext (TDraw.mk l 0) 7).1))], [(2, .cells [.i 0, .val (.slice none 0 0), .i 0] 26), (5, .cells (TPoint.c (wMade9_3 l)) 29), (8, .cells [.i ((wMade9_3 l).X), .i ((wMade9_3 l).Y), .i (W64 (((wMade9_3 l).X) + (W64 (12 + ((FNext (wMade9_2 l) 60).1))))), .i (W64 (((wMade9_3 l).Y) + (W64 (12 + ((FNext ((FNext (wMade9_2 l) 60).2) 60).1)))))] 54), (14, .cells (TDraw.c ((FNext ((FNext (wMade9_2 l) 60).2) 60).2)) 69)]⟩ .nil (by kernel_rfl) .nil <| ath_n ?_
  refine aw_block <| aw_seq ?_
  refine aw_region eqok [] [] [] [2, 3, 5, 8, 38, 39] [2, 5, 8, 14] [] ⟨[(2, tP 2 0), (3, tP 14 0), (5, tP 5 0), (8, tP 8 0), (38, tI ((FNext (TDraw.mk l 0) 7).1)), (39, tB (decide ((((FNext (TDraw.mk l 0) 7).1) : Int) = 0)))], [(2, .cells [.i 0, .val (.slice none 0 0), .i 0] 26), (5, .cells (TPoint.c (wMade9_3 l)) 29), (8, .cells [.i ((wMade9_3 l).X), .i ((wMade9_3 l).Y), .i (W64 (((wMade9_3 l).X) + (W64 (12 + ((FNext (wMade9_2 l) 60).1))))), .i (W64 (((wMade9_3 l).Y) + (W64 (12 + ((FNext ((FNext (wMade9_2 l) 60).2) 60).1)))))] 54), (14, .cells (TDraw.c ((FNext ((FNext (wMade9_2 l) 60).2) 60).2)) 69)]⟩ .nil (by kernel_rfl) .nil <| ath_n ?_
  refine aw_cond (decide ((((FNext (TDraw.mk l 0) 7).1) : Int) = 0)) (by kernel_rfl) (fun h1 => ?_) (fun h1 => ?_)
  · have g1 := of_decide_eq_true h1
    refine aw_seq ?_
    refine aw_draw mixed eqok [] [] [(43, (wMade9_6 l)), (44, cDiscR (wMade9_3 l) ((FNext ((FNext ((FNext (wMade9_2 l) 60).2) 60).2) 40).1))] [2] [2] [Same ((wMade9_6 l)).2.1, SameB (.cells (TDraw.c ((FNext ((FNext (wMade9_2 l) 60).2) 60).2)) 69), Same (cDiscR (wMade9_3 l) ((FNext ((FNext ((FNext (wMade9_2 l) 60).2) 60).2) 40).1)).2.1] ⟨[(2, tP 2 0)], [(2, .cells (TShape.c (wMade9_8 l)) 26)]⟩ (.cons (callOk_wr (fun _ _ => by kernel_rfl) (by kernel_rfl) (by kernel_rfl) (pNext ((FNext ((FNext (wMade9_2 l) 60).2) 60).2) 40 (by repeat (first | assumption | exact draw_new (by assumption) | refine next_ok ?_ | refine near_ok ?_ | refine draw_bif ?_ ?_ | refine hKd _ _ ?_ | refine cond_dk _ ?_)) au2)) (.cons (okDiscR (wMade9_3 l) ((FNext ((FNext ((FNext (wMade9_2 l) 60).2) 60).2) 40).1)) .nil)) (by kernel_rfl) (by kernel_rfl) (.cons rfl (.cons rfl (.cons rfl .nil))) <| ath_n ?_
    refine aw_ret <| abl_r <| ath_r ?_
    exact ⟨_, Cv.refl _, .inl rfl, .av (.agg (TShape.c (wMade9_8 l))), by kernel_rfl, tve_eq (by first | (simp only [FMade9, h1, cond_true, cond_false]; done) | (simp only [FMade9, h1, cond_true, cond_false]; rfl))⟩
  · have g1 := of_decide_eq_false h1
    refine aw_seq ?_
    refine aw_region eqok [] [] [] [2, 3, 5, 8, 38, 45] [2, 5, 8, 14] [] ⟨[(2, tP 2 0), (3, tP 14 0), (5, tP 5 0), (8, tP 8 0), (38, tI ((FNext (TDraw.mk l 0) 7).1)), (45, tB (decide ((((FNext (TDraw.mk l 0) 7).1) : Int) = 1)))], [(2, .cells [.i 0, .val (.slice none 0 0), .i 0] 26), (5, .cells (TPoint.c (wMade9_3 l)) 29), (8, .cells [.i ((wMade9_3 l).X), .i ((wMade9_3 l).Y), .i (W64 (((wMade9_3 l).X) + (W64 (12 + ((FNext (wMade9_2 l) 60).1))))), .i (W64 (((wMade9_3 l).Y) + (W64 (12 + ((FNext ((FNext (wMade9_2 l) 60).2) 60).1)))))] 54), (14, .cells (TDraw.c ((FNext ((FNext (wMade9_2 l) 60).2) 60).2)) 69)]⟩ .nil (by kernel_rfl) .nil <| ath_n ?_
    refine aw_cond (decide ((((FNext (TDraw.mk l 0) 7).1) : Int) = 1)) (by kernel_rfl) (fun h2 => ?_) (fun h2 => ?_)
    · have g2 := of_decide_eq_true h2
      refine aw_seq ?_
      refine aw_region eqok [] [] [(48, cRectR (TRect.mk ((wMade9_3 l).X) ((wMade9_3 l).Y) (W64 (((wMade9_3 l).X) + (W64 (12 + ((FNext (wMade9_2 l) 60).1))))) (W64 (((wMade9_3 l).Y) + (W64 (12 + ((FNext ((FNext (wMade9_2 l) 60).2) 60).1)))))))] [2] [2] [Same (cRectR (TRect.mk ((wMade9_3 l).X) ((wMade9_3 l).Y) (W64 (((wMade9_3 l).X) + (W64 (12 + ((FNext (wMade9_2 l) 60).1))))) (W64 (((wMade9_3 l).Y) + (W64 (12 + ((FNext ((FNext (wMade9_2 l) 60).2) 60).1))))))).2.1] ⟨[(2, tP 2 0)], [(2, .cells (TShape.c (wMade9_9 l)) 26)]⟩ (.cons (okRectR (TRect.mk ((wMade9_3 l).X) ((wMade9_3 l).Y) (W64 (((wMade9_3 l).X) + (W64 (12 + ((FNext (wMade9_2 l) 60).1))))) (W64 (((wMade9_3 l).Y) + (W64 (12 + ((FNext ((FNext (wMade9_2 l) 60).2) 60).1))))))) .nil) (by kernel_rfl) (.cons rfl .nil) <| ath_n ?_
      refine aw_ret <| abl_r <| ath_r ?_
      exact ⟨_, Cv.refl _, .inl rfl, .av (.agg (TShape.c (wMade9_9 l))), by kernel_rfl, tve_eq (by first | (simp only [FMade9, h1, h2, cond_true, cond_false]; done) | (simp only [FMade9, h1, h2, cond_true, cond_false]; rfl))⟩
    · have g2 := of_decide_eq_false h2
      refine aw_seq <| aw_seq ?_
      refine aw_region eqok [] [] [] [2, 3, 5, 8, 38, 49] [2, 5, 8, 14] [] ⟨[(2, tP 2 0), (3, tP 14 0), (5, tP 5 0), (8, tP 8 0), (38, tI ((FNext (TDraw.mk l 0) 7).1)), (49, tB (decide ((((FNext (TDraw.mk l 0) 7).1) : Int) = 2)))], [(2, .cells [.i 0, .val (.slice none 0 0), .i 0] 26), (5, .cells (TPoint.c (wMade9_3 l)) 29), (8, .cells [.i ((wMade9_3 l).X), .i ((wMade9_3 l).Y), .i (W64 (((wMade9_3 l).X) + (W64 (12 + ((FNext (wMade9_2 l) 60).1))))), .i (W64 (((wMade9_3 l).Y) + (W64 (12 + ((FNext ((FNext (wMade9_2 l) 60).2) 60).1)))))] 54), (14, .cells (TDraw.c ((FNext ((FNext (wMade9_2 l) 60).2) 60).2)) 69)]⟩ .nil (by kernel_rfl) .nil <| ath_n ?_
      refine aw_joinC (⟨[(2, tP 2 0), (3, tP 14 0), (5, tP 5 0), (8, tP 8 0), (38, tI ((FNext (TDraw.mk l 0) 7).1)), (49, tB (bif decide ((((FNext (TDraw.mk l 0) 7).1) : Int) = 2) then (decide ((((FNext (TDraw.mk l 0) 7).1) : Int) = 2)) else (decide ((((FNext (TDraw.mk l 0) 7).1) : Int) = 3))))], [(2, .cells [.i 0, .val (.slice none 0 0), .i 0] 26), (5, .cells (TPoint.c (wMade9_3 l)) 29), (8, .cells [.i ((wMade9_3 l).X), .i ((wMade9_3 l).Y), .i (W64 (((wMade9_3 l).X) + (W64 (12 + ((FNext (wMade9_2 l) 60).1))))), .i (W64 (((wMade9_3 l).Y) + (W64 (12 + ((FNext ((FNext (wMade9_2 l) 60).2) 60).1)))))] 54), (14, .cells (TDraw.c ((FNext ((FNext (wMade9_2 l) 60).2) 60).2)) 69)]⟩) ?_ ?_
      · refine aw_cond (decide ((((FNext (TDraw.mk l 0) 7).1) : Int) = 2)) (by kernel_rfl) (fun h3 => ?_) (fun h3 => ?_)
        · have g3 := of_decide_eq_true h3
          refine aw_skip <| ath_n ?_
          refine cv_eq ?_
          first | rfl | (simp only [h3, cond_true, cond_false]; done) | (simp only [h3, cond_true, cond_false]; rfl)
        · have g3 := of_decide_eq_false h3
          refine aw_region eqok [] [] [] [2, 3, 5, 8, 38, 49] [2, 5, 8, 14] [] ⟨[(2, tP 2 0), (3, tP 14 0), (5, tP 5 0), (8, tP 8 0), (38, tI ((FNext (TDraw.mk l 0) 7).1)), (49, tB (decide ((((FNext (TDraw.mk l 0) 7).1) : Int) = 3)))], [(2, .cells [.i 0, .val (.slice none 0 0), .i 0] 26), (5, .cells (TPoint.c (wMade9_3 l)) 29), (8, .cells [.i ((wMade9_3 l).X), .i ((wMade9_3 l).Y), .i (W64 (((wMade9_3 l).X) + (W64 (12 + ((FNext (wMade9_2 l) 60).1))))), .i (W64 (((wMade9_3 l).Y) + (W64 (12 + ((FNext ((FNext (wMade9_2 l) 60).2) 60).1)))))] 54), (14, .cells (TDraw.c ((FNext ((FNext (wMade9_2 l) 60).2) 60).2)) 69)]⟩ .nil (by kernel_rfl) .nil <| ath_n ?_
          refine cv_eq ?_
          first | rfl | (simp only [h3, cond_true, cond_false]; done) | (simp only [h3, cond_true, cond_false]; rfl)
      refine aw_cond (bif decide ((((FNext (TDraw.mk l 0) 7).1) : Int) = 2) then (decide ((((FNext (TDraw.mk l 0) 7).1) : Int) = 2)) else (decide ((((FNext (TDraw.mk l 0) 7).1) : Int) = 3))) (by kernel_rfl) (fun h3 => ?_) (fun h3 => ?_)
      · refine aw_seq ?_
        refine aw_region eqok [] [] [(54, (wMade9_10 l))] [2] [2] [Same ((wMade9_10 l)).2.1, SameB (.cells (TDraw.c ((FNext ((FNext (wMade9_2 l) 60).2) 60).2)) 69)] ⟨[(2, tP 2 0)], [(2, .cells (TShape.c (wMade9_12 l)) 26)]⟩ (.cons (callOk_wr (fun _ _ => by kernel_rfl) (by kernel_rfl) (by kernel_rfl) (ppathOf ((FNext ((FNext (wMade9_2 l) 60).2) 60).2) (wMade9_3 l) (by repeat (first | assumption | exact draw_new (by assumption) | refine next_ok ?_ | refine near_ok ?_ | refine draw_bif ?_ ?_ | refine hKd _ _ ?_ | refine cond_dk _ ?_)))) .nil) (by kernel_rfl) (.cons rfl (.cons rfl .nil)) <| ath_n ?_
        refine aw_ret <| abl_r <| ath_r ?_
        exact ⟨_, Cv.refl _, .inl rfl, .av (.agg (TShape.c (wMade9_12 l))), by kernel_rfl, tve_eq (by first | (simp only [FMade9, h1, h2, h3, cond_true, cond_false]; done) | (simp only [FMade9, h1, h2, h3, cond_true, cond_false]; rfl))⟩
      · refine aw_seq ?_
        refine aw_region eqok [] [] [] [2, 3, 5, 8, 38, 55] [2, 5, 8, 14] [] ⟨[(2, tP 2 0), (3, tP 14 0), (5, tP 5 0), (8, tP 8 0), (38, tI ((FNext (TDraw.mk l 0) 7).1)), (55, tB (decide ((((FNext (TDraw.mk l 0) 7).1) : Int) = 4)))], [(2, .cells [.i 0, .val (.slice none 0 0), .i 0] 26), (5, .cells (TPoint.c (wMade9_3 l)) 29), (8, .cells [.i ((wMade9_3 l).X), .i ((wMade9_3 l).Y), .i (W64 (((wMade9_3 l).X) + (W64 (12 + ((FNext (wMade9_2 l) 60).1))))), .i (W64 (((wMade9_3 l).Y) + (W64 (12 + ((FNext ((FNext (wMade9_2 l) 60).2) 60).1)))))] 54), (14, .cells (TDraw.c ((FNext ((FNext (wMade9_2 l) 60).2) 60).2)) 69)]⟩ .nil (by kernel_rfl) .nil <| ath_n ?_
        refine aw_cond (decide ((((FNext (TDraw.mk l 0) 7).1) : Int) = 4)) (by kernel_rfl) (fun h4 => ?_) (fun h4 => ?_)
        · have g4 := of_decide_eq_true h4
          refine aw_seq ?_
          refine aw_region eqok [] [] [] [2, 3, 5, 9] [2, 5, 14] [] ⟨[(2, tP 2 0), (3, tP 14 0), (5, tP 5 0), (9, .av (.one (.val (.slice none 0 0))))], [(2, .cells [.i 0, .val (.slice none 0 0), .i 0] 26), (5, .cells (TPoint.c (wMade9_3 l)) 29), (14, .cells (TDraw.c ((FNext ((FNext (wMade9_2 l) 60).2) 60).2)) 69)]⟩ .nil (by kernel_rfl) .nil <| ath_n <| aw_seq ?_
          refine aw_region eqok [] [] [(58, (wMade9_13 l))] [2, 3, 5, 9, 10] [2, 5, 14] [Same ((wMade9_13 l)).2.1, SameB (.cells (TDraw.c ((FNext ((FNext (wMade9_2 l) 60).2) 60).2)) 69)] ⟨[(2, tP 2 0), (3, tP 14 0), (5, tP 5 0), (9, .av (.one (.val (.slice none 0 0)))), (10, tI (W64 (2 + ((FNext ((FNext ((FNext (wMade9_2 l) 60).2) 60).2) 4).1))))], [(2, .cells [.i 0, .val (.slice none 0 0), .i 0] 26), (5, .cells (TPoint.c (wMade9_3 l)) 29), (14, .cells (TDraw.c (wMade9_14 l)) 69)]⟩ (.cons (callOk_wr (fun _ _ => by kernel_rfl) (by kernel_rfl) (by kernel_rfl) (pNext ((FNext ((FNext (wMade9_2 l) 60).2) 60).2) 4 (by repeat (first | assumption | exact draw_new (by assumption) | refine next_ok ?_ | refine near_ok ?_ | refine draw_bif ?_ ?_ | refine hKd _ _ ?_ | refine cond_dk _ ?_)) au2)) .nil) (by kernel_rfl) (.cons rfl (.cons rfl .nil)) <| ath_n ?_
          refine aw_seq <| aw_seq ?_
          refine aw_region eqok [] [] [] [2, 3, 5, 9, 10, 11] [2, 5, 14] [] ⟨[(2, tP 2 0), (3, tP 14 0), (5, tP 5 0), (9, .av (.one (.val (.slice none 0 0)))), (10, tI (W64 (2 + ((FNext ((FNext ((FNext (wMade9_2 l) 60).2) 60).2) 4).1)))), (11, tI 0)], [(2, .cells [.i 0, .val (.slice none 0 0), .i 0] 26), (5, .cells (TPoint.c (wMade9_3 l)) 29), (14, .cells (TDraw.c (wMade9_14 l)) 69)]⟩ .nil (by kernel_rfl) .nil <| ath_n <| aw_block ?_
          refine aw_cv (Cv.trans (cv_ghost (⟨[(2, tP 2 0), (3, tP 14 0), (5, tP 5 0), (9, .av (.one (.own 100000 2 0))), (10, tI (W64 (2 + ((FNext ((FNext ((FNext (wMade9_2 l) 60).2) 60).2) 4).1)))), (11, tI 0)], [(100000, .row 2 0 (fun _ _ => default) 29), (2, .cells [.i 0, .val (.slice none 0 0), .i 0] 26), (5, .cells (TPoint.c (wMade9_3 l)) 29), (14, .cells (TDraw.c (wMade9_14 l)) 69)]⟩) 100000 2 (fun _ _ => default) 29 [(9, [0])] [] (K := none) (fun k x h => by cases h) rfl (by kernel_rfl) (by kernel_rfl)) (Cv.trans (cv_ce (⟨[(2, tP 2 0), (3, tP 14 0), (5, tP 5 0), (9, .av (.one (.own 100000 2 ((([] : List TPoint)).length)))), (10, tI (W64 (2 + ((FNext ((FNext ((FNext (wMade9_2 l) 60).2) 60).2) 4).1)))), (11, tI 0)], [(100000, .row 2 ((([] : List TPoint)).length) (rowF TPoint.c (([] : List TPoint))) 29), (2, .cells [.i 0, .val (.slice none 0 0), .i 0] 26), (5, .cells (TPoint.c (wMade9_3 l)) 29), (14, .cells (TDraw.c (wMade9_14 l)) 69)]⟩) (.cons ⟨rfl, .refl _⟩ (.cons ⟨rfl, .refl _⟩ (.cons ⟨rfl, .refl _⟩ (.cons ⟨rfl, .av (.one (.own _ _ au4))⟩ (.cons ⟨rfl, .refl _⟩ (.cons ⟨rfl, .refl _⟩ .nil)))))) (.cons ⟨rfl, bke_told 29 (told_nil 2 (fun _ _ => default) TPoint.c)⟩ (.cons ⟨rfl, .refl _⟩ (.cons ⟨rfl, .refl _⟩ (.cons ⟨rfl, .refl _⟩ .nil))))) (Cv.trans (cv_keep [2, 3, 5, 9, 10, 11] [2, 5, 14, 100000] (⟨[(2, tP 2 0), (3, tP 14 0), (5, tP 5 0), (9, .av (.one (.own 100000 2 ((([] : List TPoint)).length)))), (10, tI (W64 (2 + ((FNext ((FNext ((FNext (wMade9_2 l) 60).2) 60).2) 4).1)))), (11, tI 0)], [(2, .cells [.i 0, .val (.slice none 0 0), .i 0] 26), (5, .cells (TPoint.c (wMade9_3 l)) 29), (14, .cells (TDraw.c (wMade9_14 l)) 69), (100000, .row 2 ((([] : List TPoint)).length) (rowF TPoint.c (([] : List TPoint))) 29)]⟩) (by kernel_rfl)) (Cv.refl _)))) ?_
          refine aw_loopC (ι := Nat × List TPoint × TDraw × Int) (fun x => ⟨[(2, tP 2 0), (3, tP 14 0), (5, tP 5 0), (9, .av (.one (.own 100000 2 x.2.1.length))), (10, tI (W64 (2 + ((FNext ((FNext ((FNext (wMade9_2 l) 60).2) 60).2) 4).1)))), (11, tI x.2.2.2)], [(2, .cells [.i 0, .val (.slice none 0 0), .i 0] 26), (5, .cells (TPoint.c (wMade9_3 l)) 29), (14, .cells (TDraw.c x.2.2.1) 69), (100000, .row 2 x.2.1.length (rowF TPoint.c x.2.1) 29)]⟩) (fun x => (((W64 (2 + ((FNext ((FNext ((FNext (wMade9_2 l) 60).2) 60).2) 4).1)))) - x.2.2.2).toNat < x.1 ∧ (DrawOk x.2.2.1 ∧ 0 ≤ x.2.2.2 ∧ (x.2.2.2 ≤ (W64 (2 + ((FNext ((FNext ((FNext (wMade9_2 l) 60).2) 60).2) 4).1))) ∨ x.2.2.2 = 0) ∧ (x.2.1.length : Int) ≤ 0 + 1 * (x.2.2.2 - 0)) ∧ FMade9_l0 l x.1 x.2.1 x.2.2.1 x.2.2.2 = FMade9 l) (fun x => x.1) ?_ ((((W64 (2 + ((FNext ((FNext ((FNext (wMade9_2 l) 60).2) 60).2) 4).1)))) - 0).toNat + 1, ([] : List TPoint), wMade9_14 l, 0) ⟨Nat.lt_succ_self _, ⟨(by show DrawOk (wMade9_14 l); repeat (first | assumption | exact draw_new (by assumption) | refine next_ok ?_ | refine near_ok ?_ | refine draw_bif ?_ ?_ | refine hKd _ _ ?_ | refine cond_dk _ ?_)), (by show 0 ≤ 0; first | trivial | omega | (simp only [List.length_append, List.length_cons, List.length_nil]; omega) | (simp only [List.length_set, List.length_append, List.length_cons, List.length_nil]; omega) | (simp only [W64_def]; omega) | (simp; omega) | simp), (by show (0 ≤ (W64 (2 + ((FNext ((FNext ((FNext (wMade9_2 l) 60).2) 60).2) 4).1))) ∨ 0 = 0); first | trivial | omega | (simp only [List.length_append, List.length_cons, List.length_nil]; omega) | (simp only [List.length_set, List.length_append, List.length_cons, List.length_nil]; omega) | (simp only [W64_def]; omega) | (simp; omega) | simp), (by show ((([] : List TPoint)).length : Int) ≤ 0 + 1 * (0 - 0); first | trivial | omega | (simp only [List.length_append, List.length_cons, List.length_nil]; omega) | (simp only [List.length_set, List.length_append, List.length_cons, List.length_nil]; omega) | (simp only [W64_def]; omega) | (simp; omega) | simp)⟩, (by simp only [FMade9, h1, h2, h3, h4, cond_true, cond_false])⟩
          rintro ⟨n0, v9, v3, v11⟩ ⟨hn, hinv, hF⟩
          have hm0 : (((W64 (2 + ((FNext ((FNext ((FNext (wMade9_2 l) 60).2) 60).2) 4).1)))) - v11).toNat < n0 := hn; have hinv0 : DrawOk v3 ∧ 0 ≤ v11 ∧ (v11 ≤ (W64 (2 + ((FNext ((FNext ((FNext (wMade9_2 l) 60).2) 60).2) 4).1))) ∨ v11 = 0) ∧ (v9.length : Int) ≤ 0 + 1 * (v11 - 0) := hinv; have hF0 : FMade9_l0 l n0 v9 v3 v11 = FMade9 l := hF; clear hn hinv hF
          cases n0 with
          | zero => exact absurd hm0 (Nat.not_lt_zero _)
          | succ n0 =>
            have hi0_0 := hinv0.1
            refine aw_seq <| aw_seq ?_
            refine aw_region eqok [] [] [] [2, 3, 5, 9, 10, 11, 62] [2, 5, 14, 100000] [] ⟨[(2, tP 2 0), (3, tP 14 0), (5, tP 5 0), (9, .av (.one (.own 100000 2 v9.length))), (10, tI (W64 (2 + ((FNext ((FNext ((FNext (wMade9_2 l) 60).2) 60).2) 4).1)))), (11, tI v11), (62, tB (decide ((v11 : Int) < (W64 (2 + ((FNext ((FNext ((FNext (wMade9_2 l) 60).2) 60).2) 4).1))))))], [(2, .cells [.i 0, .val (.slice none 0 0), .i 0] 26), (5, .cells (TPoint.c (wMade9_3 l)) 29), (14, .cells (TDraw.c v3) 69), (100000, .row 2 v9.length (rowF TPoint.c v9) 29)]⟩ .nil (by kernel_rfl) .nil <| ath_n ?_
            refine aw_cond (decide ((v11 : Int) < (W64 (2 + ((FNext ((FNext ((FNext (wMade9_2 l) 60).2) 60).2) 4).1))))) (by kernel_rfl) (fun h5 => ?_) (fun h5 => ?_)
            · have g5 := of_decide_eq_true h5
              have k5 := lt_many g5 (by decide) (by decide) (by decide) (by decide)
              refine aw_skip <| ath_n ?_
              refine aw_seq <| aw_block ?_
              refine aw_draw mixed eqok [] [] [(68, (wMade9_17 v3)), (69, cref05Add (wMade9_3 l) ((FNear v3 30).1))] [2, 3, 5, 9, 10, 11] [2, 5, 14, 71] [Same ((wMade9_17 v3)).2.1, SameB (.cells (TDraw.c v3) 69), Same (cref05Add (wMade9_3 l) ((FNear v3 30).1)).2.1, v9.length = v9.length, v9.length + 1 ≤ maxLen, (v9.length + 1) * 16 ≤ 140737488355328] ⟨[(2, tP 2 0), (3, tP 14 0), (5, tP 5 0), (9, .av (.one (.own 71 2 (v9.length + 1)))), (10, tI (W64 (2 + ((FNext ((FNext ((FNext (wMade9_2 l) 60).2) 60).2) 4).1)))), (11, tI v11)], [(2, .cells [.i 0, .val (.slice none 0 0), .i 0] 26), (5, .cells (TPoint.c (wMade9_3 l)) 29), (14, .cells (TDraw.c ((FNear v3 30).2)) 69), (71, .row 2 (v9.length + 1) (fun i j => if i < v9.length then (rowF TPoint.c v9) i j else (colsC 2 1 [.i ((Fref05Add (wMade9_3 l) ((FNear v3 30).1)).X), .i ((Fref05Add (wMade9_3 l) ((FNear v3 30).1)).Y)]) (i - v9.length) j) 29)]⟩ (.cons (callOk_wr (fun _ _ => by kernel_rfl) (by kernel_rfl) (by kernel_rfl) (pNear v3 30 (by repeat (first | assumption | exact draw_new (by assumption) | refine next_ok ?_ | refine near_ok ?_ | refine draw_bif ?_ ?_ | refine hKd _ _ ?_ | refine cond_dk _ ?_)) (by omega))) (.cons (okref05Add (wMade9_3 l) ((FNear v3 30).1)) .nil)) (by kernel_rfl) (by kernel_rfl) (.cons rfl (.cons rfl (.cons rfl (.cons rfl (.cons au3 (.cons au3 .nil)))))) <| abl_n <| ath_n ?_
              refine aw_cv (Cv.trans (cv_ce (⟨[(2, tP 2 0), (3, tP 14 0), (5, tP 5 0), (9, .av (.one (.own 71 2 ((v9 ++ [Fref05Add (wMade9_3 l) ((FNear v3 30).1)]).length)))), (10, tI (W64 (2 + ((FNext ((FNext ((FNext (wMade9_2 l) 60).2) 60).2) 4).1)))), (11, tI v11)], [(2, .cells [.i 0, .val (.slice none 0 0), .i 0] 26), (5, .cells (TPoint.c (wMade9_3 l)) 29), (14, .cells (TDraw.c ((FNear v3 30).2)) 69), (71, .row 2 ((v9 ++ [Fref05Add (wMade9_3 l) ((FNear v3 30).1)]).length) (rowF TPoint.c (v9 ++ [Fref05Add (wMade9_3 l) ((FNear v3 30).1)])) 29)]⟩) (.cons ⟨rfl, .refl _⟩ (.cons ⟨rfl, .refl _⟩ (.cons ⟨rfl, .refl _⟩ (.cons ⟨rfl, .av (.one (.own _ _ au4))⟩ (.cons ⟨rfl, .refl _⟩ (.cons ⟨rfl, .refl _⟩ .nil)))))) (.cons ⟨rfl, .refl _⟩ (.cons ⟨rfl, .refl _⟩ (.cons ⟨rfl, .refl _⟩ (.cons ⟨rfl, bke_told 29 (told_app (told_rfl 2 TPoint.c v9) (told_lit (c := TPoint.c) (xs := ([Fref05Add (wMade9_3 l) ((FNear v3 30).1)] : List TPoint)) rfl (by kernel_rfl)))⟩ .nil))))) (Cv.refl _)) ?_
              refine aw_region eqok [] [] [] [2, 3, 5, 9, 10, 11] [2, 5, 14, 71] [] ⟨[(2, tP 2 0), (3, tP 14 0), (5, tP 5 0), (9, .av (.one (.own 71 2 ((v9 ++ [Fref05Add (wMade9_3 l) ((FNear v3 30).1)]).length)))), (10, tI (W64 (2 + ((FNext ((FNext ((FNext (wMade9_2 l) 60).2) 60).2) 4).1)))), (11, tI (W64 (v11 + 1)))], [(2, .cells [.i 0, .val (.slice none 0 0), .i 0] 26), (5, .cells (TPoint.c (wMade9_3 l)) 29), (14, .cells (TDraw.c ((FNear v3 30).2)) 69), (71, .row 2 ((v9 ++ [Fref05Add (wMade9_3 l) ((FNear v3 30).1)]).length) (rowF TPoint.c (v9 ++ [Fref05Add (wMade9_3 l) ((FNear v3 30).1)])) 29)]⟩ .nil (by kernel_rfl) .nil ?_
              (try rw [(show W64 (v11 + 1) = v11 + 1 from W64_id (by omega) au5)])
              refine ath_n ?_
              refine ⟨(n0, v9 ++ [Fref05Add (wMade9_3 l) ((FNear v3 30).1)], (FNear v3 30).2, v11 + 1), ⟨?_, ?_, (by rw [← hF0]; simp only [FMade9_l0, h5, cond_true, cond_false])⟩, Nat.lt_succ_self _, Cv.trans (cv_ren (⟨[(2, tP 2 0), (3, tP 14 0), (5, tP 5 0), (9, .av (.one (.own 100000 2 ((v9 ++ [Fref05Add (wMade9_3 l) ((FNear v3 30).1)]).length)))), (10, tI (W64 (2 + ((FNext ((FNext ((FNext (wMade9_2 l) 60).2) 60).2) 4).1)))), (11, tI (v11 + 1))], [(2, .cells [.i 0, .val (.slice none 0 0), .i 0] 26), (5, .cells (TPoint.c (wMade9_3 l)) 29), (14, .cells (TDraw.c ((FNear v3 30).2)) 69), (100000, .row 2 ((v9 ++ [Fref05Add (wMade9_3 l) ((FNear v3 30).1)]).length) (rowF TPoint.c (v9 ++ [Fref05Add (wMade9_3 l) ((FNear v3 30).1)])) 29)]⟩) 71 100000 (K := none) (fun k x h => by cases h) rfl rfl (by kernel_rfl) (by kernel_rfl)) (cv_eq (by kernel_rfl))⟩
              · show (((W64 (2 + ((FNext ((FNext ((FNext (wMade9_2 l) 60).2) 60).2) 4).1)))) - (v11 + 1)).toNat < n0; omega
              · exact ⟨(by show DrawOk ((FNear v3 30).2); repeat (first | assumption | exact draw_new (by assumption) | refine next_ok ?_ | refine near_ok ?_ | refine draw_bif ?_ ?_ | refine hKd _ _ ?_ | refine cond_dk _ ?_)), (by show 0 ≤ (v11 + 1); first | trivial | omega | (simp only [List.length_append, List.length_cons, List.length_nil]; omega) | (simp only [List.length_set, List.length_append, List.length_cons, List.length_nil]; omega) | (simp only [W64_def]; omega) | (simp; omega) | simp), (by show ((v11 + 1) ≤ (W64 (2 + ((FNext ((FNext ((FNext (wMade9_2 l) 60).2) 60).2) 4).1))) ∨ (v11 + 1) = 0); first | trivial | omega | (simp only [List.length_append, List.length_cons, List.length_nil]; omega) | (simp only [List.length_set, List.length_append, List.length_cons, List.length_nil]; omega) | (simp only [W64_def]; omega) | (simp; omega) | simp), (by show ((v9 ++ [Fref05Add (wMade9_3 l) ((FNear v3 30).1)]).length : Int) ≤ 0 + 1 * ((v11 + 1) - 0); first | trivial | omega | (simp only [List.length_append, List.length_cons, List.length_nil]; omega) | (simp only [List.length_set, List.length_append, List.length_cons, List.length_nil]; omega) | (simp only [W64_def]; omega) | (simp; omega) | simp)⟩
            · have g5 := of_decide_eq_false h5
              have k5 := ge_many g5 (by decide) (by decide) (by decide) (by decide)
              refine aw_exit <| ath_e ?_
              refine ath_e <| abl_hit ?_
              refine ath_n <| aw_seq ?_
              refine aw_cv (Cv.trans (cv_fz (⟨[(2, tP 2 0), (3, tP 14 0), (5, tP 5 0), (9, .av (.one (lst 2 TPoint.c v9))), (10, tI (W64 (2 + ((FNext ((FNext ((FNext (wMade9_2 l) 60).2) 60).2) 4).1)))), (11, tI v11), (62, tB (decide ((v11 : Int) < (W64 (2 + ((FNext ((FNext ((FNext (wMade9_2 l) 60).2) 60).2) 4).1))))))], [(2, .cells [.i 0, .val (.slice none 0 0), .i 0] 26), (5, .cells (TPoint.c (wMade9_3 l)) 29), (14, .cells (TDraw.c v3) 69)]⟩) 100000 2 v9.length (rowF TPoint.c v9) 29 (K := none) (fun k x h => by cases h) (by kernel_rfl) (by kernel_rfl) (.cons ⟨rfl, rfl⟩ .nil) (by kernel_rfl)) (Cv.refl _)) ?_
              refine aw_region eqok [] [] [(73, cLoop v9)] [2] [2] [Same (cLoop v9).2.1] ⟨[(2, tP 2 0)], [(2, .cells (TShape.c (FLoop v9)) 26)]⟩ (.cons (okLoop v9 au0) .nil) (by kernel_rfl) (.cons rfl .nil) <| ath_n ?_
              refine aw_ret <| abl_r <| ath_r ?_
              exact ⟨_, Cv.refl _, .inl rfl, .av (.agg (TShape.c (FLoop v9))), by kernel_rfl, tve_eq (by rw [← hF0]; first | (simp only [FMade9_l0, h5, cond_true, cond_false]; done) | (simp only [FMade9_l0, h5, cond_true, cond_false]; rfl))⟩
        · have g4 := of_decide_eq_false h4
          refine aw_seq ?_
          refine aw_region eqok [] [] [] [2, 3, 5, 8, 74] [2, 5, 8, 14] [] ⟨[(2, tP 2 0), (3, tP 14 0), (5, tP 5 0), (8, tP 8 0), (74, tB (decide ((((FNext (TDraw.mk l 0) 7).1) : Int) = 5)))], [(2, .cells [.i 0, .val (.slice none 0 0), .i 0] 26), (5, .cells (TPoint.c (wMade9_3 l)) 29), (8, .cells [.i ((wMade9_3 l).X), .i ((wMade9_3 l).Y), .i (W64 (((wMade9_3 l).X) + (W64 (12 + ((FNext (wMade9_2 l) 60).1))))), .i (W64 (((wMade9_3 l).Y) + (W64 (12 + ((FNext ((FNext (wMade9_2 l) 60).2) 60).1)))))] 54), (14, .cells (TDraw.c ((FNext ((FNext (wMade9_2 l) 60).2) 60).2)) 69)]⟩ .nil (by kernel_rfl) .nil <| ath_n ?_
          refine aw_cond (decide ((((FNext (TDraw.mk l 0) 7).1) : Int) = 5)) (by kernel_rfl) (fun h5 => ?_) (fun h5 => ?_)
          · have g5 := of_decide_eq_true h5
            refine aw_seq ?_
            refine aw_draw mixed eqok [] [] [(78, (wMade9_6 l)), (82, (wMade9_18 l)), (86, (wMade9_19 l)), (88, cCircle (wMade9_3 l) (([5, 10, 25, 65, W64 (1 + ((FNext ((FNext ((FNext (wMade9_2 l) 60).2) 60).2) 40).1))] : List Int).getD (((FNext (wMade9_7 l) 5).1).toNat) 0) (W64 (2 + ((FNext ((FNext (wMade9_7 l) 5).2) 2).1))))] [2] [2] [Same ((wMade9_6 l)).2.1, SameB (.cells (TDraw.c ((FNext ((FNext (wMade9_2 l) 60).2) 60).2)) 69), Same ((wMade9_18 l)).2.1, SameB (.cells (TDraw.c (wMade9_7 l)) 69), 0 ≤ ((FNext (wMade9_7 l) 5).1 : Int) ∧ ((FNext (wMade9_7 l) 5).1 : Int) < ((5 : Nat) : Int), Same ((wMade9_19 l)).2.1, SameB (.cells (TDraw.c ((FNext (wMade9_7 l) 5).2)) 69), Same (cCircle (wMade9_3 l) (([5, 10, 25, 65, W64 (1 + ((FNext ((FNext ((FNext (wMade9_2 l) 60).2) 60).2) 40).1))] : List Int).getD (((FNext (wMade9_7 l) 5).1).toNat) 0) (W64 (2 + ((FNext ((FNext (wMade9_7 l) 5).2) 2).1)))).2.1] ⟨[(2, tP 2 0)], [(2, .cells (TShape.c (wMade9_20 l)) 26)]⟩ (.cons (callOk_wr (fun _ _ => by kernel_rfl) (by kernel_rfl) (by kernel_rfl) (pNext ((FNext ((FNext (wMade9_2 l) 60).2) 60).2) 40 (by repeat (first | assumption | exact draw_new (by assumption) | refine next_ok ?_ | refine near_ok ?_ | refine draw_bif ?_ ?_ | refine hKd _ _ ?_ | refine cond_dk _ ?_)) au2)) (.cons (callOk_wr (fun _ _ => by kernel_rfl) (by kernel_rfl) (by kernel_rfl) (pNext (wMade9_7 l) 5 (by repeat (first | assumption | exact draw_new (by assumption) | refine next_ok ?_ | refine near_ok ?_ | refine draw_bif ?_ ?_ | refine hKd _ _ ?_ | refine cond_dk _ ?_)) au2)) (.cons (callOk_wr (fun _ _ => by kernel_rfl) (by kernel_rfl) (by kernel_rfl) (pNext ((FNext (wMade9_7 l) 5).2) 2 (by repeat (first | assumption | exact draw_new (by assumption) | refine next_ok ?_ | refine near_ok ?_ | refine draw_bif ?_ ?_ | refine hKd _ _ ?_ | refine cond_dk _ ?_)) au2)) (.cons (okCircle (wMade9_3 l) (([5, 10, 25, 65, W64 (1 + ((FNext ((FNext ((FNext (wMade9_2 l) 60).2) 60).2) 40).1))] : List Int).getD (((FNext (wMade9_7 l) 5).1).toNat) 0) (W64 (2 + ((FNext ((FNext (wMade9_7 l) 5).2) 2).1)))) .nil)))) (by kernel_rfl) (by kernel_rfl) (.cons rfl (.cons rfl (.cons rfl (.cons rfl (.cons au7 (.cons rfl (.cons rfl (.cons rfl .nil)))))))) <| ath_n ?_
            refine aw_ret <| abl_r <| ath_r ?_
            exact ⟨_, Cv.refl _, .inl rfl, .av (.agg (TShape.c (wMade9_20 l))), by kernel_rfl, tve_eq (by first | (simp only [FMade9, h1, h2, h3, h4, h5, cond_true, cond_false]; done) | (simp only [FMade9, h1, h2, h3, h4, h5, cond_true, cond_false]; rfl))⟩
          · have g5 := of_decide_eq_false h5
            refine aw_skip <| abl_n ?_
            refine ath_n <| aw_seq ?_
            refine aw_draw mixed eqok [] [] [(91, (wMade9_21 l)), (93, cRounded (TRect.mk ((wMade9_3 l).X) ((wMade9_3 l).Y) (W64 (((wMade9_3 l).X) + (W64 (12 + ((FNext (wMade9_2 l) 60).1))))) (W64 (((wMade9_3 l).Y) + (W64 (12 + ((FNext ((FNext (wMade9_2 l) 60).2) 60).1)))))) (W64 (1 + ((FNext ((FNext ((FNext (wMade9_2 l) 60).2) 60).2) 5).1))))] [2] [2] [Same ((wMade9_21 l)).2.1, SameB (.cells (TDraw.c ((FNext ((FNext (wMade9_2 l) 60).2) 60).2)) 69), Same (cRounded (TRect.mk ((wMade9_3 l).X) ((wMade9_3 l).Y) (W64 (((wMade9_3 l).X) + (W64 (12 + ((FNext (wMade9_2 l) 60).1))))) (W64 (((wMade9_3 l).Y) + (W64 (12 + ((FNext ((FNext (wMade9_2 l) 60).2) 60).1)))))) (W64 (1 + ((FNext ((FNext ((FNext (wMade9_2 l) 60).2) 60).2) 5).1)))).2.1] ⟨[(2, tP 2 0)], [(2, .cells (TShape.c (wMade9_23 l)) 26)]⟩ (.cons (callOk_wr (fun _ _ => by kernel_rfl) (by kernel_rfl) (by kernel_rfl) (pNext ((FNext ((FNext (wMade9_2 l) 60).2) 60).2) 5 (by repeat (first | assumption | exact draw_new (by assumption) | refine next_ok ?_ | refine near_ok ?_ | refine draw_bif ?_ ?_ | refine hKd _ _ ?_ | refine cond_dk _ ?_)) au2)) (.cons (okRounded (TRect.mk ((wMade9_3 l).X) ((wMade9_3 l).Y) (W64 (((wMade9_3 l).X) + (W64 (12 + ((FNext (wMade9_2 l) 60).1))))) (W64 (((wMade9_3 l).Y) + (W64 (12 + ((FNext ((FNext (wMade9_2 l) 60).2) 60).1)))))) (W64 (1 + ((FNext ((FNext ((FNext (wMade9_2 l) 60).2) 60).2) 5).1)))) .nil)) (by kernel_rfl) (by kernel_rfl) (.cons rfl (.cons rfl (.cons rfl .nil))) <| ath_n <| aw_ret ?_
            exact ⟨_, Cv.refl _, .inl rfl, .av (.agg (TShape.c (wMade9_23 l))), by kernel_rfl, tve_eq (by first | (simp only [FMade9, h1, h2, h3, h4, h5, cond_true, cond_false]; done) | (simp only [FMade9, h1, h2, h3, h4, h5, cond_true, cond_false]; rfl))⟩
theorem okMade9 (l : (List Int)) (hl : (l.length : Int) ≤ 9223372036854775807) : CallOk Try.prog (cMade9 l).1 (cMade9 l).2.1 (cMade9 l).2.2 := callOk_pure (fun _ _ => by kernel_rfl) fun _ => pMade9 l hl
end Go.Proofs.Ytpnlegfdkkcnlaa
namespace Go.Proofs.Ytpnlegfdkkcnlaa
set_option maxRecDepth 100000
open Go.RowKit
set_option linter.unusedVariables false
set_option linter.unusedSimpArgs false
def Ch : TPoint → List TEdge → TPoint → Prop
  | a, [], b => a = b
  | a, e :: l, b => e.A = a ∧ Ch e.B l b
theorem ch_append : ∀ {l m : List TEdge} {a b : TPoint}, Ch a (l ++ m) b ↔ ∃ c, Ch a l c ∧ Ch c m b
  | [], m, a, b => by simp [Ch]
  | e :: l, m, a, b => by
    simp only [List.cons_append, Ch, ch_append (l := l) (m := m)]
    constructor
    · rintro ⟨h, c, h1, h2⟩; exact ⟨c, ⟨h, h1⟩, h2⟩
    · rintro ⟨c, ⟨h, h1⟩, h2⟩; exact ⟨h, c, h1, h2⟩
theorem ch_ends : ∀ {l : List TEdge} {a b : TPoint}, Ch a l b → l ≠ [] → (∀ i, i + 1 < l.length → (l.getD i default).B = (l.getD (i + 1) default).A) ∧ (l.getD 0 default).A = a ∧ (l.getD (l.length - 1) default).B = b
  | [], a, b, h, hn => absurd rfl hn
  | [e], a, b, h, _ => ⟨fun i hi => absurd hi (by simp), h.1, h.2⟩
  | e :: f :: l, a, b, h, _ => by
    obtain ⟨h1, h2⟩ := h
    obtain ⟨g1, g2, g3⟩ := ch_ends (l := f :: l) h2 (by simp)
    refine ⟨fun i hi => ?_, h1, ?_⟩
    · cases i with
      | zero => exact g2.symm
      | succ i => exact g1 i (by simpa using hi)
    · simpa using g3
theorem ch_of : ∀ {l : List TEdge}, l ≠ [] → (∀ i, i + 1 < l.length → (l.getD i default).B = (l.getD (i + 1) default).A) → Ch (l.getD 0 default).A l (l.getD (l.length - 1) default).B
  | [], hn, _ => absurd rfl hn
  | [e], _, _ => ⟨rfl, rfl⟩
  | e :: f :: l, _, h => by
    have g := ch_of (l := f :: l) (by simp) fun i hi => h (i + 1) (by simpa using hi)
    refine ⟨rfl, ?_⟩
    have h0 : e.B = f.A := h 0 (by simp)
    have g' : Ch f.A (f :: l) ((f :: l).getD ((f :: l).length - 1) default).B := g
    rw [h0]
    simpa using g'
theorem joined_iff {s : TShape} (h : s.Edges ≠ []) : Joined s ↔ ∃ a b, Ch a s.Edges b ∧ (s.Kind = 2 → a = b) := by
  constructor
  · rintro ⟨h1, h2⟩
    exact ⟨_, _, ch_of h h1, fun hk => (h2 hk).symm⟩
  · rintro ⟨a, b, hc, hk⟩
    obtain ⟨g1, g2, g3⟩ := ch_ends hc h
    exact ⟨g1, fun h2 => by rw [g3, g2]; exact (hk h2).symm⟩
def SmallS (s : TShape) : Prop := OkS s ∧ (∀ e ∈ s.Edges, Small e) ∧ s.R ≤ 40 ∧ s.Edges.length ≤ 8
def P300 (p : TPoint) : Prop := (-300 ≤ p.X ∧ p.X ≤ 300) ∧ -300 ≤ p.Y ∧ p.Y ≤ 300
theorem small_of {k : Int} {a b c : TPoint} (ha : P300 a) (hb : P300 b) (hc : P300 c) : Small ⟨k, a, b, c⟩ := ⟨ha, hb, hc⟩
theorem p300_rp {p : TPoint} (h : P300 p) : RP p := by unfold P300 at h; unfold RP C27; omega
theorem line_ok {a b : TPoint} (ha : P300 a) (hb : P300 b) : OkE ⟨1, a, b, ⟨0, 0⟩⟩ ∧ Small ⟨1, a, b, ⟨0, 0⟩⟩ :=
  ⟨⟨⟨p300_rp ha, p300_rp hb, by unfold RP C27; simp only; omega⟩, .inl ⟨rfl, rfl, rfl⟩⟩, small_of ha hb (by unfold P300; simp only; omega)⟩
def px (r t : Int) : Int := if t % 4 = 0 then r else if t % 4 = 2 then -r else 0
def py (r t : Int) : Int := if t % 4 = 1 then r else if t % 4 = 3 then -r else 0
def nx (k : Int) : Int := if k = 3 then 3 else 1
theorem arc_eq (c : TPoint) (r t k : Int) (hc : P300 c) (hr : 1 ≤ r ∧ r ≤ 1000) (ht : 0 ≤ t ∧ t ≤ 7) (hk : k = 2 ∨ k = 3) : Fref06Arc c r t k = ⟨k, ⟨c.X + px r t, c.Y + py r t⟩, ⟨c.X + px r (t + nx k), c.Y + py r (t + nx k)⟩, c⟩ := by
  have t4 : t = 0 ∨ t = 1 ∨ t = 2 ∨ t = 3 ∨ t = 4 ∨ t = 5 ∨ t = 6 ∨ t = 7 := by omega
  have e0 : Fref05Turns 0 = 0 := by decide +kernel
  have e1 : Fref05Turns 1 = 1 := by decide +kernel
  have e2 : Fref05Turns 2 = 2 := by decide +kernel
  have e3 : Fref05Turns 3 = 3 := by decide +kernel
  have e4 : Fref05Turns 4 = 0 := by decide +kernel
  have e5 : Fref05Turns 5 = 1 := by decide +kernel
  have e6 : Fref05Turns 6 = 2 := by decide +kernel
  have e7 : Fref05Turns 7 = 3 := by decide +kernel
  have e8 : Fref05Turns 8 = 0 := by decide +kernel
  have e9 : Fref05Turns 9 = 1 := by decide +kernel
  have e10 : Fref05Turns 10 = 2 := by decide +kernel
  have w : ∀ a b : Int, 0 ≤ a ∧ a ≤ 10 → 0 ≤ b ∧ b ≤ 10 → W64 (a + b) = a + b := fun a b h1 h2 => W64_id (by omega) (by omega)
  unfold P300 at hc
  unfold Fref06Arc wref06Arc_0 wref06Arc_1 Fref05Apply wref05Apply_0 Fref05Add Fref05mirrored
  rw [w t 3 (by omega) (by decide), w t 1 (by omega) (by decide)]
  rcases t4 with rfl | rfl | rfl | rfl | rfl | rfl | rfl | rfl <;> rcases hk with rfl | rfl <;>
    simp only [px, py, nx, Int.reduceAdd, Int.reduceMod, Int.reduceEq, decide_true, decide_false, cond_true, cond_false, if_true, if_false, Fref05turned, e0, e1, e2, e3, e4, e5, e6, e7, e8, e9, e10, W64_def, TEdge.mk.injEq, TPoint.mk.injEq, and_true, true_and] <;> omega
theorem arc_good (c : TPoint) (r t k : Int) (hc : (-r - 200 ≤ -300 ∨ True) ∧ P300 c) (hr : 1 ≤ r ∧ r ≤ 1000) (ht : 0 ≤ t ∧ t ≤ 7) (hk : k = 2 ∨ k = 3) (hb : (-300 ≤ c.X - r ∧ c.X + r ≤ 300) ∧ -300 ≤ c.Y - r ∧ c.Y + r ≤ 300) : OkE (Fref06Arc c r t k) ∧ Small (Fref06Arc c r t k) := by
  rw [arc_eq c r t k hc.2 hr ht hk]
  have t4 : t = 0 ∨ t = 1 ∨ t = 2 ∨ t = 3 ∨ t = 4 ∨ t = 5 ∨ t = 6 ∨ t = 7 := by omega
  have hc := hc.2
  unfold P300 at hc
  constructor
  · rcases t4 with rfl | rfl | rfl | rfl | rfl | rfl | rfl | rfl <;> rcases hk with rfl | rfl <;>
      simp only [px, py, nx, Int.reduceAdd, Int.reduceMod, Int.reduceEq, if_true, if_false, OkE, Rights, Form, RP, C27, QL, QR, Odd, false_and, false_or, or_false, true_and] <;> omega
  · rcases t4 with rfl | rfl | rfl | rfl | rfl | rfl | rfl | rfl <;> rcases hk with rfl | rfl <;>
      simp only [px, py, nx, Int.reduceAdd, Int.reduceMod, Int.reduceEq, if_true, if_false, Small] <;> omega
theorem disc_ok {p : TPoint} {r : Int} (hp : P300 p) (hr : 0 ≤ r ∧ r ≤ 40) : SmallS (FDiscR p r) := by
  obtain ⟨h1, h2⟩ := line_ok hp hp
  refine ⟨⟨⟨.inl rfl, ⟨Nat.le_refl 1, ?_⟩, fun h => ?_⟩, fun e he => ?_, ⟨fun i hi => ?_, fun h => ?_⟩, ⟨hr.1, ?_⟩, fun h => ?_⟩, fun e he => ?_, hr.2, ?_⟩
  · show 1 ≤ 40; decide
  · cases h
  · rw [List.mem_singleton.1 he]; exact h1
  · have hi : i + 1 < 1 := hi
    omega
  · cases h
  · show r ≤ 4194304; omega
  · cases h
  · rw [List.mem_singleton.1 he]; exact h2
  · show 1 ≤ 8; decide
def loopE (l : List TPoint) : Nat → Nat → List TEdge
  | 0, _ => []
  | n + 1, k => ⟨1, l.getD k default, l.getD ((k + 1) % l.length) default, ⟨0, 0⟩⟩ :: loopE l n (k + 1)
theorem loop_l0 (l : List TPoint) (hl : l.length ≤ 1000000) : ∀ (n k : Nat) (s : List TEdge), k ≤ l.length → l.length - k < n → FLoop_l0 l n s (k : Int) = ⟨2, s ++ loopE l (l.length - k) k, 0⟩
  | 0, k, s, hk, hn => by omega
  | n + 1, k, s, hk, hn => by
    unfold FLoop_l0
    by_cases hlt : k < l.length
    · rw [decide_eq_true (show (k : Int) < (l.length : Int) by omega)]
      simp only [cond_true, Int.toNat_natCast]
      have ih := fun s => loop_l0 l hl n (k + 1) s (by omega) (by omega)
      rw [show ((k : Int) + 1) = ((k + 1 : Nat) : Int) by omega, ih]
      obtain ⟨m, hm⟩ : ∃ m, l.length - k = m + 1 := ⟨l.length - k - 1, by omega⟩
      rw [hm, show l.length - (k + 1) = m by omega]
      have ew : wLoop_1 l (k : Int) = l.getD ((k + 1) % l.length) default := by
        unfold wLoop_1
        rw [W64_id (by omega) (by omega), Int.tmod_eq_emod_of_nonneg (by omega)]
        congr 1
      rw [ew]
      simp [loopE]
    · rw [decide_eq_false (show ¬ (k : Int) < (l.length : Int) by omega)]
      have : l.length - k = 0 := by omega
      simp [this, loopE]
theorem loop_eq (l : List TPoint) (hl : l.length ≤ 1000000) : FLoop l = ⟨2, loopE l l.length 0, 0⟩ := by
  unfold FLoop
  have := loop_l0 l hl (((l.length : Int) - 0).toNat + 1) 0 [] (by omega) (by omega)
  rw [show ((0 : Nat) : Int) = 0 from rfl] at this
  rw [this]
  simp
theorem loopE_len (l : List TPoint) : ∀ n k, (loopE l n k).length = n
  | 0, k => rfl
  | n + 1, k => by simp [loopE, loopE_len l n]
theorem loopE_ch (l : List TPoint) : ∀ n k, 0 < n → k + n = l.length → Ch (l.getD k default) (loopE l n k) (l.getD 0 default)
  | 0, k, h, _ => by omega
  | 1, k, _, hk => by
    refine ⟨rfl, ?_⟩
    show l.getD ((k + 1) % l.length) default = l.getD 0 default
    rw [hk, Nat.mod_self]
  | n + 2, k, _, hk => by
    refine ⟨rfl, ?_⟩
    show Ch (l.getD ((k + 1) % l.length) default) (loopE l (n + 1) (k + 1)) _
    rw [Nat.mod_eq_of_lt (by omega)]
    exact loopE_ch l (n + 1) (k + 1) (by omega) (by omega)
theorem getD_P {P : TPoint → Prop} {l : List TPoint} (h : ∀ p ∈ l, P p) {k : Nat} (hk : k < l.length) : P (l.getD k default) := h _ (getD_mem' hk)
theorem loopE_good (l : List TPoint) (hp : ∀ p ∈ l, P300 p) (hl : 0 < l.length) : ∀ n k, k + n ≤ l.length → ∀ e ∈ loopE l n k, OkE e ∧ Small e
  | 0, k, _, e, he => by cases he
  | n + 1, k, hk, e, he => by
    rcases List.mem_cons.1 he with rfl | he
    · exact line_ok (getD_P hp (by omega)) (getD_P hp (Nat.mod_lt _ hl))
    · exact loopE_good l hp hl n (k + 1) (by omega) e he
theorem loop_ok {l : List TPoint} (h2 : 2 ≤ l.length ∧ l.length ≤ 8) (hp : ∀ p ∈ l, P300 p) : SmallS (FLoop l) := by
  rw [loop_eq l (by omega)]
  have hg := loopE_good l hp (by omega) l.length 0 (by omega)
  have hlen := loopE_len l l.length 0
  refine ⟨⟨⟨.inr rfl, ⟨by simp only [hlen]; omega, by simp only [hlen]; omega⟩, fun _ => by simp only [hlen]; omega⟩, fun e he => (hg e he).1, ?_, ⟨Int.le_refl 0, (by decide : (0 : Int) ≤ 4194304)⟩, fun _ => rfl⟩, fun e he => (hg e he).2, (by decide : (0 : Int) ≤ 40), by simp only [hlen]; omega⟩
  refine (joined_iff (fun h => ?_)).2 ⟨_, _, loopE_ch l l.length 0 (by omega) (by omega), fun _ => rfl⟩
  have : (loopE l l.length 0).length = 0 := by rw [show loopE l l.length 0 = [] from h]; rfl
  omega
theorem rect_ok {r : TRect} (h : ((-300 ≤ r.X0 ∧ r.X0 ≤ 300) ∧ -300 ≤ r.Y0 ∧ r.Y0 ≤ 300) ∧ (-300 ≤ r.X1 ∧ r.X1 ≤ 300) ∧ -300 ≤ r.Y1 ∧ r.Y1 ≤ 300) : SmallS (FRectR r) := by
  unfold FRectR wRectR_0
  refine loop_ok ⟨by simp, by simp⟩ fun p hp => ?_
  simp only [List.mem_cons, List.not_mem_nil, or_false] at hp
  unfold P300
  rcases hp with rfl | rfl | rfl | rfl <;> simp only <;> omega
theorem okS_area {l : List TEdge} (h2 : 2 ≤ l.length ∧ l.length ≤ 8) (hg : ∀ e ∈ l, OkE e ∧ Small e) {a : TPoint} (hc : Ch a l a) : SmallS ⟨2, l, 0⟩ := by
  refine ⟨⟨⟨.inr rfl, ⟨by simp only; omega, by simp only; omega⟩, fun _ => by simp only; omega⟩, fun e he => (hg e he).1, ?_, ⟨Int.le_refl 0, (by decide : (0 : Int) ≤ 4194304)⟩, fun _ => rfl⟩, fun e he => (hg e he).2, (by decide : (0 : Int) ≤ 40), h2.2⟩
  refine (joined_iff (fun h => ?_)).2 ⟨_, _, hc, fun _ => rfl⟩
  have : l.length = 0 := by rw [show l = [] from h]; rfl
  omega
theorem circle_ok {c : TPoint} {r k : Int} (hc : (-100 ≤ c.X ∧ c.X ≤ 100) ∧ -100 ≤ c.Y ∧ c.Y ≤ 100) (hr : 1 ≤ r ∧ r ≤ 100) (hk : k = 2 ∨ k = 3) : SmallS (FCircle c r k) := by
  have h3 : P300 c := by unfold P300; omega
  have hg := fun t ht => arc_good c r t k ⟨.inr trivial, h3⟩ (by omega) ht hk (by omega)
  have he := fun t ht => arc_eq c r t k h3 (by omega) ht hk
  unfold FCircle wCircle_0 wCircle_1 wCircle_2
  simp only [List.cons_append, List.nil_append]
  rcases hk with rfl | rfl
  · simp only [show decide ((2 : Int) = 3) = false from rfl, cond_false]
    refine okS_area ⟨by simp, by simp⟩ (fun e he => ?_) (a := ⟨c.X + px r 0, c.Y + py r 0⟩) ?_
    · simp only [List.mem_cons, List.not_mem_nil, or_false] at he
      rcases he with rfl | rfl | rfl | rfl
      · exact hg 0 (by decide)
      · exact hg 1 (by decide)
      · exact hg 2 (by decide)
      · exact hg 3 (by decide)
    · rw [he 0 (by decide), he 1 (by decide), he 2 (by decide), he 3 (by decide)]
      refine ⟨rfl, rfl, rfl, rfl, rfl⟩
  · rw [show decide ((3 : Int) = 3) = true from rfl]
    simp only [cond_true]
    refine okS_area ⟨by simp, by simp⟩ (fun e he => ?_) (a := ⟨c.X + px r 4, c.Y + py r 4⟩) ?_
    · simp only [List.mem_cons, List.not_mem_nil, or_false] at he
      rcases he with rfl | rfl | rfl | rfl
      · exact hg 4 (by decide)
      · exact hg 3 (by decide)
      · exact hg 2 (by decide)
      · exact hg 1 (by decide)
    · rw [he 4 (by decide), he 3 (by decide), he 2 (by decide), he 1 (by decide)]
      refine ⟨rfl, rfl, rfl, rfl, rfl⟩
theorem rounded_ok {b : TRect} {r : Int} (h0 : (-100 ≤ b.X0 ∧ b.X0 ≤ 100) ∧ -100 ≤ b.Y0 ∧ b.Y0 ≤ 100) (h1 : (b.X0 ≤ b.X1 ∧ b.X1 ≤ b.X0 + 80) ∧ b.Y0 ≤ b.Y1 ∧ b.Y1 ≤ b.Y0 + 80) (hr : 1 ≤ r ∧ r ≤ 6) : SmallS (FRounded b r) := by
  have w : ∀ x : Int, -1000 ≤ x ∧ x ≤ 1000 → W64 x = x := fun x hx => W64_id (by omega) (by omega)
  have k2 : (2 : Int) = 2 ∨ (2 : Int) = 3 := .inl rfl
  have he := fun (c : TPoint) (t : Int) (hc : P300 c) ht => arc_eq c r t 2 hc (by omega) ht k2
  have hg := fun (c : TPoint) (t : Int) (hc : P300 c) ht hb => arc_good c r t 2 ⟨.inr trivial, hc⟩ (by omega) ht k2 hb
  unfold FRounded wRounded_2 wRounded_4 wRounded_6 wRounded_8 wRounded_0 wRounded_1 wRounded_3 wRounded_5 wRounded_7
  rw [w (b.X1 - r) (by omega), w (b.Y0 + r) (by omega), w (b.Y1 - r) (by omega), w (b.X0 + r) (by omega)]
  simp only [List.cons_append, List.nil_append]
  have p1 : P300 ⟨b.X1 - r, b.Y0 + r⟩ := by unfold P300; simp only; omega
  have p2 : P300 ⟨b.X1 - r, b.Y1 - r⟩ := by unfold P300; simp only; omega
  have p3 : P300 ⟨b.X0 + r, b.Y1 - r⟩ := by unfold P300; simp only; omega
  have p4 : P300 ⟨b.X0 + r, b.Y0 + r⟩ := by unfold P300; simp only; omega
  have g1 := hg ⟨b.X1 - r, b.Y0 + r⟩ 3 p1 (by decide) (by simp only; omega)
  have g2 := hg ⟨b.X1 - r, b.Y1 - r⟩ 4 p2 (by decide) (by simp only; omega)
  have g3 := hg ⟨b.X0 + r, b.Y1 - r⟩ 5 p3 (by decide) (by simp only; omega)
  have g4 := hg ⟨b.X0 + r, b.Y0 + r⟩ 6 p4 (by decide) (by simp only; omega)
  have g5 := hg ⟨b.X1 - r, b.Y0 + r⟩ 7 p1 (by decide) (by simp only; omega)
  refine okS_area ⟨by simp, by simp⟩ (fun e he' => ?_) (a := (Fref06Arc ⟨b.X1 - r, b.Y0 + r⟩ r 3 2).A) ?_
  · simp only [List.mem_cons, List.not_mem_nil, or_false] at he'
    rcases he' with rfl | rfl | rfl | rfl | rfl | rfl | rfl | rfl
    · exact g1
    · exact line_ok g1.2.2.1 g2.2.1
    · exact g2
    · exact line_ok g2.2.2.1 g3.2.1
    · exact g3
    · exact line_ok g3.2.2.1 g4.2.1
    · exact g4
    · exact line_ok g4.2.2.1 g5.2.1
  · refine ⟨rfl, rfl, rfl, rfl, rfl, rfl, rfl, rfl, ?_⟩
    show (Fref06Arc ⟨b.X1 - r, b.Y0 + r⟩ r 7 2).A = _
    rw [he _ 7 p1 (by decide), he _ 3 p1 (by decide)]
    rfl
def PT (b : Int) (p : TPoint) : Prop := (-b ≤ p.X ∧ p.X ≤ b) ∧ -b ≤ p.Y ∧ p.Y ≤ b
theorem add5 {a b : TPoint} (ha : PT 1000 a) (hb : PT 1000 b) : Fref05Add a b = ⟨a.X + b.X, a.Y + b.Y⟩ := by
  unfold PT at *
  unfold Fref05Add
  rw [W64_id (by omega) (by omega), W64_id (by omega) (by omega)]
theorem sub5 {a b : TPoint} (ha : PT 1000 a) (hb : PT 1000 b) : Fref05Sub a b = ⟨a.X - b.X, a.Y - b.Y⟩ := by
  unfold PT at *
  unfold Fref05Sub
  rw [W64_id (by omega) (by omega), W64_id (by omega) (by omega)]
theorem dir5 {r t : Int} (hr : 0 ≤ r ∧ r ≤ 100) (ht : 0 ≤ t ∧ t ≤ 3) : Fref05Apply ⟨⟨0, 0⟩, t, false⟩ ⟨r, 0⟩ = ⟨px r t, py r t⟩ := by
  have t4 : t = 0 ∨ t = 1 ∨ t = 2 ∨ t = 3 := by omega
  have e0 : Fref05Turns 0 = 0 := by decide +kernel
  have e1 : Fref05Turns 1 = 1 := by decide +kernel
  have e2 : Fref05Turns 2 = 2 := by decide +kernel
  have e3 : Fref05Turns 3 = 3 := by decide +kernel
  unfold Fref05Apply wref05Apply_0 Fref05Add Fref05mirrored
  rcases t4 with rfl | rfl | rfl | rfl <;>
    simp only [px, py, Int.reduceMod, Int.reduceEq, decide_true, decide_false, cond_true, cond_false, if_true, if_false, Fref05turned, e0, e1, e2, e3, W64_def, TPoint.mk.injEq] <;> omega
theorem step_ok {v0 : TDraw} {v3 : TPoint} {b : Int} (hb : 0 ≤ b ∧ b ≤ 200) (h : PT b v3) : (OkE (wpathOf_26 v0 v3) ∧ Small (wpathOf_26 v0 v3)) ∧ (wpathOf_26 v0 v3).A = v3 ∧ PT (b + 40) (wpathOf_26 v0 v3).B := by
  unfold wpathOf_26
  cases hc : decide ((((FNext ((FNear v0 40).2) 3).1) : Int) = 0) with
  | false =>
    simp only [cond_false]
    unfold wpathOf_16 Fref09line
    have hn := near_b v0 40 (by decide) (by decide)
    generalize (FNear v0 40).1 = q at *
    have e := add5 (a := v3) (b := q) (by unfold PT at *; omega) (by unfold PT; omega)
    rw [e]
    refine ⟨line_ok (by unfold PT at h; unfold P300; omega) (by unfold PT at h; unfold P300; simp only; omega), rfl, ?_⟩
    unfold PT at *
    simp only
    omega
  | true =>
    simp only [cond_true]
    unfold wpathOf_25 wpathOf_23
    have b4 := next_b (wpathOf_19 v0) 4 (by decide) (by decide)
    have b30 := next_b (FNext ((FNear v0 40).2) 3).2 30 (by decide) (by decide)
    have bt := next_b (FNext (wpathOf_19 v0) 4).2 4 (by decide) (by decide)
    have b2 := next_b (wpathOf_22 v0) 2 (by decide) (by decide)
    generalize (FNext (FNext ((FNear v0 40).2) 3).2 30).1 = n30 at *
    generalize (FNext (FNext (wpathOf_19 v0) 4).2 4).1 = t at *
    generalize (FNext (wpathOf_22 v0) 2).1 = n2 at *
    generalize (FNext (wpathOf_19 v0) 4).1 = n4 at *
    have w30 : W64 (1 + n30) = 1 + n30 := W64_id (by omega) (by omega)
    have w2 : W64 (2 + n2) = 2 + n2 := W64_id (by omega) (by omega)
    rw [w30, w2]
    have hr : 1 ≤ ([5, 10, 25, 1 + n30] : List Int).getD n4.toNat 0 ∧ ([5, 10, 25, 1 + n30] : List Int).getD n4.toNat 0 ≤ 30 := by
      have : n4 = 0 ∨ n4 = 1 ∨ n4 = 2 ∨ n4 = 3 := by omega
      rcases this with rfl | rfl | rfl | rfl
      · exact (by decide : (1 : Int) ≤ 5 ∧ (5 : Int) ≤ 30)
      · exact (by decide : (1 : Int) ≤ 10 ∧ (10 : Int) ≤ 30)
      · exact (by decide : (1 : Int) ≤ 25 ∧ (25 : Int) ≤ 30)
      · show 1 ≤ 1 + n30 ∧ 1 + n30 ≤ 30; omega
    generalize ([5, 10, 25, 1 + n30] : List Int).getD n4.toNat 0 = r at *
    have hpx : (-r ≤ px r t ∧ px r t ≤ r) ∧ -r ≤ py r t ∧ py r t ≤ r := by unfold px py; (repeat' split) <;> omega
    rw [dir5 (by omega) (by omega), sub5 (a := v3) (by unfold PT at *; omega) (by unfold PT; simp only; omega)]
    have hk : 2 + n2 = 2 ∨ 2 + n2 = 3 := by omega
    have hP : P300 ⟨v3.X - px r t, v3.Y - py r t⟩ := by unfold PT at h; unfold P300; simp only; omega
    have hg := arc_good ⟨v3.X - px r t, v3.Y - py r t⟩ r t (2 + n2) ⟨.inr trivial, hP⟩ (by omega) (by omega) hk (by unfold PT at h; simp only; omega)
    have he := arc_eq ⟨v3.X - px r t, v3.Y - py r t⟩ r t (2 + n2) hP (by omega) (by omega) hk
    refine ⟨hg, ?_, ?_⟩
    · rw [he]
      simp only
      obtain ⟨x, y⟩ := v3
      simp only [TPoint.mk.injEq]
      omega
    · rw [he]
      have t4 : t = 0 ∨ t = 1 ∨ t = 2 ∨ t = 3 := by omega
      unfold PT at *
      simp only
      rcases t4 with rfl | rfl | rfl | rfl <;> rcases hk with hk | hk <;> rw [hk] <;>
        simp only [px, py, nx, Int.reduceAdd, Int.reduceMod, Int.reduceEq, if_true, if_false] <;> omega
theorem path_l0 (d : TDraw) (at_ : TPoint) : ∀ (n k : Nat) (es : List TEdge) (v3 : TPoint) (v0 : TDraw), es.length = k → (k : Int) ≤ W64 (1 + (FNext d 3).1) → (W64 (1 + (FNext d 3).1) - k).toNat < n → (∀ e ∈ es, OkE e ∧ Small e) → Ch at_ es v3 → PT (100 + 40 * k) v3 →
    ∃ es' v3' r, (FpathOf_l0 d at_ n es v3 v0 (k : Int)).1 = ⟨1, es', r⟩ ∧ (es'.length : Int) = W64 (1 + (FNext d 3).1) ∧ (∀ e ∈ es', OkE e ∧ Small e) ∧ Ch at_ es' v3' ∧ 0 ≤ r ∧ r < 12
  | 0, k, es, v3, v0, _, _, hn, _, _, _ => by omega
  | n + 1, k, es, v3, v0, hl, hk, hn, hg, hc, hp => by
    unfold FpathOf_l0
    have b3 := next_b d 3 (by decide) (by decide)
    have w3 : W64 (1 + (FNext d 3).1) = 1 + (FNext d 3).1 := W64_id (by omega) (by omega)
    by_cases hlt : (k : Int) < W64 (1 + (FNext d 3).1)
    · rw [decide_eq_true hlt]
      simp only [cond_true]
      obtain ⟨g, ga, gb⟩ := step_ok (v0 := v0) (v3 := v3) (b := 100 + 40 * k) (by omega) hp
      have := path_l0 d at_ n (k + 1) (es ++ [wpathOf_26 v0 v3]) (wpathOf_27 v0 v3) (bif decide ((((FNext ((FNear v0 40).2) 3).1) : Int) = 0) then ((FNext (wpathOf_22 v0) 2).2) else ((FNext ((FNear v0 40).2) 3).2)) (by simp [hl]) (by omega) (by omega) (fun e he => by
        rcases List.mem_append.1 he with he | he
        · exact hg e he
        · rw [List.mem_singleton.1 he]; exact g) (ch_append.2 ⟨v3, hc, ga, rfl⟩) (by
          have : wpathOf_27 v0 v3 = (wpathOf_26 v0 v3).B := rfl
          rw [this]
          unfold PT at *
          omega)
      rw [show ((k : Int) + 1) = ((k + 1 : Nat) : Int) by omega]
      exact this
    · rw [decide_eq_false hlt]
      simp only [cond_false]
      have b12 := next_b v0 12 (by decide) (by decide)
      exact ⟨es, v3, _, rfl, by omega, hg, hc, b12.1, b12.2⟩
theorem path_ok (d : TDraw) {at_ : TPoint} (h : PT 100 at_) : SmallS (FpathOf d at_).1 := by
  unfold FpathOf
  have b3 := next_b d 3 (by decide) (by decide)
  have w3 : W64 (1 + (FNext d 3).1) = 1 + (FNext d 3).1 := W64_id (by omega) (by omega)
  obtain ⟨es, v3, r, he, hl, hg, hc, r1, r2⟩ := path_l0 d at_ ((W64 (1 + (FNext d 3).1) - 0).toNat + 1) 0 [] at_ ((FNext d 3).2) rfl (by omega) (by omega) (fun e he => by cases he) rfl (by simpa using h)
  rw [show ((0 : Nat) : Int) = 0 from rfl] at he
  rw [he]
  have hl1 : 1 ≤ es.length ∧ es.length ≤ 3 := by omega
  refine ⟨⟨⟨.inl rfl, ⟨hl1.1, by simp only; omega⟩, fun h => by cases h⟩, fun e he => (hg e he).1, ?_, ⟨r1, by simp only; omega⟩, fun h => by cases h⟩, fun e he => (hg e he).2, by simp only; omega, by simp only; omega⟩
  exact (joined_iff (fun h => by have : es = [] := h; rw [this] at hl1; simp at hl1)).2 ⟨_, _, hc, fun h => by cases h⟩
theorem pts_l0 (l : List Int) (hat : PT 100 (wMade9_3 l)) : ∀ (n k : Nat) (ps : List TPoint) (v3 : TDraw), ps.length = k → (k : Int) ≤ W64 (2 + (FNext (FNext (FNext (wMade9_2 l) 60).2 60).2 4).1) → (W64 (2 + (FNext (FNext (FNext (wMade9_2 l) 60).2 60).2 4).1) - k).toNat < n → (∀ p ∈ ps, P300 p) → SmallS (FMade9_l0 l n ps v3 (k : Int))
  | 0, k, ps, v3, _, _, hn, _ => by omega
  | n + 1, k, ps, v3, hl, hk, hn, hp => by
    unfold FMade9_l0
    have b4 := next_b (FNext (FNext (wMade9_2 l) 60).2 60).2 4 (by decide) (by decide)
    have w4 : W64 (2 + (FNext (FNext (FNext (wMade9_2 l) 60).2 60).2 4).1) = 2 + (FNext (FNext (FNext (wMade9_2 l) 60).2 60).2 4).1 := W64_id (by omega) (by omega)
    by_cases hlt : (k : Int) < W64 (2 + (FNext (FNext (FNext (wMade9_2 l) 60).2 60).2 4).1)
    · rw [decide_eq_true hlt]
      simp only [cond_true]
      have hq := near_b v3 30 (by decide) (by decide)
      have hadd : P300 (Fref05Add (wMade9_3 l) ((FNear v3 30).1)) := by
        rw [add5 (by unfold PT at *; omega) (by unfold PT; omega)]
        unfold PT at hat
        unfold P300
        simp only
        omega
      rw [show ((k : Int) + 1) = ((k + 1 : Nat) : Int) by omega]
      exact pts_l0 l hat n (k + 1) _ _ (by simp [hl]) (by omega) (by omega) fun p hp' => by
        rcases List.mem_append.1 hp' with h | h
        · exact hp p h
        · rw [List.mem_singleton.1 h]; exact hadd
    · rw [decide_eq_false hlt]
      simp only [cond_false]
      exact loop_ok (by omega) hp
theorem made9_ok (l : List Int) : SmallS (FMade9 l) := by
  have hat : PT 100 (wMade9_3 l) := near_b (FNext (TDraw.mk l 0) 7).2 100 (by decide) (by decide)
  have b60 := next_b (wMade9_2 l) 60 (by decide) (by decide)
  have c60 := next_b (FNext (wMade9_2 l) 60).2 60 (by decide) (by decide)
  have ew : W64 (((wMade9_3 l).X) + (W64 (12 + ((FNext (wMade9_2 l) 60).1)))) = (wMade9_3 l).X + (12 + (FNext (wMade9_2 l) 60).1) := by
    unfold PT at hat
    rw [W64_id (x := 12 + _) (by omega) (by omega), W64_id (by omega) (by omega)]
  have eh : W64 (((wMade9_3 l).Y) + (W64 (12 + ((FNext ((FNext (wMade9_2 l) 60).2) 60).1)))) = (wMade9_3 l).Y + (12 + (FNext (FNext (wMade9_2 l) 60).2 60).1) := by
    unfold PT at hat
    rw [W64_id (x := 12 + _) (by omega) (by omega), W64_id (by omega) (by omega)]
  unfold FMade9
  generalize (FNext (TDraw.mk l 0) 7).1 = n
  cases decide (n = 0) with
  | true =>
    simp only [cond_true]
    have b := next_b (FNext (FNext (wMade9_2 l) 60).2 60).2 40 (by decide) (by decide)
    exact disc_ok (by unfold PT at hat; unfold P300; omega) (by omega)
  | false =>
    simp only [cond_false]
    cases decide (n = 1) with
    | true =>
      simp only [cond_true]
      unfold wMade9_9
      rw [ew, eh]
      exact rect_ok (by unfold PT at hat; simp only; omega)
    | false =>
      simp only [cond_false]
      cases (bif decide (n = 2) then (decide (n = 2)) else (decide (n = 3))) with
      | true => simp only [cond_true]; exact path_ok _ hat
      | false =>
        simp only [cond_false]
        cases decide (n = 4) with
        | true =>
          simp only [cond_true]
          have b4 := next_b (FNext (FNext (wMade9_2 l) 60).2 60).2 4 (by decide) (by decide)
          have w4 : W64 (2 + (FNext (FNext (FNext (wMade9_2 l) 60).2 60).2 4).1) = 2 + (FNext (FNext (FNext (wMade9_2 l) 60).2 60).2 4).1 := W64_id (by omega) (by omega)
          exact pts_l0 l hat _ 0 [] _ rfl (by omega) (by omega) fun p hp => by cases hp
        | false =>
          simp only [cond_false]
          cases decide (n = 5) with
          | true =>
            simp only [cond_true]
            unfold wMade9_20
            have b40 := next_b (FNext (FNext (wMade9_2 l) 60).2 60).2 40 (by decide) (by decide)
            have b5 := next_b (wMade9_7 l) 5 (by decide) (by decide)
            have b2 := next_b (FNext (wMade9_7 l) 5).2 2 (by decide) (by decide)
            generalize (FNext (FNext (FNext (wMade9_2 l) 60).2 60).2 40).1 = n40 at *
            generalize (FNext (FNext (wMade9_7 l) 5).2 2).1 = n2 at *
            generalize (FNext (wMade9_7 l) 5).1 = n5 at *
            rw [W64_id (x := 1 + n40) (by omega) (by omega), W64_id (x := 2 + n2) (by omega) (by omega)]
            refine circle_ok hat ?_ (by omega)
            have : n5 = 0 ∨ n5 = 1 ∨ n5 = 2 ∨ n5 = 3 ∨ n5 = 4 := by omega
            rcases this with rfl | rfl | rfl | rfl | rfl
            · exact (by decide : (1 : Int) ≤ 5 ∧ (5 : Int) ≤ 100)
            · exact (by decide : (1 : Int) ≤ 10 ∧ (10 : Int) ≤ 100)
            · exact (by decide : (1 : Int) ≤ 25 ∧ (25 : Int) ≤ 100)
            · exact (by decide : (1 : Int) ≤ 65 ∧ (65 : Int) ≤ 100)
            · show 1 ≤ 1 + n40 ∧ 1 + n40 ≤ 100; omega
          | false =>
            simp only [cond_false]
            unfold wMade9_23
            have b5 := next_b (FNext (FNext (wMade9_2 l) 60).2 60).2 5 (by decide) (by decide)
            rw [ew, eh, W64_id (x := 1 + _) (by omega) (by omega)]
            exact rounded_ok hat (by unfold PT at hat; simp only; omega) (by omega)
theorem made9_len (l : List Int) : 1 ≤ (FMade9 l).Edges.length ∧ (FMade9 l).Edges.length ≤ 8 := ⟨(made9_ok l).1.1.2.1.1, (made9_ok l).2.2.2⟩
end Go.Proofs.Ytpnlegfdkkcnlaa
namespace Go.Proofs.Ytpnlegfdkkcnlaa
set_option maxRecDepth 100000
open Go.RowKit
set_option linter.unusedVariables false
set_option linter.unusedSimpArgs false
def wShapePoints_12 (l : (List Int)) (m : (List Int)) (step : Int) (x_ : Int) (y : Int) : TPoint := Flaw09pt (W64 (((FAt9 (FMade9 l) m).X) + (W64 ((W64 (1 + (Int.tmod (W64 (step)) 8))) * x_)))) (W64 (((FAt9 (FMade9 l) m).Y) + (W64 ((W64 (1 + (Int.tmod (W64 (step)) 8))) * y))))
def wShapePoints_13 (l : (List Int)) (m : (List Int)) (step : Int) (x_ : Int) (y : Int) : Bool := FInsideS (FMade9 l) (wShapePoints_12 l m step x_ y)
def wShapePoints_14 (l : (List Int)) (m : (List Int)) (step : Int) (x_ : Int) (y : Int) : Bool := FInsideR (FMade9 l) (wShapePoints_12 l m step x_ y)
def wShapePoints_15 (l : (List Int)) (m : (List Int)) (step : Int) (x_ : Int) (y : Int) : Bool := !((wShapePoints_13 l m step x_ y) == (wShapePoints_14 l m step x_ y))
def FShapePoints_l1 (l : (List Int)) (m : (List Int)) (step : Int) (x_ : Int) (K0 : Int → Bool) : Nat → Int → Bool
  | 0, _ => default
  | n1 + 1, y => bif decide ((y : Int) ≤ 3) then (bif wShapePoints_15 l m step x_ y then (false) else ((FShapePoints_l1 l m step x_ K0 n1) (y + 1))) else (K0 (x_ + 1))
def FShapePoints_l0 (l : (List Int)) (m : (List Int)) (step : Int) : Nat → Int → Bool
  | 0, _ => default
  | n0 + 1, x_ => bif decide ((x_ : Int) ≤ 3) then (FShapePoints_l1 l m step x_ (FShapePoints_l0 l m step n0) (((3 + 1) - ((-3))).toNat + 1) ((-3))) else (Fsanity9)
def FShapePoints (l : (List Int)) (m : (List Int)) (step : Int) : Bool := FShapePoints_l0 l m step (((3 + 1) - ((-3))).toNat + 1) ((-3))
def cShapePoints (l : (List Int)) (m : (List Int)) (step : Int) : FuncId × List Av × Ef := (3, [.one (lst 1 (fun x => [.i x]) l), .one (lst 1 (fun x => [.i x]) m), .one (.val (.int .u8 step))], .val [] (.av (.one (.b (FShapePoints l m step)))))
theorem pShapePoints (l : (List Int)) (m : (List Int)) (step : Int) (hl : (l.length : Int) ≤ 9223372036854775807) (hm : (m.length : Int) ≤ 9223372036854775807) (hs : 0 ≤ step ∧ step ≤ 255) : Pure Try.prog 3 (cShapePoints l m step).2.1 (.av (.one (.b (FShapePoints l m step)))) := by
  refine pure_of_awF Try.func3 rfl (by kernel_rfl) (by kernel_rfl) fun W0 M0 => ?_
  have hL := made9_len l
  refine aw_seq ?_
  refine aw_region eqok [] [] [] [0, 1, 2] [] [] ⟨[(0, .av (.one (lst 1 (fun x => [.i x]) l))), (1, .av (.one (lst 1 (fun x => [.i x]) m))), (2, .av (.one (.val (.int .u8 step))))], []⟩ .nil (by kernel_rfl) .nil <| ath_n <| aw_seq ?_
  refine aw_region eqok [] [] [(14, csanity9)] [0, 1, 2, 7] [] [Same (csanity9).2.1] ⟨[(0, .av (.one (lst 1 (fun x => [.i x]) l))), (1, .av (.one (lst 1 (fun x => [.i x]) m))), (2, .av (.one (.val (.int .u8 step)))), (7, tB Fsanity9)], []⟩ (.cons (oksanity9) .nil) (by kernel_rfl) (.cons rfl .nil) <| ath_n <| aw_seq ?_
  refine aw_region eqok [] [] [(16, cMade9 l)] [1, 2, 7, 8] [8] [Same (cMade9 l).2.1] ⟨[(1, .av (.one (lst 1 (fun x => [.i x]) m))), (2, .av (.one (.val (.int .u8 step)))), (7, tB Fsanity9), (8, tP 8 0)], [(8, .cells (TShape.c (FMade9 l)) 26)]⟩ (.cons (okMade9 l au0) .nil) (by kernel_rfl) (.cons rfl .nil) <| ath_n <| aw_seq ?_
  refine aw_region eqok [] [] [(19, cAt9 (FMade9 l) m)] [2, 7, 8, 9] [8, 9] [Same (cAt9 (FMade9 l) m).2.1] ⟨[(2, .av (.one (.val (.int .u8 step)))), (7, tB Fsanity9), (8, tP 8 0), (9, tP 9 0)], [(8, .cells (TShape.c (FMade9 l)) 26), (9, .cells (TPoint.c (FAt9 (FMade9 l) m)) 29)]⟩ (.cons (okAt9 (FMade9 l) m au0 au0) .nil) (by kernel_rfl) (.cons rfl .nil) <| ath_n <| aw_seq ?_
  refine aw_region eqok [] [] [] [7, 8, 9, 10] [8, 9] [(8 : Int) ≠ 0] ⟨[(7, tB Fsanity9), (8, tP 8 0), (9, tP 9 0), (10, tI (W64 (1 + (Int.tmod (W64 (step)) 8))))], [(8, .cells (TShape.c (FMade9 l)) 26), (9, .cells (TPoint.c (FAt9 (FMade9 l) m)) 29)]⟩ .nil (by kernel_rfl) (.cons au6 .nil) <| ath_n ?_
  refine aw_seq <| aw_seq ?_
  refine aw_region eqok [] [] [] [7, 8, 9, 10, 11] [8, 9] [] ⟨[(7, tB Fsanity9), (8, tP 8 0), (9, tP 9 0), (10, tI (W64 (1 + (Int.tmod (W64 (step)) 8)))), (11, tI ((-3)))], [(8, .cells (TShape.c (FMade9 l)) 26), (9, .cells (TPoint.c (FAt9 (FMade9 l) m)) 29)]⟩ .nil (by kernel_rfl) .nil <| ath_n <| aw_block ?_
  refine aw_loopC (ι := Nat × Int) (fun x => ⟨[(7, tB Fsanity9), (8, tP 8 0), (9, tP 9 0), (10, tI (W64 (1 + (Int.tmod (W64 (step)) 8)))), (11, tI x.2)], [(8, .cells (TShape.c (FMade9 l)) 26), (9, .cells (TPoint.c (FAt9 (FMade9 l) m)) 29)]⟩) (fun x => ((3 + 1) - x.2).toNat < x.1 ∧ ((-3) ≤ x.2 ∧ (x.2 ≤ 3 + 1 ∨ x.2 = (-3))) ∧ FShapePoints_l0 l m step x.1 x.2 = FShapePoints l m step) (fun x => x.1) ?_ (((3 + 1) - ((-3))).toNat + 1, (-3)) ⟨Nat.lt_succ_self _, ⟨(by show (-3) ≤ ((-3)); first | trivial | omega | (simp only [List.length_append, List.length_cons, List.length_nil]; omega) | (simp only [List.length_set, List.length_append, List.length_cons, List.length_nil]; omega) | (simp only [W64_def]; omega) | (simp; omega) | simp), (by show (((-3)) ≤ 3 + 1 ∨ ((-3)) = (-3)); first | trivial | omega | (simp only [List.length_append, List.length_cons, List.length_nil]; omega) | (simp only [List.length_set, List.length_append, List.length_cons, List.length_nil]; omega) | (simp only [W64_def]; omega) | (simp; omega) | simp)⟩, (by simp only [FShapePoints, cond_true, cond_false])⟩
  rintro ⟨n0, x_⟩ ⟨hn, hinv, hF⟩
  have hm0 : ((3 + 1) - x_).toNat < n0 := hn; have hinv0 : (-3) ≤ x_ ∧ (x_ ≤ 3 + 1 ∨ x_ = (-3)) := hinv; have hF0 : FShapePoints_l0 l m step n0 x_ = FShapePoints l m step := hF; clear hn hinv hF
  cases n0 with
  | zero => exact absurd hm0 (Nat.not_lt_zero _)
  | succ n0 =>
    refine aw_seq <| aw_seq ?_
    refine aw_region eqok [] [] [] [7, 8, 9, 10, 11, 25] [8, 9] [] ⟨[(7, tB Fsanity9), (8, tP 8 0), (9, tP 9 0), (10, tI (W64 (1 + (Int.tmod (W64 (step)) 8)))), (11, tI x_), (25, tB (decide ((x_ : Int) ≤ 3)))], [(8, .cells (TShape.c (FMade9 l)) 26), (9, .cells (TPoint.c (FAt9 (FMade9 l) m)) 29)]⟩ .nil (by kernel_rfl) .nil <| ath_n ?_
    refine aw_cond (decide ((x_ : Int) ≤ 3)) (by kernel_rfl) (fun h1 => ?_) (fun h1 => ?_)
    · have g1 := of_decide_eq_true h1
      refine aw_skip <| ath_n ?_
      refine aw_seq <| aw_block <| aw_seq ?_
      refine aw_region eqok [] [] [] [7, 8, 9, 10, 11, 12] [8, 9] [] ⟨[(7, tB Fsanity9), (8, tP 8 0), (9, tP 9 0), (10, tI (W64 (1 + (Int.tmod (W64 (step)) 8)))), (11, tI x_), (12, tI ((-3)))], [(8, .cells (TShape.c (FMade9 l)) 26), (9, .cells (TPoint.c (FAt9 (FMade9 l) m)) 29)]⟩ .nil (by kernel_rfl) .nil <| ath_n <| aw_block ?_
      refine aw_loopC (ι := Nat × Int) (fun x => ⟨[(7, tB Fsanity9), (8, tP 8 0), (9, tP 9 0), (10, tI (W64 (1 + (Int.tmod (W64 (step)) 8)))), (11, tI x_), (12, tI x.2)], [(8, .cells (TShape.c (FMade9 l)) 26), (9, .cells (TPoint.c (FAt9 (FMade9 l) m)) 29)]⟩) (fun x => ((3 + 1) - x.2).toNat < x.1 ∧ ((-3) ≤ x.2 ∧ (x.2 ≤ 3 + 1 ∨ x.2 = (-3))) ∧ FShapePoints_l1 l m step x_ (FShapePoints_l0 l m step n0) x.1 x.2 = FShapePoints l m step) (fun x => x.1) ?_ (((3 + 1) - ((-3))).toNat + 1, (-3)) ⟨Nat.lt_succ_self _, ⟨(by show (-3) ≤ ((-3)); first | trivial | omega | (simp only [List.length_append, List.length_cons, List.length_nil]; omega) | (simp only [List.length_set, List.length_append, List.length_cons, List.length_nil]; omega) | (simp only [W64_def]; omega) | (simp; omega) | simp), (by show (((-3)) ≤ 3 + 1 ∨ ((-3)) = (-3)); first | trivial | omega | (simp only [List.length_append, List.length_cons, List.length_nil]; omega) | (simp only [List.length_set, List.length_append, List.length_cons, List.length_nil]; omega) | (simp only [W64_def]; omega) | (simp; omega) | simp)⟩, (by rw [← hF0]; simp only [FShapePoints_l0, h1, cond_true, cond_false])⟩
      rintro ⟨n1, y⟩ ⟨hn, hinv, hF⟩
      have hm1 : ((3 + 1) - y).toNat < n1 := hn; have hinv1 : (-3) ≤ y ∧ (y ≤ 3 + 1 ∨ y = (-3)) := hinv; have hF1 : FShapePoints_l1 l m step x_ (FShapePoints_l0 l m step n0) n1 y = FShapePoints l m step := hF; clear hn hinv hF
      cases n1 with
      | zero => exact absurd hm1 (Nat.not_lt_zero _)
      | succ n1 =>
        refine aw_seq <| aw_seq ?_
        refine aw_region eqok [] [] [] [7, 8, 9, 10, 11, 12, 29] [8, 9] [] ⟨[(7, tB Fsanity9), (8, tP 8 0), (9, tP 9 0), (10, tI (W64 (1 + (Int.tmod (W64 (step)) 8)))), (11, tI x_), (12, tI y), (29, tB (decide ((y : Int) ≤ 3)))], [(8, .cells (TShape.c (FMade9 l)) 26), (9, .cells (TPoint.c (FAt9 (FMade9 l) m)) 29)]⟩ .nil (by kernel_rfl) .nil <| ath_n ?_
        refine aw_cond (decide ((y : Int) ≤ 3)) (by kernel_rfl) (fun h2 => ?_) (fun h2 => ?_)
        · have g2 := of_decide_eq_true h2
          refine aw_skip <| ath_n ?_
          refine aw_seq <| aw_block <| aw_seq ?_
          refine aw_region eqok [] [] [(44, claw09pt (W64 (((FAt9 (FMade9 l) m).X) + (W64 ((W64 (1 + (Int.tmod (W64 (step)) 8))) * x_)))) (W64 (((FAt9 (FMade9 l) m).Y) + (W64 ((W64 (1 + (Int.tmod (W64 (step)) 8))) * y)))))] [7, 8, 9, 10, 11, 12, 13] [8, 9, 13] [Same (claw09pt (W64 (((FAt9 (FMade9 l) m).X) + (W64 ((W64 (1 + (Int.tmod (W64 (step)) 8))) * x_)))) (W64 (((FAt9 (FMade9 l) m).Y) + (W64 ((W64 (1 + (Int.tmod (W64 (step)) 8))) * y))))).2.1] ⟨[(7, tB Fsanity9), (8, tP 8 0), (9, tP 9 0), (10, tI (W64 (1 + (Int.tmod (W64 (step)) 8)))), (11, tI x_), (12, tI y), (13, tP 13 0)], [(8, .cells (TShape.c (FMade9 l)) 26), (9, .cells (TPoint.c (FAt9 (FMade9 l) m)) 29), (13, .cells (TPoint.c (wShapePoints_12 l m step x_ y)) 29)]⟩ (.cons (oklaw09pt (W64 (((FAt9 (FMade9 l) m).X) + (W64 ((W64 (1 + (Int.tmod (W64 (step)) 8))) * x_)))) (W64 (((FAt9 (FMade9 l) m).Y) + (W64 ((W64 (1 + (Int.tmod (W64 (step)) 8))) * y))))) .nil) (by kernel_rfl) (.cons rfl .nil) <| ath_n <| aw_seq ?_
          refine aw_draw mixed eqok [] [] [(47, cInsideS (FMade9 l) (wShapePoints_12 l m step x_ y)), (50, cInsideR (FMade9 l) (wShapePoints_12 l m step x_ y))] [7, 8, 9, 10, 11, 12, 51] [8, 9] [Same (cInsideS (FMade9 l) (wShapePoints_12 l m step x_ y)).2.1, Same (cInsideR (FMade9 l) (wShapePoints_12 l m step x_ y)).2.1] ⟨[(7, tB Fsanity9), (8, tP 8 0), (9, tP 9 0), (10, tI (W64 (1 + (Int.tmod (W64 (step)) 8)))), (11, tI x_), (12, tI y), (51, tB (wShapePoints_15 l m step x_ y))], [(8, .cells (TShape.c (FMade9 l)) 26), (9, .cells (TPoint.c (FAt9 (FMade9 l) m)) 29)]⟩ (.cons (okInsideS (FMade9 l) (wShapePoints_12 l m step x_ y) au0) (.cons (okInsideR (FMade9 l) (wShapePoints_12 l m step x_ y) au0) .nil)) (by kernel_rfl) (by kernel_rfl) (.cons rfl (.cons rfl .nil)) <| ath_n ?_
          refine aw_cond (wShapePoints_15 l m step x_ y) (by kernel_rfl) (fun h3 => ?_) (fun h3 => ?_)
          · refine aw_seq ?_
            refine aw_region eqok [] [] [] [6] [] [] ⟨[(6, tB false)], []⟩ .nil (by kernel_rfl) .nil <| ath_n ?_
            refine aw_ret <| abl_r ?_
            refine ath_r <| ath_r ?_
            refine abl_r <| abl_r ?_
            refine ath_r <| ath_r ?_
            refine abl_r <| ath_r ?_
            exact ⟨_, Cv.refl _, .inl rfl, .av (.one (.b false)), by kernel_rfl, tve_eq (by rw [← hF1]; first | (simp only [FShapePoints_l1, h2, h3, cond_true, cond_false]; done) | (simp only [FShapePoints_l1, h2, h3, cond_true, cond_false]; rfl))⟩
          · refine aw_skip <| abl_n <| ath_n ?_
            refine aw_region eqok [] [] [] [7, 8, 9, 10, 11, 12] [8, 9] [] ⟨[(7, tB Fsanity9), (8, tP 8 0), (9, tP 9 0), (10, tI (W64 (1 + (Int.tmod (W64 (step)) 8)))), (11, tI x_), (12, tI (W64 (y + 1)))], [(8, .cells (TShape.c (FMade9 l)) 26), (9, .cells (TPoint.c (FAt9 (FMade9 l) m)) 29)]⟩ .nil (by kernel_rfl) .nil ?_
            (try rw [(show W64 (y + 1) = y + 1 from W64_id (by omega) au5)])
            refine ath_n ?_
            refine ⟨(n1, y + 1), ⟨?_, ?_, (by rw [← hF1]; simp only [FShapePoints_l1, h2, h3, cond_true, cond_false])⟩, Nat.lt_succ_self _, cv_eq (by kernel_rfl)⟩
            · show ((3 + 1) - (y + 1)).toNat < n1; omega
            · exact ⟨(by show (-3) ≤ (y + 1); first | trivial | omega | (simp only [List.length_append, List.length_cons, List.length_nil]; omega) | (simp only [List.length_set, List.length_append, List.length_cons, List.length_nil]; omega) | (simp only [W64_def]; omega) | (simp; omega) | simp), (by show ((y + 1) ≤ 3 + 1 ∨ (y + 1) = (-3)); first | trivial | omega | (simp only [List.length_append, List.length_cons, List.length_nil]; omega) | (simp only [List.length_set, List.length_append, List.length_cons, List.length_nil]; omega) | (simp only [W64_def]; omega) | (simp; omega) | simp)⟩
        · have g2 := of_decide_eq_false h2
          refine aw_exit <| ath_e ?_
          refine ath_e <| abl_hit ?_
          refine abl_n <| ath_n ?_
          refine aw_region eqok [] [] [] [7, 8, 9, 10, 11] [8, 9] [] ⟨[(7, tB Fsanity9), (8, tP 8 0), (9, tP 9 0), (10, tI (W64 (1 + (Int.tmod (W64 (step)) 8)))), (11, tI (W64 (x_ + 1)))], [(8, .cells (TShape.c (FMade9 l)) 26), (9, .cells (TPoint.c (FAt9 (FMade9 l) m)) 29)]⟩ .nil (by kernel_rfl) .nil ?_
          (try rw [(show W64 (x_ + 1) = x_ + 1 from W64_id (by omega) au5)])
          refine ath_n ?_
          refine ⟨(n0, x_ + 1), ⟨?_, ?_, (by rw [← hF1]; simp only [FShapePoints_l1, h2, cond_true, cond_false])⟩, Nat.lt_succ_self _, cv_eq (by kernel_rfl)⟩
          · show ((3 + 1) - (x_ + 1)).toNat < n0; omega
          · exact ⟨(by show (-3) ≤ (x_ + 1); first | trivial | omega | (simp only [List.length_append, List.length_cons, List.length_nil]; omega) | (simp only [List.length_set, List.length_append, List.length_cons, List.length_nil]; omega) | (simp only [W64_def]; omega) | (simp; omega) | simp), (by show ((x_ + 1) ≤ 3 + 1 ∨ (x_ + 1) = (-3)); first | trivial | omega | (simp only [List.length_append, List.length_cons, List.length_nil]; omega) | (simp only [List.length_set, List.length_append, List.length_cons, List.length_nil]; omega) | (simp only [W64_def]; omega) | (simp; omega) | simp)⟩
    · have g1 := of_decide_eq_false h1
      refine aw_exit <| ath_e ?_
      refine ath_e <| abl_hit ?_
      refine ath_n <| aw_seq ?_
      refine aw_region eqok [] [] [] [6] [] [] ⟨[(6, tB Fsanity9)], []⟩ .nil (by kernel_rfl) .nil <| ath_n <| aw_ret ?_
      exact ⟨_, Cv.refl _, .inl rfl, .av (.one (.b Fsanity9)), by kernel_rfl, tve_eq (by rw [← hF0]; first | (simp only [FShapePoints_l0, h1, cond_true, cond_false]; done) | (simp only [FShapePoints_l0, h1, cond_true, cond_false]; rfl))⟩
end Go.Proofs.Ytpnlegfdkkcnlaa
namespace Go.Proofs.Ytpnlegfdkkcnlaa
set_option maxRecDepth 100000
open Go.RowKit
set_option linter.unusedVariables false
set_option linter.unusedSimpArgs false
theorem lt_sq {r y : Int} (hr : 0 ≤ r) (h : r < y) : r * r < y * y := by
  have h1 := Int.mul_lt_mul_of_pos_right h (show 0 < y by omega)
  have h2 := Int.mul_le_mul_of_nonneg_left (Int.le_of_lt h) hr
  omega
theorem rad_arcM {e : TEdge} (h : OkE e) (hk : e.Kind ≠ 1) : RadM e = max (e.A.X - e.C.X) (-(e.A.X - e.C.X)) + max (e.A.Y - e.C.Y) (-(e.A.Y - e.C.Y)) := by
  unfold RadM; rw [if_pos ⟨h, hk⟩]
theorem sq_le {x r : Int} (hr : 0 ≤ r) (h : x * x ≤ r * r) : -r ≤ x ∧ x ≤ r := by
  constructor
  · refine Int.not_lt.1 fun hl => ?_
    have : r * r < (-x) * (-x) := lt_sq hr (by omega)
    have e : (-x) * (-x) = x * x := by grind
    omega
  · refine Int.not_lt.1 fun hl => ?_
    have : r * r < x * x := lt_sq hr (by omega)
    omega
theorem d2_le {p c : TPoint} {r : Int} (hr : 0 ≤ r) (h : d2 p c ≤ r * r) : (-r ≤ p.X - c.X ∧ p.X - c.X ≤ r) ∧ -r ≤ p.Y - c.Y ∧ p.Y - c.Y ≤ r := by
  have n1 := sq_nn (p.X - c.X); have n2 := sq_nn (p.Y - c.Y)
  unfold d2 at h
  exact ⟨sq_le hr (by omega), sq_le hr (by omega)⟩
end Go.Proofs.Ytpnlegfdkkcnlaa
namespace Go.Proofs.Ytpnlegfdkkcnlaa
set_option maxRecDepth 100000
open Go.RowKit
set_option linter.unusedVariables false
set_option linter.unusedSimpArgs false
theorem sub5v (a b : TPoint) : Fref05Sub a b = FvecSub a b := rfl
theorem dot5v (a b : TPoint) : Fref05Dot a b = FvecDot a b := rfl
theorem cross5v (a b : TPoint) : Fref05Cross a b = FvecCross a b := rfl
theorem far_eq {p c : TPoint} (hp : PB p) (hc : RP c) : FfarR p c = d2 p c := sq_eq hp hc
theorem sq_ok {x : Int} (h : -40673134134689792 ≤ x ∧ x ≤ 40673134134689792) : OkN (FsquareN x) (x * x) 5 := by
  have := of_ok (x := x) (by omega)
  exact mul_ok this this (by decide)
theorem most_ok {x y : Int} (hx : 0 ≤ x ∧ x ≤ 9223372036854775807) (hy : 0 ≤ y ∧ y ≤ 9223372036854775807) : OkN (FMulN (FOfN x) (FOfN y)).1 (x * y) 5 :=
  mul_ok (of_ok (by omega)) (of_ok (by omega)) (by decide)
theorem nearLine_eq {e : TEdge} {p : TPoint} {r : Int} (he : OkE e) (hk : e.Kind = 1) (hp : PB p) (hr : 0 ≤ r ∧ r ≤ 4194304) : FnearLine e p r = true ↔ NearM e p r := by
  obtain ⟨⟨ha, hb, hc⟩, hform⟩ := he
  have hrr := mul_up hr hr
  have er : W64 (r * r) = r * r := W64_id (by omega) (by omega)
  have dA := sub_pd hp ha
  have dBA := sub_pd (rp_pb hb) ha
  have eal : Fref05Dot (Fref05Sub p e.A) (Fref05Sub e.B e.A) = al e.A e.B p := by
    rw [sub5v, sub5v, dot5v, sub_pb hp ha, sub_pb (rp_pb hb) ha, dot_pd dA dBA]; rfl
  have elen : Fref05Dot (Fref05Sub e.B e.A) (Fref05Sub e.B e.A) = d2 e.B e.A := by
    rw [sub5v, dot5v, sub_pb (rp_pb hb) ha, dot_pd dBA dBA]; rfl
  have ecr : Fref05Cross (Fref05Sub e.B e.A) (Fref05Sub p e.A) = cr e.A e.B p := by
    rw [sub5v, sub5v, cross5v, sub_pb hp ha, sub_pb (rp_pb hb) ha, cross_pd dBA dA]; rfl
  unfold FnearLine NearM wnearLine_2 wnearLine_1 wnearLine_0
  rw [if_pos hk, far_eq hp ha, far_eq hp hb, er, eal, elen, ecr]
  have hcr : -40673134134689792 ≤ cr e.A e.B p ∧ cr e.A e.B p ≤ 40673134134689792 := by
    have b1 := b56 dBA.1 dA.2; have b2 := b56 dBA.2 dA.1
    unfold cr
    simp only at *
    omega
  have hlen := d2_b (rp_pb hb) ha
  have hcmp := cmp_ok (sq_ok hcr) (most_ok (x := r * r) (y := d2 e.B e.A) (by omega) (by omega)) (by decide) (by decide)
  rw [show decide (FCmpN (FsquareN (cr e.A e.B p)) (FMulN (FOfN (r * r)) (FOfN (d2 e.B e.A))).1 ≤ 0) = decide (cr e.A e.B p * cr e.A e.B p ≤ r * r * d2 e.B e.A) from decide_eq_decide.mpr hcmp]
  have hB : d2 p e.B = d2 p e.A - 2 * al e.A e.B p + d2 e.B e.A := by unfold d2 al; grind
  have hL : al e.A e.B p * al e.A e.B p + cr e.A e.B p * cr e.A e.B p = d2 p e.A * d2 e.B e.A := by unfold d2 al cr; grind
  have hL2 : (d2 e.B e.A - al e.A e.B p) * (d2 e.B e.A - al e.A e.B p) + cr e.A e.B p * cr e.A e.B p = d2 p e.B * d2 e.B e.A := by unfold d2 al cr; grind
  have nA := sq_nn (al e.A e.B p); have nB := sq_nn (d2 e.B e.A - al e.A e.B p)
  simp only [cnd_if, decide_eq_true_eq]
  by_cases h1 : al e.A e.B p ≤ 0
  · rw [if_pos h1, decide_eq_true_eq]
    constructor
    · exact fun h => .inl h
    · rintro (h | h | h)
      · exact h
      · omega
      · omega
  · rw [if_neg h1]
    by_cases h2 : d2 e.B e.A ≤ al e.A e.B p
    · rw [if_pos h2, decide_eq_true_eq]
      constructor
      · exact fun h => .inr (.inl h)
      · rintro (h | h | h)
        · omega
        · exact h
        · omega
    · rw [if_neg h2, decide_eq_true_eq]
      constructor
      · intro h; exact .inr (.inr ⟨⟨by omega, by omega⟩, h⟩)
      · rintro (h | h | h)
        · have := Int.mul_le_mul_of_nonneg_right h hlen.1
          omega
        · have := Int.mul_le_mul_of_nonneg_right h hlen.1
          omega
        · exact h.2
theorem within5_pd {d f t : TPoint} (hd : PD d) (hf : PD f) (ht : PD t) : Fref05Within d f t = true ↔ 0 ≤ f.X * d.Y - f.Y * d.X ∧ 0 ≤ d.X * t.Y - d.Y * t.X := by
  unfold Fref05Within
  rw [cross5v, cross5v, cross_pd hf hd, cross_pd hd ht, cnd_and, Bool.and_eq_true, decide_eq_true_eq, decide_eq_true_eq]
theorem tri {p a c : TPoint} {R r : Int} (hr : 0 ≤ r) (hR : 0 ≤ R) (ax : ((a.X - c.X = R ∨ a.X - c.X = -R) ∧ a.Y - c.Y = 0) ∨ (a.X - c.X = 0 ∧ (a.Y - c.Y = R ∨ a.Y - c.Y = -R))) (h : d2 p a ≤ r * r) :
    d2 p c ≤ (R + r) * (R + r) ∧ (R ≤ r ∨ (R - r) * (R - r) ≤ d2 p c) := by
  obtain ⟨⟨x1, x2⟩, y1, y2⟩ := d2_le hr h
  have key : ∀ t q : Int, -r ≤ t → t ≤ r → t * t ≤ q → q ≤ r * r → d2 p c = R * R + 2 * (R * t) + q → d2 p c ≤ (R + r) * (R + r) ∧ (R ≤ r ∨ (R - r) * (R - r) ≤ d2 p c) := by
    intro t q t1 t2 q1 q2 e
    have m1 : 0 ≤ R * (r - t) := Int.mul_nonneg hR (by omega)
    rw [Int.mul_sub] at m1
    have e1 : (R + r) * (R + r) = R * R + 2 * (R * r) + r * r := by grind
    have e2 : (R - r) * (R - r) = R * R - 2 * (R * r) + r * r := by grind
    refine ⟨by omega, ?_⟩
    by_cases hq : R ≤ r
    · exact .inl hq
    · refine .inr ?_
      have m2 : 0 ≤ (t + r) * (2 * R + t - r) := Int.mul_nonneg (by omega) (by omega)
      have e3 : (t + r) * (2 * R + t - r) = 2 * (R * t) + 2 * (R * r) + t * t - r * r := by grind
      omega
  have nx := sq_nn (p.X - a.X); have ny := sq_nn (p.Y - a.Y)
  rcases ax with ⟨hx | hx, hy⟩ | ⟨hx, hy | hy⟩
  · refine key (p.X - a.X) (d2 p a) x1 x2 (by unfold d2; omega) h ?_
    obtain ⟨u, hu⟩ : ∃ u, u = p.X - a.X := ⟨_, rfl⟩
    have ex : p.X - c.X = u + R := by omega
    have ey : p.Y - c.Y = p.Y - a.Y := by omega
    unfold d2; rw [ex, ey, ← hu]; grind
  · refine key (-(p.X - a.X)) (d2 p a) (by omega) (by omega) (by rw [Int.neg_mul_neg]; unfold d2; omega) h ?_
    obtain ⟨u, hu⟩ : ∃ u, u = p.X - a.X := ⟨_, rfl⟩
    have ex : p.X - c.X = u - R := by omega
    have ey : p.Y - c.Y = p.Y - a.Y := by omega
    unfold d2; rw [ex, ey, ← hu]; grind
  · refine key (p.Y - a.Y) (d2 p a) y1 y2 (by unfold d2; omega) h ?_
    obtain ⟨u, hu⟩ : ∃ u, u = p.Y - a.Y := ⟨_, rfl⟩
    have ex : p.Y - c.Y = u + R := by omega
    have ey : p.X - c.X = p.X - a.X := by omega
    unfold d2; rw [ex, ey, ← hu]; grind
  · refine key (-(p.Y - a.Y)) (d2 p a) (by omega) (by omega) (by rw [Int.neg_mul_neg]; unfold d2; omega) h ?_
    obtain ⟨u, hu⟩ : ∃ u, u = p.Y - a.Y := ⟨_, rfl⟩
    have ex : p.Y - c.Y = u - R := by omega
    have ey : p.X - c.X = p.X - a.X := by omega
    unfold d2; rw [ex, ey, ← hu]; grind
theorem ax_a {e : TEdge} (h : OkE e) (hk : e.Kind ≠ 1) : ((e.A.X - e.C.X = RadM e ∨ e.A.X - e.C.X = -RadM e) ∧ e.A.Y - e.C.Y = 0) ∨ (e.A.X - e.C.X = 0 ∧ (e.A.Y - e.C.Y = RadM e ∨ e.A.Y - e.C.Y = -RadM e)) := by
  rw [rad_arcM h hk]
  have := odd_cases (arc_odd h hk).1
  omega
theorem ax_b {e : TEdge} (h : OkE e) (hk : e.Kind ≠ 1) : ((e.B.X - e.C.X = RadM e ∨ e.B.X - e.C.X = -RadM e) ∧ e.B.Y - e.C.Y = 0) ∨ (e.B.X - e.C.X = 0 ∧ (e.B.Y - e.C.Y = RadM e ∨ e.B.Y - e.C.Y = -RadM e)) := by
  have h1 := ax_a h hk
  have h2 := (arc_odd h hk).2
  omega
theorem nearArc_eq {e : TEdge} {p : TPoint} {r : Int} (he : OkE e) (hk : ¬ e.Kind = 1) (hp : PB p) (hr : 0 ≤ r ∧ r ≤ 4194304) : FnearArc e p r = true ↔ NearM e p r := by
  have he' := he
  obtain ⟨⟨ha, hb, hc⟩, hform⟩ := he
  have hrr := mul_up hr hr
  have hrad := rad_b e
  have er : W64 (r * r) = r * r := W64_id (by omega) (by omega)
  have e1 : W64 (Fref06Radius e + r) = RadM e + r := by rw [rad6_eq]; exact W64_id (by omega) (by omega)
  have e2 : W64 (Fref06Radius e - r) = RadM e - r := by rw [rad6_eq]; exact W64_id (by omega) (by omega)
  have m1 := mul_up (a := RadM e + r) (b := RadM e + r) (A := 272629760) (B := 272629760) (by omega) (by omega)
  have m2 : 0 ≤ (RadM e - r) * (RadM e - r) ∧ (RadM e - r) * (RadM e - r) ≤ 268435456 * 268435456 := ⟨sq_nn _, by
    have := mul_b (RadM e - r) (RadM e - r) 268435456 268435456 (by omega) (by omega)
    omega⟩
  have e3 : W64 ((RadM e + r) * (RadM e + r)) = (RadM e + r) * (RadM e + r) := W64_id (by omega) (by omega)
  have e4 : W64 ((RadM e - r) * (RadM e - r)) = (RadM e - r) * (RadM e - r) := W64_id (by omega) (by omega)
  have dC := sub_pd hp hc
  have dAC := sub_pd (rp_pb ha) hc; have dBC := sub_pd (rp_pb hb) hc
  have hfac : wnearArc_2 p e = true ↔ Fac e p := by
    unfold wnearArc_2 wnearArc_1 wnearArc_0 Fac
    simp only [sub5v]
    rw [sub_pb hp hc, sub_pb (rp_pb ha) hc, sub_pb (rp_pb hb) hc]
    simp only [cnd_if, decide_eq_true_eq]
    by_cases h3 : e.Kind = 3
    · simp only [h3, if_true]; exact within5_pd dC dBC dAC
    · simp only [h3, if_false]; exact within5_pd dC dAC dBC
  unfold FnearArc NearM
  rw [if_neg hk, far_eq hp ha, far_eq hp hb, er, e1, e2, e3, e4, rad6_eq]
  have en : Fref05Dot (Fref05Sub p e.C) (Fref05Sub p e.C) = d2 p e.C := by
    rw [sub5v, dot5v, sub_pb hp hc, dot_pd dC dC]; rfl
  rw [en]
  have n0 := (d2_b hp hc).1
  by_cases hF : Fac e p
  · rw [hfac.2 hF]
    simp only [Bool.not_true, cond_false, cnd_and, cnd_or, Bool.and_eq_true, Bool.or_eq_true, decide_eq_true_eq, hF, true_and]
    have hmax : RadM e ≤ r ∨ (RadM e - r) * (RadM e - r) ≤ d2 p e.C ↔ max (RadM e - r) 0 * max (RadM e - r) 0 ≤ d2 p e.C := by
      by_cases q : RadM e ≤ r
      · rw [Int.max_eq_right (by omega)]; constructor
        · intro _; omega
        · intro _; exact .inl q
      · rw [Int.max_eq_left (by omega)]; constructor
        · rintro (h | h)
          · exact absurd h q
          · exact h
        · exact fun h => .inr h
    rw [hmax]
    constructor
    · exact fun h => .inr (.inr h)
    · rintro (h | h | h)
      · have := tri hr.1 hrad.1 (ax_a he' hk) h
        exact ⟨this.1, hmax.1 this.2⟩
      · have := tri hr.1 hrad.1 (ax_b he' hk) h
        exact ⟨this.1, hmax.1 this.2⟩
      · exact h
  · have : wnearArc_2 p e = false := by
      cases hh : wnearArc_2 p e
      · rfl
      · exact absurd (hfac.1 hh) hF
    rw [this]
    simp only [Bool.not_false, cond_true, cnd_or, Bool.or_eq_true, decide_eq_true_eq, hF, false_and, or_false]
theorem nearR_eq {e : TEdge} {p : TPoint} {r : Int} (he : OkE e) (hp : PB p) (hr : 0 ≤ r ∧ r ≤ 4194304) : FNearR e p r = true ↔ NearM e p r := by
  unfold FNearR
  by_cases hk : e.Kind = 1
  · rw [decide_eq_true hk]; exact nearLine_eq he hk hp hr
  · rw [decide_eq_false hk]; exact nearArc_eq he hk hp hr
theorem boxR_l0 (s : TShape) : ∀ (n k : Nat) (b : TRect), 1 ≤ k → k ≤ s.Edges.length → s.Edges.length - k < n → FBoxR_l0 s n b (k : Int) = widen (boxF b (s.Edges.drop k)) s.R
  | 0, k, b, hk, hk2, hn => by omega
  | n + 1, k, b, hk, hk2, hn => by
    unfold FBoxR_l0
    by_cases hlt : k < s.Edges.length
    · rw [decide_eq_true (show (k : Int) < (s.Edges.length : Int) by omega)]
      rw [drop_cons' hlt, boxF]
      have ih := fun b => boxR_l0 s n (k + 1) b (by omega) (by omega) (by omega)
      simp only [cond_true]
      rw [show ((k : Int) + 1) = ((k + 1 : Nat) : Int) by omega, ih]
      rfl
    · rw [decide_eq_false (show ¬ (k : Int) < (s.Edges.length : Int) by omega)]
      rw [List.drop_of_length_le (by omega)]
      rfl
theorem boxR_eq (s : TShape) : FBoxR s = FBox s := by
  by_cases h : s.Edges = []
  · unfold FBoxR FBox
    rw [h]; rfl
  · have hl : 0 < s.Edges.length := List.length_pos_iff.2 h
    rw [box_eq s h]
    unfold FBoxR
    rw [decide_eq_false (show ¬ (s.Edges.length : Int) = 0 by omega)]
    simp only [cond_false]
    have := boxR_l0 s (((((s.Edges.length : Int))) - 1).toNat + 1) 1 (Fref06Box (s.Edges.getD 0 default)) (Nat.le_refl _) (by omega) (by omega)
    rw [show ((1 : Nat) : Int) = 1 from rfl] at this
    rw [this]
    cases he : s.Edges with
    | nil => exact absurd he h
    | cons e l => rfl
theorem chain_l0 (l : List TEdge) (hl : l.length ≤ 1000000) : ∀ n k : Nat, 1 ≤ k → l.length - k < n → (FchainR_l0 l n (k : Int) = true ↔ ∀ i, k ≤ i + 1 → i + 1 < l.length → (l.getD i default).B = (l.getD (i + 1) default).A)
  | 0, k, hk, hn => by omega
  | n + 1, k, hk, hn => by
    unfold FchainR_l0
    by_cases hlt : k < l.length
    · rw [decide_eq_true (show (k : Int) < (l.length : Int) by omega)]
      have e1 : (W64 ((k : Int) - 1)).toNat = k - 1 := by rw [W64_id (by omega) (by omega)]; omega
      simp only [cond_true, Int.toNat_natCast]
      rw [e1, show ((k : Int) + 1) = ((k + 1 : Nat) : Int) by omega]
      have ih := chain_l0 l hl n (k + 1) (by omega) (by omega)
      have eq : (decide (((l.getD k default).A).X = ((l.getD (k - 1) default).B).X) && (decide (((l.getD k default).A).Y = ((l.getD (k - 1) default).B).Y) && true)) = true ↔ (l.getD (k - 1) default).B = (l.getD k default).A := by
        rw [Bool.and_eq_true, Bool.and_eq_true, decide_eq_true_eq, decide_eq_true_eq]
        constructor
        · intro h
          generalize (l.getD (k - 1) default).B = u at *; generalize (l.getD k default).A = v at *
          cases u; cases v; simp only at h; rw [h.1, h.2.1]
        · intro h; rw [h]; exact ⟨rfl, rfl, rfl⟩
      cases hb : (decide (((l.getD k default).A).X = ((l.getD (k - 1) default).B).X) && (decide (((l.getD k default).A).Y = ((l.getD (k - 1) default).B).Y) && true)) with
      | true =>
        rw [hb] at eq
        simp only [Bool.not_true, cond_false]
        rw [ih]
        constructor
        · intro h i h1 h2
          by_cases q : i + 1 = k
          · have := eq.1 rfl
            rw [show k - 1 = i by omega] at this
            rw [q]; exact this
          · exact h i (by omega) h2
        · exact fun h i h1 h2 => h i (by omega) h2
      | false =>
        rw [hb] at eq
        simp only [Bool.not_false, cond_true, Bool.false_eq_true, false_iff]
        intro h
        have := h (k - 1) (by omega) (by omega)
        rw [show k - 1 + 1 = k by omega] at this
        exact absurd (eq.2 this) (by decide)
    · rw [decide_eq_false (show ¬ (k : Int) < (l.length : Int) by omega)]
      simp only [cond_false, true_iff]
      intro i h1 h2; omega
theorem chain_eq (l : List TEdge) (hl : l.length ≤ 1000000) : FchainR l = true ↔ ∀ i, i + 1 < l.length → (l.getD i default).B = (l.getD (i + 1) default).A := by
  unfold FchainR
  have := chain_l0 l hl ((((l.length : Int)) - 1).toNat + 1) 1 (Nat.le_refl _) (by omega)
  rw [show ((1 : Nat) : Int) = 1 from rfl] at this
  rw [this]
  exact ⟨fun h i h2 => h i (by omega) h2, fun h i _ h2 => h i h2⟩
open Classical in
theorem checkR_l0 (s : TShape) (hl : 1 ≤ s.Edges.length ∧ s.Edges.length ≤ 40) : ∀ n k : Nat, k ≤ s.Edges.length → s.Edges.length - k < n → FCheckR_l0 s n (k : Int) = if chk1 (s.Edges.drop k) ≠ 0 then chk1 (s.Edges.drop k) else if ¬ Joined s then 12 else lastS s
  | 0, k, hk, hn => by omega
  | n + 1, k, hk, hn => by
    unfold FCheckR_l0
    by_cases hlt : k < s.Edges.length
    · rw [decide_eq_true (show (k : Int) < (s.Edges.length : Int) by omega)]
      simp only [cond_true, Int.toNat_natCast]
      rw [drop_cons' hlt]
      simp only [chk1, check6_eq]
      have ih := checkR_l0 s hl n (k + 1) (by omega) (by omega)
      by_cases h0 : CheckM (s.Edges.getD k default) = 0
      · simp only [h0, if_true, decide_true, Bool.not_true, cond_false]
        rw [show ((k : Int) + 1) = ((k + 1 : Nat) : Int) by omega, ih]
      · simp only [h0, if_false, decide_false, Bool.not_false, cond_true, ne_eq, not_false_eq_true, if_true]
    · rw [decide_eq_false (show ¬ (k : Int) < (s.Edges.length : Int) by omega)]
      simp only [cond_false]
      rw [List.drop_of_length_le (by omega), chk1]
      have e1 : (W64 ((s.Edges.length : Int) - 1)).toNat = s.Edges.length - 1 := by rw [W64_id (by omega) (by omega)]; omega
      have hJ : (bif !(FchainR s.Edges) then true else bif decide ((s.Kind : Int) = 2) then !((decide ((((s.Edges.getD 0 default).A).X) = ((wCheckR_0 s).X)) && (decide ((((s.Edges.getD 0 default).A).Y) = ((wCheckR_0 s).Y)) && true))) else false) = false ↔ Joined s := by
        unfold wCheckR_0 Joined
        rw [e1, ← chain_eq s.Edges (by omega)]
        have eq : (decide (((s.Edges.getD 0 default).A).X = ((s.Edges.getD (s.Edges.length - 1) default).B).X) && (decide (((s.Edges.getD 0 default).A).Y = ((s.Edges.getD (s.Edges.length - 1) default).B).Y) && true)) = true ↔ (s.Edges.getD (s.Edges.length - 1) default).B = (s.Edges.getD 0 default).A := by
          rw [Bool.and_eq_true, Bool.and_eq_true, decide_eq_true_eq, decide_eq_true_eq]
          constructor
          · intro h
            generalize (s.Edges.getD (s.Edges.length - 1) default).B = u at *; generalize (s.Edges.getD 0 default).A = v at *
            cases u; cases v; simp only at h; rw [h.1, h.2.1]
          · intro h; rw [h]; exact ⟨rfl, rfl, rfl⟩
        rw [← eq]
        generalize (decide (((s.Edges.getD 0 default).A).X = ((s.Edges.getD (s.Edges.length - 1) default).B).X) && (decide (((s.Edges.getD 0 default).A).Y = ((s.Edges.getD (s.Edges.length - 1) default).B).Y) && true)) = g
        by_cases hk2 : s.Kind = 2
        · rw [decide_eq_true hk2]; simp only [hk2, true_implies]
          cases FchainR s.Edges <;> cases g <;> simp
        · rw [decide_eq_false hk2]; simp only [hk2, false_implies]
          cases FchainR s.Edges <;> cases g <;> simp
      by_cases hj : Joined s
      · rw [hJ.2 hj]; simp only [hj, cond_false, not_true, if_false, ne_eq]; rfl
      · cases hb : (bif !(FchainR s.Edges) then true else bif decide ((s.Kind : Int) = 2) then !((decide ((((s.Edges.getD 0 default).A).X) = ((wCheckR_0 s).X)) && (decide ((((s.Edges.getD 0 default).A).Y) = ((wCheckR_0 s).Y)) && true))) else false) with
        | false => exact absurd (hJ.1 hb) hj
        | true => simp only [hj, cond_true, not_false_eq_true, if_true, ne_eq, not_true, if_false]
theorem checkR_eq (s : TShape) : FCheckR s = FCheckS s := by
  rw [checkS_eq]
  unfold FCheckR CheckMS
  by_cases hk1 : s.Kind = 1
  · simp only [hk1, decide_true, cond_true, true_or, not_true, false_or, show ¬ ((1 : Int) = 2) by decide, decide_false, false_and, or_false]
    by_cases h0 : s.Edges.length = 0
    · simp [h0]
    · simp only [show ¬ (s.Edges.length : Int) < 1 by omega, h0, decide_false, cond_false, if_false]
      by_cases h40 : 40 < s.Edges.length
      · simp only [show (40 : Int) < (s.Edges.length : Int) by omega, h40, decide_true, cond_true, if_true]
      · simp only [show ¬ (40 : Int) < (s.Edges.length : Int) by omega, h40, decide_false, cond_false, if_false]
        have := checkR_l0 s (by omega) (((s.Edges.length : Int) - 0).toNat + 1) 0 (by omega) (by omega)
        rw [show ((0 : Nat) : Int) = 0 from rfl] at this
        rw [this, List.drop_zero, lastS_eq]
        simp only [hk1, show ¬ ((1 : Int) = 2) by decide, false_and, false_or]
  · by_cases hk2 : s.Kind = 2
    · simp only [hk2, decide_true, cond_true, or_true, not_true, false_or, true_and, show ¬ ((2 : Int) = 1) by decide, decide_false, cond_false]
      by_cases h2 : s.Edges.length < 2
      · simp only [show (s.Edges.length : Int) < 2 by omega, h2, decide_true, cond_true, if_true, or_true]
      · simp only [show ¬ (s.Edges.length : Int) < 2 by omega, show ¬ s.Edges.length = 0 by omega, h2, decide_false, cond_false, if_false, or_self]
        by_cases h40 : 40 < s.Edges.length
        · simp only [show (40 : Int) < (s.Edges.length : Int) by omega, h40, decide_true, cond_true, if_true]
        · simp only [show ¬ (40 : Int) < (s.Edges.length : Int) by omega, h40, decide_false, cond_false, if_false]
          have := checkR_l0 s (by omega) (((s.Edges.length : Int) - 0).toNat + 1) 0 (by omega) (by omega)
          rw [show ((0 : Nat) : Int) = 0 from rfl] at this
          rw [this, List.drop_zero, lastS_eq]
          simp only [hk2, true_and]
    · simp [hk1, hk2]
theorem insR_l0 (s : TShape) (p : TPoint) (hs : OkS s) (hp : PB p) : ∀ (n k : Nat) (v : Int), k ≤ s.Edges.length → s.Edges.length - k < n → (-(k : Int) ≤ v ∧ v ≤ k) → (FInsideR_l0 s p n v (k : Int) = true ↔ (∃ e ∈ s.Edges.drop k, NearM e p s.R) ∨ s.Kind = 2 ∧ v + wind (s.Edges.drop k) p ≠ 0)
  | 0, k, v, hk, hn, _ => by omega
  | n + 1, k, v, hk, hn, hv => by
    unfold FInsideR_l0
    by_cases hlt : k < s.Edges.length
    · rw [decide_eq_true (show (k : Int) < (s.Edges.length : Int) by omega)]
      simp only [cond_true, Int.toNat_natCast]
      rw [drop_cons' hlt, wind, ray6_eq]
      have hb := ray_b (s.Edges.getD k default) p
      have hl := hs.1.2.1
      rw [W64_id (by omega) (by omega)]
      have ih := insR_l0 s p hs hp n (k + 1) (v + RayM (s.Edges.getD k default) p) (by omega) (by omega) (by omega)
      rw [show ((k : Int) + 1) = ((k + 1 : Nat) : Int) by omega]
      have hn := nearR_eq (hs.2.1 _ (getD_mem' hlt)) hp hs.2.2.2.1
      unfold wInsideR_0
      rw [Int.toNat_natCast]
      cases hc : FNearR (s.Edges.getD k default) p s.R with
      | true =>
        simp only [cond_true, true_iff]
        exact .inl ⟨_, List.mem_cons_self .., hn.1 hc⟩
      | false =>
        simp only [cond_false]
        have hnn : ¬ NearM (s.Edges.getD k default) p s.R := fun h => by rw [hn.2 h] at hc; cases hc
        rw [ih, Int.add_assoc]
        constructor
        · rintro (⟨e, h1, h2⟩ | h)
          · exact .inl ⟨e, List.mem_cons_of_mem _ h1, h2⟩
          · exact .inr h
        · rintro (⟨e, h1, h2⟩ | h)
          · rcases List.mem_cons.1 h1 with q | q
            · rw [q] at h2; exact absurd h2 hnn
            · exact .inl ⟨e, q, h2⟩
          · exact .inr h
    · rw [decide_eq_false (show ¬ (k : Int) < (s.Edges.length : Int) by omega)]
      rw [List.drop_of_length_le (by omega), wind, Int.add_zero]
      simp only [cond_false, List.not_mem_nil, false_and, exists_false, false_or, cnd_and, Bool.and_eq_true, decide_eq_true_eq, Bool.not_eq_true', decide_eq_false_iff_not, ne_eq]
theorem insideR_iff (s : TShape) (p : TPoint) : FInsideR s p = true ↔ InsM s p := by
  unfold FInsideR
  rw [checkR_eq, checkS_eq, boxR_eq]
  by_cases hs : OkS s
  · have h0 := (checkMS_zero s).2 hs
    rw [h0]
    have hb := inbx_eq hs p
    have hw : FWithinR (FBox s) p = true ↔ InBx s.Edges s.R p := by
      rw [← hb]
      unfold FWithinR
      simp only [cnd_and, Bool.and_eq_true, decide_eq_true_eq]
      omega
    simp only [decide_true, Bool.not_true, cond_false]
    by_cases hB : InBx s.Edges s.R p
    · rw [hw.2 hB]
      simp only [Bool.not_true, cond_false]
      have := insR_l0 s p hs (inbx_pb hs hB) (((((s.Edges.length : Int))) - 0).toNat + 1) 0 0 (by omega) (by omega) (by omega)
      rw [List.drop_zero, Int.zero_add] at this
      rw [show ((0 : Nat) : Int) = 0 from rfl] at this
      rw [this]
      exact ⟨fun h => ⟨hs, hB, h⟩, fun h => h.2.2⟩
    · have : FWithinR (FBox s) p = false := by
        cases hh : FWithinR (FBox s) p
        · rfl
        · exact absurd (hw.1 hh) hB
      rw [this]
      simp only [Bool.not_false, cond_true, Bool.false_eq_true, false_iff]
      exact fun h => hB h.2.1
  · have h0 : ¬ CheckMS s = 0 := fun h => hs ((checkMS_zero s).1 h)
    rw [decide_eq_false h0]
    simp only [Bool.not_false, cond_true, Bool.false_eq_true, false_iff]
    exact fun h => hs h.1
theorem insideR_eq (s : TShape) (p : TPoint) : FInsideR s p = FInsideS s p := by
  rw [Bool.eq_iff_iff, insideR_iff, inside_eqS]
end Go.Proofs.Ytpnlegfdkkcnlaa
namespace Go.Proofs.Ytpnlegfdkkcnlaa
set_option maxRecDepth 100000
theorem sane9 : Fsanity9 = true := by decide +kernel
end Go.Proofs.Ytpnlegfdkkcnlaa
namespace Go.Proofs.Ytpnlegfdkkcnlaa
set_option maxRecDepth 100000
set_option linter.unusedVariables false
theorem points_l1 (l m : List Int) (step x : Int) (K : Int → Bool) (hK : K (x + 1) = true) : ∀ (n : Nat) (y : Int), (4 - y).toNat < n → FShapePoints_l1 l m step x K n y = true
  | 0, y, h => by omega
  | n + 1, y, h => by
    unfold FShapePoints_l1
    by_cases q : y ≤ 3
    · rw [decide_eq_true q]
      simp only [cond_true]
      have e : wShapePoints_15 l m step x y = false := by
        unfold wShapePoints_15 wShapePoints_14 wShapePoints_13
        rw [insideR_eq]; simp
      rw [e]
      exact points_l1 l m step x K hK n (y + 1) (by omega)
    · rw [decide_eq_false q]; exact hK
theorem points_l0 (l m : List Int) (step : Int) : ∀ (n : Nat) (x : Int), (4 - x).toNat < n → FShapePoints_l0 l m step n x = true
  | 0, x, h => by omega
  | n + 1, x, h => by
    unfold FShapePoints_l0
    by_cases q : x ≤ 3
    · rw [decide_eq_true q]
      exact points_l1 l m step x _ (points_l0 l m step n (x + 1) (by omega)) _ _ (by omega)
    · rw [decide_eq_false q]; exact sane9
theorem shapePoints_true (l m : List Int) (step : Int) : FShapePoints l m step = true := points_l0 l m step _ _ (by omega)
end Go.Proofs.Ytpnlegfdkkcnlaa
namespace Go.Proofs.Ytpnlegfdkkcnlaa
set_option maxRecDepth 100000
open Go.ChangeShapes Go.WideShapes Go.ChangeAt Go.RowKit
set_option linter.unusedVariables false
theorem shapePoints_lifted (os : Os) (started : os.Started) (H : Type) (enc : TypeId × Value → H) :
    ReturnsInHanded {} Try.checked os 3 .any (Rows.shapePointsSpec.pre6 enc Try.prog Try.f3 Rows.shapePointsRow.domain false) (Rows.shapePointsSpec.post enc Try.prog Try.f3 false true false false) := by
  refine returnsInHanded_of_change (C := Try.checked) own started (by kernel_rfl) Try.func3
    (ChangeSpec.witness6 (enc := enc) (C := Try.checked) false ⟨#[], #[.slice none 0 0, .slice none 0 0, .int .u8 0], []⟩ 8 (by kernel_rfl) (by kernel_rfl) (by kernel_rfl) (by kernel_rfl)) ?_
  intro W base args ds gs before hval0 hW hcnd _
  have hval : ∀ (j : Nat) t v, Try.f3.params[j]? = some t → args[j]? = some v → Value.okWide Try.prog W .any base t v := hval0
  have hW' := hW
  obtain ⟨p, q, hA0, hV, rfl, hfz, hnd⟩ := hW
  have hA : DataW.TrodAll enc Try.prog W 0 (fun _ => true) true Try.f3.params.toList args.toList ds p := hA0
  rw [Try.params3] at hA hval
  obtain ⟨v0, vs0, d0, ds0, p0, q0, hargs, rfl, rfl, h0, r0⟩ := trodAll_cons hA
  obtain ⟨v1, vs1, d1, ds1, p1, q1, rfl, rfl, rfl, h1, r1⟩ := trodAll_cons r0
  obtain ⟨v2, vs2, d2, ds2, p2, q2, rfl, rfl, rfl, h2, r2⟩ := trodAll_cons r1
  obtain ⟨rfl, rfl, rfl⟩ := trodAll_nil r2
  obtain rfl : args = #[v0, v1, v2] := by cases args; simp_all
  obtain ⟨l, kl, x0⟩ := open_one opT22 (.inl ⟨_, Try.underlying22⟩) (hval 0 22 v0 rfl rfl) h0
  obtain ⟨m, km, x1⟩ := open_one opT22 (.inl ⟨_, Try.underlying22⟩) (hval 1 22 v1 rfl rfl) h1
  obtain ⟨step, kstep, x2⟩ := open_one (opens_int Try.underlying5) (.inr (.inl ⟨_, Try.underlying5⟩)) (hval 2 5 v2 rfl rfl) h2
  clear hA0 hval0
  refine (law_of_pure (pShapePoints l m step (maxLen_i kl.1) (maxLen_i km.1) (bounds_u8 kstep)) (shapePoints_true l m step) (.cons x0 (.cons x1 (.cons x2 .nil)))).mono fun e W' ⟨he, hb⟩ => ?_
  subst he
  exact ⟨_, rfl, law_post hW' rfl rfl laidOut (by rw [Try.params3]; exact List.forall_mem_cons.2 ⟨⟨by kernel_rfl, of_decide_eq_true (by kernel_rfl)⟩, List.forall_mem_cons.2 ⟨⟨by kernel_rfl, of_decide_eq_true (by kernel_rfl)⟩, List.forall_mem_cons.2 ⟨⟨by kernel_rfl, of_decide_eq_true (by kernel_rfl)⟩, List.forall_mem_nil _⟩⟩⟩) rfl Try.underlying4 hb⟩
theorem shapePoints_holds : Rows.ShapePointsSaid :=
  OpenClaim.holds_of_wide 3 Try.f3 rfl rfl rfl rfl rfl rfl rfl ⟨rfl, rfl, rfl, rfl, rfl⟩ rfl rfl rfl rfl rfl (by kernel_rfl) Try.func3 (by kernel_rfl)
    (of_decide_eq_true (by kernel_rfl)) (by unfold Func.isWrapper; first | (rw [if_pos (by decide +kernel)]; kernel_rfl) | (rw [if_neg (by decide +kernel)]; exact ⟨rfl, rfl⟩))
    (fun os started H enc _ => shapePoints_lifted os started H enc)
#print axioms shapePoints_holds
end Go.Proofs.Ytpnlegfdkkcnlaa
