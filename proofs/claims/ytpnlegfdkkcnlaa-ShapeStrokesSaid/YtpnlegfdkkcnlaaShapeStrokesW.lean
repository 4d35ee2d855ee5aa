/-
  No statement is proved in this text. It holds what functions return.
-/
import Derived.Test.YtpnlegfdkkcnlaaProg
import Derived.Test.YtpnlegfdkkcnlaaK9s
import Derived.Test.YtpnlegfdkkcnlaaK9a
import Derived.Test.YtpnlegfdkkcnlaaShc
namespace Go.Proofs.Ytpnlegfdkkcnlaa
open Go.RowKit
set_option linter.unusedVariables false
set_option linter.unusedSimpArgs false
def wShapeStrokes_4 (l : (List Int)) : TPoint := Fref05Apply (TMotion.mk (TPoint.mk 0 0) 0 false) (Flaw09pt ((FMade9 l).R) 0)
def wShapeStrokes_5 (l : (List Int)) : TPoint := Fref05Add ((((FMade9 l).Edges).getD 0 default).A) (wShapeStrokes_4 l)
def wShapeStrokes_6 (l : (List Int)) : Bool := !(FInsideS (FMade9 l) (wShapeStrokes_5 l))
def wShapeStrokes_7 (l : (List Int)) : TPoint := Fref05Apply (TMotion.mk (TPoint.mk 0 0) 1 false) (Flaw09pt ((FMade9 l).R) 0)
def wShapeStrokes_8 (l : (List Int)) : TPoint := Fref05Add ((((FMade9 l).Edges).getD 0 default).A) (wShapeStrokes_7 l)
def wShapeStrokes_9 (l : (List Int)) : Bool := !(FInsideS (FMade9 l) (wShapeStrokes_8 l))
def wShapeStrokes_10 (l : (List Int)) : TPoint := Fref05Apply (TMotion.mk (TPoint.mk 0 0) 2 false) (Flaw09pt ((FMade9 l).R) 0)
def wShapeStrokes_11 (l : (List Int)) : TPoint := Fref05Add ((((FMade9 l).Edges).getD 0 default).A) (wShapeStrokes_10 l)
def wShapeStrokes_12 (l : (List Int)) : Bool := !(FInsideS (FMade9 l) (wShapeStrokes_11 l))
def wShapeStrokes_13 (l : (List Int)) : TPoint := Fref05Apply (TMotion.mk (TPoint.mk 0 0) 3 false) (Flaw09pt ((FMade9 l).R) 0)
def wShapeStrokes_14 (l : (List Int)) : TPoint := Fref05Add ((((FMade9 l).Edges).getD 0 default).A) (wShapeStrokes_13 l)
def wShapeStrokes_15 (l : (List Int)) : Bool := !(FInsideS (FMade9 l) (wShapeStrokes_14 l))
def wShapeStrokes_18 (l : (List Int)) (v25 : Int) : TEdge := ((FMade9 l).Edges).getD v25.toNat default
def wShapeStrokes_19 (l : (List Int)) (v25 : Int) : Bool := FInsideS (FMade9 l) ((wShapeStrokes_18 l v25).A)
def wShapeStrokes_20 (l : (List Int)) (v25 : Int) : Bool := bif !(wShapeStrokes_19 l v25) then true else !(FInsideS (FMade9 l) ((wShapeStrokes_18 l v25).B))
def wShapeStrokes_21 (l : (List Int)) (v25 : Int) : (Nat → Nat → Cl) := colsC 7 1 [.i ((wShapeStrokes_18 l v25).Kind), .i (((wShapeStrokes_18 l v25).A).X), .i (((wShapeStrokes_18 l v25).A).Y), .i (((wShapeStrokes_18 l v25).B).X), .i (((wShapeStrokes_18 l v25).B).Y), .i (((wShapeStrokes_18 l v25).C).X), .i (((wShapeStrokes_18 l v25).C).Y)]
def wShapeStrokes_22 (v10 : Bool) (l : (List Int)) (v25 : Int) (m : (List Int)) : Bool := bif v10 then true else FInsideS (TShape.mk 1 [wShapeStrokes_18 l v25] ((FMade9 l).R)) (FAt9 (FMade9 l) m)
def wShapeStrokes_23 (v10 : Bool) (l : (List Int)) (m : (List Int)) : Bool := bif Fsanity9 then bif !v10 then true else FInsideS (FMade9 l) (FAt9 (FMade9 l) m) else false
def wShapeStrokes_24 (l : (List Int)) (m : (List Int)) (v10 : Bool) : Bool := bif Fsanity9 then ((FInsideS (FMade9 l) (FAt9 (FMade9 l) m)) == v10) else false
def wShapeStrokes_25 (l : (List Int)) (m : (List Int)) (v10 : Bool) (more : Int) : Bool := bif wShapeStrokes_24 l m v10 then bif !v10 then true else FInsideS (TShape.mk ((FMade9 l).Kind) ((FMade9 l).Edges) (W64 (((FMade9 l).R) + (W64 (more))))) (FAt9 (FMade9 l) m) else false
def FShapeStrokes_l0 (l : (List Int)) (m : (List Int)) (more : Int) : Nat → Bool → Int → Bool
  | 0, _, _ => default
  | n0 + 1, v10, v25 => bif decide ((v25 : Int) < ((((FMade9 l).Edges).length : Int))) then (bif wShapeStrokes_20 l v25 then (false) else ((FShapeStrokes_l0 l m more n0) (wShapeStrokes_22 v10 l v25 m) (v25 + 1))) else (bif decide ((((FMade9 l).Kind) : Int) = 2) then (wShapeStrokes_23 v10 l m) else (bif wShapeStrokes_6 l then (false) else (bif wShapeStrokes_9 l then (false) else (bif wShapeStrokes_12 l then (false) else (bif wShapeStrokes_15 l then (false) else (wShapeStrokes_25 l m v10 more))))))
def FShapeStrokes (l : (List Int)) (m : (List Int)) (more : Int) : Bool := FShapeStrokes_l0 l m more (((((((FMade9 l).Edges).length : Int))) - 0).toNat + 1) false 0
def cShapeStrokes (l : (List Int)) (m : (List Int)) (more : Int) : FuncId × List Av × Ef := (4, [.one (lst 1 (fun x => [.i x]) l), .one (lst 1 (fun x => [.i x]) m), .one (.val (.int .u8 more))], .val [] (.av (.one (.b (FShapeStrokes l m more)))))
set_option maxRecDepth 100000 in
theorem pShapeStrokes (l : (List Int)) (m : (List Int)) (more : Int) (hl : (l.length : Int) ≤ 9223372036854775807) (hm : (m.length : Int) ≤ 9223372036854775807) : Pure Try.prog 4 (cShapeStrokes l m more).2.1 (.av (.one (.b (FShapeStrokes l m more)))) := by
  refine pure_of_awF Try.func4 rfl (by kernel_rfl) (by kernel_rfl) fun W0 M0 => ?_
  have hL := made9_len l
  refine aw_seq ?_
  refine aw_region eqok [] [] [] [0, 1, 2] [] [] ⟨[(0, .av (.one (lst 1 (fun x => [.i x]) l))), (1, .av (.one (lst 1 (fun x => [.i x]) m))), (2, .av (.one (.val (.int .u8 more))))], []⟩ .nil (by kernel_rfl) .nil ?_
  refine ath_n ?_
  refine aw_seq ?_
  refine aw_region eqok [] [] [(16, csanity9)] [0, 1, 2, 7] [] [Same (csanity9).2.1] ⟨[(0, .av (.one (lst 1 (fun x => [.i x]) l))), (1, .av (.one (lst 1 (fun x => [.i x]) m))), (2, .av (.one (.val (.int .u8 more)))), (7, tB Fsanity9)], []⟩ (.cons (oksanity9) .nil) (by kernel_rfl) (.cons rfl .nil) ?_
  refine ath_n ?_
  refine aw_seq ?_
  refine aw_region eqok [] [] [(18, cMade9 l)] [1, 2, 7, 8] [8] [Same (cMade9 l).2.1] ⟨[(1, .av (.one (lst 1 (fun x => [.i x]) m))), (2, .av (.one (.val (.int .u8 more)))), (7, tB Fsanity9), (8, tP 8 0)], [(8, .cells (TShape.c (FMade9 l)) 26)]⟩ (.cons (okMade9 l (by first | assumption | decide | omega | (simp only [List.length_cons, List.length_nil, List.length_append]; omega))) .nil) (by kernel_rfl) (.cons rfl .nil) ?_
  refine ath_n ?_
  refine aw_seq ?_
  refine aw_region eqok [] [] [(21, cAt9 (FMade9 l) m)] [2, 7, 8, 9] [8, 9] [Same (cAt9 (FMade9 l) m).2.1] ⟨[(2, .av (.one (.val (.int .u8 more)))), (7, tB Fsanity9), (8, tP 8 0), (9, tP 9 0)], [(8, .cells (TShape.c (FMade9 l)) 26), (9, .cells (TPoint.c (FAt9 (FMade9 l) m)) 29)]⟩ (.cons (okAt9 (FMade9 l) m (by first | assumption | decide | omega | (simp only [List.length_cons, List.length_nil, List.length_append]; omega)) (by first | assumption | decide | omega | (simp only [List.length_cons, List.length_nil, List.length_append]; omega))) .nil) (by kernel_rfl) (.cons rfl .nil) ?_
  refine ath_n ?_
  refine aw_seq ?_
  refine aw_region eqok [] [] [] [2, 7, 8, 9, 10] [8, 9] [] ⟨[(2, .av (.one (.val (.int .u8 more)))), (7, tB Fsanity9), (8, tP 8 0), (9, tP 9 0), (10, tB false)], [(8, .cells (TShape.c (FMade9 l)) 26), (9, .cells (TPoint.c (FAt9 (FMade9 l) m)) 29)]⟩ .nil (by kernel_rfl) .nil ?_
  refine ath_n ?_
  refine aw_seq ?_
  refine aw_seq ?_
  refine aw_region eqok [] [] [] [2, 7, 8, 9, 10, 23, 24, 25] [8, 9] [] ⟨[(2, .av (.one (.val (.int .u8 more)))), (7, tB Fsanity9), (8, tP 8 0), (9, tP 9 0), (10, tB false), (23, .av (.one (lst 7 TEdge.c ((FMade9 l).Edges)))), (24, tI ((((FMade9 l).Edges).length : Int))), (25, tI 0)], [(8, .cells (TShape.c (FMade9 l)) 26), (9, .cells (TPoint.c (FAt9 (FMade9 l) m)) 29)]⟩ .nil (by kernel_rfl) .nil ?_
  refine ath_n ?_
  refine aw_block ?_
  refine aw_loopC (ι := Nat × Bool × Int) (fun x => ⟨[(2, .av (.one (.val (.int .u8 more)))), (7, tB Fsanity9), (8, tP 8 0), (9, tP 9 0), (10, tB x.2.1), (23, .av (.one (lst 7 TEdge.c ((FMade9 l).Edges)))), (24, tI ((((FMade9 l).Edges).length : Int))), (25, tI x.2.2)], [(8, .cells (TShape.c (FMade9 l)) 26), (9, .cells (TPoint.c (FAt9 (FMade9 l) m)) 29)]⟩) (fun x => ((((((FMade9 l).Edges).length : Int))) - x.2.2).toNat < x.1 ∧ (0 ≤ x.2.2 ∧ (x.2.2 ≤ ((((FMade9 l).Edges).length : Int)) ∨ x.2.2 = 0)) ∧ FShapeStrokes_l0 l m more x.1 x.2.1 x.2.2 = FShapeStrokes l m more) (fun x => x.1) ?_ (((((((FMade9 l).Edges).length : Int))) - 0).toNat + 1, false, 0) ⟨Nat.lt_succ_self _, ⟨(by show 0 ≤ 0; first | trivial | omega | (simp only [List.length_append, List.length_cons, List.length_nil]; omega) | (simp only [List.length_set, List.length_append, List.length_cons, List.length_nil]; omega) | (simp only [W64_def]; omega) | (simp; omega) | simp), (by show (0 ≤ ((((FMade9 l).Edges).length : Int)) ∨ 0 = 0); first | trivial | omega | (simp only [List.length_append, List.length_cons, List.length_nil]; omega) | (simp only [List.length_set, List.length_append, List.length_cons, List.length_nil]; omega) | (simp only [W64_def]; omega) | (simp; omega) | simp)⟩, (by simp only [FShapeStrokes, cond_true, cond_false])⟩
  rintro ⟨n0, v10, v25⟩ ⟨hn, hinv, hF⟩
  have hm0 : ((((((FMade9 l).Edges).length : Int))) - v25).toNat < n0 := hn; have hinv0 : 0 ≤ v25 ∧ (v25 ≤ ((((FMade9 l).Edges).length : Int)) ∨ v25 = 0) := hinv; have hF0 : FShapeStrokes_l0 l m more n0 v10 v25 = FShapeStrokes l m more := hF; clear hn hinv hF
  cases n0 with
  | zero => exact absurd hm0 (Nat.not_lt_zero _)
  | succ n0 =>
    refine aw_seq ?_
    refine aw_region eqok [] [] [] [2, 7, 8, 9, 10, 23, 24, 25, 26] [8, 9] [] ⟨[(2, .av (.one (.val (.int .u8 more)))), (7, tB Fsanity9), (8, tP 8 0), (9, tP 9 0), (10, tB v10), (23, .av (.one (lst 7 TEdge.c ((FMade9 l).Edges)))), (24, tI ((((FMade9 l).Edges).length : Int))), (25, tI v25), (26, tB (decide ((v25 : Int) < ((((FMade9 l).Edges).length : Int)))))], [(8, .cells (TShape.c (FMade9 l)) 26), (9, .cells (TPoint.c (FAt9 (FMade9 l) m)) 29)]⟩ .nil (by kernel_rfl) .nil ?_
    refine ath_n ?_
    refine aw_seq ?_
    refine aw_cond (decide ((v25 : Int) < ((((FMade9 l).Edges).length : Int)))) (by kernel_rfl) (fun h1 => ?_) (fun h1 => ?_)
    · have g1 := of_decide_eq_true h1
      refine aw_skip ?_
      refine ath_n ?_
      refine aw_seq ?_
      refine aw_block ?_
      refine aw_seq ?_
      refine aw_region eqok [] [] [] [2, 7, 8, 9, 10, 12, 23, 24, 25] [8, 9, 12] [0 ≤ (v25 : Int) ∧ (v25 : Int) < ((((FMade9 l).Edges).length : Nat) : Int)] ⟨[(2, .av (.one (.val (.int .u8 more)))), (7, tB Fsanity9), (8, tP 8 0), (9, tP 9 0), (10, tB v10), (12, tP 12 0), (23, .av (.one (lst 7 TEdge.c ((FMade9 l).Edges)))), (24, tI ((((FMade9 l).Edges).length : Int))), (25, tI v25)], [(8, .cells (TShape.c (FMade9 l)) 26), (9, .cells (TPoint.c (FAt9 (FMade9 l) m)) 29), (12, .cells (TEdge.c (wShapeStrokes_18 l v25)) 35)]⟩ .nil (by kernel_rfl) (.cons (by first | decide | omega | exact idx_tmod (by first | omega | (simp only [W64_def]; omega)) (by omega) | (simp only [W64_def]; omega) | (constructor <;> omega) | (simp only [List.length_append, List.length_cons, List.length_nil]; omega) | (simp only [List.length_append, List.length_cons, List.length_nil, List.length_drop, List.length_take] at *; omega)) .nil) ?_
      refine ath_n ?_
      refine aw_seq ?_
      refine aw_seq ?_
      refine aw_region eqok [] [] [(32, cInsideS (FMade9 l) ((wShapeStrokes_18 l v25).A)), (38, cInsideS (FMade9 l) ((wShapeStrokes_18 l v25).B))] [2, 7, 8, 9, 10, 12, 23, 24, 25, 40] [8, 9, 12] [Same (cInsideS (FMade9 l) ((wShapeStrokes_18 l v25).A)).2.1, ((!(wShapeStrokes_19 l v25)) = false) → ((!(wShapeStrokes_19 l v25)) = false), ((!(wShapeStrokes_19 l v25)) = false) → ((!(wShapeStrokes_19 l v25)) = false), ((!(wShapeStrokes_19 l v25)) = false) → ((!(wShapeStrokes_19 l v25)) = false), ((!(wShapeStrokes_19 l v25)) = false) → (Same (cInsideS (FMade9 l) ((wShapeStrokes_18 l v25).B)).2.1), ((!(wShapeStrokes_19 l v25)) = false) → ((!(wShapeStrokes_19 l v25)) = false), (!(wShapeStrokes_19 l v25)) = false → ((!(wShapeStrokes_19 l v25)) = false)] ⟨[(2, .av (.one (.val (.int .u8 more)))), (7, tB Fsanity9), (8, tP 8 0), (9, tP 9 0), (10, tB v10), (12, tP 12 0), (23, .av (.one (lst 7 TEdge.c ((FMade9 l).Edges)))), (24, tI ((((FMade9 l).Edges).length : Int))), (25, tI v25), (40, tB (wShapeStrokes_20 l v25))], [(8, .cells (TShape.c (FMade9 l)) 26), (9, .cells (TPoint.c (FAt9 (FMade9 l) m)) 29), (12, .cells (TEdge.c (wShapeStrokes_18 l v25)) 35)]⟩ (.cons (okInsideS (FMade9 l) ((wShapeStrokes_18 l v25).A) (by first | assumption | decide | omega | (simp only [List.length_cons, List.length_nil, List.length_append]; omega))) (.cons (okInsideS (FMade9 l) ((wShapeStrokes_18 l v25).B) (by first | assumption | decide | omega | (simp only [List.length_cons, List.length_nil, List.length_append]; omega))) .nil)) (by kernel_rfl) (.cons rfl (.cons id (.cons id (.cons id (.cons (fun _ => rfl) (.cons id (.cons id .nil))))))) ?_
      refine ath_n ?_
      refine aw_cond (wShapeStrokes_20 l v25) (by kernel_rfl) (fun h2 => ?_) (fun h2 => ?_)
      · refine aw_seq ?_
        refine aw_region eqok [] [] [] [6] [] [] ⟨[(6, tB false)], []⟩ .nil (by kernel_rfl) .nil ?_
        refine ath_n ?_
        refine aw_ret ?_
        refine ath_r ?_
        refine abl_r ?_
        refine ath_r ?_
        refine ath_r ?_
        refine abl_r ?_
        refine ath_r ?_
        exact ⟨_, Cv.refl _, .inl rfl, .av (.one (.b false)), by kernel_rfl, tve_eq (by rw [← hF0]; first | (simp only [FShapeStrokes_l0, h1, h2, cond_true, cond_false]; done) | (simp only [FShapeStrokes_l0, h1, h2, cond_true, cond_false]; rfl))⟩
      · refine aw_skip ?_
        refine ath_n ?_
        refine aw_region eqok [] [] [(49, ceI [.agg [.i 1, .list true 7 1 (wShapeStrokes_21 l v25), .i ((FMade9 l).R)], .agg (TPoint.c (FAt9 (FMade9 l) m))] (cInsideS (TShape.mk 1 [wShapeStrokes_18 l v25] ((FMade9 l).R)) (FAt9 (FMade9 l) m)))] [2, 7, 8, 9, 10, 23, 24, 25] [8, 9] [((v10) = false) → ((v10) = false), ((v10) = false) → ((v10) = false), ((v10) = false) → ((v10) = false), ((v10) = false) → ((v10) = false), ((v10) = false) → ((v10) = false), ((v10) = false) → ((v10) = false), ((v10) = false) → (Same (ceI [.agg [.i 1, .list true 7 1 (wShapeStrokes_21 l v25), .i ((FMade9 l).R)], .agg (TPoint.c (FAt9 (FMade9 l) m))] (cInsideS (TShape.mk 1 [wShapeStrokes_18 l v25] ((FMade9 l).R)) (FAt9 (FMade9 l) m))).2.1), (v10) = false → ((v10) = false)] ⟨[(2, .av (.one (.val (.int .u8 more)))), (7, tB Fsanity9), (8, tP 8 0), (9, tP 9 0), (10, tB (wShapeStrokes_22 v10 l v25 m)), (23, .av (.one (lst 7 TEdge.c ((FMade9 l).Edges)))), (24, tI ((((FMade9 l).Edges).length : Int))), (25, tI v25)], [(8, .cells (TShape.c (FMade9 l)) 26), (9, .cells (TPoint.c (FAt9 (FMade9 l) m)) 29)]⟩ (.cons (callOk_ce (okInsideS (TShape.mk 1 [wShapeStrokes_18 l v25] ((FMade9 l).R)) (FAt9 (FMade9 l) m) (by first | assumption | decide | omega | (simp only [List.length_cons, List.length_nil, List.length_append]; omega))) (.cons (.agg (.cons (.refl _) (.cons (cle_told true (told_lit (c := TEdge.c) (xs := ([wShapeStrokes_18 l v25] : List TEdge)) rfl (by kernel_rfl))) (.cons (.refl _) .nil)))) (.cons (AvE.refl _) .nil))) .nil) (by kernel_rfl) (.cons id (.cons id (.cons id (.cons id (.cons id (.cons id (.cons (fun _ => rfl) (.cons id .nil)))))))) ?_
        refine abl_n ?_
        refine ath_n ?_
        refine aw_region eqok [] [] [] [2, 7, 8, 9, 10, 23, 24, 25] [8, 9] [] ⟨[(2, .av (.one (.val (.int .u8 more)))), (7, tB Fsanity9), (8, tP 8 0), (9, tP 9 0), (10, tB (wShapeStrokes_22 v10 l v25 m)), (23, .av (.one (lst 7 TEdge.c ((FMade9 l).Edges)))), (24, tI ((((FMade9 l).Edges).length : Int))), (25, tI (W64 (v25 + 1)))], [(8, .cells (TShape.c (FMade9 l)) 26), (9, .cells (TPoint.c (FAt9 (FMade9 l) m)) 29)]⟩ .nil (by kernel_rfl) .nil ?_
        (try rw [(show W64 (v25 + 1) = v25 + 1 from W64_id (by omega) (by first | omega | (simp only [List.length_drop, List.length_take] at *; omega)))])
        refine ath_n ?_
        refine ⟨(n0, wShapeStrokes_22 v10 l v25 m, v25 + 1), ⟨?_, ?_, (by rw [← hF0]; simp only [FShapeStrokes_l0, h1, h2, cond_true, cond_false])⟩, Nat.lt_succ_self _, cv_eq (by kernel_rfl)⟩
        · show ((((((FMade9 l).Edges).length : Int))) - (v25 + 1)).toNat < n0; omega
        · exact ⟨(by show 0 ≤ (v25 + 1); first | trivial | omega | (simp only [List.length_append, List.length_cons, List.length_nil]; omega) | (simp only [List.length_set, List.length_append, List.length_cons, List.length_nil]; omega) | (simp only [W64_def]; omega) | (simp; omega) | simp), (by show ((v25 + 1) ≤ ((((FMade9 l).Edges).length : Int)) ∨ (v25 + 1) = 0); first | trivial | omega | (simp only [List.length_append, List.length_cons, List.length_nil]; omega) | (simp only [List.length_set, List.length_append, List.length_cons, List.length_nil]; omega) | (simp only [W64_def]; omega) | (simp; omega) | simp)⟩
    · have g1 := of_decide_eq_false h1
      refine aw_exit ?_
      refine ath_e ?_
      refine ath_e ?_
      refine abl_hit ?_
      refine ath_n ?_
      refine aw_seq ?_
      refine aw_seq ?_
      refine aw_region eqok [] [] [] [2, 7, 8, 9, 10, 54] [8, 9] [] ⟨[(2, .av (.one (.val (.int .u8 more)))), (7, tB Fsanity9), (8, tP 8 0), (9, tP 9 0), (10, tB v10), (54, tB (decide ((((FMade9 l).Kind) : Int) = 2)))], [(8, .cells (TShape.c (FMade9 l)) 26), (9, .cells (TPoint.c (FAt9 (FMade9 l) m)) 29)]⟩ .nil (by kernel_rfl) .nil ?_
      refine ath_n ?_
      refine aw_cond (decide ((((FMade9 l).Kind) : Int) = 2)) (by kernel_rfl) (fun h2 => ?_) (fun h2 => ?_)
      · have g2 := of_decide_eq_true h2
        refine aw_seq ?_
        refine aw_region eqok [] [] [(62, cInsideS (FMade9 l) (FAt9 (FMade9 l) m))] [6] [] [((Fsanity9) = true) → ((Fsanity9) = true), ((Fsanity9) = true) → ((Fsanity9) = true), (((Fsanity9) = true) ∧ (!v10) = false) → (((Fsanity9) = true) ∧ (!v10) = false), (((Fsanity9) = true) ∧ (!v10) = false) → (((Fsanity9) = true) ∧ (!v10) = false), (((Fsanity9) = true) ∧ (!v10) = false) → (Same (cInsideS (FMade9 l) (FAt9 (FMade9 l) m)).2.1), ((Fsanity9) = true) → ((Fsanity9) = true), ((Fsanity9) = true) → ((!v10) = false → (((Fsanity9) = true) ∧ (!v10) = false)), (Fsanity9) = true → ((Fsanity9) = true)] ⟨[(6, tB (wShapeStrokes_23 v10 l m))], []⟩ (.cons (okInsideS (FMade9 l) (FAt9 (FMade9 l) m) (by first | assumption | decide | omega | (simp only [List.length_cons, List.length_nil, List.length_append]; omega))) .nil) (by kernel_rfl) (.cons id (.cons id (.cons id (.cons id (.cons (fun _ => rfl) (.cons id (.cons (by intros; first | assumption | exact ⟨by assumption, by assumption⟩ | simp_all) (.cons id .nil)))))))) ?_
        refine ath_n ?_
        refine aw_ret ?_
        refine ath_r ?_
        exact ⟨_, Cv.refl _, .inl rfl, .av (.one (.b (wShapeStrokes_23 v10 l m))), by kernel_rfl, tve_eq (by rw [← hF0]; first | (simp only [FShapeStrokes_l0, h1, h2, cond_true, cond_false]; done) | (simp only [FShapeStrokes_l0, h1, h2, cond_true, cond_false]; rfl))⟩
      · have g2 := of_decide_eq_false h2
        refine aw_skip ?_
        refine ath_n ?_
        refine aw_seq ?_
        refine aw_region eqok [] [] [] [2, 7, 8, 9, 10, 13] [8, 9, 13] [] ⟨[(2, .av (.one (.val (.int .u8 more)))), (7, tB Fsanity9), (8, tP 8 0), (9, tP 9 0), (10, tB v10), (13, tP 13 0)], [(8, .cells (TShape.c (FMade9 l)) 26), (9, .cells (TPoint.c (FAt9 (FMade9 l) m)) 29), (13, .cells (TShape.c (FMade9 l)) 26)]⟩ .nil (by kernel_rfl) .nil ?_
        refine ath_n ?_
        refine aw_seq ?_
        refine aw_region eqok [] [] [] [7, 8, 9, 10, 13] [8, 9, 13] [] ⟨[(7, tB Fsanity9), (8, tP 8 0), (9, tP 9 0), (10, tB v10), (13, tP 13 0)], [(8, .cells (TShape.c (FMade9 l)) 26), (9, .cells (TPoint.c (FAt9 (FMade9 l) m)) 29), (13, .cells [.i ((FMade9 l).Kind), lst 7 TEdge.c ((FMade9 l).Edges), .i (W64 (((FMade9 l).R) + (W64 (more))))] 26)]⟩ .nil (by kernel_rfl) .nil ?_
        refine ath_n ?_
        refine aw_seq ?_
        refine aw_region eqok [] [] [] [7, 8, 9, 10, 13, 14] [8, 9, 13, 14] [0 ≤ (0 : Int) ∧ (0 : Int) < ((((FMade9 l).Edges).length : Nat) : Int)] ⟨[(7, tB Fsanity9), (8, tP 8 0), (9, tP 9 0), (10, tB v10), (13, tP 13 0), (14, tP 14 0)], [(8, .cells (TShape.c (FMade9 l)) 26), (9, .cells (TPoint.c (FAt9 (FMade9 l) m)) 29), (13, .cells [.i ((FMade9 l).Kind), lst 7 TEdge.c ((FMade9 l).Edges), .i (W64 (((FMade9 l).R) + (W64 (more))))] 26), (14, .cells (TEdge.c (((FMade9 l).Edges).getD 0 default)) 35)]⟩ .nil (by kernel_rfl) (.cons (by first | decide | omega | exact idx_tmod (by first | omega | (simp only [W64_def]; omega)) (by omega) | (simp only [W64_def]; omega) | (constructor <;> omega) | (simp only [List.length_append, List.length_cons, List.length_nil]; omega) | (simp only [List.length_append, List.length_cons, List.length_nil, List.length_drop, List.length_take] at *; omega)) .nil) ?_
        refine ath_n ?_
        refine aw_seq ?_
        refine aw_seq ?_
        refine aw_region eqok [] [] [] [7, 8, 9, 10, 13, 14, 15] [8, 9, 13, 14] [] ⟨[(7, tB Fsanity9), (8, tP 8 0), (9, tP 9 0), (10, tB v10), (13, tP 13 0), (14, tP 14 0), (15, tI 0)], [(8, .cells (TShape.c (FMade9 l)) 26), (9, .cells (TPoint.c (FAt9 (FMade9 l) m)) 29), (13, .cells [.i ((FMade9 l).Kind), lst 7 TEdge.c ((FMade9 l).Edges), .i (W64 (((FMade9 l).R) + (W64 (more))))] 26), (14, .cells (TEdge.c (((FMade9 l).Edges).getD 0 default)) 35)]⟩ .nil (by kernel_rfl) .nil ?_
        refine ath_n ?_
        refine aw_block ?_
        refine aw_unroll 5 ?_
        refine aw_round ?_
        refine aw_seq ?_
        refine aw_seq ?_
        refine aw_region eqok [] [] [] [7, 8, 9, 10, 13, 14, 15, 77] [8, 9, 13, 14] [] ⟨[(7, tB Fsanity9), (8, tP 8 0), (9, tP 9 0), (10, tB v10), (13, tP 13 0), (14, tP 14 0), (15, tI 0), (77, tB true)], [(8, .cells (TShape.c (FMade9 l)) 26), (9, .cells (TPoint.c (FAt9 (FMade9 l) m)) 29), (13, .cells [.i ((FMade9 l).Kind), lst 7 TEdge.c ((FMade9 l).Edges), .i (W64 (((FMade9 l).R) + (W64 (more))))] 26), (14, .cells (TEdge.c (((FMade9 l).Edges).getD 0 default)) 35)]⟩ .nil (by kernel_rfl) .nil ?_
        refine ath_n ?_
        refine aw_cond_t (by kernel_rfl) ?_
        refine aw_skip ?_
        refine ath_n ?_
        refine aw_seq ?_
        refine aw_block ?_
        refine aw_seq ?_
        refine aw_draw mixed eqok [] [] [(87, claw09pt ((FMade9 l).R) 0), (88, cref05Apply (TMotion.mk (TPoint.mk 0 0) 0 false) (Flaw09pt ((FMade9 l).R) 0)), (89, cref05Add ((((FMade9 l).Edges).getD 0 default).A) (wShapeStrokes_4 l)), (90, cInsideS (FMade9 l) (wShapeStrokes_5 l))] [7, 8, 9, 10, 13, 14, 15, 91] [8, 9, 13, 14] [Same (claw09pt ((FMade9 l).R) 0).2.1, Same (cref05Apply (TMotion.mk (TPoint.mk 0 0) 0 false) (Flaw09pt ((FMade9 l).R) 0)).2.1, Same (cref05Add ((((FMade9 l).Edges).getD 0 default).A) (wShapeStrokes_4 l)).2.1, Same (cInsideS (FMade9 l) (wShapeStrokes_5 l)).2.1] ⟨[(7, tB Fsanity9), (8, tP 8 0), (9, tP 9 0), (10, tB v10), (13, tP 13 0), (14, tP 14 0), (15, tI 0), (91, tB (wShapeStrokes_6 l))], [(8, .cells (TShape.c (FMade9 l)) 26), (9, .cells (TPoint.c (FAt9 (FMade9 l) m)) 29), (13, .cells [.i ((FMade9 l).Kind), lst 7 TEdge.c ((FMade9 l).Edges), .i (W64 (((FMade9 l).R) + (W64 (more))))] 26), (14, .cells (TEdge.c (((FMade9 l).Edges).getD 0 default)) 35)]⟩ (.cons (oklaw09pt ((FMade9 l).R) 0) (.cons (okref05Apply (TMotion.mk (TPoint.mk 0 0) 0 false) (Flaw09pt ((FMade9 l).R) 0)) (.cons (okref05Add ((((FMade9 l).Edges).getD 0 default).A) (wShapeStrokes_4 l)) (.cons (okInsideS (FMade9 l) (wShapeStrokes_5 l) (by first | assumption | decide | omega | (simp only [List.length_cons, List.length_nil, List.length_append]; omega))) .nil)))) (by kernel_rfl) (by kernel_rfl) (.cons rfl (.cons rfl (.cons rfl (.cons rfl .nil)))) ?_
        refine ath_n ?_
        refine aw_cond (wShapeStrokes_6 l) (by kernel_rfl) (fun h3 => ?_) (fun h3 => ?_)
        · refine aw_seq ?_
          refine aw_region eqok [] [] [] [6] [] [] ⟨[(6, tB false)], []⟩ .nil (by kernel_rfl) .nil ?_
          refine ath_n ?_
          refine aw_ret ?_
          refine abl_r ?_
          refine ath_r ?_
          refine ath_r ?_
          refine abl_r ?_
          refine ath_r ?_
          exact ⟨_, Cv.refl _, .inl rfl, .av (.one (.b false)), by kernel_rfl, tve_eq (by rw [← hF0]; first | (simp only [FShapeStrokes_l0, h1, h2, h3, cond_true, cond_false]; done) | (simp only [FShapeStrokes_l0, h1, h2, h3, cond_true, cond_false]; rfl))⟩
        · refine aw_skip ?_
          refine abl_n ?_
          refine ath_n ?_
          refine aw_region eqok [] [] [] [7, 8, 9, 10, 13, 14, 15] [8, 9, 13, 14] [] ⟨[(7, tB Fsanity9), (8, tP 8 0), (9, tP 9 0), (10, tB v10), (13, tP 13 0), (14, tP 14 0), (15, tI 1)], [(8, .cells (TShape.c (FMade9 l)) 26), (9, .cells (TPoint.c (FAt9 (FMade9 l) m)) 29), (13, .cells [.i ((FMade9 l).Kind), lst 7 TEdge.c ((FMade9 l).Edges), .i (W64 (((FMade9 l).R) + (W64 (more))))] 26), (14, .cells (TEdge.c (((FMade9 l).Edges).getD 0 default)) 35)]⟩ .nil (by kernel_rfl) .nil ?_
          refine ath_n ?_
          refine aw_round ?_
          refine aw_seq ?_
          refine aw_seq ?_
          refine aw_region eqok [] [] [] [7, 8, 9, 10, 13, 14, 15, 77] [8, 9, 13, 14] [] ⟨[(7, tB Fsanity9), (8, tP 8 0), (9, tP 9 0), (10, tB v10), (13, tP 13 0), (14, tP 14 0), (15, tI 1), (77, tB true)], [(8, .cells (TShape.c (FMade9 l)) 26), (9, .cells (TPoint.c (FAt9 (FMade9 l) m)) 29), (13, .cells [.i ((FMade9 l).Kind), lst 7 TEdge.c ((FMade9 l).Edges), .i (W64 (((FMade9 l).R) + (W64 (more))))] 26), (14, .cells (TEdge.c (((FMade9 l).Edges).getD 0 default)) 35)]⟩ .nil (by kernel_rfl) .nil ?_
          refine ath_n ?_
          refine aw_cond_t (by kernel_rfl) ?_
          refine aw_skip ?_
          refine ath_n ?_
          refine aw_seq ?_
          refine aw_block ?_
          refine aw_seq ?_
          refine aw_draw mixed eqok [] [] [(87, claw09pt ((FMade9 l).R) 0), (88, cref05Apply (TMotion.mk (TPoint.mk 0 0) 1 false) (Flaw09pt ((FMade9 l).R) 0)), (89, cref05Add ((((FMade9 l).Edges).getD 0 default).A) (wShapeStrokes_7 l)), (90, cInsideS (FMade9 l) (wShapeStrokes_8 l))] [7, 8, 9, 10, 13, 14, 15, 91] [8, 9, 13, 14] [Same (claw09pt ((FMade9 l).R) 0).2.1, Same (cref05Apply (TMotion.mk (TPoint.mk 0 0) 1 false) (Flaw09pt ((FMade9 l).R) 0)).2.1, Same (cref05Add ((((FMade9 l).Edges).getD 0 default).A) (wShapeStrokes_7 l)).2.1, Same (cInsideS (FMade9 l) (wShapeStrokes_8 l)).2.1] ⟨[(7, tB Fsanity9), (8, tP 8 0), (9, tP 9 0), (10, tB v10), (13, tP 13 0), (14, tP 14 0), (15, tI 1), (91, tB (wShapeStrokes_9 l))], [(8, .cells (TShape.c (FMade9 l)) 26), (9, .cells (TPoint.c (FAt9 (FMade9 l) m)) 29), (13, .cells [.i ((FMade9 l).Kind), lst 7 TEdge.c ((FMade9 l).Edges), .i (W64 (((FMade9 l).R) + (W64 (more))))] 26), (14, .cells (TEdge.c (((FMade9 l).Edges).getD 0 default)) 35)]⟩ (.cons (oklaw09pt ((FMade9 l).R) 0) (.cons (okref05Apply (TMotion.mk (TPoint.mk 0 0) 1 false) (Flaw09pt ((FMade9 l).R) 0)) (.cons (okref05Add ((((FMade9 l).Edges).getD 0 default).A) (wShapeStrokes_7 l)) (.cons (okInsideS (FMade9 l) (wShapeStrokes_8 l) (by first | assumption | decide | omega | (simp only [List.length_cons, List.length_nil, List.length_append]; omega))) .nil)))) (by kernel_rfl) (by kernel_rfl) (.cons rfl (.cons rfl (.cons rfl (.cons rfl .nil)))) ?_
          refine ath_n ?_
          refine aw_cond (wShapeStrokes_9 l) (by kernel_rfl) (fun h4 => ?_) (fun h4 => ?_)
          · refine aw_seq ?_
            refine aw_region eqok [] [] [] [6] [] [] ⟨[(6, tB false)], []⟩ .nil (by kernel_rfl) .nil ?_
            refine ath_n ?_
            refine aw_ret ?_
            refine abl_r ?_
            refine ath_r ?_
            refine ath_r ?_
            refine abl_r ?_
            refine ath_r ?_
            exact ⟨_, Cv.refl _, .inl rfl, .av (.one (.b false)), by kernel_rfl, tve_eq (by rw [← hF0]; first | (simp only [FShapeStrokes_l0, h1, h2, h3, h4, cond_true, cond_false]; done) | (simp only [FShapeStrokes_l0, h1, h2, h3, h4, cond_true, cond_false]; rfl))⟩
          · refine aw_skip ?_
            refine abl_n ?_
            refine ath_n ?_
            refine aw_region eqok [] [] [] [7, 8, 9, 10, 13, 14, 15] [8, 9, 13, 14] [] ⟨[(7, tB Fsanity9), (8, tP 8 0), (9, tP 9 0), (10, tB v10), (13, tP 13 0), (14, tP 14 0), (15, tI 2)], [(8, .cells (TShape.c (FMade9 l)) 26), (9, .cells (TPoint.c (FAt9 (FMade9 l) m)) 29), (13, .cells [.i ((FMade9 l).Kind), lst 7 TEdge.c ((FMade9 l).Edges), .i (W64 (((FMade9 l).R) + (W64 (more))))] 26), (14, .cells (TEdge.c (((FMade9 l).Edges).getD 0 default)) 35)]⟩ .nil (by kernel_rfl) .nil ?_
            refine ath_n ?_
            refine aw_round ?_
            refine aw_seq ?_
            refine aw_seq ?_
            refine aw_region eqok [] [] [] [7, 8, 9, 10, 13, 14, 15, 77] [8, 9, 13, 14] [] ⟨[(7, tB Fsanity9), (8, tP 8 0), (9, tP 9 0), (10, tB v10), (13, tP 13 0), (14, tP 14 0), (15, tI 2), (77, tB true)], [(8, .cells (TShape.c (FMade9 l)) 26), (9, .cells (TPoint.c (FAt9 (FMade9 l) m)) 29), (13, .cells [.i ((FMade9 l).Kind), lst 7 TEdge.c ((FMade9 l).Edges), .i (W64 (((FMade9 l).R) + (W64 (more))))] 26), (14, .cells (TEdge.c (((FMade9 l).Edges).getD 0 default)) 35)]⟩ .nil (by kernel_rfl) .nil ?_
            refine ath_n ?_
            refine aw_cond_t (by kernel_rfl) ?_
            refine aw_skip ?_
            refine ath_n ?_
            refine aw_seq ?_
            refine aw_block ?_
            refine aw_seq ?_
            refine aw_draw mixed eqok [] [] [(87, claw09pt ((FMade9 l).R) 0), (88, cref05Apply (TMotion.mk (TPoint.mk 0 0) 2 false) (Flaw09pt ((FMade9 l).R) 0)), (89, cref05Add ((((FMade9 l).Edges).getD 0 default).A) (wShapeStrokes_10 l)), (90, cInsideS (FMade9 l) (wShapeStrokes_11 l))] [7, 8, 9, 10, 13, 14, 15, 91] [8, 9, 13, 14] [Same (claw09pt ((FMade9 l).R) 0).2.1, Same (cref05Apply (TMotion.mk (TPoint.mk 0 0) 2 false) (Flaw09pt ((FMade9 l).R) 0)).2.1, Same (cref05Add ((((FMade9 l).Edges).getD 0 default).A) (wShapeStrokes_10 l)).2.1, Same (cInsideS (FMade9 l) (wShapeStrokes_11 l)).2.1] ⟨[(7, tB Fsanity9), (8, tP 8 0), (9, tP 9 0), (10, tB v10), (13, tP 13 0), (14, tP 14 0), (15, tI 2), (91, tB (wShapeStrokes_12 l))], [(8, .cells (TShape.c (FMade9 l)) 26), (9, .cells (TPoint.c (FAt9 (FMade9 l) m)) 29), (13, .cells [.i ((FMade9 l).Kind), lst 7 TEdge.c ((FMade9 l).Edges), .i (W64 (((FMade9 l).R) + (W64 (more))))] 26), (14, .cells (TEdge.c (((FMade9 l).Edges).getD 0 default)) 35)]⟩ (.cons (oklaw09pt ((FMade9 l).R) 0) (.cons (okref05Apply (TMotion.mk (TPoint.mk 0 0) 2 false) (Flaw09pt ((FMade9 l).R) 0)) (.cons (okref05Add ((((FMade9 l).Edges).getD 0 default).A) (wShapeStrokes_10 l)) (.cons (okInsideS (FMade9 l) (wShapeStrokes_11 l) (by first | assumption | decide | omega | (simp only [List.length_cons, List.length_nil, List.length_append]; omega))) .nil)))) (by kernel_rfl) (by kernel_rfl) (.cons rfl (.cons rfl (.cons rfl (.cons rfl .nil)))) ?_
            refine ath_n ?_
            refine aw_cond (wShapeStrokes_12 l) (by kernel_rfl) (fun h5 => ?_) (fun h5 => ?_)
            · refine aw_seq ?_
              refine aw_region eqok [] [] [] [6] [] [] ⟨[(6, tB false)], []⟩ .nil (by kernel_rfl) .nil ?_
              refine ath_n ?_
              refine aw_ret ?_
              refine abl_r ?_
              refine ath_r ?_
              refine ath_r ?_
              refine abl_r ?_
              refine ath_r ?_
              exact ⟨_, Cv.refl _, .inl rfl, .av (.one (.b false)), by kernel_rfl, tve_eq (by rw [← hF0]; first | (simp only [FShapeStrokes_l0, h1, h2, h3, h4, h5, cond_true, cond_false]; done) | (simp only [FShapeStrokes_l0, h1, h2, h3, h4, h5, cond_true, cond_false]; rfl))⟩
            · refine aw_skip ?_
              refine abl_n ?_
              refine ath_n ?_
              refine aw_region eqok [] [] [] [7, 8, 9, 10, 13, 14, 15] [8, 9, 13, 14] [] ⟨[(7, tB Fsanity9), (8, tP 8 0), (9, tP 9 0), (10, tB v10), (13, tP 13 0), (14, tP 14 0), (15, tI 3)], [(8, .cells (TShape.c (FMade9 l)) 26), (9, .cells (TPoint.c (FAt9 (FMade9 l) m)) 29), (13, .cells [.i ((FMade9 l).Kind), lst 7 TEdge.c ((FMade9 l).Edges), .i (W64 (((FMade9 l).R) + (W64 (more))))] 26), (14, .cells (TEdge.c (((FMade9 l).Edges).getD 0 default)) 35)]⟩ .nil (by kernel_rfl) .nil ?_
              refine ath_n ?_
              refine aw_round ?_
              refine aw_seq ?_
              refine aw_seq ?_
              refine aw_region eqok [] [] [] [7, 8, 9, 10, 13, 14, 15, 77] [8, 9, 13, 14] [] ⟨[(7, tB Fsanity9), (8, tP 8 0), (9, tP 9 0), (10, tB v10), (13, tP 13 0), (14, tP 14 0), (15, tI 3), (77, tB true)], [(8, .cells (TShape.c (FMade9 l)) 26), (9, .cells (TPoint.c (FAt9 (FMade9 l) m)) 29), (13, .cells [.i ((FMade9 l).Kind), lst 7 TEdge.c ((FMade9 l).Edges), .i (W64 (((FMade9 l).R) + (W64 (more))))] 26), (14, .cells (TEdge.c (((FMade9 l).Edges).getD 0 default)) 35)]⟩ .nil (by kernel_rfl) .nil ?_
              refine ath_n ?_
              refine aw_cond_t (by kernel_rfl) ?_
              refine aw_skip ?_
              refine ath_n ?_
              refine aw_seq ?_
              refine aw_block ?_
              refine aw_seq ?_
              refine aw_draw mixed eqok [] [] [(87, claw09pt ((FMade9 l).R) 0), (88, cref05Apply (TMotion.mk (TPoint.mk 0 0) 3 false) (Flaw09pt ((FMade9 l).R) 0)), (89, cref05Add ((((FMade9 l).Edges).getD 0 default).A) (wShapeStrokes_13 l)), (90, cInsideS (FMade9 l) (wShapeStrokes_14 l))] [7, 8, 9, 10, 13, 14, 15, 91] [8, 9, 13, 14] [Same (claw09pt ((FMade9 l).R) 0).2.1, Same (cref05Apply (TMotion.mk (TPoint.mk 0 0) 3 false) (Flaw09pt ((FMade9 l).R) 0)).2.1, Same (cref05Add ((((FMade9 l).Edges).getD 0 default).A) (wShapeStrokes_13 l)).2.1, Same (cInsideS (FMade9 l) (wShapeStrokes_14 l)).2.1] ⟨[(7, tB Fsanity9), (8, tP 8 0), (9, tP 9 0), (10, tB v10), (13, tP 13 0), (14, tP 14 0), (15, tI 3), (91, tB (wShapeStrokes_15 l))], [(8, .cells (TShape.c (FMade9 l)) 26), (9, .cells (TPoint.c (FAt9 (FMade9 l) m)) 29), (13, .cells [.i ((FMade9 l).Kind), lst 7 TEdge.c ((FMade9 l).Edges), .i (W64 (((FMade9 l).R) + (W64 (more))))] 26), (14, .cells (TEdge.c (((FMade9 l).Edges).getD 0 default)) 35)]⟩ (.cons (oklaw09pt ((FMade9 l).R) 0) (.cons (okref05Apply (TMotion.mk (TPoint.mk 0 0) 3 false) (Flaw09pt ((FMade9 l).R) 0)) (.cons (okref05Add ((((FMade9 l).Edges).getD 0 default).A) (wShapeStrokes_13 l)) (.cons (okInsideS (FMade9 l) (wShapeStrokes_14 l) (by first | assumption | decide | omega | (simp only [List.length_cons, List.length_nil, List.length_append]; omega))) .nil)))) (by kernel_rfl) (by kernel_rfl) (.cons rfl (.cons rfl (.cons rfl (.cons rfl .nil)))) ?_
              refine ath_n ?_
              refine aw_cond (wShapeStrokes_15 l) (by kernel_rfl) (fun h6 => ?_) (fun h6 => ?_)
              · refine aw_seq ?_
                refine aw_region eqok [] [] [] [6] [] [] ⟨[(6, tB false)], []⟩ .nil (by kernel_rfl) .nil ?_
                refine ath_n ?_
                refine aw_ret ?_
                refine abl_r ?_
                refine ath_r ?_
                refine ath_r ?_
                refine abl_r ?_
                refine ath_r ?_
                exact ⟨_, Cv.refl _, .inl rfl, .av (.one (.b false)), by kernel_rfl, tve_eq (by rw [← hF0]; first | (simp only [FShapeStrokes_l0, h1, h2, h3, h4, h5, h6, cond_true, cond_false]; done) | (simp only [FShapeStrokes_l0, h1, h2, h3, h4, h5, h6, cond_true, cond_false]; rfl))⟩
              · refine aw_skip ?_
                refine abl_n ?_
                refine ath_n ?_
                refine aw_region eqok [] [] [] [7, 8, 9, 10, 13, 14, 15] [8, 9, 13, 14] [] ⟨[(7, tB Fsanity9), (8, tP 8 0), (9, tP 9 0), (10, tB v10), (13, tP 13 0), (14, tP 14 0), (15, tI 4)], [(8, .cells (TShape.c (FMade9 l)) 26), (9, .cells (TPoint.c (FAt9 (FMade9 l) m)) 29), (13, .cells [.i ((FMade9 l).Kind), lst 7 TEdge.c ((FMade9 l).Edges), .i (W64 (((FMade9 l).R) + (W64 (more))))] 26), (14, .cells (TEdge.c (((FMade9 l).Edges).getD 0 default)) 35)]⟩ .nil (by kernel_rfl) .nil ?_
                refine ath_n ?_
                refine aw_round ?_
                refine aw_seq ?_
                refine aw_seq ?_
                refine aw_region eqok [] [] [] [7, 8, 9, 10, 13, 14, 15, 77] [8, 9, 13, 14] [] ⟨[(7, tB Fsanity9), (8, tP 8 0), (9, tP 9 0), (10, tB v10), (13, tP 13 0), (14, tP 14 0), (15, tI 4), (77, tB false)], [(8, .cells (TShape.c (FMade9 l)) 26), (9, .cells (TPoint.c (FAt9 (FMade9 l) m)) 29), (13, .cells [.i ((FMade9 l).Kind), lst 7 TEdge.c ((FMade9 l).Edges), .i (W64 (((FMade9 l).R) + (W64 (more))))] 26), (14, .cells (TEdge.c (((FMade9 l).Edges).getD 0 default)) 35)]⟩ .nil (by kernel_rfl) .nil ?_
                refine ath_n ?_
                refine aw_cond_f (by kernel_rfl) ?_
                refine aw_exit ?_
                refine ath_e ?_
                refine ath_e ?_
                refine abl_hit ?_
                refine ath_n ?_
                refine aw_seq ?_
                refine aw_region eqok [] [] [(96, cInsideS (FMade9 l) (FAt9 (FMade9 l) m)), (106, cInsideS (TShape.mk ((FMade9 l).Kind) ((FMade9 l).Edges) (W64 (((FMade9 l).R) + (W64 (more))))) (FAt9 (FMade9 l) m))] [6] [] [((Fsanity9) = true) → ((Fsanity9) = true), ((Fsanity9) = true) → ((Fsanity9) = true), ((Fsanity9) = true) → (Same (cInsideS (FMade9 l) (FAt9 (FMade9 l) m)).2.1), ((Fsanity9) = true) → ((Fsanity9) = true), ((Fsanity9) = true) → ((Fsanity9) = true), (Fsanity9) = true → ((Fsanity9) = true), ((wShapeStrokes_24 l m v10) = true) → ((wShapeStrokes_24 l m v10) = true), ((wShapeStrokes_24 l m v10) = true) → ((wShapeStrokes_24 l m v10) = true), (((wShapeStrokes_24 l m v10) = true) ∧ (!v10) = false) → (((wShapeStrokes_24 l m v10) = true) ∧ (!v10) = false), (((wShapeStrokes_24 l m v10) = true) ∧ (!v10) = false) → (((wShapeStrokes_24 l m v10) = true) ∧ (!v10) = false), (((wShapeStrokes_24 l m v10) = true) ∧ (!v10) = false) → (Same (cInsideS (TShape.mk ((FMade9 l).Kind) ((FMade9 l).Edges) (W64 (((FMade9 l).R) + (W64 (more))))) (FAt9 (FMade9 l) m)).2.1), ((wShapeStrokes_24 l m v10) = true) → ((wShapeStrokes_24 l m v10) = true), ((wShapeStrokes_24 l m v10) = true) → ((!v10) = false → (((wShapeStrokes_24 l m v10) = true) ∧ (!v10) = false)), (wShapeStrokes_24 l m v10) = true → ((wShapeStrokes_24 l m v10) = true)] ⟨[(6, tB (wShapeStrokes_25 l m v10 more))], []⟩ (.cons (okInsideS (FMade9 l) (FAt9 (FMade9 l) m) (by first | assumption | decide | omega | (simp only [List.length_cons, List.length_nil, List.length_append]; omega))) (.cons (okInsideS (TShape.mk ((FMade9 l).Kind) ((FMade9 l).Edges) (W64 (((FMade9 l).R) + (W64 (more))))) (FAt9 (FMade9 l) m) (by first | assumption | decide | omega | (simp only [List.length_cons, List.length_nil, List.length_append]; omega))) .nil)) (by kernel_rfl) (.cons id (.cons id (.cons (fun _ => rfl) (.cons id (.cons id (.cons id (.cons id (.cons id (.cons id (.cons id (.cons (fun _ => rfl) (.cons id (.cons (by intros; first | assumption | exact ⟨by assumption, by assumption⟩ | simp_all) (.cons id .nil)))))))))))))) ?_
                refine ath_n ?_
                refine aw_ret ?_
                exact ⟨_, Cv.refl _, .inl rfl, .av (.one (.b (wShapeStrokes_25 l m v10 more))), by kernel_rfl, tve_eq (by rw [← hF0]; first | (simp only [FShapeStrokes_l0, h1, h2, h3, h4, h5, h6, cond_true, cond_false]; done) | (simp only [FShapeStrokes_l0, h1, h2, h3, h4, h5, h6, cond_true, cond_false]; rfl))⟩
theorem okShapeStrokes (l : (List Int)) (m : (List Int)) (more : Int) (hl : (l.length : Int) ≤ 9223372036854775807) (hm : (m.length : Int) ≤ 9223372036854775807) : CallOk Try.prog (cShapeStrokes l m more).1 (cShapeStrokes l m more).2.1 (cShapeStrokes l m more).2.2 := callOk_pure (fun _ _ => by kernel_rfl) fun _ => pShapeStrokes l m more hl hm
end Go.Proofs.Ytpnlegfdkkcnlaa
