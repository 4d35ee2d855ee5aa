/-
  No statement is proved in this text. It holds what functions return.
-/
import Derived.Test.YtgmhnkoifdpemaaProg
import Derived.Test.YtgmhnkoifdpemaaK9j
import Derived.Test.YtgmhnkoifdpemaaIt09
import Derived.Test.YtgmhnkoifdpemaaS27
namespace Go.Proofs.Ytgmhnkoifdpemaa
open Go.RowKit
set_option linter.unusedVariables false
set_option linter.unusedSimpArgs false
theorem chk_len {l : Nat} {b c : Bool} (h : (bif b then b else (bif decide ((((l : Nat) : Int)) = 0) then decide ((((l : Nat) : Int)) = 0) else c)) = false) : 1 ≤ l := by
  cases b with
  | true => cases h
  | false =>
    by_cases e : ((l : Nat) : Int) = 0
    · rw [decide_eq_true e] at h; cases h
    · omega
theorem nm_TEdge : ∀ x : TEdge, ∀ y ∈ TEdge.c x, NM y := nm_edge
theorem nm_TShape : ∀ x : TShape, ∀ y ∈ TShape.c x, NM y := by
  intro x y hy
  simp only [TShape.c, List.mem_cons, List.not_mem_nil, or_false] at hy
  rcases hy with rfl | rfl | rfl
  · exact .val _
  · exact nm_lst nm_edge
  · exact .val _
def wCheckS_0 (s : TShape) : FuncId × List Av × Ef := (73, [.one (lst 7 TEdge.c s.Edges), .one (.b (decide ((s.Kind : Int) = 2)))], .val [] (.av (.one (.clo 91 2 (listF [.eptr 1 1 (fun _ j => ([lst 7 TEdge.c s.Edges] : List Cl).getD j default) 0 0, .eptr 1 1 (fun _ j => ([.b (decide ((s.Kind : Int) = 2))] : List Cl).getD j default) 0 0])))))
def FCheckS_r1 (s : TShape) (v39 : Int) (K0 : Int → Int) : Nat → Nat → Int
  | 0, _ => bif bif bif bif decide ((s.Kind : Int) = 2) then !decide ((s.R : Int) = 0) else false then true else decide ((s.R : Int) < 0) then true else decide ((4194304 : Int) < s.R) then (3) else (0)
  | m + 1, x => bif !(decide ((((jnA s.Edges x).B).X) = (((jnB s.Edges x).A).X)) && (decide ((((jnA s.Edges x).B).Y) = (((jnB s.Edges x).A).Y)) && true)) then (12) else ((FCheckS_r1 s v39 K0 m (x + 1)))
def FCheckS_l0 (s : TShape) : Nat → Int → Int
  | 0, _ => default
  | n0 + 1, v39 => bif decide ((v39 : Int) < ((s.Edges.length : Int))) then (bif !decide (((FCheck (s.Edges.getD v39.toNat default)) : Int) = 0) then (FCheck (s.Edges.getD v39.toNat default)) else ((FCheckS_l0 s n0) (v39 + 1))) else (FCheckS_r1 s v39 (FCheckS_l0 s n0) (jnN s.Edges (decide ((s.Kind : Int) = 2))) 0)
def FCheckS (s : TShape) : Int := bif bif bif !decide ((s.Kind : Int) = 1) then !(decide ((s.Kind : Int) = 2)) else false then (bif !decide ((s.Kind : Int) = 1) then !(decide ((s.Kind : Int) = 2)) else false) else (bif decide ((((s.Edges.length : Int)) : Int) = 0) then (decide ((((s.Edges.length : Int)) : Int) = 0)) else (bif decide ((s.Kind : Int) = 2) then decide ((((s.Edges.length : Int)) : Int) < 2) else false)) then (12) else (bif decide ((40 : Int) < ((s.Edges.length : Int))) then (2) else (FCheckS_l0 s (((((s.Edges.length : Int))) - 0).toNat + 1) 0))
def cCheckS (s : TShape) : FuncId × List Av × Ef := (49, [.agg (TShape.c s)], .val [] (.av (.one (.i (FCheckS s)))))
set_option maxRecDepth 100000 in
theorem pCheckS (s : TShape) (hl : (s.Edges.length : Int) ≤ 9223372036854775807) : Pure Try.prog 49 (cCheckS s).2.1 (.av (.one (.i (FCheckS s)))) := by
  refine pure_of_awF Try.func49 rfl (by kernel_rfl) (by kernel_rfl) fun W0 M0 => ?_
  refine aw_seq ?_
  refine aw_region eqok [] [] [] [1, 2] [1, 2] [] ⟨[(1, tP 1 0), (2, tP 2 0)], [(1, .cells (TShape.c s) 36), (2, .cells [.i 0] 47)]⟩ .nil (by kernel_rfl) .nil ?_
  refine ath_n ?_
  refine aw_seq ?_
  refine aw_region eqok [] [] [] [1, 2, 3] [1, 2] [] ⟨[(1, tP 1 0), (2, tP 2 0), (3, tB (decide ((s.Kind : Int) = 2)))], [(1, .cells (TShape.c s) 36), (2, .cells [.i 0] 47)]⟩ .nil (by kernel_rfl) .nil ?_
  refine ath_n ?_
  refine aw_seq ?_
  refine aw_block ?_
  refine aw_seq ?_
  refine aw_seq ?_
  refine aw_region eqok [] [] [] [1, 2, 3, 12] [1, 2] [((!decide ((s.Kind : Int) = 1)) = true) → ((!decide ((s.Kind : Int) = 1)) = true), (!decide ((s.Kind : Int) = 1)) = true → ((!decide ((s.Kind : Int) = 1)) = true)] ⟨[(1, tP 1 0), (2, tP 2 0), (3, tB (decide ((s.Kind : Int) = 2))), (12, tB (bif !decide ((s.Kind : Int) = 1) then !(decide ((s.Kind : Int) = 2)) else false))], [(1, .cells (TShape.c s) 36), (2, .cells [.i 0] 47)]⟩ .nil (by kernel_rfl) (.cons id (.cons id .nil)) ?_
  refine ath_n ?_
  refine aw_joinC (⟨[(1, tP 1 0), (2, tP 2 0), (3, tB (decide ((s.Kind : Int) = 2))), (12, tB (bif bif !decide ((s.Kind : Int) = 1) then !(decide ((s.Kind : Int) = 2)) else false then (bif !decide ((s.Kind : Int) = 1) then !(decide ((s.Kind : Int) = 2)) else false) else (bif decide ((((s.Edges.length : Int)) : Int) = 0) then (decide ((((s.Edges.length : Int)) : Int) = 0)) else (bif decide ((s.Kind : Int) = 2) then decide ((((s.Edges.length : Int)) : Int) < 2) else false))))], [(1, .cells (TShape.c s) 36), (2, .cells [.i 0] 47)]⟩) ?_ ?_
  · refine aw_cond (bif !decide ((s.Kind : Int) = 1) then !(decide ((s.Kind : Int) = 2)) else false) (by kernel_rfl) (fun h1 => ?_) (fun h1 => ?_)
    · refine aw_skip ?_
      refine ath_n ?_
      refine cv_eq ?_
      first | rfl | (simp only [h1, cond_true, cond_false]; done) | (simp only [h1, cond_true, cond_false]; rfl)
    · refine aw_seq ?_
      refine aw_region eqok [] [] [] [1, 2, 3, 12] [1, 2] [] ⟨[(1, tP 1 0), (2, tP 2 0), (3, tB (decide ((s.Kind : Int) = 2))), (12, tB (decide ((((s.Edges.length : Int)) : Int) = 0)))], [(1, .cells (TShape.c s) 36), (2, .cells [.i 0] 47)]⟩ .nil (by kernel_rfl) .nil ?_
      refine ath_n ?_
      refine aw_cond (decide ((((s.Edges.length : Int)) : Int) = 0)) (by kernel_rfl) (fun h2 => ?_) (fun h2 => ?_)
      · have g2 := of_decide_eq_true h2
        refine aw_skip ?_
        refine ath_n ?_
        refine cv_eq ?_
        first | rfl | (simp only [h1, h2, cond_true, cond_false]; done) | (simp only [h1, h2, cond_true, cond_false]; rfl)
      · have g2 := of_decide_eq_false h2
        refine aw_region eqok [] [] [] [1, 2, 3, 12] [1, 2] [((decide ((s.Kind : Int) = 2)) = true) → ((decide ((s.Kind : Int) = 2)) = true), ((decide ((s.Kind : Int) = 2)) = true) → ((decide ((s.Kind : Int) = 2)) = true), ((decide ((s.Kind : Int) = 2)) = true) → ((decide ((s.Kind : Int) = 2)) = true), (decide ((s.Kind : Int) = 2)) = true → ((decide ((s.Kind : Int) = 2)) = true)] ⟨[(1, tP 1 0), (2, tP 2 0), (3, tB (decide ((s.Kind : Int) = 2))), (12, tB (bif decide ((s.Kind : Int) = 2) then decide ((((s.Edges.length : Int)) : Int) < 2) else false))], [(1, .cells (TShape.c s) 36), (2, .cells [.i 0] 47)]⟩ .nil (by kernel_rfl) (.cons id (.cons id (.cons id (.cons id .nil)))) ?_
        refine ath_n ?_
        refine cv_eq ?_
        first | rfl | (simp only [h1, h2, cond_true, cond_false]; done) | (simp only [h1, h2, cond_true, cond_false]; rfl)
  refine aw_cond (bif bif !decide ((s.Kind : Int) = 1) then !(decide ((s.Kind : Int) = 2)) else false then (bif !decide ((s.Kind : Int) = 1) then !(decide ((s.Kind : Int) = 2)) else false) else (bif decide ((((s.Edges.length : Int)) : Int) = 0) then (decide ((((s.Edges.length : Int)) : Int) = 0)) else (bif decide ((s.Kind : Int) = 2) then decide ((((s.Edges.length : Int)) : Int) < 2) else false))) (by kernel_rfl) (fun h1 => ?_) (fun h1 => ?_)
  · refine aw_seq ?_
    refine aw_region eqok [] [] [] [2] [2] [] ⟨[(2, tP 2 0)], [(2, .cells [.i 12] 47)]⟩ .nil (by kernel_rfl) .nil ?_
    refine ath_n ?_
    refine aw_ret ?_
    refine abl_r ?_
    refine ath_r ?_
    exact ⟨_, Cv.refl _, .inl rfl, .av (.one (.i 12)), by kernel_rfl, tve_eq (by first | (simp only [FCheckS, h1, cond_true, cond_false]; done) | (simp only [FCheckS, h1, cond_true, cond_false]; rfl))⟩
  · refine aw_seq ?_
    refine aw_region eqok [] [] [] [1, 2, 3, 31] [1, 2] [] ⟨[(1, tP 1 0), (2, tP 2 0), (3, tB (decide ((s.Kind : Int) = 2))), (31, tB (decide ((40 : Int) < ((s.Edges.length : Int)))))], [(1, .cells (TShape.c s) 36), (2, .cells [.i 0] 47)]⟩ .nil (by kernel_rfl) .nil ?_
    refine ath_n ?_
    refine aw_cond (decide ((40 : Int) < ((s.Edges.length : Int)))) (by kernel_rfl) (fun h2 => ?_) (fun h2 => ?_)
    · have g2 := of_decide_eq_true h2
      refine aw_seq ?_
      refine aw_region eqok [] [] [] [2] [2] [] ⟨[(2, tP 2 0)], [(2, .cells [.i 2] 47)]⟩ .nil (by kernel_rfl) .nil ?_
      refine ath_n ?_
      refine aw_ret ?_
      refine abl_r ?_
      refine ath_r ?_
      exact ⟨_, Cv.refl _, .inl rfl, .av (.one (.i 2)), by kernel_rfl, tve_eq (by first | (simp only [FCheckS, h1, h2, cond_true, cond_false]; done) | (simp only [FCheckS, h1, h2, cond_true, cond_false]; rfl))⟩
    · have g2 := of_decide_eq_false h2
      refine aw_skip ?_
      refine abl_n ?_
      refine ath_n ?_
      refine aw_seq ?_
      refine aw_seq ?_
      refine aw_region eqok [] [] [] [1, 2, 3, 37, 38, 39] [1, 2] [] ⟨[(1, tP 1 0), (2, tP 2 0), (3, tB (decide ((s.Kind : Int) = 2))), (37, .av (.one (lst 7 TEdge.c s.Edges))), (38, tI ((s.Edges.length : Int))), (39, tI 0)], [(1, .cells (TShape.c s) 36), (2, .cells [.i 0] 47)]⟩ .nil (by kernel_rfl) .nil ?_
      refine ath_n ?_
      refine aw_block ?_
      refine aw_loopC (ι := Nat × Int) (fun x => ⟨[(1, tP 1 0), (2, tP 2 0), (3, tB (decide ((s.Kind : Int) = 2))), (37, .av (.one (lst 7 TEdge.c s.Edges))), (38, tI ((s.Edges.length : Int))), (39, tI x.2)], [(1, .cells (TShape.c s) 36), (2, .cells [.i 0] 47)]⟩) (fun x => ((((s.Edges.length : Int))) - x.2).toNat < x.1 ∧ (0 ≤ x.2 ∧ (x.2 ≤ ((s.Edges.length : Int)) ∨ x.2 = 0)) ∧ FCheckS_l0 s x.1 x.2 = FCheckS s) (fun x => x.1) ?_ (((((s.Edges.length : Int))) - 0).toNat + 1, 0) ⟨Nat.lt_succ_self _, ⟨(by show 0 ≤ 0; first | trivial | omega | (simp only [List.length_append, List.length_cons, List.length_nil]; omega) | (simp only [List.length_set, List.length_append, List.length_cons, List.length_nil]; omega) | (simp only [W64_def]; omega) | (simp; omega) | simp), (by show (0 ≤ ((s.Edges.length : Int)) ∨ 0 = 0); first | trivial | omega | (simp only [List.length_append, List.length_cons, List.length_nil]; omega) | (simp only [List.length_set, List.length_append, List.length_cons, List.length_nil]; omega) | (simp only [W64_def]; omega) | (simp; omega) | simp)⟩, (by simp only [FCheckS, h1, h2, cond_true, cond_false])⟩
      rintro ⟨n0, v39⟩ ⟨hn, hinv, hF⟩
      have hm0 : ((((s.Edges.length : Int))) - v39).toNat < n0 := hn; have hinv0 : 0 ≤ v39 ∧ (v39 ≤ ((s.Edges.length : Int)) ∨ v39 = 0) := hinv; have hF0 : FCheckS_l0 s n0 v39 = FCheckS s := hF; clear hn hinv hF
      cases n0 with
      | zero => exact absurd hm0 (Nat.not_lt_zero _)
      | succ n0 =>
        refine aw_seq ?_
        refine aw_region eqok [] [] [] [1, 2, 3, 37, 38, 39, 40] [1, 2] [] ⟨[(1, tP 1 0), (2, tP 2 0), (3, tB (decide ((s.Kind : Int) = 2))), (37, .av (.one (lst 7 TEdge.c s.Edges))), (38, tI ((s.Edges.length : Int))), (39, tI v39), (40, tB (decide ((v39 : Int) < ((s.Edges.length : Int)))))], [(1, .cells (TShape.c s) 36), (2, .cells [.i 0] 47)]⟩ .nil (by kernel_rfl) .nil ?_
        refine ath_n ?_
        refine aw_seq ?_
        refine aw_cond (decide ((v39 : Int) < ((s.Edges.length : Int)))) (by kernel_rfl) (fun h3 => ?_) (fun h3 => ?_)
        · have g3 := of_decide_eq_true h3
          refine aw_skip ?_
          refine ath_n ?_
          refine aw_seq ?_
          refine aw_block ?_
          refine aw_seq ?_
          refine aw_region eqok [] [] [] [1, 2, 3, 5, 37, 38, 39] [1, 2, 5] [0 ≤ (v39 : Int) ∧ (v39 : Int) < ((s.Edges.length : Nat) : Int)] ⟨[(1, tP 1 0), (2, tP 2 0), (3, tB (decide ((s.Kind : Int) = 2))), (5, tP 5 0), (37, .av (.one (lst 7 TEdge.c s.Edges))), (38, tI ((s.Edges.length : Int))), (39, tI v39)], [(1, .cells (TShape.c s) 36), (2, .cells [.i 0] 47), (5, .cells (TEdge.c (s.Edges.getD v39.toNat default)) 33)]⟩ .nil (by kernel_rfl) (.cons (by first | decide | omega | exact idx_tmod (by first | omega | (simp only [W64_def]; omega)) (by omega) | (simp only [W64_def]; omega) | (constructor <;> omega) | (simp only [List.length_append, List.length_cons, List.length_nil]; omega) | (simp only [List.length_append, List.length_cons, List.length_nil, List.length_drop, List.length_take] at *; omega)) .nil) ?_
          refine ath_n ?_
          refine aw_seq ?_
          refine aw_region eqok [] [] [(44, cCheck (s.Edges.getD v39.toNat default))] [1, 2, 3, 6, 37, 38, 39] [1, 2] [Same (cCheck (s.Edges.getD v39.toNat default)).2.1] ⟨[(1, tP 1 0), (2, tP 2 0), (3, tB (decide ((s.Kind : Int) = 2))), (6, tI (FCheck (s.Edges.getD v39.toNat default))), (37, .av (.one (lst 7 TEdge.c s.Edges))), (38, tI ((s.Edges.length : Int))), (39, tI v39)], [(1, .cells (TShape.c s) 36), (2, .cells [.i 0] 47)]⟩ (.cons (okCheck (s.Edges.getD v39.toNat default)) .nil) (by kernel_rfl) (.cons rfl .nil) ?_
          refine ath_n ?_
          refine aw_seq ?_
          refine aw_region eqok [] [] [] [1, 2, 3, 6, 37, 38, 39, 46] [1, 2] [] ⟨[(1, tP 1 0), (2, tP 2 0), (3, tB (decide ((s.Kind : Int) = 2))), (6, tI (FCheck (s.Edges.getD v39.toNat default))), (37, .av (.one (lst 7 TEdge.c s.Edges))), (38, tI ((s.Edges.length : Int))), (39, tI v39), (46, tB (!decide (((FCheck (s.Edges.getD v39.toNat default)) : Int) = 0)))], [(1, .cells (TShape.c s) 36), (2, .cells [.i 0] 47)]⟩ .nil (by kernel_rfl) .nil ?_
          refine ath_n ?_
          refine aw_cond (!decide (((FCheck (s.Edges.getD v39.toNat default)) : Int) = 0)) (by kernel_rfl) (fun h4 => ?_) (fun h4 => ?_)
          · have g4 := of_not_decide_true h4
            refine aw_seq ?_
            refine aw_region eqok [] [] [] [2] [2] [] ⟨[(2, tP 2 0)], [(2, .cells [.i (FCheck (s.Edges.getD v39.toNat default))] 47)]⟩ .nil (by kernel_rfl) .nil ?_
            refine ath_n ?_
            refine aw_ret ?_
            refine abl_r ?_
            refine ath_r ?_
            refine ath_r ?_
            refine abl_r ?_
            refine ath_r ?_
            exact ⟨_, Cv.refl _, .inl rfl, .av (.one (.i (FCheck (s.Edges.getD v39.toNat default)))), by kernel_rfl, tve_eq (by rw [← hF0]; first | (simp only [FCheckS_l0, h3, h4, cond_true, cond_false]; done) | (simp only [FCheckS_l0, h3, h4, cond_true, cond_false]; rfl))⟩
          · have g4 := of_not_decide_false h4
            refine aw_skip ?_
            refine abl_n ?_
            refine ath_n ?_
            refine aw_region eqok [] [] [] [1, 2, 3, 37, 38, 39] [1, 2] [] ⟨[(1, tP 1 0), (2, tP 2 0), (3, tB (decide ((s.Kind : Int) = 2))), (37, .av (.one (lst 7 TEdge.c s.Edges))), (38, tI ((s.Edges.length : Int))), (39, tI (W64 (v39 + 1)))], [(1, .cells (TShape.c s) 36), (2, .cells [.i 0] 47)]⟩ .nil (by kernel_rfl) .nil ?_
            (try rw [(show W64 (v39 + 1) = v39 + 1 from W64_id (by omega) (by first | omega | (simp only [List.length_drop, List.length_take] at *; omega)))])
            refine ath_n ?_
            refine ⟨(n0, v39 + 1), ⟨?_, ?_, (by rw [← hF0]; simp only [FCheckS_l0, h3, h4, cond_true, cond_false])⟩, Nat.lt_succ_self _, cv_eq (by kernel_rfl)⟩
            · show ((((s.Edges.length : Int))) - (v39 + 1)).toNat < n0; omega
            · exact ⟨(by show 0 ≤ (v39 + 1); first | trivial | omega | (simp only [List.length_append, List.length_cons, List.length_nil]; omega) | (simp only [List.length_set, List.length_append, List.length_cons, List.length_nil]; omega) | (simp only [W64_def]; omega) | (simp; omega) | simp), (by show ((v39 + 1) ≤ ((s.Edges.length : Int)) ∨ (v39 + 1) = 0); first | trivial | omega | (simp only [List.length_append, List.length_cons, List.length_nil]; omega) | (simp only [List.length_set, List.length_append, List.length_cons, List.length_nil]; omega) | (simp only [W64_def]; omega) | (simp; omega) | simp)⟩
        · have g3 := of_decide_eq_false h3
          refine aw_exit ?_
          refine ath_e ?_
          refine ath_e ?_
          refine abl_hit ?_
          refine ath_n ?_
          refine aw_seq ?_
          refine aw_seq ?_
          refine aw_region eqok [] [] [(52, (wCheckS_0 s))] [1, 2, 3, 52] [1, 2] [Same (wCheckS_0 s).2.1] ⟨[(1, tP 1 0), (2, tP 2 0), (3, tB (decide ((s.Kind : Int) = 2))), (52, .av (.one (.clo 91 2 (listF [.eptr 1 1 (fun _ j => ([lst 7 TEdge.c s.Edges] : List Cl).getD j default) 0 0, .eptr 1 1 (fun _ j => ([.b (decide ((s.Kind : Int) = 2))] : List Cl).getD j default) 0 0]))))], [(1, .cells (TShape.c s) 36), (2, .cells [.i 0] 47)]⟩ (.cons (callOk_pure (fun _ _ => by kernel_rfl) fun _ => pjoints s.Edges (decide ((s.Kind : Int) = 2))) .nil) (by kernel_rfl) (.cons rfl .nil) ?_
          refine ath_n ?_
          refine aw_block ?_
          refine aw_cv (Cv.trans (cv_ren (⟨[(1, tP 200001 0), (2, tP 2 0), (3, tB (decide ((s.Kind : Int) = 2))), (52, .av (.one (.clo 91 2 (listF [.eptr 1 1 (fun _ j => ([lst 7 TEdge.c s.Edges] : List Cl).getD j default) 0 0, .eptr 1 1 (fun _ j => ([.b (decide ((s.Kind : Int) = 2))] : List Cl).getD j default) 0 0]))))], [(200001, .cells (TShape.c s) 36), (2, .cells [.i 0] 47)]⟩) 1 200001 (K := none) (fun k x h => by cases h) rfl rfl (by kernel_rfl) (by kernel_rfl)) (Cv.trans (cv_ren (⟨[(1, tP 200001 0), (2, tP 200002 0), (3, tB (decide ((s.Kind : Int) = 2))), (52, .av (.one (.clo 91 2 (listF [.eptr 1 1 (fun _ j => ([lst 7 TEdge.c s.Edges] : List Cl).getD j default) 0 0, .eptr 1 1 (fun _ j => ([.b (decide ((s.Kind : Int) = 2))] : List Cl).getD j default) 0 0]))))], [(200001, .cells (TShape.c s) 36), (200002, .cells [.i 0] 47)]⟩) 2 200002 (K := none) (fun k x h => by cases h) rfl rfl (by kernel_rfl) (by kernel_rfl)) (Cv.refl _))) ?_
          refine aw_rangeB [200001, 200002] 299999 200001 (fun x1 => [(1, tP 200001 0), (2, tP 200002 0), (3, tB (decide ((s.Kind : Int) = 2))), (7, .av (.one (.eptr 7 1 (fun _ j => ((TEdge.c (jnA s.Edges x1.val)) : List Cl).getD j default) 0 0))), (8, .av (.one (.eptr 7 1 (fun _ j => ((TEdge.c (jnB s.Edges x1.val)) : List Cl).getD j default) 0 0))), (52, .av (.one (.clo 91 2 (listF [.eptr 1 1 (fun _ j => ([lst 7 TEdge.c s.Edges] : List Cl).getD j default) 0 0, .eptr 1 1 (fun _ j => ([.b (decide ((s.Kind : Int) = 2))] : List Cl).getD j default) 0 0]))))]) (fun y => FCheckS_r1 s v39 (FCheckS_l0 s n0) (jnN s.Edges (decide ((s.Kind : Int) = 2)) - y) y = FCheckS s) (fun _ => rfl) (by kernel_rfl) (by kernel_rfl) (fun _ _ => by kernel_rfl) (joints_it s.Edges (decide ((s.Kind : Int) = 2)) (fun _ => chk_len h1) (by omega)) (by kernel_rfl) (fun _ => rfl) (fun _ => rfl) (forall_get (p := BkM) (by simp only [List.forall_mem_cons]; exact ⟨bkM (nm_TShape _), bkM (by simp only [List.forall_mem_cons]; exact ⟨(.val _), fun x hx => by cases hx⟩), fun x hx => by cases hx⟩)) (fun x1 => (forall_get (p := TvM) (by simp only [List.forall_mem_cons]; exact ⟨avM_one (.ptr _ _), avM_one (.ptr _ _), avM_one (.val _), avM_one (nm_box (nm_TEdge _)), avM_one (nm_box (nm_TEdge _)), avM_one (nm_clo (by simp only [List.forall_mem_cons]; exact ⟨(nm_box (by simp only [List.forall_mem_cons]; exact ⟨(nm_lst nm_TEdge), fun x hx => by cases hx⟩)), (nm_box (by simp only [List.forall_mem_cons]; exact ⟨(.val _), fun x hx => by cases hx⟩)), fun x hx => by cases hx⟩)), fun x hx => by cases hx⟩))) (by rw [← hF0]; simp only [FCheckS_l0, h3, Nat.sub_zero, cond_true, cond_false]) (fun l1 W1 M1 X1 x1 hPX => ?_) (fun l2 W2 M2 X2 x1 hPX => ?_) (fun hF1 => ?_)
          · refine aw_cvend ?_
            refine aw_seq ?_
            refine aw_region eqok [] [] [] [1, 2, 3, 7, 52, 54] [7, 200001, 200002] [] ⟨[(1, tP 200001 0), (2, tP 200002 0), (3, tB (decide ((s.Kind : Int) = 2))), (7, tP 7 0), (52, .av (.one (.clo 91 2 (listF [.eptr 1 1 (fun _ j => ([lst 7 TEdge.c s.Edges] : List Cl).getD j default) 0 0, .eptr 1 1 (fun _ j => ([.b (decide ((s.Kind : Int) = 2))] : List Cl).getD j default) 0 0])))), (54, .av (.agg (TEdge.c (jnB s.Edges x1.val))))], [(7, .cells (TEdge.c (jnA s.Edges x1.val)) 33), (200001, .cells (TShape.c s) 36), (200002, .cells [.i 0] 47)]⟩ .nil (by kernel_rfl) .nil ?_
            refine ath_n ?_
            refine aw_region eqok [] [] [] [1, 2, 3, 7, 8, 52] [7, 8, 200001, 200002] [] ⟨[(1, tP 200001 0), (2, tP 200002 0), (3, tB (decide ((s.Kind : Int) = 2))), (7, tP 7 0), (8, tP 8 0), (52, .av (.one (.clo 91 2 (listF [.eptr 1 1 (fun _ j => ([lst 7 TEdge.c s.Edges] : List Cl).getD j default) 0 0, .eptr 1 1 (fun _ j => ([.b (decide ((s.Kind : Int) = 2))] : List Cl).getD j default) 0 0]))))], [(7, .cells (TEdge.c (jnA s.Edges x1.val)) 33), (8, .cells (TEdge.c (jnB s.Edges x1.val)) 33), (200001, .cells (TShape.c s) 36), (200002, .cells [.i 0] 47)]⟩ .nil (by kernel_rfl) .nil ?_
            exact ⟨_, Cv.trans (cv_fixP (⟨[(1, tP 200001 0), (2, tP 200002 0), (3, tB (decide ((s.Kind : Int) = 2))), (7, .av (.one (.eptr 7 1 (fun _ j => ((TEdge.c (jnA s.Edges x1.val)) : List Cl).getD j default) 0 0))), (8, tP 8 0), (52, .av (.one (.clo 91 2 (listF [.eptr 1 1 (fun _ j => ([lst 7 TEdge.c s.Edges] : List Cl).getD j default) 0 0, .eptr 1 1 (fun _ j => ([.b (decide ((s.Kind : Int) = 2))] : List Cl).getD j default) 0 0]))))], [(8, .cells (TEdge.c (jnB s.Edges x1.val)) 33), (200001, .cells (TShape.c s) 36), (200002, .cells [.i 0] 47)]⟩) 7 (TEdge.c (jnA s.Edges x1.val)) 33 [200001, 200002] hPX (by kernel_rfl) (by kernel_rfl) (by kernel_rfl) (by kernel_rfl)) (Cv.trans (cv_fixP (⟨[(1, tP 200001 0), (2, tP 200002 0), (3, tB (decide ((s.Kind : Int) = 2))), (7, .av (.one (.eptr 7 1 (fun _ j => ((TEdge.c (jnA s.Edges x1.val)) : List Cl).getD j default) 0 0))), (8, .av (.one (.eptr 7 1 (fun _ j => ((TEdge.c (jnB s.Edges x1.val)) : List Cl).getD j default) 0 0))), (52, .av (.one (.clo 91 2 (listF [.eptr 1 1 (fun _ j => ([lst 7 TEdge.c s.Edges] : List Cl).getD j default) 0 0, .eptr 1 1 (fun _ j => ([.b (decide ((s.Kind : Int) = 2))] : List Cl).getD j default) 0 0]))))], [(200001, .cells (TShape.c s) 36), (200002, .cells [.i 0] 47)]⟩) 8 (TEdge.c (jnB s.Edges x1.val)) 33 [200001, 200002] hPX (by kernel_rfl) (by kernel_rfl) (by kernel_rfl) (by kernel_rfl)) (Cv.refl _)), rfl, rfl⟩
          · refine aw_cvend ?_
            refine aw_block ?_
            refine aw_seq ?_
            refine aw_region eqok [] [] [] [1, 2, 3, 52, 59] [200001, 200002] [] ⟨[(1, tP 200001 0), (2, tP 200002 0), (3, tB (decide ((s.Kind : Int) = 2))), (52, .av (.one (.clo 91 2 (listF [.eptr 1 1 (fun _ j => ([lst 7 TEdge.c s.Edges] : List Cl).getD j default) 0 0, .eptr 1 1 (fun _ j => ([.b (decide ((s.Kind : Int) = 2))] : List Cl).getD j default) 0 0])))), (59, tB (!(decide ((((jnA s.Edges x1.val).B).X) = (((jnB s.Edges x1.val).A).X)) && (decide ((((jnA s.Edges x1.val).B).Y) = (((jnB s.Edges x1.val).A).Y)) && true))))], [(200001, .cells (TShape.c s) 36), (200002, .cells [.i 0] 47)]⟩ .nil (by kernel_rfl) .nil ?_
            refine ath_n ?_
            refine aw_cond (!(decide ((((jnA s.Edges x1.val).B).X) = (((jnB s.Edges x1.val).A).X)) && (decide ((((jnA s.Edges x1.val).B).Y) = (((jnB s.Edges x1.val).A).Y)) && true))) (by kernel_rfl) (fun h4 => ?_) (fun h4 => ?_)
            · refine aw_seq ?_
              refine aw_region eqok [] [] [] [2] [200002] [] ⟨[(2, tP 200002 0)], [(200002, .cells [.i 12] 47)]⟩ .nil (by kernel_rfl) .nil ?_
              refine ath_n ?_
              refine aw_ret ?_
              refine abl_r ?_
              refine ⟨_, Cv.refl _, (forall_get (p := BkM) (by simp only [List.forall_mem_cons]; exact ⟨bkM (by simp only [List.forall_mem_cons]; exact ⟨(.val _), fun x hx => by cases hx⟩), fun x hx => by cases hx⟩)), fun hF1 => ?_⟩
              change FCheckS_r1 s v39 (FCheckS_l0 s n0) (jnN s.Edges (decide ((s.Kind : Int) = 2)) - x1.val) x1.val = FCheckS s at hF1
              rw [show jnN s.Edges (decide ((s.Kind : Int) = 2)) - x1.val = (jnN s.Edges (decide ((s.Kind : Int) = 2)) - (x1.val + 1)) + 1 by have := x1.isLt; omega] at hF1
              refine abl_r ?_
              refine ath_r ?_
              exact ⟨_, Cv.refl _, .inl rfl, .av (.one (.i 12)), by kernel_rfl, tve_eq (by rw [← hF1]; first | (simp only [FCheckS_r1, h4, cond_true, cond_false]; done) | (simp only [FCheckS_r1, h4, cond_true, cond_false]; rfl))⟩
            · refine aw_skip ?_
              refine abl_n ?_
              refine ⟨_, Cv.refl _, fun _ _ h => h, fun hF => ?_⟩
              change FCheckS_r1 s v39 (FCheckS_l0 s n0) (jnN s.Edges (decide ((s.Kind : Int) = 2)) - x1.val) x1.val = FCheckS s at hF
              rw [show jnN s.Edges (decide ((s.Kind : Int) = 2)) - x1.val = (jnN s.Edges (decide ((s.Kind : Int) = 2)) - (x1.val + 1)) + 1 by have := x1.isLt; omega] at hF
              show FCheckS_r1 s v39 (FCheckS_l0 s n0) (jnN s.Edges (decide ((s.Kind : Int) = 2)) - (x1.val + 1)) (x1.val + 1) = FCheckS s
              rw [← hF]
              first | (simp only [FCheckS_r1, h4, cond_true, cond_false]; done) | (simp only [FCheckS_r1, h4, cond_true, cond_false]; rfl)
          · change FCheckS_r1 s v39 (FCheckS_l0 s n0) (jnN s.Edges (decide ((s.Kind : Int) = 2)) - (jnN s.Edges (decide ((s.Kind : Int) = 2)))) (jnN s.Edges (decide ((s.Kind : Int) = 2))) = FCheckS s at hF1
            rw [Nat.sub_self] at hF1
            refine abl_n ?_
            refine ath_n ?_
            refine aw_seq ?_
            refine aw_seq ?_
            refine aw_region eqok [] [] [] [2, 75] [200002] [((decide ((s.Kind : Int) = 2)) = true) → ((decide ((s.Kind : Int) = 2)) = true), ((decide ((s.Kind : Int) = 2)) = true) → ((decide ((s.Kind : Int) = 2)) = true), (decide ((s.Kind : Int) = 2)) = true → ((decide ((s.Kind : Int) = 2)) = true), ((bif decide ((s.Kind : Int) = 2) then !decide ((s.R : Int) = 0) else false) = false) → ((bif decide ((s.Kind : Int) = 2) then !decide ((s.R : Int) = 0) else false) = false), ((bif decide ((s.Kind : Int) = 2) then !decide ((s.R : Int) = 0) else false) = false) → ((bif decide ((s.Kind : Int) = 2) then !decide ((s.R : Int) = 0) else false) = false), (bif decide ((s.Kind : Int) = 2) then !decide ((s.R : Int) = 0) else false) = false → ((bif decide ((s.Kind : Int) = 2) then !decide ((s.R : Int) = 0) else false) = false), ((bif bif decide ((s.Kind : Int) = 2) then !decide ((s.R : Int) = 0) else false then true else decide ((s.R : Int) < 0)) = false) → ((bif bif decide ((s.Kind : Int) = 2) then !decide ((s.R : Int) = 0) else false then true else decide ((s.R : Int) < 0)) = false), ((bif bif decide ((s.Kind : Int) = 2) then !decide ((s.R : Int) = 0) else false then true else decide ((s.R : Int) < 0)) = false) → ((bif bif decide ((s.Kind : Int) = 2) then !decide ((s.R : Int) = 0) else false then true else decide ((s.R : Int) < 0)) = false), (bif bif decide ((s.Kind : Int) = 2) then !decide ((s.R : Int) = 0) else false then true else decide ((s.R : Int) < 0)) = false → ((bif bif decide ((s.Kind : Int) = 2) then !decide ((s.R : Int) = 0) else false then true else decide ((s.R : Int) < 0)) = false)] ⟨[(2, tP 200002 0), (75, tB (bif bif bif decide ((s.Kind : Int) = 2) then !decide ((s.R : Int) = 0) else false then true else decide ((s.R : Int) < 0) then true else decide ((4194304 : Int) < s.R)))], [(200002, .cells [.i 0] 47)]⟩ .nil (by kernel_rfl) (.cons id (.cons id (.cons id (.cons id (.cons id (.cons id (.cons id (.cons id (.cons id .nil))))))))) ?_
            refine ath_n ?_
            refine aw_cond (bif bif bif decide ((s.Kind : Int) = 2) then !decide ((s.R : Int) = 0) else false then true else decide ((s.R : Int) < 0) then true else decide ((4194304 : Int) < s.R)) (by kernel_rfl) (fun h4 => ?_) (fun h4 => ?_)
            · refine aw_seq ?_
              refine aw_region eqok [] [] [] [2] [200002] [] ⟨[(2, tP 200002 0)], [(200002, .cells [.i 3] 47)]⟩ .nil (by kernel_rfl) .nil ?_
              refine ath_n ?_
              refine aw_ret ?_
              refine ath_r ?_
              exact ⟨_, Cv.refl _, .inl rfl, .av (.one (.i 3)), by kernel_rfl, tve_eq (by rw [← hF1]; first | (simp only [FCheckS_r1, h4, cond_true, cond_false]; done) | (simp only [FCheckS_r1, h4, cond_true, cond_false]; rfl))⟩
            · refine aw_skip ?_
              refine ath_n ?_
              refine aw_seq ?_
              refine aw_region eqok [] [] [] [2] [200002] [] ⟨[(2, tP 200002 0)], [(200002, .cells [.i 0] 47)]⟩ .nil (by kernel_rfl) .nil ?_
              refine ath_n ?_
              refine aw_ret ?_
              exact ⟨_, Cv.refl _, .inl rfl, .av (.one (.i 0)), by kernel_rfl, tve_eq (by rw [← hF1]; first | (simp only [FCheckS_r1, h4, cond_true, cond_false]; done) | (simp only [FCheckS_r1, h4, cond_true, cond_false]; rfl))⟩
theorem okCheckS (s : TShape) (hl : (s.Edges.length : Int) ≤ 9223372036854775807) : CallOk Try.prog (cCheckS s).1 (cCheckS s).2.1 (cCheckS s).2.2 := callOk_pure (fun _ _ => by kernel_rfl) fun _ => pCheckS s hl
end Go.Proofs.Ytgmhnkoifdpemaa
