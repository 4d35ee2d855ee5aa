/-
  No statement is proved in this text. It holds what functions return.
-/
import Derived.Test.YtpnlegfdkkcnlaaProg
import Derived.Test.YtpnlegfdkkcnlaaBk2b
import Derived.Test.YtpnlegfdkkcnlaaS28
namespace Go.Proofs.Ytpnlegfdkkcnlaa
open Go.RowKit
set_option linter.unusedVariables false
set_option linter.unusedSimpArgs false
set_option maxRecDepth 100000 in
theorem qcloneET (l : (List TEdge)) (h0 : (l.length : Int) ≤ 1000000) : Fr Try.prog 63 [.one (.list true 7 l.length (rowF TEdge.c l))] (.row 7 (l).length (rowF TEdge.c (l)) 35) (fun d => .av (.one (.own d 7 (l).length))) := by
  refine fr_of_awF Try.func63 rfl (by kernel_rfl) (ownV_one _ _) fun W0 M0 => ?_
  refine aw_seq ?_
  refine aw_region eqok [] [] [] [0] [] [] ⟨[(0, .av (.one (.list true 7 l.length (rowF TEdge.c l))))], []⟩ .nil (by kernel_rfl) .nil ?_
  refine ath_n ?_
  refine aw_seq ?_
  refine aw_seq ?_
  refine aw_region eqok [] [] [] [0, 4] [] [] ⟨[(0, .av (.one (.list true 7 l.length (rowF TEdge.c l)))), (4, tB false)], []⟩ .nil (by kernel_rfl) .nil ?_
  refine ath_n ?_
  refine aw_cond_f (by kernel_rfl) ?_
  refine aw_skip ?_
  refine ath_n ?_
  refine aw_seq ?_
  refine aw_region eqok [5] [] [] [2] [7] [0 = 0, 0 + l.length ≤ maxLen, (0 + l.length) * 56 ≤ 140737488355328] ⟨[(2, .av (.one (.own 7 7 (0 + l.length))))], [(7, .row 7 (0 + l.length) (fun i j => if i < 0 then (colsC 7 0 []) i j else (rowF TEdge.c l) (i - 0) j) 35)]⟩ .nil (by kernel_rfl) (.cons rfl (.cons (by first | (unfold maxLen; omega) | (unfold maxLen; simp only [List.length_append, List.length_cons, List.length_nil]; omega) | first | omega | (simp only [List.length_append, List.length_cons, List.length_nil]; omega)) (.cons (by first | (unfold maxLen; omega) | (unfold maxLen; simp only [List.length_append, List.length_cons, List.length_nil]; omega) | first | omega | (simp only [List.length_append, List.length_cons, List.length_nil]; omega)) .nil))) ?_
  refine ath_n ?_
  refine aw_cv (Cv.trans (cv_ce (⟨[(2, .av (.one (.own 7 7 l.length)))], [(7, .row 7 l.length (rowF TEdge.c l) 35)]⟩) (.cons ⟨rfl, .av (.one (.own _ _ (by first | (simp; done) | (simp; omega))))⟩ .nil) (.cons ⟨rfl, bke_told 35 (told_app (told_lit (c := TEdge.c) (xs := (([] : List TEdge) : List TEdge)) rfl (by kernel_rfl)) (told_rfl 7 TEdge.c l))⟩ .nil)) (Cv.refl _)) ?_
  refine aw_ret ?_
  exact ⟨_, Cv.refl _, .inl rfl, .av (.one (.own 7 7 l.length)), by kernel_rfl, frE (c := TEdge.c) (xs := l) (by rfl) (by kernel_rfl)⟩
set_option maxRecDepth 100000 in
theorem qcloneEN (l : (List TEdge)) (h0 : l.length = 0) : Fr Try.prog 63 [.one (.val (.slice none 0 0))] (.row 7 (l).length (rowF TEdge.c (l)) 35) (fun d => .av (.one (.own d 7 (l).length))) := by
  refine fr_of_awF Try.func63 rfl (by kernel_rfl) (ownV_one _ _) fun W0 M0 => ?_
  cases l with
  | cons a l => cases h0
  | nil =>
  refine aw_seq ?_
  refine aw_region eqok [] [] [] [0] [] [] ⟨[(0, .av (.one (.val (.slice none 0 0))))], []⟩ .nil (by kernel_rfl) .nil ?_
  refine ath_n ?_
  refine aw_seq ?_
  refine aw_seq ?_
  refine aw_region eqok [] [] [] [0, 4] [] [] ⟨[(0, .av (.one (.val (.slice none 0 0)))), (4, tB true)], []⟩ .nil (by kernel_rfl) .nil ?_
  refine ath_n ?_
  refine aw_cond_t (by kernel_rfl) ?_
  refine aw_seq ?_
  refine aw_region eqok [] [] [] [2] [] [] ⟨[(2, .av (.one (.val (.slice none 0 0))))], []⟩ .nil (by kernel_rfl) .nil ?_
  refine ath_n ?_
  refine aw_ret ?_
  refine ath_r ?_
  exact ⟨_, Cv.trans (cv_ghost (⟨[(2, .av (.one (.own 100000 7 0)))], [(100000, .row 7 0 (fun _ _ => default) 35)]⟩) 100000 7 (fun _ _ => default) 35 [(2, [0])] [] (K := none) (fun k x h => by cases h) rfl (by kernel_rfl) (by kernel_rfl)) (Cv.trans (cv_ce (⟨[(2, .av (.one (.own 100000 7 ((([] : List TEdge)).length))))], [(100000, .row 7 ((([] : List TEdge)).length) (rowF TEdge.c (([] : List TEdge))) 35)]⟩) (.cons ⟨rfl, .av (.one (.own _ _ (by first | (simp; done) | (simp; omega))))⟩ .nil) (.cons ⟨rfl, bke_told 35 (told_nil 7 (fun _ _ => default) TEdge.c)⟩ .nil)) (Cv.refl _)), .inl rfl, .av (.one (.own 100000 7 ((([] : List TEdge)).length))), by kernel_rfl, frE (c := TEdge.c) (xs := ([] : List TEdge)) (by rfl) (by kernel_rfl)⟩
def ccloneE (l : (List TEdge)) : FuncId × List Av × Ef := (63, [.one (lst 7 TEdge.c l)], .new [] (.row 7 (l).length (rowF TEdge.c (l)) 35) (fun d => .av (.one (.own d 7 (l).length))))
theorem okcloneE (l : (List TEdge)) (h0 : (l.length : Int) ≤ 1000000) : CallOk Try.prog (ccloneE l).1 (ccloneE l).2.1 (ccloneE l).2.2 := callOk_fr (fun _ _ => by kernel_rfl) (fr_nil (fun hz => qcloneEN l hz) (qcloneET l h0))
def FMoveS_l0 (s : TShape) (m : TMotion) : Nat → List TEdge → Int → TShape
  | 0, _, _ => default
  | n0 + 1, s_1, v13 => bif decide ((v13 : Int) < (((s.Edges.length : Nat) : Int))) then ((FMoveS_l0 s m n0) (s_1.set v13.toNat (FMove (s_1.getD v13.toNat default) m)) (v13 + 1)) else (TShape.mk s.Kind s_1 s.R)
def FMoveS (s : TShape) (m : TMotion) : TShape := FMoveS_l0 s m ((((((s.Edges.length : Nat) : Int))) - 0).toNat + 1) s.Edges 0
def cMoveS (s : TShape) (m : TMotion) : FuncId × List Av × Ef := (32, [.agg (TShape.c s), .agg (TMotion.c m)], .val [] (.av (.agg (TShape.c (FMoveS s m)))))
set_option maxRecDepth 100000 in
theorem pMoveS (s : TShape) (m : TMotion) (h0 : (s.Edges.length : Int) ≤ 1000000) : Pure Try.prog 32 (cMoveS s m).2.1 (.av (.agg (TShape.c (FMoveS s m)))) := by
  refine pure_of_awF Try.func32 rfl (by kernel_rfl) (by kernel_rfl) fun W0 M0 => ?_
  refine aw_seq ?_
  refine aw_region eqok [] [] [] [2, 3, 4] [2, 3, 4] [] ⟨[(2, tP 2 0), (3, tP 3 0), (4, tP 4 0)], [(2, .cells (TShape.c s) 26), (3, .cells (TMotion.c m) 39), (4, .cells [.i 0, .val (.slice none 0 0), .i 0] 26)]⟩ .nil (by kernel_rfl) .nil ?_
  refine ath_n ?_
  refine aw_seq ?_
  refine aw_region eqok [] [] [(8, ccloneE s.Edges)] [2, 3, 4] [2, 3, 4, 8] [Same (ccloneE s.Edges).2.1] ⟨[(2, tP 2 0), (3, tP 3 0), (4, tP 4 0)], [(2, .cells [.i s.Kind, .own 8 7 ((s.Edges).length), .i s.R] 26), (3, .cells (TMotion.c m) 39), (4, .cells [.i 0, .val (.slice none 0 0), .i 0] 26), (8, .row 7 ((s.Edges).length) (rowF TEdge.c (s.Edges)) 35)]⟩ (.cons (okcloneE s.Edges (by first | with_reducible assumption | omega | decide | (simp only [List.length_cons, List.length_nil, List.length_append]; omega) | assumption)) .nil) (by kernel_rfl) (.cons rfl .nil) ?_
  refine ath_n ?_
  refine aw_cv (Cv.trans (cv_ce (⟨[(2, tP 2 0), (3, tP 3 0), (4, tP 4 0)], [(2, .cells [.i s.Kind, .own 8 7 s.Edges.length, .i s.R] 26), (3, .cells (TMotion.c m) 39), (4, .cells [.i 0, .val (.slice none 0 0), .i 0] 26), (8, .row 7 s.Edges.length (rowF TEdge.c s.Edges) 35)]⟩) (.cons ⟨rfl, .refl _⟩ (.cons ⟨rfl, .refl _⟩ (.cons ⟨rfl, .refl _⟩ .nil))) (.cons ⟨rfl, .cells _ (.cons (.refl _) (.cons (.own _ _ (by first | (simp; done) | (simp; omega))) (.cons (.refl _) .nil)))⟩ (.cons ⟨rfl, .refl _⟩ (.cons ⟨rfl, .refl _⟩ (.cons ⟨rfl, bke_told 35 (told_rfl 7 TEdge.c (s.Edges))⟩ .nil))))) (Cv.refl _)) ?_
  refine aw_seq ?_
  refine aw_seq ?_
  refine aw_region eqok [] [] [] [2, 3, 4, 12, 13] [2, 3, 4, 8] [] ⟨[(2, tP 2 0), (3, tP 3 0), (4, tP 4 0), (12, tI (((s.Edges.length : Nat) : Int))), (13, tI 0)], [(2, .cells [.i s.Kind, .own 8 7 s.Edges.length, .i s.R] 26), (3, .cells (TMotion.c m) 39), (4, .cells [.i 0, .val (.slice none 0 0), .i 0] 26), (8, .row 7 s.Edges.length (rowF TEdge.c s.Edges) 35)]⟩ .nil (by kernel_rfl) .nil ?_
  refine ath_n ?_
  refine aw_block ?_
  refine aw_loopC (ι := Nat × List TEdge × Int) (fun x => ⟨[(2, tP 2 0), (3, tP 3 0), (4, tP 4 0), (12, tI (((s.Edges.length : Nat) : Int))), (13, tI x.2.2)], [(2, .cells [.i s.Kind, .own 8 7 x.2.1.length, .i s.R] 26), (3, .cells (TMotion.c m) 39), (4, .cells [.i 0, .val (.slice none 0 0), .i 0] 26), (8, .row 7 x.2.1.length (rowF TEdge.c x.2.1) 35)]⟩) (fun x => (((((s.Edges.length : Nat) : Int))) - x.2.2).toNat < x.1 ∧ (x.2.1.length = s.Edges.length ∧ 0 ≤ x.2.2 ∧ (x.2.2 ≤ (((s.Edges.length : Nat) : Int)) ∨ x.2.2 = 0)) ∧ FMoveS_l0 s m x.1 x.2.1 x.2.2 = FMoveS s m) (fun x => x.1) ?_ ((((((s.Edges.length : Nat) : Int))) - 0).toNat + 1, s.Edges, 0) ⟨Nat.lt_succ_self _, ⟨(by show s.Edges.length = s.Edges.length; first | trivial | omega | (simp only [List.length_append, List.length_cons, List.length_nil]; omega) | (simp only [List.length_set, List.length_append, List.length_cons, List.length_nil]; omega) | (simp only [W64_def]; omega) | (simp; omega) | simp), (by show 0 ≤ 0; first | trivial | omega | (simp only [List.length_append, List.length_cons, List.length_nil]; omega) | (simp only [List.length_set, List.length_append, List.length_cons, List.length_nil]; omega) | (simp only [W64_def]; omega) | (simp; omega) | simp), (by show (0 ≤ (((s.Edges.length : Nat) : Int)) ∨ 0 = 0); first | trivial | omega | (simp only [List.length_append, List.length_cons, List.length_nil]; omega) | (simp only [List.length_set, List.length_append, List.length_cons, List.length_nil]; omega) | (simp only [W64_def]; omega) | (simp; omega) | simp)⟩, (by simp only [FMoveS, cond_true, cond_false])⟩
  rintro ⟨n0, s_1, v13⟩ ⟨hn, hinv, hF⟩
  have hm0 : (((((s.Edges.length : Nat) : Int))) - v13).toNat < n0 := hn; have hinv0 : s_1.length = s.Edges.length ∧ 0 ≤ v13 ∧ (v13 ≤ (((s.Edges.length : Nat) : Int)) ∨ v13 = 0) := hinv; have hF0 : FMoveS_l0 s m n0 s_1 v13 = FMoveS s m := hF; clear hn hinv hF
  cases n0 with
  | zero => exact absurd hm0 (Nat.not_lt_zero _)
  | succ n0 =>
    refine aw_seq ?_
    refine aw_region eqok [] [] [] [2, 3, 4, 12, 13, 14] [2, 3, 4, 8] [] ⟨[(2, tP 2 0), (3, tP 3 0), (4, tP 4 0), (12, tI (((s.Edges.length : Nat) : Int))), (13, tI v13), (14, tB (decide ((v13 : Int) < (((s.Edges.length : Nat) : Int)))))], [(2, .cells [.i s.Kind, .own 8 7 s_1.length, .i s.R] 26), (3, .cells (TMotion.c m) 39), (4, .cells [.i 0, .val (.slice none 0 0), .i 0] 26), (8, .row 7 s_1.length (rowF TEdge.c s_1) 35)]⟩ .nil (by kernel_rfl) .nil ?_
    refine ath_n ?_
    refine aw_seq ?_
    refine aw_cond (decide ((v13 : Int) < (((s.Edges.length : Nat) : Int)))) (by kernel_rfl) (fun h1 => ?_) (fun h1 => ?_)
    · have g1 := of_decide_eq_true h1
      refine aw_skip ?_
      refine ath_n ?_
      refine aw_seq ?_
      refine aw_block ?_
      refine aw_seq ?_
      refine aw_region eqok [] [] [] [2, 3, 4, 5, 12, 13] [2, 3, 4, 8] [] ⟨[(2, tP 2 0), (3, tP 3 0), (4, tP 4 0), (5, tI v13), (12, tI (((s.Edges.length : Nat) : Int))), (13, tI v13)], [(2, .cells [.i s.Kind, .own 8 7 s_1.length, .i s.R] 26), (3, .cells (TMotion.c m) 39), (4, .cells [.i 0, .val (.slice none 0 0), .i 0] 26), (8, .row 7 s_1.length (rowF TEdge.c s_1) 35)]⟩ .nil (by kernel_rfl) .nil ?_
      refine ath_n ?_
      refine aw_draw mixed eqok [] [] [(25, cMove (s_1.getD v13.toNat default) m)] [2, 3, 4, 12, 13] [2, 3, 4, 8] [0 ≤ (v13 : Int) ∧ (v13 : Int) < ((s_1.length : Nat) : Int), v13.toNat < s_1.length, Same (cMove (s_1.getD v13.toNat default) m).2.1, 0 ≤ (v13 : Int) ∧ (v13 : Int) < ((s_1.length : Nat) : Int), v13.toNat < s_1.length] ⟨[(2, tP 2 0), (3, tP 3 0), (4, tP 4 0), (12, tI (((s.Edges.length : Nat) : Int))), (13, tI v13)], [(2, .cells [.i s.Kind, .own 8 7 s_1.length, .i s.R] 26), (3, .cells (TMotion.c m) 39), (4, .cells [.i 0, .val (.slice none 0 0), .i 0] 26), (8, .row 7 s_1.length (fun i j => if i = v13.toNat ∧ 0 ≤ j ∧ j < 0 + 7 then ([.i ((FMove (s_1.getD v13.toNat default) m).Kind), .i (((FMove (s_1.getD v13.toNat default) m).A).X), .i (((FMove (s_1.getD v13.toNat default) m).A).Y), .i (((FMove (s_1.getD v13.toNat default) m).B).X), .i (((FMove (s_1.getD v13.toNat default) m).B).Y), .i (((FMove (s_1.getD v13.toNat default) m).C).X), .i (((FMove (s_1.getD v13.toNat default) m).C).Y)] : List Cl).getD (j - 0) default else (rowF TEdge.c s_1) i j) 35)]⟩ (.cons (okMove (s_1.getD v13.toNat default) m) .nil) (by kernel_rfl) (by kernel_rfl) (.cons (by first | decide | omega | exact idx_tmod (by first | omega | (simp only [W64_def]; omega)) (by omega) | (simp only [W64_def]; omega) | (constructor <;> omega) | (simp only [List.length_append, List.length_cons, List.length_nil]; omega) | (simp only [List.length_append, List.length_cons, List.length_nil, List.length_drop, List.length_take] at *; omega)) (.cons (by first | decide | omega | exact idx_tmod (by first | omega | (simp only [W64_def]; omega)) (by omega) | (simp only [W64_def]; omega) | (constructor <;> omega) | (simp only [List.length_append, List.length_cons, List.length_nil]; omega) | (simp only [List.length_append, List.length_cons, List.length_nil, List.length_drop, List.length_take] at *; omega)) (.cons rfl (.cons (by first | decide | omega | exact idx_tmod (by first | omega | (simp only [W64_def]; omega)) (by omega) | (simp only [W64_def]; omega) | (constructor <;> omega) | (simp only [List.length_append, List.length_cons, List.length_nil]; omega) | (simp only [List.length_append, List.length_cons, List.length_nil, List.length_drop, List.length_take] at *; omega)) (.cons (by first | decide | omega | exact idx_tmod (by first | omega | (simp only [W64_def]; omega)) (by omega) | (simp only [W64_def]; omega) | (constructor <;> omega) | (simp only [List.length_append, List.length_cons, List.length_nil]; omega) | (simp only [List.length_append, List.length_cons, List.length_nil, List.length_drop, List.length_take] at *; omega)) .nil))))) ?_
      refine abl_n ?_
      refine ath_n ?_
      refine aw_cv (Cv.trans (cv_ce (⟨[(2, tP 2 0), (3, tP 3 0), (4, tP 4 0), (12, tI (((s.Edges.length : Nat) : Int))), (13, tI v13)], [(2, .cells [.i s.Kind, .own 8 7 ((s_1.set v13.toNat (FMove (s_1.getD v13.toNat default) m)).length), .i s.R] 26), (3, .cells (TMotion.c m) 39), (4, .cells [.i 0, .val (.slice none 0 0), .i 0] 26), (8, .row 7 ((s_1.set v13.toNat (FMove (s_1.getD v13.toNat default) m)).length) (rowF TEdge.c (s_1.set v13.toNat (FMove (s_1.getD v13.toNat default) m))) 35)]⟩) (.cons ⟨rfl, .refl _⟩ (.cons ⟨rfl, .refl _⟩ (.cons ⟨rfl, .refl _⟩ (.cons ⟨rfl, .refl _⟩ (.cons ⟨rfl, .refl _⟩ .nil))))) (.cons ⟨rfl, .cells _ (.cons (.refl _) (.cons (.own _ _ (by first | (simp; done) | (simp; omega))) (.cons (.refl _) .nil)))⟩ (.cons ⟨rfl, .refl _⟩ (.cons ⟨rfl, .refl _⟩ (.cons ⟨rfl, bke_told 35 (told_set (l := [.i ((FMove (s_1.getD v13.toNat default) m).Kind), .i (((FMove (s_1.getD v13.toNat default) m).A).X), .i (((FMove (s_1.getD v13.toNat default) m).A).Y), .i (((FMove (s_1.getD v13.toNat default) m).B).X), .i (((FMove (s_1.getD v13.toNat default) m).B).Y), .i (((FMove (s_1.getD v13.toNat default) m).C).X), .i (((FMove (s_1.getD v13.toNat default) m).C).Y)]) (off := 0) (q := 7) (k := v13.toNat) (told_rfl 7 TEdge.c s_1) (by first | decide | omega | exact idx_tmod (by first | omega | (simp only [W64_def]; omega)) (by omega) | (simp only [W64_def]; omega) | (constructor <;> omega) | (simp only [List.length_append, List.length_cons, List.length_nil]; omega) | (simp only [List.length_append, List.length_cons, List.length_nil, List.length_drop, List.length_take] at *; omega)) (FMove (s_1.getD v13.toNat default) m) (tab_get (by kernel_rfl)))⟩ .nil))))) (Cv.refl _)) ?_
      refine aw_region eqok [] [] [] [2, 3, 4, 12, 13] [2, 3, 4, 8] [] ⟨[(2, tP 2 0), (3, tP 3 0), (4, tP 4 0), (12, tI (((s.Edges.length : Nat) : Int))), (13, tI (W64 (v13 + 1)))], [(2, .cells [.i s.Kind, .own 8 7 ((s_1.set v13.toNat (FMove (s_1.getD v13.toNat default) m)).length), .i s.R] 26), (3, .cells (TMotion.c m) 39), (4, .cells [.i 0, .val (.slice none 0 0), .i 0] 26), (8, .row 7 ((s_1.set v13.toNat (FMove (s_1.getD v13.toNat default) m)).length) (rowF TEdge.c (s_1.set v13.toNat (FMove (s_1.getD v13.toNat default) m))) 35)]⟩ .nil (by kernel_rfl) .nil ?_
      (try rw [(show W64 (v13 + 1) = v13 + 1 from W64_id (by omega) (by first | omega | (simp only [List.length_drop, List.length_take] at *; omega)))])
      refine ath_n ?_
      refine ⟨(n0, s_1.set v13.toNat (FMove (s_1.getD v13.toNat default) m), v13 + 1), ⟨?_, ?_, (by rw [← hF0]; simp only [FMoveS_l0, h1, cond_true, cond_false])⟩, Nat.lt_succ_self _, cv_eq (by kernel_rfl)⟩
      · show (((((s.Edges.length : Nat) : Int))) - (v13 + 1)).toNat < n0; omega
      · exact ⟨(by show (s_1.set v13.toNat (FMove (s_1.getD v13.toNat default) m)).length = s.Edges.length; first | trivial | omega | (simp only [List.length_append, List.length_cons, List.length_nil]; omega) | (simp only [List.length_set, List.length_append, List.length_cons, List.length_nil]; omega) | (simp only [W64_def]; omega) | (simp; omega) | simp), (by show 0 ≤ (v13 + 1); first | trivial | omega | (simp only [List.length_append, List.length_cons, List.length_nil]; omega) | (simp only [List.length_set, List.length_append, List.length_cons, List.length_nil]; omega) | (simp only [W64_def]; omega) | (simp; omega) | simp), (by show ((v13 + 1) ≤ (((s.Edges.length : Nat) : Int)) ∨ (v13 + 1) = 0); first | trivial | omega | (simp only [List.length_append, List.length_cons, List.length_nil]; omega) | (simp only [List.length_set, List.length_append, List.length_cons, List.length_nil]; omega) | (simp only [W64_def]; omega) | (simp; omega) | simp)⟩
    · have g1 := of_decide_eq_false h1
      refine aw_exit ?_
      refine ath_e ?_
      refine ath_e ?_
      refine abl_hit ?_
      refine ath_n ?_
      refine aw_seq ?_
      refine aw_region eqok [] [] [] [4] [4, 8] [] ⟨[(4, tP 4 0)], [(4, .cells [.i s.Kind, .own 8 7 s_1.length, .i s.R] 26), (8, .row 7 s_1.length (rowF TEdge.c s_1) 35)]⟩ .nil (by kernel_rfl) .nil ?_
      refine ath_n ?_
      refine aw_ret ?_
      exact ⟨_, Cv.trans (cv_fz (⟨[(4, tP 4 0)], [(4, .cells [.i s.Kind, lst 7 TEdge.c s_1, .i s.R] 26)]⟩) 8 7 s_1.length (rowF TEdge.c s_1) 35 (K := none) (fun k x h => by cases h) (by kernel_rfl) (by kernel_rfl) (.cons ⟨rfl, rfl⟩ .nil) (by kernel_rfl)) (Cv.refl _), .inl rfl, .av (.agg [.i s.Kind, lst 7 TEdge.c s_1, .i s.R]), by kernel_rfl, tve_eq (by rw [← hF0]; first | (simp only [FMoveS_l0, h1, cond_true, cond_false]; done) | (simp only [FMoveS_l0, h1, cond_true, cond_false]; rfl))⟩
theorem okMoveS (s : TShape) (m : TMotion) (h0 : (s.Edges.length : Int) ≤ 1000000) : CallOk Try.prog (cMoveS s m).1 (cMoveS s m).2.1 (cMoveS s m).2.2 := callOk_pure (fun _ _ => by kernel_rfl) fun _ => pMoveS s m h0
end Go.Proofs.Ytpnlegfdkkcnlaa
