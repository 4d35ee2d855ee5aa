/-
  No statement is proved in this text. It holds what functions return.
-/
import Derived.Test.YtoojlpcimogehaaProg
import Derived.Test.YtoojlpcimogehaaK21m
import Derived.Test.YtoojlpcimogehaaK21n
import Derived.Test.YtoojlpcimogehaaK21d
namespace Go.Proofs.Ytoojlpcimogehaa
open Go.RowKit
set_option linter.unusedVariables false
set_option linter.unusedSimpArgs false
def wJudgeHolds_5 (l : (List Int)) (m : (List Int)) (layer : Int) (v33 : Int) : FuncId × List Av × Ef := (22, [.agg ((boardC (LL (2))) (FBoard [])), .agg ((condC (LL (3))) (FCond l)), .agg (TItem.c (FItem m)), .one (.i (([1, 2, layer] : List Int).getD v33.toNat 0))], .val [] (tB (FjHolds 3 (FBoard []) (FCond l) (FItem m) (([1, 2, layer] : List Int).getD v33.toNat 0))))
def wJudgeHolds_6 (l : (List Int)) (m : (List Int)) (layer : Int) (v33 : Int) : Bool := FjHolds 3 (FBoard []) (FCond l) (FItem m) (([1, 2, layer] : List Int).getD v33.toNat 0)
def wJudgeHolds_7 (l : (List Int)) (m : (List Int)) (layer : Int) (v33 : Int) : FuncId × List Av × Ef := (23, [.agg ((boardC (LL (2))) (FBoard [])), .agg ((condC (LL (3))) (FCond l)), .agg (TItem.c (FItem m)), .one (.i (([1, 2, layer] : List Int).getD v33.toNat 0))], .val [] (tB (Fhold 3 (FBoard []) (FCond l) (FItem m) (([1, 2, layer] : List Int).getD v33.toNat 0))))
def wJudgeHolds_8 (l : (List Int)) (m : (List Int)) (layer : Int) (v33 : Int) : Bool := Fhold 3 (FBoard []) (FCond l) (FItem m) (([1, 2, layer] : List Int).getD v33.toNat 0)
def wJudgeHolds_9 (l : (List Int)) (m : (List Int)) (layer : Int) (v33 : Int) : Bool := !((wJudgeHolds_6 l m layer v33) == (wJudgeHolds_8 l m layer v33))
def wJudgeHolds_20 (c : TCond) (m : (List Int)) (layer : Int) (v33' : Int) : FuncId × List Av × Ef := (22, [.agg ((boardC (LL (2))) (FBoard [])), .agg ((condC (LL (4))) (Fcut 4 c 3)), .agg (TItem.c (FItem m)), .one (.i (([1, 2, layer] : List Int).getD v33'.toNat 0))], .val [] (tB (FjHolds 4 (FBoard []) (Fcut 4 c 3) (FItem m) (([1, 2, layer] : List Int).getD v33'.toNat 0))))
def wJudgeHolds_21 (c : TCond) (m : (List Int)) (layer : Int) (v33' : Int) : Bool := FjHolds 4 (FBoard []) (Fcut 4 c 3) (FItem m) (([1, 2, layer] : List Int).getD v33'.toNat 0)
def wJudgeHolds_22 (c : TCond) (m : (List Int)) (layer : Int) (v33' : Int) : FuncId × List Av × Ef := (23, [.agg ((boardC (LL (2))) (FBoard [])), .agg ((condC (LL (4))) (Fcut 4 c 3)), .agg (TItem.c (FItem m)), .one (.i (([1, 2, layer] : List Int).getD v33'.toNat 0))], .val [] (tB (Fhold 4 (FBoard []) (Fcut 4 c 3) (FItem m) (([1, 2, layer] : List Int).getD v33'.toNat 0))))
def wJudgeHolds_23 (c : TCond) (m : (List Int)) (layer : Int) (v33' : Int) : Bool := Fhold 4 (FBoard []) (Fcut 4 c 3) (FItem m) (([1, 2, layer] : List Int).getD v33'.toNat 0)
def wJudgeHolds_24 (c : TCond) (m : (List Int)) (layer : Int) (v33' : Int) : Bool := !((wJudgeHolds_21 c m layer v33') == (wJudgeHolds_23 c m layer v33'))
def FJudgeHolds_l2 (l : (List Int)) (m : (List Int)) (c : TCond) (layer : Int) (v33 : Int) (K0 : Int → Bool) : Nat → Int → Bool
  | 0, _ => default
  | n2 + 1, v33' => bif decide ((v33' : Int) < 3) then (bif wJudgeHolds_24 c m layer v33' then (false) else ((FJudgeHolds_l2 l m c layer v33 K0 n2) (v33' + 1))) else (Fsanity)
def FJudgeHolds_l1 (l : (List Int)) (m : (List Int)) (c : TCond) (layer : Int) : Nat → Int → Bool
  | 0, _ => default
  | n1 + 1, v33 => bif decide ((v33 : Int) < 3) then (bif wJudgeHolds_9 l m layer v33 then (false) else ((FJudgeHolds_l1 l m c layer n1) (v33 + 1))) else (FJudgeHolds_l2 l m c layer v33 (FJudgeHolds_l1 l m c layer n1) (((3 : Int) - 0).toNat + 1) 0)
def FJudgeHolds (l : (List Int)) (m : (List Int)) (c : TCond) (layer : Int) : Bool := FJudgeHolds_l1 l m c layer (((3 : Int) - 0).toNat + 1) 0
set_option maxRecDepth 100000 in
theorem pJudgeHolds (n : Nat) (l : (List Int)) (m : (List Int)) (c : TCond) (layer : Int) (hl : (l.length : Int) ≤ 9223372036854775807) (hm : (m.length : Int) ≤ 9223372036854775807) (hc : CondD n c) : Pure Try.prog 6 [.one (lst 1 (fun x => [.i x]) l), .one (lst 1 (fun x => [.i x]) m), .agg ((condC (LL (n))) c), .one (.i layer)] (.av (.one (.b (FJudgeHolds l m c layer)))) := by
  refine pure_of_awF Try.func6 rfl (by kernel_rfl) (by kernel_rfl) fun W0 M0 => ?_
  have hz0 : ((([] : List (List Int)).length : Nat) : Int) ≤ 9223372036854775807 := by decide
  have hz1 : ∀ i, (((([] : List (List Int)).getD i default).length : Nat) : Int) ≤ 9223372036854775807 := fun i => by show ((([] : List Int).length : Nat) : Int) ≤ _; simp
  have hb : BoxOk (FBoard []) (FItem m) := ⟨bd_cls _, item_ed _⟩
  have h3 : CondOk 3 (FCond l) := (cond_ok 3 _ _ (draw_new hl)).1
  have h4 : CondOk 4 (Fcut 4 c 3) := cut_ok 4 c 3
  refine aw_seq ?_
  refine aw_region eqok [] [] [] [0, 1, 3, 6] [6] [] ⟨[(0, .av (.one (lst 1 (fun x => [.i x]) l))), (1, .av (.one (lst 1 (fun x => [.i x]) m))), (3, tI layer), (6, tP 6 0)], [(6, .cells ((condC (LL (n))) c) 58)]⟩ .nil (by kernel_rfl) .nil ?_
  refine ath_n ?_
  refine aw_seq ?_
  refine aw_region eqok [] [] [(16, (10, [], .val [] (tB Fsanity)))] [0, 1, 3, 6, 9] [6] [Same []] ⟨[(0, .av (.one (lst 1 (fun x => [.i x]) l))), (1, .av (.one (lst 1 (fun x => [.i x]) m))), (3, tI layer), (6, tP 6 0), (9, tB Fsanity)], [(6, .cells ((condC (LL (n))) c) 58)]⟩ (.cons (callOk_pure (fun _ _ => by kernel_rfl) fun _ => psanity) .nil) (by kernel_rfl) (.cons rfl .nil) ?_
  refine ath_n ?_
  refine aw_seq ?_
  refine aw_region eqok [] [] [(17, (11, [.one (.val (.slice none 0 0))], .val [] (.av (.agg ((boardC (LL (2))) (FBoard [])))))), (19, cItem m)] [0, 3, 6, 9, 10, 11] [6, 10, 11] [Same [.one (.val (.slice none 0 0))], Same (cItem m).2.1] ⟨[(0, .av (.one (lst 1 (fun x => [.i x]) l))), (3, tI layer), (6, tP 6 0), (9, tB Fsanity), (10, tP 10 0), (11, tP 11 0)], [(6, .cells ((condC (LL (n))) c) 58), (10, .cells ((boardC (LL (2))) (FBoard [])) 41), (11, .cells (TItem.c (FItem m)) 44)]⟩ (.cons (callOk_ce (callOk_pure (fun _ _ => by kernel_rfl) fun _ => pBoard [] (by assumption) (by assumption)) (.cons (.one (cle_nil 1 (fun x => [lst 1 (fun x => [.i x]) x]))) .nil)) (.cons (okItem m (by first | assumption | decide | omega | (simp only [List.length_cons, List.length_nil, List.length_append]; omega))) .nil)) (by kernel_rfl) (.cons rfl (.cons rfl .nil)) ?_
  refine ath_n ?_
  refine aw_seq ?_
  refine aw_seq ?_
  refine aw_draw mixed eqok [] [] [(21, (20, [.one (lst 1 (fun x => [.i x]) l)], .val [] (.av (.agg ((condC (LL (3))) (FCond l)))))), (23, (21, [.agg ((condC (LL (n))) c), .one (.i 3)], .val [] (.av (.agg ((condC (LL (4))) (Fcut 4 c 3))))))] [3, 9, 10, 11, 24, 25, 26] [10, 11] [Same [.one (lst 1 (fun x => [.i x]) l)], Same [.agg ((condC (LL (n))) c), .one (.i 3)]] ⟨[(3, tI layer), (9, tB Fsanity), (10, tP 10 0), (11, tP 11 0), (24, .av (.one (.list true 8 2 (colsC 8 2 [.i ((FCond l).Op), .s ((FCond l).Text), .i ((FCond l).N), .i (((FCond l).Box).X0), .i (((FCond l).Box).Y0), .i (((FCond l).Box).X1), .i (((FCond l).Box).Y1), lst 8 (condC (LL (2))) ((FCond l).L), .i ((Fcut 4 c 3).Op), .s ((Fcut 4 c 3).Text), .i ((Fcut 4 c 3).N), .i (((Fcut 4 c 3).Box).X0), .i (((Fcut 4 c 3).Box).Y0), .i (((Fcut 4 c 3).Box).X1), .i (((Fcut 4 c 3).Box).Y1), lst 8 (condC (LL (3))) ((Fcut 4 c 3).L)])))), (25, tI 2), (26, tI 0)], [(10, .cells ((boardC (LL (2))) (FBoard [])) 41), (11, .cells (TItem.c (FItem m)) 44)]⟩ (.cons (callOk_pure (fun _ _ => by kernel_rfl) fun _ => pCond l (by first | assumption | decide | omega | (simp only [List.length_cons, List.length_nil, List.length_append]; omega))) (.cons (callOk_pure (fun _ _ => by kernel_rfl) fun _ => pcut 4 n c 3 (by assumption) (by decide) (by decide)) .nil)) (by kernel_rfl) (by kernel_rfl) (.cons rfl (.cons rfl .nil)) ?_
  refine ath_n ?_
  refine aw_block ?_
  refine aw_unroll 3 ?_
  refine aw_round ?_
  refine aw_seq ?_
  refine aw_region eqok [] [] [] [3, 9, 10, 11, 24, 25, 26, 27] [10, 11] [] ⟨[(3, tI layer), (9, tB Fsanity), (10, tP 10 0), (11, tP 11 0), (24, .av (.one (.list true 8 2 (colsC 8 2 [.i ((FCond l).Op), .s ((FCond l).Text), .i ((FCond l).N), .i (((FCond l).Box).X0), .i (((FCond l).Box).Y0), .i (((FCond l).Box).X1), .i (((FCond l).Box).Y1), lst 8 (condC (LL (2))) ((FCond l).L), .i ((Fcut 4 c 3).Op), .s ((Fcut 4 c 3).Text), .i ((Fcut 4 c 3).N), .i (((Fcut 4 c 3).Box).X0), .i (((Fcut 4 c 3).Box).Y0), .i (((Fcut 4 c 3).Box).X1), .i (((Fcut 4 c 3).Box).Y1), lst 8 (condC (LL (3))) ((Fcut 4 c 3).L)])))), (25, tI 2), (26, tI 0), (27, tB true)], [(10, .cells ((boardC (LL (2))) (FBoard [])) 41), (11, .cells (TItem.c (FItem m)) 44)]⟩ .nil (by kernel_rfl) .nil ?_
  refine ath_n ?_
  refine aw_seq ?_
  refine aw_cond_t (by kernel_rfl) ?_
  refine aw_skip ?_
  refine ath_n ?_
  refine aw_seq ?_
  refine aw_block ?_
  refine aw_seq ?_
  refine aw_region eqok [] [] [] [3, 9, 10, 11, 13, 24, 25, 26] [10, 11, 13] [0 ≤ (0 : Int) ∧ (0 : Int) < ((2 : Nat) : Int)] ⟨[(3, tI layer), (9, tB Fsanity), (10, tP 10 0), (11, tP 11 0), (13, tP 13 0), (24, .av (.one (.list true 8 2 (colsC 8 2 [.i ((FCond l).Op), .s ((FCond l).Text), .i ((FCond l).N), .i (((FCond l).Box).X0), .i (((FCond l).Box).Y0), .i (((FCond l).Box).X1), .i (((FCond l).Box).Y1), lst 8 (condC (LL (2))) ((FCond l).L), .i ((Fcut 4 c 3).Op), .s ((Fcut 4 c 3).Text), .i ((Fcut 4 c 3).N), .i (((Fcut 4 c 3).Box).X0), .i (((Fcut 4 c 3).Box).Y0), .i (((Fcut 4 c 3).Box).X1), .i (((Fcut 4 c 3).Box).Y1), lst 8 (condC (LL (3))) ((Fcut 4 c 3).L)])))), (25, tI 2), (26, tI 0)], [(10, .cells ((boardC (LL (2))) (FBoard [])) 41), (11, .cells (TItem.c (FItem m)) 44), (13, .cells ((condC (LL (3))) (FCond l)) 58)]⟩ .nil (by kernel_rfl) (.cons (by first | decide | omega | exact idx_tmod (by first | omega | (simp only [W64_def]; omega)) (by omega) | (simp only [W64_def]; omega) | (constructor <;> omega) | (simp only [List.length_append, List.length_cons, List.length_nil]; omega) | (simp only [List.length_append, List.length_cons, List.length_nil, List.length_drop, List.length_take] at *; omega)) .nil) ?_
  refine ath_n ?_
  refine aw_seq ?_
  refine aw_region eqok [] [] [] [3, 9, 10, 11, 13, 24, 25, 26, 31, 32, 33] [10, 11, 13] [] ⟨[(3, tI layer), (9, tB Fsanity), (10, tP 10 0), (11, tP 11 0), (13, tP 13 0), (24, .av (.one (.list true 8 2 (colsC 8 2 [.i ((FCond l).Op), .s ((FCond l).Text), .i ((FCond l).N), .i (((FCond l).Box).X0), .i (((FCond l).Box).Y0), .i (((FCond l).Box).X1), .i (((FCond l).Box).Y1), lst 8 (condC (LL (2))) ((FCond l).L), .i ((Fcut 4 c 3).Op), .s ((Fcut 4 c 3).Text), .i ((Fcut 4 c 3).N), .i (((Fcut 4 c 3).Box).X0), .i (((Fcut 4 c 3).Box).Y0), .i (((Fcut 4 c 3).Box).X1), .i (((Fcut 4 c 3).Box).Y1), lst 8 (condC (LL (3))) ((Fcut 4 c 3).L)])))), (25, tI 2), (26, tI 0), (31, .av (.one (.list true 1 3 (colsC 1 3 [.i 1, .i 2, .i layer])))), (32, tI 3), (33, tI 0)], [(10, .cells ((boardC (LL (2))) (FBoard [])) 41), (11, .cells (TItem.c (FItem m)) 44), (13, .cells ((condC (LL (3))) (FCond l)) 58)]⟩ .nil (by kernel_rfl) .nil ?_
  refine ath_n ?_
  refine aw_block ?_
  refine aw_loopC (ι := Nat × Int) (fun x => ⟨[(3, tI layer), (9, tB Fsanity), (10, tP 10 0), (11, tP 11 0), (13, tP 13 0), (24, .av (.one (.list true 8 2 (colsC 8 2 [.i ((FCond l).Op), .s ((FCond l).Text), .i ((FCond l).N), .i (((FCond l).Box).X0), .i (((FCond l).Box).Y0), .i (((FCond l).Box).X1), .i (((FCond l).Box).Y1), lst 8 (condC (LL (2))) ((FCond l).L), .i ((Fcut 4 c 3).Op), .s ((Fcut 4 c 3).Text), .i ((Fcut 4 c 3).N), .i (((Fcut 4 c 3).Box).X0), .i (((Fcut 4 c 3).Box).Y0), .i (((Fcut 4 c 3).Box).X1), .i (((Fcut 4 c 3).Box).Y1), lst 8 (condC (LL (3))) ((Fcut 4 c 3).L)])))), (25, tI 2), (26, tI 0), (31, .av (.one (.list true 1 3 (colsC 1 3 [.i 1, .i 2, .i layer])))), (32, tI 3), (33, tI x.2)], [(10, .cells ((boardC (LL (2))) (FBoard [])) 41), (11, .cells (TItem.c (FItem m)) 44), (13, .cells ((condC (LL (3))) (FCond l)) 58)]⟩) (fun x => ((3 : Int) - x.2).toNat < x.1 ∧ (0 ≤ x.2 ∧ (x.2 ≤ 3 ∨ x.2 = 0)) ∧ FJudgeHolds_l1 l m c layer x.1 x.2 = FJudgeHolds l m c layer) (fun x => x.1) ?_ (((3 : Int) - 0).toNat + 1, 0) ⟨Nat.lt_succ_self _, ⟨(by show 0 ≤ 0; first | trivial | omega | (simp only [List.length_append, List.length_cons, List.length_nil]; omega) | (simp only [List.length_set, List.length_append, List.length_cons, List.length_nil]; omega) | (simp only [W64_def]; omega) | (simp; omega) | simp), (by show (0 ≤ 3 ∨ 0 = 0); first | trivial | omega | (simp only [List.length_append, List.length_cons, List.length_nil]; omega) | (simp only [List.length_set, List.length_append, List.length_cons, List.length_nil]; omega) | (simp only [W64_def]; omega) | (simp; omega) | simp)⟩, (by simp only [FJudgeHolds, cond_true, cond_false])⟩
  rintro ⟨n1, v33⟩ ⟨hn, hinv, hF⟩
  have hm1 : ((3 : Int) - v33).toNat < n1 := hn; have hinv1 : 0 ≤ v33 ∧ (v33 ≤ 3 ∨ v33 = 0) := hinv; have hF1 : FJudgeHolds_l1 l m c layer n1 v33 = FJudgeHolds l m c layer := hF; clear hn hinv hF
  cases n1 with
  | zero => exact absurd hm1 (Nat.not_lt_zero _)
  | succ n1 =>
    refine aw_seq ?_
    refine aw_region eqok [] [] [] [3, 9, 10, 11, 13, 24, 25, 26, 31, 32, 33, 34] [10, 11, 13] [] ⟨[(3, tI layer), (9, tB Fsanity), (10, tP 10 0), (11, tP 11 0), (13, tP 13 0), (24, .av (.one (.list true 8 2 (colsC 8 2 [.i ((FCond l).Op), .s ((FCond l).Text), .i ((FCond l).N), .i (((FCond l).Box).X0), .i (((FCond l).Box).Y0), .i (((FCond l).Box).X1), .i (((FCond l).Box).Y1), lst 8 (condC (LL (2))) ((FCond l).L), .i ((Fcut 4 c 3).Op), .s ((Fcut 4 c 3).Text), .i ((Fcut 4 c 3).N), .i (((Fcut 4 c 3).Box).X0), .i (((Fcut 4 c 3).Box).Y0), .i (((Fcut 4 c 3).Box).X1), .i (((Fcut 4 c 3).Box).Y1), lst 8 (condC (LL (3))) ((Fcut 4 c 3).L)])))), (25, tI 2), (26, tI 0), (31, .av (.one (.list true 1 3 (colsC 1 3 [.i 1, .i 2, .i layer])))), (32, tI 3), (33, tI v33), (34, tB (decide ((v33 : Int) < 3)))], [(10, .cells ((boardC (LL (2))) (FBoard [])) 41), (11, .cells (TItem.c (FItem m)) 44), (13, .cells ((condC (LL (3))) (FCond l)) 58)]⟩ .nil (by kernel_rfl) .nil ?_
    refine ath_n ?_
    refine aw_seq ?_
    refine aw_cond (decide ((v33 : Int) < 3)) (by kernel_rfl) (fun h1 => ?_) (fun h1 => ?_)
    · have g1 := of_decide_eq_true h1
      refine aw_skip ?_
      refine ath_n ?_
      refine aw_seq ?_
      refine aw_block ?_
      refine aw_seq ?_
      refine aw_region eqok [] [] [] [3, 9, 10, 11, 13, 15, 24, 25, 26, 31, 32, 33] [10, 11, 13] [0 ≤ (v33 : Int) ∧ (v33 : Int) < ((3 : Nat) : Int)] ⟨[(3, tI layer), (9, tB Fsanity), (10, tP 10 0), (11, tP 11 0), (13, tP 13 0), (15, tI (([1, 2, layer] : List Int).getD v33.toNat 0)), (24, .av (.one (.list true 8 2 (colsC 8 2 [.i ((FCond l).Op), .s ((FCond l).Text), .i ((FCond l).N), .i (((FCond l).Box).X0), .i (((FCond l).Box).Y0), .i (((FCond l).Box).X1), .i (((FCond l).Box).Y1), lst 8 (condC (LL (2))) ((FCond l).L), .i ((Fcut 4 c 3).Op), .s ((Fcut 4 c 3).Text), .i ((Fcut 4 c 3).N), .i (((Fcut 4 c 3).Box).X0), .i (((Fcut 4 c 3).Box).Y0), .i (((Fcut 4 c 3).Box).X1), .i (((Fcut 4 c 3).Box).Y1), lst 8 (condC (LL (3))) ((Fcut 4 c 3).L)])))), (25, tI 2), (26, tI 0), (31, .av (.one (.list true 1 3 (colsC 1 3 [.i 1, .i 2, .i layer])))), (32, tI 3), (33, tI v33)], [(10, .cells ((boardC (LL (2))) (FBoard [])) 41), (11, .cells (TItem.c (FItem m)) 44), (13, .cells ((condC (LL (3))) (FCond l)) 58)]⟩ .nil (by kernel_rfl) (.cons (by first | decide | omega | exact idx_tmod (by first | omega | (simp only [W64_def]; omega)) (by omega) | (simp only [W64_def]; omega) | (constructor <;> omega) | (simp only [List.length_append, List.length_cons, List.length_nil]; omega) | (simp only [List.length_append, List.length_cons, List.length_nil, List.length_drop, List.length_take] at *; omega)) .nil) ?_
      refine ath_n ?_
      refine aw_seq ?_
      refine aw_draw mixed eqok [] [] [(41, (wJudgeHolds_5 l m layer v33)), (46, (wJudgeHolds_7 l m layer v33))] [3, 9, 10, 11, 13, 24, 25, 26, 31, 32, 33, 47] [10, 11, 13] [Same (wJudgeHolds_5 l m layer v33).2.1, Same (wJudgeHolds_7 l m layer v33).2.1] ⟨[(3, tI layer), (9, tB Fsanity), (10, tP 10 0), (11, tP 11 0), (13, tP 13 0), (24, .av (.one (.list true 8 2 (colsC 8 2 [.i ((FCond l).Op), .s ((FCond l).Text), .i ((FCond l).N), .i (((FCond l).Box).X0), .i (((FCond l).Box).Y0), .i (((FCond l).Box).X1), .i (((FCond l).Box).Y1), lst 8 (condC (LL (2))) ((FCond l).L), .i ((Fcut 4 c 3).Op), .s ((Fcut 4 c 3).Text), .i ((Fcut 4 c 3).N), .i (((Fcut 4 c 3).Box).X0), .i (((Fcut 4 c 3).Box).Y0), .i (((Fcut 4 c 3).Box).X1), .i (((Fcut 4 c 3).Box).Y1), lst 8 (condC (LL (3))) ((Fcut 4 c 3).L)])))), (25, tI 2), (26, tI 0), (31, .av (.one (.list true 1 3 (colsC 1 3 [.i 1, .i 2, .i layer])))), (32, tI 3), (33, tI v33), (47, tB (wJudgeHolds_9 l m layer v33))], [(10, .cells ((boardC (LL (2))) (FBoard [])) 41), (11, .cells (TItem.c (FItem m)) 44), (13, .cells ((condC (LL (3))) (FCond l)) 58)]⟩ (.cons (callOk_pure (fun _ _ => by kernel_rfl) fun _ => pjHolds 2 3 (FBoard []) (FCond l) (FItem m) (([1, 2, layer] : List Int).getD v33.toNat 0) (by assumption) (by first | assumption | exact condOk_default _ | exact (hr.2.2 _).1 | exact (hr.2.2 _).2)) (.cons (callOk_pure (fun _ _ => by kernel_rfl) fun _ => pHold 2 3 (FBoard []) (FCond l) (FItem m) (([1, 2, layer] : List Int).getD v33.toNat 0) (by assumption) (by first | assumption | exact condOk_default _ | exact (hr.2.2 _).1 | exact (hr.2.2 _).2)) .nil)) (by kernel_rfl) (by kernel_rfl) (.cons rfl (.cons rfl .nil)) ?_
      refine ath_n ?_
      refine aw_cond (wJudgeHolds_9 l m layer v33) (by kernel_rfl) (fun h2 => ?_) (fun h2 => ?_)
      · refine aw_seq ?_
        refine aw_region eqok [] [] [] [8] [] [] ⟨[(8, tB false)], []⟩ .nil (by kernel_rfl) .nil ?_
        refine ath_n ?_
        refine aw_ret ?_
        refine abl_r ?_
        refine ath_r ?_
        refine ath_r ?_
        refine abl_r ?_
        refine abl_r ?_
        refine ath_r ?_
        refine ath_r ?_
        refine abl_r ?_
        refine ath_r ?_
        exact ⟨_, Cv.refl _, .inl rfl, .av (.one (.b false)), by kernel_rfl, tve_eq (by rw [← hF1]; first | (simp only [FJudgeHolds_l1, h1, h2, cond_true, cond_false]; done) | (simp only [FJudgeHolds_l1, h1, h2, cond_true, cond_false]; rfl))⟩
      · refine aw_skip ?_
        refine abl_n ?_
        refine ath_n ?_
        refine aw_region eqok [] [] [] [3, 9, 10, 11, 13, 24, 25, 26, 31, 32, 33] [10, 11, 13] [] ⟨[(3, tI layer), (9, tB Fsanity), (10, tP 10 0), (11, tP 11 0), (13, tP 13 0), (24, .av (.one (.list true 8 2 (colsC 8 2 [.i ((FCond l).Op), .s ((FCond l).Text), .i ((FCond l).N), .i (((FCond l).Box).X0), .i (((FCond l).Box).Y0), .i (((FCond l).Box).X1), .i (((FCond l).Box).Y1), lst 8 (condC (LL (2))) ((FCond l).L), .i ((Fcut 4 c 3).Op), .s ((Fcut 4 c 3).Text), .i ((Fcut 4 c 3).N), .i (((Fcut 4 c 3).Box).X0), .i (((Fcut 4 c 3).Box).Y0), .i (((Fcut 4 c 3).Box).X1), .i (((Fcut 4 c 3).Box).Y1), lst 8 (condC (LL (3))) ((Fcut 4 c 3).L)])))), (25, tI 2), (26, tI 0), (31, .av (.one (.list true 1 3 (colsC 1 3 [.i 1, .i 2, .i layer])))), (32, tI 3), (33, tI (W64 (v33 + 1)))], [(10, .cells ((boardC (LL (2))) (FBoard [])) 41), (11, .cells (TItem.c (FItem m)) 44), (13, .cells ((condC (LL (3))) (FCond l)) 58)]⟩ .nil (by kernel_rfl) .nil ?_
        (try rw [(show W64 (v33 + 1) = v33 + 1 from W64_id (by omega) (by first | omega | (simp only [List.length_drop, List.length_take] at *; omega)))])
        refine ath_n ?_
        refine ⟨(n1, v33 + 1), ⟨?_, ?_, (by rw [← hF1]; simp only [FJudgeHolds_l1, h1, h2, cond_true, cond_false])⟩, Nat.lt_succ_self _, cv_eq (by kernel_rfl)⟩
        · show ((3 : Int) - (v33 + 1)).toNat < n1; omega
        · exact ⟨(by show 0 ≤ (v33 + 1); first | trivial | omega | (simp only [List.length_append, List.length_cons, List.length_nil]; omega) | (simp only [List.length_set, List.length_append, List.length_cons, List.length_nil]; omega) | (simp only [W64_def]; omega) | (simp; omega) | simp), (by show ((v33 + 1) ≤ 3 ∨ (v33 + 1) = 0); first | trivial | omega | (simp only [List.length_append, List.length_cons, List.length_nil]; omega) | (simp only [List.length_set, List.length_append, List.length_cons, List.length_nil]; omega) | (simp only [W64_def]; omega) | (simp; omega) | simp)⟩
    · have g1 := of_decide_eq_false h1
      refine aw_exit ?_
      refine ath_e ?_
      refine ath_e ?_
      refine abl_hit ?_
      refine abl_n ?_
      refine ath_n ?_
      refine aw_region eqok [] [] [] [3, 9, 10, 11, 24, 25, 26] [10, 11] [] ⟨[(3, tI layer), (9, tB Fsanity), (10, tP 10 0), (11, tP 11 0), (24, .av (.one (.list true 8 2 (colsC 8 2 [.i ((FCond l).Op), .s ((FCond l).Text), .i ((FCond l).N), .i (((FCond l).Box).X0), .i (((FCond l).Box).Y0), .i (((FCond l).Box).X1), .i (((FCond l).Box).Y1), lst 8 (condC (LL (2))) ((FCond l).L), .i ((Fcut 4 c 3).Op), .s ((Fcut 4 c 3).Text), .i ((Fcut 4 c 3).N), .i (((Fcut 4 c 3).Box).X0), .i (((Fcut 4 c 3).Box).Y0), .i (((Fcut 4 c 3).Box).X1), .i (((Fcut 4 c 3).Box).Y1), lst 8 (condC (LL (3))) ((Fcut 4 c 3).L)])))), (25, tI 2), (26, tI 1)], [(10, .cells ((boardC (LL (2))) (FBoard [])) 41), (11, .cells (TItem.c (FItem m)) 44)]⟩ .nil (by kernel_rfl) .nil ?_
      refine ath_n ?_
      refine aw_round ?_
      refine aw_seq ?_
      refine aw_region eqok [] [] [] [3, 9, 10, 11, 24, 25, 26, 27] [10, 11] [] ⟨[(3, tI layer), (9, tB Fsanity), (10, tP 10 0), (11, tP 11 0), (24, .av (.one (.list true 8 2 (colsC 8 2 [.i ((FCond l).Op), .s ((FCond l).Text), .i ((FCond l).N), .i (((FCond l).Box).X0), .i (((FCond l).Box).Y0), .i (((FCond l).Box).X1), .i (((FCond l).Box).Y1), lst 8 (condC (LL (2))) ((FCond l).L), .i ((Fcut 4 c 3).Op), .s ((Fcut 4 c 3).Text), .i ((Fcut 4 c 3).N), .i (((Fcut 4 c 3).Box).X0), .i (((Fcut 4 c 3).Box).Y0), .i (((Fcut 4 c 3).Box).X1), .i (((Fcut 4 c 3).Box).Y1), lst 8 (condC (LL (3))) ((Fcut 4 c 3).L)])))), (25, tI 2), (26, tI 1), (27, tB true)], [(10, .cells ((boardC (LL (2))) (FBoard [])) 41), (11, .cells (TItem.c (FItem m)) 44)]⟩ .nil (by kernel_rfl) .nil ?_
      refine ath_n ?_
      refine aw_seq ?_
      refine aw_cond_t (by kernel_rfl) ?_
      refine aw_skip ?_
      refine ath_n ?_
      refine aw_seq ?_
      refine aw_block ?_
      refine aw_seq ?_
      refine aw_region eqok [] [] [] [3, 9, 10, 11, 13, 24, 25, 26] [10, 11, 13] [0 ≤ (1 : Int) ∧ (1 : Int) < ((2 : Nat) : Int)] ⟨[(3, tI layer), (9, tB Fsanity), (10, tP 10 0), (11, tP 11 0), (13, tP 13 0), (24, .av (.one (.list true 8 2 (colsC 8 2 [.i ((FCond l).Op), .s ((FCond l).Text), .i ((FCond l).N), .i (((FCond l).Box).X0), .i (((FCond l).Box).Y0), .i (((FCond l).Box).X1), .i (((FCond l).Box).Y1), lst 8 (condC (LL (2))) ((FCond l).L), .i ((Fcut 4 c 3).Op), .s ((Fcut 4 c 3).Text), .i ((Fcut 4 c 3).N), .i (((Fcut 4 c 3).Box).X0), .i (((Fcut 4 c 3).Box).Y0), .i (((Fcut 4 c 3).Box).X1), .i (((Fcut 4 c 3).Box).Y1), lst 8 (condC (LL (3))) ((Fcut 4 c 3).L)])))), (25, tI 2), (26, tI 1)], [(10, .cells ((boardC (LL (2))) (FBoard [])) 41), (11, .cells (TItem.c (FItem m)) 44), (13, .cells ((condC (LL (4))) (Fcut 4 c 3)) 58)]⟩ .nil (by kernel_rfl) (.cons (by first | decide | omega | exact idx_tmod (by first | omega | (simp only [W64_def]; omega)) (by omega) | (simp only [W64_def]; omega) | (constructor <;> omega) | (simp only [List.length_append, List.length_cons, List.length_nil]; omega) | (simp only [List.length_append, List.length_cons, List.length_nil, List.length_drop, List.length_take] at *; omega)) .nil) ?_
      refine ath_n ?_
      refine aw_seq ?_
      refine aw_region eqok [] [] [] [3, 9, 10, 11, 13, 24, 25, 26, 31, 32, 33] [10, 11, 13] [] ⟨[(3, tI layer), (9, tB Fsanity), (10, tP 10 0), (11, tP 11 0), (13, tP 13 0), (24, .av (.one (.list true 8 2 (colsC 8 2 [.i ((FCond l).Op), .s ((FCond l).Text), .i ((FCond l).N), .i (((FCond l).Box).X0), .i (((FCond l).Box).Y0), .i (((FCond l).Box).X1), .i (((FCond l).Box).Y1), lst 8 (condC (LL (2))) ((FCond l).L), .i ((Fcut 4 c 3).Op), .s ((Fcut 4 c 3).Text), .i ((Fcut 4 c 3).N), .i (((Fcut 4 c 3).Box).X0), .i (((Fcut 4 c 3).Box).Y0), .i (((Fcut 4 c 3).Box).X1), .i (((Fcut 4 c 3).Box).Y1), lst 8 (condC (LL (3))) ((Fcut 4 c 3).L)])))), (25, tI 2), (26, tI 1), (31, .av (.one (.list true 1 3 (colsC 1 3 [.i 1, .i 2, .i layer])))), (32, tI 3), (33, tI 0)], [(10, .cells ((boardC (LL (2))) (FBoard [])) 41), (11, .cells (TItem.c (FItem m)) 44), (13, .cells ((condC (LL (4))) (Fcut 4 c 3)) 58)]⟩ .nil (by kernel_rfl) .nil ?_
      refine ath_n ?_
      refine aw_block ?_
      refine aw_loopC (ι := Nat × Int) (fun x => ⟨[(3, tI layer), (9, tB Fsanity), (10, tP 10 0), (11, tP 11 0), (13, tP 13 0), (24, .av (.one (.list true 8 2 (colsC 8 2 [.i ((FCond l).Op), .s ((FCond l).Text), .i ((FCond l).N), .i (((FCond l).Box).X0), .i (((FCond l).Box).Y0), .i (((FCond l).Box).X1), .i (((FCond l).Box).Y1), lst 8 (condC (LL (2))) ((FCond l).L), .i ((Fcut 4 c 3).Op), .s ((Fcut 4 c 3).Text), .i ((Fcut 4 c 3).N), .i (((Fcut 4 c 3).Box).X0), .i (((Fcut 4 c 3).Box).Y0), .i (((Fcut 4 c 3).Box).X1), .i (((Fcut 4 c 3).Box).Y1), lst 8 (condC (LL (3))) ((Fcut 4 c 3).L)])))), (25, tI 2), (26, tI 1), (31, .av (.one (.list true 1 3 (colsC 1 3 [.i 1, .i 2, .i layer])))), (32, tI 3), (33, tI x.2)], [(10, .cells ((boardC (LL (2))) (FBoard [])) 41), (11, .cells (TItem.c (FItem m)) 44), (13, .cells ((condC (LL (4))) (Fcut 4 c 3)) 58)]⟩) (fun x => ((3 : Int) - x.2).toNat < x.1 ∧ (0 ≤ x.2 ∧ (x.2 ≤ 3 ∨ x.2 = 0)) ∧ FJudgeHolds_l2 l m c layer v33 (FJudgeHolds_l1 l m c layer n1) x.1 x.2 = FJudgeHolds l m c layer) (fun x => x.1) ?_ (((3 : Int) - 0).toNat + 1, 0) ⟨Nat.lt_succ_self _, ⟨(by show 0 ≤ 0; first | trivial | omega | (simp only [List.length_append, List.length_cons, List.length_nil]; omega) | (simp only [List.length_set, List.length_append, List.length_cons, List.length_nil]; omega) | (simp only [W64_def]; omega) | (simp; omega) | simp), (by show (0 ≤ 3 ∨ 0 = 0); first | trivial | omega | (simp only [List.length_append, List.length_cons, List.length_nil]; omega) | (simp only [List.length_set, List.length_append, List.length_cons, List.length_nil]; omega) | (simp only [W64_def]; omega) | (simp; omega) | simp)⟩, (by rw [← hF1]; simp only [FJudgeHolds_l1, h1, cond_true, cond_false])⟩
      rintro ⟨n2, v33'⟩ ⟨hn, hinv, hF⟩
      have hm2 : ((3 : Int) - v33').toNat < n2 := hn; have hinv2 : 0 ≤ v33' ∧ (v33' ≤ 3 ∨ v33' = 0) := hinv; have hF2 : FJudgeHolds_l2 l m c layer v33 (FJudgeHolds_l1 l m c layer n1) n2 v33' = FJudgeHolds l m c layer := hF; clear hn hinv hF
      cases n2 with
      | zero => exact absurd hm2 (Nat.not_lt_zero _)
      | succ n2 =>
        refine aw_seq ?_
        refine aw_region eqok [] [] [] [3, 9, 10, 11, 13, 24, 25, 26, 31, 32, 33, 34] [10, 11, 13] [] ⟨[(3, tI layer), (9, tB Fsanity), (10, tP 10 0), (11, tP 11 0), (13, tP 13 0), (24, .av (.one (.list true 8 2 (colsC 8 2 [.i ((FCond l).Op), .s ((FCond l).Text), .i ((FCond l).N), .i (((FCond l).Box).X0), .i (((FCond l).Box).Y0), .i (((FCond l).Box).X1), .i (((FCond l).Box).Y1), lst 8 (condC (LL (2))) ((FCond l).L), .i ((Fcut 4 c 3).Op), .s ((Fcut 4 c 3).Text), .i ((Fcut 4 c 3).N), .i (((Fcut 4 c 3).Box).X0), .i (((Fcut 4 c 3).Box).Y0), .i (((Fcut 4 c 3).Box).X1), .i (((Fcut 4 c 3).Box).Y1), lst 8 (condC (LL (3))) ((Fcut 4 c 3).L)])))), (25, tI 2), (26, tI 1), (31, .av (.one (.list true 1 3 (colsC 1 3 [.i 1, .i 2, .i layer])))), (32, tI 3), (33, tI v33'), (34, tB (decide ((v33' : Int) < 3)))], [(10, .cells ((boardC (LL (2))) (FBoard [])) 41), (11, .cells (TItem.c (FItem m)) 44), (13, .cells ((condC (LL (4))) (Fcut 4 c 3)) 58)]⟩ .nil (by kernel_rfl) .nil ?_
        refine ath_n ?_
        refine aw_seq ?_
        refine aw_cond (decide ((v33' : Int) < 3)) (by kernel_rfl) (fun h2 => ?_) (fun h2 => ?_)
        · have g2 := of_decide_eq_true h2
          refine aw_skip ?_
          refine ath_n ?_
          refine aw_seq ?_
          refine aw_block ?_
          refine aw_seq ?_
          refine aw_region eqok [] [] [] [3, 9, 10, 11, 13, 15, 24, 25, 26, 31, 32, 33] [10, 11, 13] [0 ≤ (v33' : Int) ∧ (v33' : Int) < ((3 : Nat) : Int)] ⟨[(3, tI layer), (9, tB Fsanity), (10, tP 10 0), (11, tP 11 0), (13, tP 13 0), (15, tI (([1, 2, layer] : List Int).getD v33'.toNat 0)), (24, .av (.one (.list true 8 2 (colsC 8 2 [.i ((FCond l).Op), .s ((FCond l).Text), .i ((FCond l).N), .i (((FCond l).Box).X0), .i (((FCond l).Box).Y0), .i (((FCond l).Box).X1), .i (((FCond l).Box).Y1), lst 8 (condC (LL (2))) ((FCond l).L), .i ((Fcut 4 c 3).Op), .s ((Fcut 4 c 3).Text), .i ((Fcut 4 c 3).N), .i (((Fcut 4 c 3).Box).X0), .i (((Fcut 4 c 3).Box).Y0), .i (((Fcut 4 c 3).Box).X1), .i (((Fcut 4 c 3).Box).Y1), lst 8 (condC (LL (3))) ((Fcut 4 c 3).L)])))), (25, tI 2), (26, tI 1), (31, .av (.one (.list true 1 3 (colsC 1 3 [.i 1, .i 2, .i layer])))), (32, tI 3), (33, tI v33')], [(10, .cells ((boardC (LL (2))) (FBoard [])) 41), (11, .cells (TItem.c (FItem m)) 44), (13, .cells ((condC (LL (4))) (Fcut 4 c 3)) 58)]⟩ .nil (by kernel_rfl) (.cons (by first | decide | omega | exact idx_tmod (by first | omega | (simp only [W64_def]; omega)) (by omega) | (simp only [W64_def]; omega) | (constructor <;> omega) | (simp only [List.length_append, List.length_cons, List.length_nil]; omega) | (simp only [List.length_append, List.length_cons, List.length_nil, List.length_drop, List.length_take] at *; omega)) .nil) ?_
          refine ath_n ?_
          refine aw_seq ?_
          refine aw_draw mixed eqok [] [] [(41, (wJudgeHolds_20 c m layer v33')), (46, (wJudgeHolds_22 c m layer v33'))] [3, 9, 10, 11, 13, 24, 25, 26, 31, 32, 33, 47] [10, 11, 13] [Same (wJudgeHolds_20 c m layer v33').2.1, Same (wJudgeHolds_22 c m layer v33').2.1] ⟨[(3, tI layer), (9, tB Fsanity), (10, tP 10 0), (11, tP 11 0), (13, tP 13 0), (24, .av (.one (.list true 8 2 (colsC 8 2 [.i ((FCond l).Op), .s ((FCond l).Text), .i ((FCond l).N), .i (((FCond l).Box).X0), .i (((FCond l).Box).Y0), .i (((FCond l).Box).X1), .i (((FCond l).Box).Y1), lst 8 (condC (LL (2))) ((FCond l).L), .i ((Fcut 4 c 3).Op), .s ((Fcut 4 c 3).Text), .i ((Fcut 4 c 3).N), .i (((Fcut 4 c 3).Box).X0), .i (((Fcut 4 c 3).Box).Y0), .i (((Fcut 4 c 3).Box).X1), .i (((Fcut 4 c 3).Box).Y1), lst 8 (condC (LL (3))) ((Fcut 4 c 3).L)])))), (25, tI 2), (26, tI 1), (31, .av (.one (.list true 1 3 (colsC 1 3 [.i 1, .i 2, .i layer])))), (32, tI 3), (33, tI v33'), (47, tB (wJudgeHolds_24 c m layer v33'))], [(10, .cells ((boardC (LL (2))) (FBoard [])) 41), (11, .cells (TItem.c (FItem m)) 44), (13, .cells ((condC (LL (4))) (Fcut 4 c 3)) 58)]⟩ (.cons (callOk_pure (fun _ _ => by kernel_rfl) fun _ => pjHolds 2 4 (FBoard []) (Fcut 4 c 3) (FItem m) (([1, 2, layer] : List Int).getD v33'.toNat 0) (by assumption) (by first | assumption | exact condOk_default _ | exact (hr.2.2 _).1 | exact (hr.2.2 _).2)) (.cons (callOk_pure (fun _ _ => by kernel_rfl) fun _ => pHold 2 4 (FBoard []) (Fcut 4 c 3) (FItem m) (([1, 2, layer] : List Int).getD v33'.toNat 0) (by assumption) (by first | assumption | exact condOk_default _ | exact (hr.2.2 _).1 | exact (hr.2.2 _).2)) .nil)) (by kernel_rfl) (by kernel_rfl) (.cons rfl (.cons rfl .nil)) ?_
          refine ath_n ?_
          refine aw_cond (wJudgeHolds_24 c m layer v33') (by kernel_rfl) (fun h3 => ?_) (fun h3 => ?_)
          · refine aw_seq ?_
            refine aw_region eqok [] [] [] [8] [] [] ⟨[(8, tB false)], []⟩ .nil (by kernel_rfl) .nil ?_
            refine ath_n ?_
            refine aw_ret ?_
            refine abl_r ?_
            refine ath_r ?_
            refine ath_r ?_
            refine abl_r ?_
            refine abl_r ?_
            refine ath_r ?_
            refine ath_r ?_
            refine abl_r ?_
            refine ath_r ?_
            exact ⟨_, Cv.refl _, .inl rfl, .av (.one (.b false)), by kernel_rfl, tve_eq (by rw [← hF2]; first | (simp only [FJudgeHolds_l2, h2, h3, cond_true, cond_false]; done) | (simp only [FJudgeHolds_l2, h2, h3, cond_true, cond_false]; rfl))⟩
          · refine aw_skip ?_
            refine abl_n ?_
            refine ath_n ?_
            refine aw_region eqok [] [] [] [3, 9, 10, 11, 13, 24, 25, 26, 31, 32, 33] [10, 11, 13] [] ⟨[(3, tI layer), (9, tB Fsanity), (10, tP 10 0), (11, tP 11 0), (13, tP 13 0), (24, .av (.one (.list true 8 2 (colsC 8 2 [.i ((FCond l).Op), .s ((FCond l).Text), .i ((FCond l).N), .i (((FCond l).Box).X0), .i (((FCond l).Box).Y0), .i (((FCond l).Box).X1), .i (((FCond l).Box).Y1), lst 8 (condC (LL (2))) ((FCond l).L), .i ((Fcut 4 c 3).Op), .s ((Fcut 4 c 3).Text), .i ((Fcut 4 c 3).N), .i (((Fcut 4 c 3).Box).X0), .i (((Fcut 4 c 3).Box).Y0), .i (((Fcut 4 c 3).Box).X1), .i (((Fcut 4 c 3).Box).Y1), lst 8 (condC (LL (3))) ((Fcut 4 c 3).L)])))), (25, tI 2), (26, tI 1), (31, .av (.one (.list true 1 3 (colsC 1 3 [.i 1, .i 2, .i layer])))), (32, tI 3), (33, tI (W64 (v33' + 1)))], [(10, .cells ((boardC (LL (2))) (FBoard [])) 41), (11, .cells (TItem.c (FItem m)) 44), (13, .cells ((condC (LL (4))) (Fcut 4 c 3)) 58)]⟩ .nil (by kernel_rfl) .nil ?_
            (try rw [(show W64 (v33' + 1) = v33' + 1 from W64_id (by omega) (by first | omega | (simp only [List.length_drop, List.length_take] at *; omega)))])
            refine ath_n ?_
            refine ⟨(n2, v33' + 1), ⟨?_, ?_, (by rw [← hF2]; simp only [FJudgeHolds_l2, h2, h3, cond_true, cond_false])⟩, Nat.lt_succ_self _, cv_eq (by kernel_rfl)⟩
            · show ((3 : Int) - (v33' + 1)).toNat < n2; omega
            · exact ⟨(by show 0 ≤ (v33' + 1); first | trivial | omega | (simp only [List.length_append, List.length_cons, List.length_nil]; omega) | (simp only [List.length_set, List.length_append, List.length_cons, List.length_nil]; omega) | (simp only [W64_def]; omega) | (simp; omega) | simp), (by show ((v33' + 1) ≤ 3 ∨ (v33' + 1) = 0); first | trivial | omega | (simp only [List.length_append, List.length_cons, List.length_nil]; omega) | (simp only [List.length_set, List.length_append, List.length_cons, List.length_nil]; omega) | (simp only [W64_def]; omega) | (simp; omega) | simp)⟩
        · have g2 := of_decide_eq_false h2
          refine aw_exit ?_
          refine ath_e ?_
          refine ath_e ?_
          refine abl_hit ?_
          refine abl_n ?_
          refine ath_n ?_
          refine aw_region eqok [] [] [] [3, 9, 10, 11, 24, 25, 26] [10, 11] [] ⟨[(3, tI layer), (9, tB Fsanity), (10, tP 10 0), (11, tP 11 0), (24, .av (.one (.list true 8 2 (colsC 8 2 [.i ((FCond l).Op), .s ((FCond l).Text), .i ((FCond l).N), .i (((FCond l).Box).X0), .i (((FCond l).Box).Y0), .i (((FCond l).Box).X1), .i (((FCond l).Box).Y1), lst 8 (condC (LL (2))) ((FCond l).L), .i ((Fcut 4 c 3).Op), .s ((Fcut 4 c 3).Text), .i ((Fcut 4 c 3).N), .i (((Fcut 4 c 3).Box).X0), .i (((Fcut 4 c 3).Box).Y0), .i (((Fcut 4 c 3).Box).X1), .i (((Fcut 4 c 3).Box).Y1), lst 8 (condC (LL (3))) ((Fcut 4 c 3).L)])))), (25, tI 2), (26, tI 2)], [(10, .cells ((boardC (LL (2))) (FBoard [])) 41), (11, .cells (TItem.c (FItem m)) 44)]⟩ .nil (by kernel_rfl) .nil ?_
          refine ath_n ?_
          refine aw_round ?_
          refine aw_seq ?_
          refine aw_region eqok [] [] [] [3, 9, 10, 11, 24, 25, 26, 27] [10, 11] [] ⟨[(3, tI layer), (9, tB Fsanity), (10, tP 10 0), (11, tP 11 0), (24, .av (.one (.list true 8 2 (colsC 8 2 [.i ((FCond l).Op), .s ((FCond l).Text), .i ((FCond l).N), .i (((FCond l).Box).X0), .i (((FCond l).Box).Y0), .i (((FCond l).Box).X1), .i (((FCond l).Box).Y1), lst 8 (condC (LL (2))) ((FCond l).L), .i ((Fcut 4 c 3).Op), .s ((Fcut 4 c 3).Text), .i ((Fcut 4 c 3).N), .i (((Fcut 4 c 3).Box).X0), .i (((Fcut 4 c 3).Box).Y0), .i (((Fcut 4 c 3).Box).X1), .i (((Fcut 4 c 3).Box).Y1), lst 8 (condC (LL (3))) ((Fcut 4 c 3).L)])))), (25, tI 2), (26, tI 2), (27, tB false)], [(10, .cells ((boardC (LL (2))) (FBoard [])) 41), (11, .cells (TItem.c (FItem m)) 44)]⟩ .nil (by kernel_rfl) .nil ?_
          refine ath_n ?_
          refine aw_seq ?_
          refine aw_cond_f (by kernel_rfl) ?_
          refine aw_exit ?_
          refine ath_e ?_
          refine ath_e ?_
          refine abl_hit ?_
          refine ath_n ?_
          refine aw_seq ?_
          refine aw_region eqok [] [] [] [8] [] [] ⟨[(8, tB Fsanity)], []⟩ .nil (by kernel_rfl) .nil ?_
          refine ath_n ?_
          refine aw_ret ?_
          exact ⟨_, Cv.refl _, .inl rfl, .av (.one (.b Fsanity)), by kernel_rfl, tve_eq (by rw [← hF2]; first | (simp only [FJudgeHolds_l2, h2, cond_true, cond_false]; done) | (simp only [FJudgeHolds_l2, h2, cond_true, cond_false]; rfl))⟩
end Go.Proofs.Ytoojlpcimogehaa
