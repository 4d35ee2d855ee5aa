/-
  No statement is proved in this text. It holds what functions return.
-/
import Derived.Test.YtoojlpcimogehaaProg
import Derived.Test.YtoojlpcimogehaaK21e
namespace Go.Proofs.Ytoojlpcimogehaa
open Go.RowKit
set_option linter.unusedVariables false
set_option linter.unusedSimpArgs false
def wjClear_0 (ix : TItem) (iy : TItem) : Bool := bif (ix.Net.toList == iy.Net.toList) then !(ix.Net.toList == (({ data := #[] } : ByteArray)).toList) else false
def wjClear_1 (m : Nat) (b : TBoard) (ix : TItem) (layer : Int) (iy : TItem) : FuncId × List Av × Ef := (33, [.one (lst 20 (ruleC (LL (m))) b.Rules), .one (.clo 34 3 (listF [.ptr 11 0, .ptr 12 0, .ptr 13 0]))], rdI [11, 12, 13] [.cells [opsMap] 87, .cells [.i b.Layers, .i b.Outline.Kind, lst 7 TEdge.c b.Outline.Edges, .i b.Outline.R, lst 7 TPlaced.c b.Parts, lst 2 TNet.c b.Nets, lst 6 TTrack.c b.Tracks, lst 8 TVia.c b.Vias, lst 8 TPour.c b.Pours, lst 5 TKeep.c b.Keeps, lst 4 TSlot.c b.Slots, lst 2 TClass.c b.Classes, lst 20 (ruleC (LL (m))) b.Rules, lst 3 TWaiver.c b.Waivers, lst 3 TMatch.c b.Matches, .i ix.Id, .s ix.Pad, .i ix.Kind, .s ix.Net, .i ix.From, .i ix.To, .i ix.Shape.Kind, lst 7 TEdge.c ix.Shape.Edges, .i ix.Shape.R, .i layer] 90, .cells [.i b.Layers, .i b.Outline.Kind, lst 7 TEdge.c b.Outline.Edges, .i b.Outline.R, lst 7 TPlaced.c b.Parts, lst 2 TNet.c b.Nets, lst 6 TTrack.c b.Tracks, lst 8 TVia.c b.Vias, lst 8 TPour.c b.Pours, lst 5 TKeep.c b.Keeps, lst 4 TSlot.c b.Slots, lst 2 TClass.c b.Classes, lst 20 (ruleC (LL (m))) b.Rules, lst 3 TWaiver.c b.Waivers, lst 3 TMatch.c b.Matches, .i iy.Id, .s iy.Pad, .i iy.Kind, .s iy.Net, .i iy.From, .i iy.To, .i iy.Shape.Kind, lst 7 TEdge.c iy.Shape.Edges, .i iy.Shape.R, .i layer] 90] (.tup [.one (.i ((FresC m b.Rules (TAsked.mk b ix layer) (TAsked.mk b iy layer)).1)), .one (.s ((FresC m b.Rules (TAsked.mk b ix layer) (TAsked.mk b iy layer)).2.1)), .one (.i ((FresC m b.Rules (TAsked.mk b ix layer) (TAsked.mk b iy layer)).2.2))]))
def FjClear (m : Nat) (b : TBoard) (ix : TItem) (iy : TItem) (layer : Int) : (Int × ByteArray × Int) := bif wjClear_0 ix iy then ((0, ({ data := #[] } : ByteArray), 0)) else (((FresC m b.Rules (TAsked.mk b ix layer) (TAsked.mk b iy layer)).1, (FresC m b.Rules (TAsked.mk b ix layer) (TAsked.mk b iy layer)).2.1, (FresC m b.Rules (TAsked.mk b ix layer) (TAsked.mk b iy layer)).2.2))
set_option maxRecDepth 100000 in
theorem pjClear  (m : Nat) (b : TBoard) (ix : TItem) (iy : TItem) (layer : Int) (hr : RsOk m b.Rules) (hx : BoxOk b ix) (hy : BoxOk b iy) : Pure Try.prog 13 [.agg ((boardC (LL (m))) b), .agg (TItem.c ix), .agg (TItem.c iy), .one (.i layer)] (.tup [.one (.i ((FjClear m b ix iy layer).1)), .one (.s ((FjClear m b ix iy layer).2.1)), .one (.i ((FjClear m b ix iy layer).2.2))]) := by
  refine pure_of_awF Try.func13 rfl (by kernel_rfl) (by kernel_rfl) fun W0 M0 => ?_
  have hp : AskOk ⟨b, ix, layer⟩ := hx
  have hq : AskOk ⟨b, iy, layer⟩ := hy
  refine aw_seq ?_
  refine aw_region eqok [] [] [] [3, 4, 5, 6] [4, 5, 6] [] ⟨[(3, tI layer), (4, tP 4 0), (5, tP 5 0), (6, tP 6 0)], [(4, .cells ((boardC (LL (m))) b) 41), (5, .cells (TItem.c ix) 44), (6, .cells (TItem.c iy) 44)]⟩ .nil (by kernel_rfl) .nil ?_
  refine ath_n ?_
  refine aw_seq ?_
  refine aw_seq ?_
  refine aw_region eqok [] [] [] [3, 4, 5, 6, 23] [4, 5, 6] [(((ix.Net.toList == iy.Net.toList)) = true) → (((ix.Net.toList == iy.Net.toList)) = true), (((ix.Net.toList == iy.Net.toList)) = true) → (((ix.Net.toList == iy.Net.toList)) = true), ((ix.Net.toList == iy.Net.toList)) = true → (((ix.Net.toList == iy.Net.toList)) = true)] ⟨[(3, tI layer), (4, tP 4 0), (5, tP 5 0), (6, tP 6 0), (23, tB (wjClear_0 ix iy))], [(4, .cells ((boardC (LL (m))) b) 41), (5, .cells (TItem.c ix) 44), (6, .cells (TItem.c iy) 44)]⟩ .nil (by kernel_rfl) (.cons id (.cons id (.cons id .nil))) ?_
  refine ath_n ?_
  refine aw_cond (wjClear_0 ix iy) (by kernel_rfl) (fun h1 => ?_) (fun h1 => ?_)
  · refine aw_seq ?_
    refine aw_region eqok [] [] [] [8, 9, 10] [] [] ⟨[(8, tI 0), (9, .av (.one (.s (({ data := #[] } : ByteArray))))), (10, tI 0)], []⟩ .nil (by kernel_rfl) .nil ?_
    refine ath_n ?_
    refine aw_ret ?_
    refine ath_r ?_
    exact ⟨_, Cv.refl _, .inl rfl, .tup [.one (.i 0), .one (.s (({ data := #[] } : ByteArray))), .one (.i 0)], by kernel_rfl, tve_eq (by first | (simp only [FjClear, h1, cond_true, cond_false]; done) | (simp only [FjClear, h1, cond_true, cond_false]; rfl))⟩
  · refine aw_skip ?_
    refine ath_n ?_
    refine aw_seq ?_
    refine aw_region eqok [] [] [(24, (32, [], .val [] (.av (.one opsMap))))] [3, 4, 5, 6, 11] [4, 5, 6, 11] [Same []] ⟨[(3, tI layer), (4, tP 4 0), (5, tP 5 0), (6, tP 6 0), (11, tP 11 0)], [(4, .cells ((boardC (LL (m))) b) 41), (5, .cells (TItem.c ix) 44), (6, .cells (TItem.c iy) 44), (11, .cells [opsMap] 87)]⟩ (.cons (callOk_pure (fun _ _ => by kernel_rfl) fun _ => pOps) .nil) (by kernel_rfl) (.cons rfl .nil) ?_
    refine ath_n ?_
    refine aw_seq ?_
    refine aw_draw mixed eqok [] [] [] [4, 11, 12, 13] [4, 11, 12, 13] [] ⟨[(4, tP 4 0), (11, tP 11 0), (12, tP 12 0), (13, tP 13 0)], [(4, .cells ((boardC (LL (m))) b) 41), (11, .cells [opsMap] 87), (12, .cells [.i b.Layers, .i b.Outline.Kind, lst 7 TEdge.c b.Outline.Edges, .i b.Outline.R, lst 7 TPlaced.c b.Parts, lst 2 TNet.c b.Nets, lst 6 TTrack.c b.Tracks, lst 8 TVia.c b.Vias, lst 8 TPour.c b.Pours, lst 5 TKeep.c b.Keeps, lst 4 TSlot.c b.Slots, lst 2 TClass.c b.Classes, lst 20 (ruleC (LL (m))) b.Rules, lst 3 TWaiver.c b.Waivers, lst 3 TMatch.c b.Matches, .i ix.Id, .s ix.Pad, .i ix.Kind, .s ix.Net, .i ix.From, .i ix.To, .i ix.Shape.Kind, lst 7 TEdge.c ix.Shape.Edges, .i ix.Shape.R, .i layer] 90), (13, .cells [.i b.Layers, .i b.Outline.Kind, lst 7 TEdge.c b.Outline.Edges, .i b.Outline.R, lst 7 TPlaced.c b.Parts, lst 2 TNet.c b.Nets, lst 6 TTrack.c b.Tracks, lst 8 TVia.c b.Vias, lst 8 TPour.c b.Pours, lst 5 TKeep.c b.Keeps, lst 4 TSlot.c b.Slots, lst 2 TClass.c b.Classes, lst 20 (ruleC (LL (m))) b.Rules, lst 3 TWaiver.c b.Waivers, lst 3 TMatch.c b.Matches, .i iy.Id, .s iy.Pad, .i iy.Kind, .s iy.Net, .i iy.From, .i iy.To, .i iy.Shape.Kind, lst 7 TEdge.c iy.Shape.Edges, .i iy.Shape.R, .i layer] 90)]⟩ .nil (by kernel_rfl) (by kernel_rfl) .nil ?_
    refine ath_n ?_
    refine aw_seq ?_
    refine aw_region eqok [] [] [(36, (wjClear_1 m b ix layer iy))] [8, 9, 10] [] [Same (wjClear_1 m b ix layer iy).2.1, SameBs [.cells [opsMap] 87, .cells [.i b.Layers, .i b.Outline.Kind, lst 7 TEdge.c b.Outline.Edges, .i b.Outline.R, lst 7 TPlaced.c b.Parts, lst 2 TNet.c b.Nets, lst 6 TTrack.c b.Tracks, lst 8 TVia.c b.Vias, lst 8 TPour.c b.Pours, lst 5 TKeep.c b.Keeps, lst 4 TSlot.c b.Slots, lst 2 TClass.c b.Classes, lst 20 (ruleC (LL (m))) b.Rules, lst 3 TWaiver.c b.Waivers, lst 3 TMatch.c b.Matches, .i ix.Id, .s ix.Pad, .i ix.Kind, .s ix.Net, .i ix.From, .i ix.To, .i ix.Shape.Kind, lst 7 TEdge.c ix.Shape.Edges, .i ix.Shape.R, .i layer] 90, .cells [.i b.Layers, .i b.Outline.Kind, lst 7 TEdge.c b.Outline.Edges, .i b.Outline.R, lst 7 TPlaced.c b.Parts, lst 2 TNet.c b.Nets, lst 6 TTrack.c b.Tracks, lst 8 TVia.c b.Vias, lst 8 TPour.c b.Pours, lst 5 TKeep.c b.Keeps, lst 4 TSlot.c b.Slots, lst 2 TClass.c b.Classes, lst 20 (ruleC (LL (m))) b.Rules, lst 3 TWaiver.c b.Waivers, lst 3 TMatch.c b.Matches, .i iy.Id, .s iy.Pad, .i iy.Kind, .s iy.Net, .i iy.From, .i iy.To, .i iy.Shape.Kind, lst 7 TEdge.c iy.Shape.Edges, .i iy.Shape.R, .i layer] 90]] ⟨[(8, tI ((FresC m b.Rules (TAsked.mk b ix layer) (TAsked.mk b iy layer)).1)), (9, .av (.one (.s ((FresC m b.Rules (TAsked.mk b ix layer) (TAsked.mk b iy layer)).2.1)))), (10, tI ((FresC m b.Rules (TAsked.mk b ix layer) (TAsked.mk b iy layer)).2.2))], []⟩ (.cons (callOk_rd (fun _ _ => by kernel_rfl) (by kernel_rfl) (by kernel_rfl) (pure_ce (presC m m b.Rules (TAsked.mk b ix layer) (TAsked.mk b iy layer) (by first | assumption | exact hl.2.2 _) (by first | assumption | exact hl.2.2 _) (by first | assumption | exact hl.2.2 _)) (.cons (AvE.refl _) (.cons (.one (.clo 34 3 _ _ (tab_get (by kernel_rfl)))) .nil)))) .nil) (by kernel_rfl) (.cons rfl (.cons rfl .nil)) ?_
    refine ath_n ?_
    refine aw_ret ?_
    exact ⟨_, Cv.refl _, .inl rfl, .tup [.one (.i ((FresC m b.Rules (TAsked.mk b ix layer) (TAsked.mk b iy layer)).1)), .one (.s ((FresC m b.Rules (TAsked.mk b ix layer) (TAsked.mk b iy layer)).2.1)), .one (.i ((FresC m b.Rules (TAsked.mk b ix layer) (TAsked.mk b iy layer)).2.2))], by kernel_rfl, tve_eq (by first | (simp only [FjClear, h1, cond_true, cond_false]; done) | (simp only [FjClear, h1, cond_true, cond_false]; rfl))⟩
def wjValue_0 (m : Nat) (b : TBoard) (what : Int) (it : TItem) (layer : Int) : FuncId × List Av × Ef := (33, [.one (lst 20 (ruleC (LL (m))) b.Rules), .one (.clo 37 5 (listF [.ptr 5 0, .ptr 11 0, .ptr 4 0, .ptr 6 0, .ptr 7 0]))], rdI [5, 11, 4, 6, 7] [.cells [.i what] 3, .cells [opsMap] 87, .cells ((boardC (LL (m))) b) 41, .cells (TItem.c it) 44, .cells [.i layer] 3] (.tup [.one (.i ((FresV m b.Rules what b it layer).1)), .one (.s ((FresV m b.Rules what b it layer).2.1)), .one (.i ((FresV m b.Rules what b it layer).2.2))]))
def FjValue (m : Nat) (b : TBoard) (what : Int) (it : TItem) (layer : Int) : (Int × ByteArray × Int) := ((FresV m b.Rules what b it layer).1, (FresV m b.Rules what b it layer).2.1, (FresV m b.Rules what b it layer).2.2)
set_option maxRecDepth 100000 in
theorem pjValue  (m : Nat) (b : TBoard) (what : Int) (it : TItem) (layer : Int) (hr : RsOk m b.Rules) (hbx : BoxOk b it) : Pure Try.prog 15 [.agg ((boardC (LL (m))) b), .one (.i what), .agg (TItem.c it), .one (.i layer)] (.tup [.one (.i ((FjValue m b what it layer).1)), .one (.s ((FjValue m b what it layer).2.1)), .one (.i ((FjValue m b what it layer).2.2))]) := by
  refine pure_of_awF Try.func15 rfl (by kernel_rfl) (by kernel_rfl) fun W0 M0 => ?_
  refine aw_seq ?_
  refine aw_region eqok [] [] [] [4, 5, 6, 7] [4, 5, 6, 7] [] ⟨[(4, tP 4 0), (5, tP 5 0), (6, tP 6 0), (7, tP 7 0)], [(4, .cells ((boardC (LL (m))) b) 41), (5, .cells [.i what] 3), (6, .cells (TItem.c it) 44), (7, .cells [.i layer] 3)]⟩ .nil (by kernel_rfl) .nil ?_
  refine ath_n ?_
  refine aw_seq ?_
  refine aw_region eqok [] [] [(12, (32, [], .val [] (.av (.one opsMap))))] [4, 5, 6, 7, 11] [4, 5, 6, 7, 11] [Same []] ⟨[(4, tP 4 0), (5, tP 5 0), (6, tP 6 0), (7, tP 7 0), (11, tP 11 0)], [(4, .cells ((boardC (LL (m))) b) 41), (5, .cells [.i what] 3), (6, .cells (TItem.c it) 44), (7, .cells [.i layer] 3), (11, .cells [opsMap] 87)]⟩ (.cons (callOk_pure (fun _ _ => by kernel_rfl) fun _ => pOps) .nil) (by kernel_rfl) (.cons rfl .nil) ?_
  refine ath_n ?_
  refine aw_seq ?_
  refine aw_region eqok [] [] [(16, (wjValue_0 m b what it layer))] [8, 9, 10] [] [Same (wjValue_0 m b what it layer).2.1, SameBs [.cells [.i what] 3, .cells [opsMap] 87, .cells ((boardC (LL (m))) b) 41, .cells (TItem.c it) 44, .cells [.i layer] 3]] ⟨[(8, tI ((FresV m b.Rules what b it layer).1)), (9, .av (.one (.s ((FresV m b.Rules what b it layer).2.1)))), (10, tI ((FresV m b.Rules what b it layer).2.2))], []⟩ (.cons (callOk_rd (fun _ _ => by kernel_rfl) (by kernel_rfl) (by kernel_rfl) (pure_ce (presV m m b.Rules what b it layer (by first | assumption | exact hl.2.2 _) (by first | assumption | exact hl.2.2 _)) (.cons (AvE.refl _) (.cons (.one (.clo 37 5 _ _ (tab_get (by kernel_rfl)))) .nil)))) .nil) (by kernel_rfl) (.cons rfl (.cons rfl .nil)) ?_
  refine ath_n ?_
  refine aw_ret ?_
  exact ⟨_, Cv.refl _, .inl rfl, .tup [.one (.i ((FresV m b.Rules what b it layer).1)), .one (.s ((FresV m b.Rules what b it layer).2.1)), .one (.i ((FresV m b.Rules what b it layer).2.2))], by kernel_rfl, tve_eq (by rfl)⟩
def FjMost_l0 (b : TBoard) : Nat → Int → Int → Int
  | 0, _, _ => default
  | n0 + 1, most, v9 => bif decide ((v9 : Int) < ((b.Rules.length : Int))) then ((FjMost_l0 b n0) (bif decide ((((b.Rules.getD v9.toNat default).What) : Int) = 1) then (max most ((b.Rules.getD v9.toNat default).Value)) else most) (v9 + 1)) else (most)
def FjMost (b : TBoard) : Int := FjMost_l0 b (((((b.Rules.length : Int))) - 0).toNat + 1) 0 0
set_option maxRecDepth 100000 in
theorem pjMost (m : Nat) (b : TBoard) (hr : (b.Rules.length : Int) ≤ 1000000) : Pure Try.prog 17 [.agg ((boardC (LL (m))) b)] (.av (.one (.i (FjMost b)))) := by
  refine pure_of_awF Try.func17 rfl (by kernel_rfl) (by kernel_rfl) fun W0 M0 => ?_
  refine aw_seq ?_
  refine aw_region eqok [] [] [] [1] [1] [] ⟨[(1, tP 1 0)], [(1, .cells ((boardC (LL (m))) b) 41)]⟩ .nil (by kernel_rfl) .nil ?_
  refine ath_n ?_
  refine aw_seq ?_
  refine aw_region eqok [] [] [] [1, 3] [1] [] ⟨[(1, tP 1 0), (3, tI 0)], [(1, .cells ((boardC (LL (m))) b) 41)]⟩ .nil (by kernel_rfl) .nil ?_
  refine ath_n ?_
  refine aw_seq ?_
  refine aw_seq ?_
  refine aw_region eqok [] [] [] [3, 7, 8, 9] [] [] ⟨[(3, tI 0), (7, .av (.one (lst 20 (ruleC (LL (m))) b.Rules))), (8, tI ((b.Rules.length : Int))), (9, tI 0)], []⟩ .nil (by kernel_rfl) .nil ?_
  refine ath_n ?_
  refine aw_block ?_
  refine aw_loopC (ι := Nat × Int × Int) (fun x => ⟨[(3, tI x.2.1), (7, .av (.one (lst 20 (ruleC (LL (m))) b.Rules))), (8, tI ((b.Rules.length : Int))), (9, tI x.2.2)], []⟩) (fun x => ((((b.Rules.length : Int))) - x.2.2).toNat < x.1 ∧ (0 ≤ x.2.2 ∧ (x.2.2 ≤ ((b.Rules.length : Int)) ∨ x.2.2 = 0)) ∧ FjMost_l0 b x.1 x.2.1 x.2.2 = FjMost b) (fun x => x.1) ?_ (((((b.Rules.length : Int))) - 0).toNat + 1, 0, 0) ⟨Nat.lt_succ_self _, ⟨(by show 0 ≤ 0; first | trivial | omega | (simp only [List.length_append, List.length_cons, List.length_nil]; omega) | (simp only [List.length_set, List.length_append, List.length_cons, List.length_nil]; omega) | (simp only [W64_def]; omega) | (simp; omega) | simp), (by show (0 ≤ ((b.Rules.length : Int)) ∨ 0 = 0); first | trivial | omega | (simp only [List.length_append, List.length_cons, List.length_nil]; omega) | (simp only [List.length_set, List.length_append, List.length_cons, List.length_nil]; omega) | (simp only [W64_def]; omega) | (simp; omega) | simp)⟩, (by simp only [FjMost, cond_true, cond_false])⟩
  rintro ⟨n0, most, v9⟩ ⟨hn, hinv, hF⟩
  have hm0 : ((((b.Rules.length : Int))) - v9).toNat < n0 := hn; have hinv0 : 0 ≤ v9 ∧ (v9 ≤ ((b.Rules.length : Int)) ∨ v9 = 0) := hinv; have hF0 : FjMost_l0 b n0 most v9 = FjMost b := hF; clear hn hinv hF
  cases n0 with
  | zero => exact absurd hm0 (Nat.not_lt_zero _)
  | succ n0 =>
    refine aw_seq ?_
    refine aw_region eqok [] [] [] [3, 7, 8, 9, 10] [] [] ⟨[(3, tI most), (7, .av (.one (lst 20 (ruleC (LL (m))) b.Rules))), (8, tI ((b.Rules.length : Int))), (9, tI v9), (10, tB (decide ((v9 : Int) < ((b.Rules.length : Int)))))], []⟩ .nil (by kernel_rfl) .nil ?_
    refine ath_n ?_
    refine aw_seq ?_
    refine aw_cond (decide ((v9 : Int) < ((b.Rules.length : Int)))) (by kernel_rfl) (fun h1 => ?_) (fun h1 => ?_)
    · have g1 := of_decide_eq_true h1
      refine aw_skip ?_
      refine ath_n ?_
      refine aw_seq ?_
      refine aw_joinC (⟨[(3, tI (bif decide ((((b.Rules.getD v9.toNat default).What) : Int) = 1) then (max most ((b.Rules.getD v9.toNat default).Value)) else most)), (7, .av (.one (lst 20 (ruleC (LL (m))) b.Rules))), (8, tI ((b.Rules.length : Int))), (9, tI v9)], []⟩) ?_ ?_
      · refine aw_block ?_
        refine aw_seq ?_
        refine aw_region eqok [] [] [] [3, 5, 7, 8, 9] [5] [0 ≤ (v9 : Int) ∧ (v9 : Int) < ((b.Rules.length : Nat) : Int)] ⟨[(3, tI most), (5, tP 5 0), (7, .av (.one (lst 20 (ruleC (LL (m))) b.Rules))), (8, tI ((b.Rules.length : Int))), (9, tI v9)], [(5, .cells ((ruleC (LL (m))) (b.Rules.getD v9.toNat default)) 61)]⟩ .nil (by kernel_rfl) (.cons (by first | decide | omega | exact idx_tmod (by first | omega | (simp only [W64_def]; omega)) (by omega) | (simp only [W64_def]; omega) | (constructor <;> omega) | (simp only [List.length_append, List.length_cons, List.length_nil]; omega) | (simp only [List.length_append, List.length_cons, List.length_nil, List.length_drop, List.length_take] at *; omega)) .nil) ?_
        refine ath_n ?_
        refine aw_seq ?_
        refine aw_region eqok [] [] [] [3, 5, 7, 8, 9, 15] [5] [] ⟨[(3, tI most), (5, tP 5 0), (7, .av (.one (lst 20 (ruleC (LL (m))) b.Rules))), (8, tI ((b.Rules.length : Int))), (9, tI v9), (15, tB (decide ((((b.Rules.getD v9.toNat default).What) : Int) = 1)))], [(5, .cells ((ruleC (LL (m))) (b.Rules.getD v9.toNat default)) 61)]⟩ .nil (by kernel_rfl) .nil ?_
        refine ath_n ?_
        refine aw_cond (decide ((((b.Rules.getD v9.toNat default).What) : Int) = 1)) (by kernel_rfl) (fun h2 => ?_) (fun h2 => ?_)
        · have g2 := of_decide_eq_true h2
          refine aw_region eqok [] [] [] [3, 7, 8, 9] [] [] ⟨[(3, tI (max most ((b.Rules.getD v9.toNat default).Value))), (7, .av (.one (lst 20 (ruleC (LL (m))) b.Rules))), (8, tI ((b.Rules.length : Int))), (9, tI v9)], []⟩ .nil (by kernel_rfl) .nil ?_
          refine abl_n ?_
          refine ath_n ?_
          refine cv_eq ?_
          first | rfl | (simp only [h2, cond_true, cond_false]; done) | (simp only [h2, cond_true, cond_false]; rfl)
        · have g2 := of_decide_eq_false h2
          refine aw_skip ?_
          refine abl_n ?_
          refine ath_n ?_
          refine Cv.trans (cv_keep [3, 7, 8, 9] [] (⟨[(3, tI most), (7, .av (.one (lst 20 (ruleC (LL (m))) b.Rules))), (8, tI ((b.Rules.length : Int))), (9, tI v9)], []⟩) (by kernel_rfl)) (cv_eq ?_)
          first | rfl | (simp only [h2, cond_true, cond_false]; done) | (simp only [h2, cond_true, cond_false]; rfl)
      refine aw_region eqok [] [] [] [3, 7, 8, 9] [] [] ⟨[(3, tI (bif decide ((((b.Rules.getD v9.toNat default).What) : Int) = 1) then (max most ((b.Rules.getD v9.toNat default).Value)) else most)), (7, .av (.one (lst 20 (ruleC (LL (m))) b.Rules))), (8, tI ((b.Rules.length : Int))), (9, tI (W64 (v9 + 1)))], []⟩ .nil (by kernel_rfl) .nil ?_
      (try rw [(show W64 (v9 + 1) = v9 + 1 from W64_id (by omega) (by first | omega | (simp only [List.length_drop, List.length_take] at *; omega)))])
      refine ath_n ?_
      refine ⟨(n0, bif decide ((((b.Rules.getD v9.toNat default).What) : Int) = 1) then (max most ((b.Rules.getD v9.toNat default).Value)) else most, v9 + 1), ⟨?_, ?_, (by rw [← hF0]; simp only [FjMost_l0, h1, cond_true, cond_false])⟩, Nat.lt_succ_self _, cv_eq (by kernel_rfl)⟩
      · show ((((b.Rules.length : Int))) - (v9 + 1)).toNat < n0; omega
      · exact ⟨(by show 0 ≤ (v9 + 1); first | trivial | omega | (simp only [List.length_append, List.length_cons, List.length_nil]; omega) | (simp only [List.length_set, List.length_append, List.length_cons, List.length_nil]; omega) | (simp only [W64_def]; omega) | (simp; omega) | simp), (by show ((v9 + 1) ≤ ((b.Rules.length : Int)) ∨ (v9 + 1) = 0); first | trivial | omega | (simp only [List.length_append, List.length_cons, List.length_nil]; omega) | (simp only [List.length_set, List.length_append, List.length_cons, List.length_nil]; omega) | (simp only [W64_def]; omega) | (simp; omega) | simp)⟩
    · have g1 := of_decide_eq_false h1
      refine aw_exit ?_
      refine ath_e ?_
      refine ath_e ?_
      refine abl_hit ?_
      refine ath_n ?_
      refine aw_seq ?_
      refine aw_region eqok [] [] [] [2] [] [] ⟨[(2, tI most)], []⟩ .nil (by kernel_rfl) .nil ?_
      refine ath_n ?_
      refine aw_ret ?_
      exact ⟨_, Cv.refl _, .inl rfl, .av (.one (.i most)), by kernel_rfl, tve_eq (by rw [← hF0]; first | (simp only [FjMost_l0, h1, cond_true, cond_false]; done) | (simp only [FjMost_l0, h1, cond_true, cond_false]; rfl))⟩
def FidxW_l0 (s : (List TWaiver)) (v : TWaiver) : Nat → Int → Int
  | 0, _ => default
  | n0 + 1, v8 => bif decide ((v8 : Int) < ((s.length : Int))) then (bif (decide (v.A = ((s.getD v8.toNat default).A)) && (decide (v.B = ((s.getD v8.toNat default).B)) && ((v.Rule.toList == ((s.getD v8.toNat default).Rule).toList) && true))) then (v8) else ((FidxW_l0 s v n0) (v8 + 1))) else ((-1))
def FidxW (s : (List TWaiver)) (v : TWaiver) : Int := FidxW_l0 s v (((((s.length : Int))) - 0).toNat + 1) 0
set_option maxRecDepth 100000 in
theorem pidxW  (s : (List TWaiver)) (v : TWaiver) (h0 : (s.length : Int) ≤ 9223372036854775807) : Pure Try.prog 69 [.one (lst 3 TWaiver.c s), .agg (TWaiver.c v)] (.av (.one (.i (FidxW s v)))) := by
  refine pure_of_awF Try.func69 rfl (by kernel_rfl) (by kernel_rfl) fun W0 M0 => ?_
  refine aw_seq ?_
  refine aw_region eqok [] [] [] [0, 3] [3] [] ⟨[(0, .av (.one (lst 3 TWaiver.c s))), (3, tP 3 0)], [(3, .cells (TWaiver.c v) 68)]⟩ .nil (by kernel_rfl) .nil ?_
  refine ath_n ?_
  refine aw_seq ?_
  refine aw_seq ?_
  refine aw_region eqok [] [] [] [0, 3, 7, 8] [3] [] ⟨[(0, .av (.one (lst 3 TWaiver.c s))), (3, tP 3 0), (7, tI ((s.length : Int))), (8, tI 0)], [(3, .cells (TWaiver.c v) 68)]⟩ .nil (by kernel_rfl) .nil ?_
  refine ath_n ?_
  refine aw_block ?_
  refine aw_loopC (ι := Nat × Int) (fun x => ⟨[(0, .av (.one (lst 3 TWaiver.c s))), (3, tP 3 0), (7, tI ((s.length : Int))), (8, tI x.2)], [(3, .cells (TWaiver.c v) 68)]⟩) (fun x => ((((s.length : Int))) - x.2).toNat < x.1 ∧ (0 ≤ x.2 ∧ (x.2 ≤ ((s.length : Int)) ∨ x.2 = 0)) ∧ FidxW_l0 s v x.1 x.2 = FidxW s v) (fun x => x.1) ?_ (((((s.length : Int))) - 0).toNat + 1, 0) ⟨Nat.lt_succ_self _, ⟨(by show 0 ≤ 0; first | trivial | omega | (simp only [List.length_append, List.length_cons, List.length_nil]; omega) | (simp only [List.length_set, List.length_append, List.length_cons, List.length_nil]; omega) | (simp only [W64_def]; omega) | (simp; omega) | simp), (by show (0 ≤ ((s.length : Int)) ∨ 0 = 0); first | trivial | omega | (simp only [List.length_append, List.length_cons, List.length_nil]; omega) | (simp only [List.length_set, List.length_append, List.length_cons, List.length_nil]; omega) | (simp only [W64_def]; omega) | (simp; omega) | simp)⟩, (by simp only [FidxW, cond_true, cond_false])⟩
  rintro ⟨n0, v8⟩ ⟨hn, hinv, hF⟩
  have hm0 : ((((s.length : Int))) - v8).toNat < n0 := hn; have hinv0 : 0 ≤ v8 ∧ (v8 ≤ ((s.length : Int)) ∨ v8 = 0) := hinv; have hF0 : FidxW_l0 s v n0 v8 = FidxW s v := hF; clear hn hinv hF
  cases n0 with
  | zero => exact absurd hm0 (Nat.not_lt_zero _)
  | succ n0 =>
    refine aw_seq ?_
    refine aw_region eqok [] [] [] [0, 3, 7, 8, 9] [3] [] ⟨[(0, .av (.one (lst 3 TWaiver.c s))), (3, tP 3 0), (7, tI ((s.length : Int))), (8, tI v8), (9, tB (decide ((v8 : Int) < ((s.length : Int)))))], [(3, .cells (TWaiver.c v) 68)]⟩ .nil (by kernel_rfl) .nil ?_
    refine ath_n ?_
    refine aw_seq ?_
    refine aw_cond (decide ((v8 : Int) < ((s.length : Int)))) (by kernel_rfl) (fun h1 => ?_) (fun h1 => ?_)
    · have g1 := of_decide_eq_true h1
      refine aw_skip ?_
      refine ath_n ?_
      refine aw_seq ?_
      refine aw_block ?_
      refine aw_seq ?_
      refine aw_region eqok [] [] [] [0, 3, 5, 7, 8] [3] [] ⟨[(0, .av (.one (lst 3 TWaiver.c s))), (3, tP 3 0), (5, tI v8), (7, tI ((s.length : Int))), (8, tI v8)], [(3, .cells (TWaiver.c v) 68)]⟩ .nil (by kernel_rfl) .nil ?_
      refine ath_n ?_
      refine aw_seq ?_
      refine aw_draw mixed eqok [] [] [] [0, 3, 5, 7, 8, 16] [3] [0 ≤ (v8 : Int) ∧ (v8 : Int) < ((s.length : Nat) : Int)] ⟨[(0, .av (.one (lst 3 TWaiver.c s))), (3, tP 3 0), (5, tI v8), (7, tI ((s.length : Int))), (8, tI v8), (16, tB ((decide (v.A = ((s.getD v8.toNat default).A)) && (decide (v.B = ((s.getD v8.toNat default).B)) && ((v.Rule.toList == ((s.getD v8.toNat default).Rule).toList) && true)))))], [(3, .cells (TWaiver.c v) 68)]⟩ .nil (by kernel_rfl) (by kernel_rfl) (.cons (by first | decide | omega | exact idx_tmod (by first | omega | (simp only [W64_def]; omega)) (by omega) | (simp only [W64_def]; omega) | (constructor <;> omega) | (simp only [List.length_append, List.length_cons, List.length_nil]; omega) | (simp only [List.length_append, List.length_cons, List.length_nil, List.length_drop, List.length_take] at *; omega)) .nil) ?_
      refine ath_n ?_
      refine aw_cond ((decide (v.A = ((s.getD v8.toNat default).A)) && (decide (v.B = ((s.getD v8.toNat default).B)) && ((v.Rule.toList == ((s.getD v8.toNat default).Rule).toList) && true)))) (by kernel_rfl) (fun h2 => ?_) (fun h2 => ?_)
      · refine aw_seq ?_
        refine aw_region eqok [] [] [] [4] [] [] ⟨[(4, tI v8)], []⟩ .nil (by kernel_rfl) .nil ?_
        refine ath_n ?_
        refine aw_ret ?_
        refine abl_r ?_
        refine ath_r ?_
        refine ath_r ?_
        refine abl_r ?_
        refine ath_r ?_
        exact ⟨_, Cv.refl _, .inl rfl, .av (.one (.i v8)), by kernel_rfl, tve_eq (by rw [← hF0]; first | (simp only [FidxW_l0, h1, h2, cond_true, cond_false]; done) | (simp only [FidxW_l0, h1, h2, cond_true, cond_false]; rfl))⟩
      · refine aw_skip ?_
        refine abl_n ?_
        refine ath_n ?_
        refine aw_region eqok [] [] [] [0, 3, 7, 8] [3] [] ⟨[(0, .av (.one (lst 3 TWaiver.c s))), (3, tP 3 0), (7, tI ((s.length : Int))), (8, tI (W64 (v8 + 1)))], [(3, .cells (TWaiver.c v) 68)]⟩ .nil (by kernel_rfl) .nil ?_
        (try rw [(show W64 (v8 + 1) = v8 + 1 from W64_id (by omega) (by first | omega | (simp only [List.length_drop, List.length_take] at *; omega)))])
        refine ath_n ?_
        refine ⟨(n0, v8 + 1), ⟨?_, ?_, (by rw [← hF0]; simp only [FidxW_l0, h1, h2, cond_true, cond_false])⟩, Nat.lt_succ_self _, cv_eq (by kernel_rfl)⟩
        · show ((((s.length : Int))) - (v8 + 1)).toNat < n0; omega
        · exact ⟨(by show 0 ≤ (v8 + 1); first | trivial | omega | (simp only [List.length_append, List.length_cons, List.length_nil]; omega) | (simp only [List.length_set, List.length_append, List.length_cons, List.length_nil]; omega) | (simp only [W64_def]; omega) | (simp; omega) | simp), (by show ((v8 + 1) ≤ ((s.length : Int)) ∨ (v8 + 1) = 0); first | trivial | omega | (simp only [List.length_append, List.length_cons, List.length_nil]; omega) | (simp only [List.length_set, List.length_append, List.length_cons, List.length_nil]; omega) | (simp only [W64_def]; omega) | (simp; omega) | simp)⟩
    · have g1 := of_decide_eq_false h1
      refine aw_exit ?_
      refine ath_e ?_
      refine ath_e ?_
      refine abl_hit ?_
      refine ath_n ?_
      refine aw_seq ?_
      refine aw_region eqok [] [] [] [4] [] [] ⟨[(4, tI ((-1)))], []⟩ .nil (by kernel_rfl) .nil ?_
      refine ath_n ?_
      refine aw_ret ?_
      exact ⟨_, Cv.refl _, .inl rfl, .av (.one (.i ((-1)))), by kernel_rfl, tve_eq (by rw [← hF0]; first | (simp only [FidxW_l0, h1, cond_true, cond_false]; done) | (simp only [FidxW_l0, h1, cond_true, cond_false]; rfl))⟩
def FconW (s : (List TWaiver)) (v : TWaiver) : Bool := decide ((0 : Int) ≤ (FidxW s v))
set_option maxRecDepth 100000 in
theorem pconW  (s : (List TWaiver)) (v : TWaiver) (h0 : (s.length : Int) ≤ 9223372036854775807) : Pure Try.prog 41 [.one (lst 3 TWaiver.c s), .agg (TWaiver.c v)] (.av (.one (.b (FconW s v)))) := by
  refine pure_of_awF Try.func41 rfl (by kernel_rfl) (by kernel_rfl) fun W0 M0 => ?_
  refine aw_seq ?_
  refine aw_region eqok [] [] [] [0, 3] [3] [] ⟨[(0, .av (.one (lst 3 TWaiver.c s))), (3, tP 3 0)], [(3, .cells (TWaiver.c v) 68)]⟩ .nil (by kernel_rfl) .nil ?_
  refine ath_n ?_
  refine aw_seq ?_
  refine aw_region eqok [] [] [(7, (69, [.one (lst 3 TWaiver.c s), .agg (TWaiver.c v)], .val [] (tI (FidxW s v))))] [4] [] [Same [.one (lst 3 TWaiver.c s), .agg (TWaiver.c v)]] ⟨[(4, tB (decide ((0 : Int) ≤ (FidxW s v))))], []⟩ (.cons (callOk_pure (fun _ _ => by kernel_rfl) fun _ => pidxW s v (by first | assumption | decide | omega | (simp only [List.length_cons, List.length_nil, List.length_append]; omega))) .nil) (by kernel_rfl) (.cons rfl .nil) ?_
  refine ath_n ?_
  refine aw_ret ?_
  exact ⟨_, Cv.refl _, .inl rfl, .av (.one (.b (decide ((0 : Int) ≤ (FidxW s v))))), by kernel_rfl, tve_eq (by rfl)⟩
def wjWaived_0 (b : TBoard) (k : Int) (j : Int) (rule : ByteArray) : Bool := bif FconW b.Waivers (TWaiver.mk k j rule) then true else FconW b.Waivers (TWaiver.mk j k rule)
def FjWaived (b : TBoard) (k : Int) (j : Int) (rule : ByteArray) : Bool := wjWaived_0 b k j rule
set_option maxRecDepth 100000 in
theorem pjWaived (m : Nat) (b : TBoard) (k : Int) (j : Int) (rule : ByteArray) (hw : (b.Waivers.length : Int) ≤ 9223372036854775807) : Pure Try.prog 24 [.agg ((boardC (LL (m))) b), .one (.i k), .one (.i j), .one (.s rule)] (.av (.one (.b (FjWaived b k j rule)))) := by
  refine pure_of_awF Try.func24 rfl (by kernel_rfl) (by kernel_rfl) fun W0 M0 => ?_
  refine aw_seq ?_
  refine aw_region eqok [] [] [] [1, 2, 3, 4] [4] [] ⟨[(1, tI k), (2, tI j), (3, .av (.one (.s rule))), (4, tP 4 0)], [(4, .cells ((boardC (LL (m))) b) 41)]⟩ .nil (by kernel_rfl) .nil ?_
  refine ath_n ?_
  refine aw_seq ?_
  refine aw_region eqok [] [] [(15, (41, [.one (lst 3 TWaiver.c b.Waivers), .agg [.i k, .i j, .s rule]], .val [] (tB (FconW b.Waivers (TWaiver.mk k j rule))))), (23, (41, [.one (lst 3 TWaiver.c b.Waivers), .agg [.i j, .i k, .s rule]], .val [] (tB (FconW b.Waivers (TWaiver.mk j k rule)))))] [8] [] [Same [.one (lst 3 TWaiver.c b.Waivers), .agg [.i k, .i j, .s rule]], ((FconW b.Waivers (TWaiver.mk k j rule)) = false) → ((FconW b.Waivers (TWaiver.mk k j rule)) = false), ((FconW b.Waivers (TWaiver.mk k j rule)) = false) → ((FconW b.Waivers (TWaiver.mk k j rule)) = false), ((FconW b.Waivers (TWaiver.mk k j rule)) = false) → ((FconW b.Waivers (TWaiver.mk k j rule)) = false), ((FconW b.Waivers (TWaiver.mk k j rule)) = false) → ((FconW b.Waivers (TWaiver.mk k j rule)) = false), ((FconW b.Waivers (TWaiver.mk k j rule)) = false) → ((FconW b.Waivers (TWaiver.mk k j rule)) = false), ((FconW b.Waivers (TWaiver.mk k j rule)) = false) → ((FconW b.Waivers (TWaiver.mk k j rule)) = false), ((FconW b.Waivers (TWaiver.mk k j rule)) = false) → (Same [.one (lst 3 TWaiver.c b.Waivers), .agg [.i j, .i k, .s rule]]), (FconW b.Waivers (TWaiver.mk k j rule)) = false → ((FconW b.Waivers (TWaiver.mk k j rule)) = false)] ⟨[(8, tB (wjWaived_0 b k j rule))], []⟩ (.cons (callOk_pure (fun _ _ => by kernel_rfl) fun _ => pconW b.Waivers (TWaiver.mk k j rule) (by first | assumption | decide | omega | (simp only [List.length_cons, List.length_nil, List.length_append]; omega))) (.cons (callOk_pure (fun _ _ => by kernel_rfl) fun _ => pconW b.Waivers (TWaiver.mk j k rule) (by first | assumption | decide | omega | (simp only [List.length_cons, List.length_nil, List.length_append]; omega))) .nil)) (by kernel_rfl) (.cons rfl (.cons id (.cons id (.cons id (.cons id (.cons id (.cons id (.cons (fun _ => rfl) (.cons id .nil))))))))) ?_
  refine ath_n ?_
  refine aw_ret ?_
  exact ⟨_, Cv.refl _, .inl rfl, .av (.one (.b (wjWaived_0 b k j rule))), by kernel_rfl, tve_eq (by rfl)⟩
end Go.Proofs.Ytoojlpcimogehaa
