/-
  No statement is proved in this text. It holds what the functions of package vec and of the reference of chapter 5 return.
-/
import Derived.Test.YtmhhigaelofbmaaBase
import Derived.Test.YtmhhigaelofbmaaPlainVec
namespace Go.Proofs.Ytmhhigaelofbmaa
open Go.RowKit
set_option linter.unusedSimpArgs false
set_option linter.unusedVariables false
attribute [local go_sem] and3

set_option maxHeartbeats 400000 in
theorem right (x y : Int) (W : World) :
    Calls Try.prog 35 #[.agg #[.int .i64 x, .int .i64 y]] W (Gives W (.bool (V.right x y))) := by
  all_goals have hB0 : W.heap.size < W.heap.size + 1 := by omega
  all_goals go_enter Try.func35, Try.ntmps35
  all_goals go_wp2_with (fail)
  all_goals (go_ret; exact gives_of (by (repeat' (first | with_reducible exact since_refl _ | with_reducible refine since_set ?_ ?_ _ | with_reducible refine since_alloc ?_ _ | with_reducible refine since_trans (by with_reducible assumption) ?_ | with_reducible refine since_drew ?_)); all_goals (dsimp only; omega)) (by refine bool_ext ?_; simp [V.right]; omega))
set_option maxHeartbeats 400000 in
theorem rightR (x y : Int) (W : World) :
    Calls Try.prog 36 #[.agg #[.int .i64 x, .int .i64 y]] W (Gives W (.bool (V.right x y))) := by
  all_goals have hB0 : W.heap.size < W.heap.size + 1 := by omega
  all_goals go_enter Try.func36, Try.ntmps36
  all_goals go_wp2_with (fail)
  all_goals (go_ret; exact gives_of (by (repeat' (first | with_reducible exact since_refl _ | with_reducible refine since_set ?_ ?_ _ | with_reducible refine since_alloc ?_ _ | with_reducible refine since_trans (by with_reducible assumption) ?_ | with_reducible refine since_drew ?_)); all_goals (dsimp only; omega)) (by refine bool_ext ?_; simp [V.right]; omega))
set_option maxHeartbeats 400000 in
theorem add (ax ay bx by' : Int) (W : World) :
    Calls Try.prog 52 #[.agg #[.int .i64 ax, .int .i64 ay], .agg #[.int .i64 bx, .int .i64 by']] W (Gives W (.agg #[.int .i64 (V.add ax bx), .int .i64 (V.add ay by')])) := by
  all_goals have hB0 : W.heap.size < W.heap.size + 1 + 1 + 1 := by omega
  all_goals have hB1 : W.heap.size + 1 < W.heap.size + 1 + 1 + 1 := by omega
  all_goals have hB2 : W.heap.size + 1 + 1 < W.heap.size + 1 + 1 + 1 := by omega
  all_goals go_enter Try.func52, Try.ntmps52
  all_goals go_wp2_with (fail)
  all_goals (refine ret_gives ?_ ?_ rfl; exact (by (repeat' (first | with_reducible exact since_refl _ | with_reducible refine since_set ?_ ?_ _ | with_reducible refine since_alloc ?_ _ | with_reducible refine since_trans (by with_reducible assumption) ?_ | with_reducible refine since_drew ?_)); all_goals (dsimp only; omega)); simp [results, Try.results52, go_sem, V.add])
set_option maxHeartbeats 400000 in
theorem addR (ax ay bx by' : Int) (W : World) :
    Calls Try.prog 32 #[.agg #[.int .i64 ax, .int .i64 ay], .agg #[.int .i64 bx, .int .i64 by']] W (Gives W (.agg #[.int .i64 (V.add ax bx), .int .i64 (V.add ay by')])) := by
  all_goals have hB0 : W.heap.size < W.heap.size + 1 + 1 + 1 := by omega
  all_goals have hB1 : W.heap.size + 1 < W.heap.size + 1 + 1 + 1 := by omega
  all_goals have hB2 : W.heap.size + 1 + 1 < W.heap.size + 1 + 1 + 1 := by omega
  all_goals go_enter Try.func32, Try.ntmps32
  all_goals go_wp2_with (fail)
  all_goals (refine ret_gives ?_ ?_ rfl; exact (by (repeat' (first | with_reducible exact since_refl _ | with_reducible refine since_set ?_ ?_ _ | with_reducible refine since_alloc ?_ _ | with_reducible refine since_trans (by with_reducible assumption) ?_ | with_reducible refine since_drew ?_)); all_goals (dsimp only; omega)); simp [results, Try.results32, go_sem, V.add])
set_option maxHeartbeats 400000 in
theorem sub (ax ay bx by' : Int) (W : World) :
    Calls Try.prog 38 #[.agg #[.int .i64 ax, .int .i64 ay], .agg #[.int .i64 bx, .int .i64 by']] W (Gives W (.agg #[.int .i64 (V.sub ax bx), .int .i64 (V.sub ay by')])) := by
  all_goals have hB0 : W.heap.size < W.heap.size + 1 + 1 + 1 := by omega
  all_goals have hB1 : W.heap.size + 1 < W.heap.size + 1 + 1 + 1 := by omega
  all_goals have hB2 : W.heap.size + 1 + 1 < W.heap.size + 1 + 1 + 1 := by omega
  all_goals go_enter Try.func38, Try.ntmps38
  all_goals go_wp2_with (fail)
  all_goals (refine ret_gives ?_ ?_ rfl; exact (by (repeat' (first | with_reducible exact since_refl _ | with_reducible refine since_set ?_ ?_ _ | with_reducible refine since_alloc ?_ _ | with_reducible refine since_trans (by with_reducible assumption) ?_ | with_reducible refine since_drew ?_)); all_goals (dsimp only; omega)); simp [results, Try.results38, go_sem, V.sub])
set_option maxHeartbeats 400000 in
theorem subR (ax ay bx by' : Int) (W : World) :
    Calls Try.prog 37 #[.agg #[.int .i64 ax, .int .i64 ay], .agg #[.int .i64 bx, .int .i64 by']] W (Gives W (.agg #[.int .i64 (V.sub ax bx), .int .i64 (V.sub ay by')])) := by
  all_goals have hB0 : W.heap.size < W.heap.size + 1 + 1 + 1 := by omega
  all_goals have hB1 : W.heap.size + 1 < W.heap.size + 1 + 1 + 1 := by omega
  all_goals have hB2 : W.heap.size + 1 + 1 < W.heap.size + 1 + 1 + 1 := by omega
  all_goals go_enter Try.func37, Try.ntmps37
  all_goals go_wp2_with (fail)
  all_goals (refine ret_gives ?_ ?_ rfl; exact (by (repeat' (first | with_reducible exact since_refl _ | with_reducible refine since_set ?_ ?_ _ | with_reducible refine since_alloc ?_ _ | with_reducible refine since_trans (by with_reducible assumption) ?_ | with_reducible refine since_drew ?_)); all_goals (dsimp only; omega)); simp [results, Try.results37, go_sem, V.sub])
set_option maxHeartbeats 400000 in
theorem cross (ax ay bx by' : Int) (W : World) :
    Calls Try.prog 64 #[.agg #[.int .i64 ax, .int .i64 ay], .agg #[.int .i64 bx, .int .i64 by']] W (Gives W (.int .i64 (V.cross ax ay bx by'))) := by
  all_goals have hB0 : W.heap.size < W.heap.size + 1 + 1 := by omega
  all_goals have hB1 : W.heap.size + 1 < W.heap.size + 1 + 1 := by omega
  all_goals go_enter Try.func64, Try.ntmps64
  all_goals go_wp2_with (fail)
  all_goals (go_ret; exact gives_of (by (repeat' (first | with_reducible exact since_refl _ | with_reducible refine since_set ?_ ?_ _ | with_reducible refine since_alloc ?_ _ | with_reducible refine since_trans (by with_reducible assumption) ?_ | with_reducible refine since_drew ?_)); all_goals (dsimp only; omega)) (by unfold V.cross; rfl))
set_option maxHeartbeats 400000 in
theorem crossR (ax ay bx by' : Int) (W : World) :
    Calls Try.prog 42 #[.agg #[.int .i64 ax, .int .i64 ay], .agg #[.int .i64 bx, .int .i64 by']] W (Gives W (.int .i64 (V.cross ax ay bx by'))) := by
  all_goals have hB0 : W.heap.size < W.heap.size + 1 + 1 := by omega
  all_goals have hB1 : W.heap.size + 1 < W.heap.size + 1 + 1 := by omega
  all_goals go_enter Try.func42, Try.ntmps42
  all_goals go_wp2_with (fail)
  all_goals (go_ret; exact gives_of (by (repeat' (first | with_reducible exact since_refl _ | with_reducible refine since_set ?_ ?_ _ | with_reducible refine since_alloc ?_ _ | with_reducible refine since_trans (by with_reducible assumption) ?_ | with_reducible refine since_drew ?_)); all_goals (dsimp only; omega)) (by unfold V.cross; rfl))
set_option maxHeartbeats 400000 in
theorem dot (ax ay bx by' : Int) (W : World) :
    Calls Try.prog 65 #[.agg #[.int .i64 ax, .int .i64 ay], .agg #[.int .i64 bx, .int .i64 by']] W (Gives W (.int .i64 (V.dot ax ay bx by'))) := by
  all_goals have hB0 : W.heap.size < W.heap.size + 1 + 1 := by omega
  all_goals have hB1 : W.heap.size + 1 < W.heap.size + 1 + 1 := by omega
  all_goals go_enter Try.func65, Try.ntmps65
  all_goals go_wp2_with (fail)
  all_goals (go_ret; exact gives_of (by (repeat' (first | with_reducible exact since_refl _ | with_reducible refine since_set ?_ ?_ _ | with_reducible refine since_alloc ?_ _ | with_reducible refine since_trans (by with_reducible assumption) ?_ | with_reducible refine since_drew ?_)); all_goals (dsimp only; omega)) (by unfold V.dot; rfl))
set_option maxHeartbeats 400000 in
theorem dotR (ax ay bx by' : Int) (W : World) :
    Calls Try.prog 43 #[.agg #[.int .i64 ax, .int .i64 ay], .agg #[.int .i64 bx, .int .i64 by']] W (Gives W (.int .i64 (V.dot ax ay bx by'))) := by
  all_goals have hB0 : W.heap.size < W.heap.size + 1 + 1 := by omega
  all_goals have hB1 : W.heap.size + 1 < W.heap.size + 1 + 1 := by omega
  all_goals go_enter Try.func43, Try.ntmps43
  all_goals go_wp2_with (fail)
  all_goals (go_ret; exact gives_of (by (repeat' (first | with_reducible exact since_refl _ | with_reducible refine since_set ?_ ?_ _ | with_reducible refine since_alloc ?_ _ | with_reducible refine since_trans (by with_reducible assumption) ?_ | with_reducible refine since_drew ?_)); all_goals (dsimp only; omega)) (by unfold V.dot; rfl))
set_option maxHeartbeats 400000 in
theorem side (ax ay bx by' px py : Int) (W : World) :
    Calls Try.prog 61 #[.agg #[.int .i64 ax, .int .i64 ay], .agg #[.int .i64 bx, .int .i64 by'], .agg #[.int .i64 px, .int .i64 py]] W (Gives W (.int .i64 (V.side ax ay bx by' px py))) := by
  all_goals have hB0 : W.heap.size < W.heap.size + 1 + 1 + 1 := by omega
  all_goals have hB1 : W.heap.size + 1 < W.heap.size + 1 + 1 + 1 := by omega
  all_goals have hB2 : W.heap.size + 1 + 1 < W.heap.size + 1 + 1 + 1 := by omega
  all_goals go_enter Try.func61, Try.ntmps61
  all_goals go_wp2_with (first
      | ((with_reducible refine wp_draw (id := 1) 8 [] (fun _ _ _ => True) (kept_true) ?_ ?_ ?_ ?_); (focus (intro c d v a w h; cases d <;> exact h)); (focus kernel_rfl); (focus kernel_rfl); simp only [List.take_succ_cons, List.take_zero, List.drop_succ_cons, List.drop_zero]; (repeat (refine calm_step (fun K hK => ?_); go_simp; first | (refine hK _ _ ?_; clear hK K) | (apply Exists.intro; refine ⟨fun t => ?_, hK _ _ ?_⟩; (first | (go_at_call 38; with_reducible exact (sub _ _ _ _ _)) | (go_at_call 64; with_reducible exact (cross _ _ _ _ _))); clear hK K))); refine calm_nil ?_; intro wq1 hq; have hb := newborn_none hq; clear hq; obtain ⟨hgc, hgf, hgb, hg1, hg2, hg3, hg4, hg5, hg6, hg7, hg8⟩ := grown_facts hb; have hsz := hb.size; (try simp at hsz); (try have hL0 : W.heap.size < wq1.heap.size := by omega); (try have hL1 : W.heap.size + 1 < wq1.heap.size := by omega); (try have hL2 : W.heap.size + 1 + 1 < wq1.heap.size := by omega)))
  all_goals (go_ret; exact gives_of (by (repeat' (first | with_reducible exact since_refl _ | with_reducible refine since_set ?_ ?_ _ | with_reducible refine since_alloc ?_ _ | with_reducible refine since_trans (by with_reducible assumption) ?_ | with_reducible refine since_drew ?_)); all_goals (dsimp only; omega)) (by refine int_ext ?_; unfold V.side V.sgn; split <;> (try split) <;> omega))
set_option maxHeartbeats 400000 in
theorem turns (x y t : Int) (m : Bool) (W : World) :
    Calls Try.prog 51 #[.agg #[.int .i64 x, .int .i64 y, .int .i64 t, .bool m]] W (Gives W (.int .i64 (t % 4))) := by
  all_goals have hB0 : W.heap.size < W.heap.size + 1 := by omega
  all_goals go_enter Try.func51, Try.ntmps51
  all_goals go_wp2_with (fail)
  all_goals (go_ret; exact gives_of (by (repeat' (first | with_reducible exact since_refl _ | with_reducible refine since_set ?_ ?_ _ | with_reducible refine since_alloc ?_ _ | with_reducible refine since_trans (by with_reducible assumption) ?_ | with_reducible refine since_drew ?_)); all_goals (dsimp only; omega)) (by rfl))
set_option maxHeartbeats 400000 in
theorem turnsR (n : Int) (W : World) :
    Calls Try.prog 53 #[.int .i64 n] W (Gives W (.int .i64 (n % 4))) := by
  all_goals go_enter Try.func53, Try.ntmps53
  all_goals go_wp2_with (fail)
  all_goals (go_ret; exact gives_of (by (repeat' (first | with_reducible exact since_refl _ | with_reducible refine since_set ?_ ?_ _ | with_reducible refine since_alloc ?_ _ | with_reducible refine since_trans (by with_reducible assumption) ?_ | with_reducible refine since_drew ?_)); all_goals (dsimp only; omega)) (by exact int_ext (turns_eq n)))
set_option maxHeartbeats 400000 in
theorem mirroredR (px py : Int) (m : Bool) (W : World) :
    Calls Try.prog 49 #[.agg #[.int .i64 px, .int .i64 py], .bool m] W (Gives W (.agg #[.int .i64 (V.mir m px), .int .i64 py])) := by
  cases m
  all_goals have hB0 : W.heap.size < W.heap.size + 1 + 1 := by omega
  all_goals have hB1 : W.heap.size + 1 < W.heap.size + 1 + 1 := by omega
  all_goals go_enter Try.func49, Try.ntmps49
  all_goals go_wp2_with (fail)
  all_goals (refine ret_gives ?_ ?_ rfl; exact (by (repeat' (first | with_reducible exact since_refl _ | with_reducible refine since_set ?_ ?_ _ | with_reducible refine since_alloc ?_ _ | with_reducible refine since_trans (by with_reducible assumption) ?_ | with_reducible refine since_drew ?_)); all_goals (dsimp only; omega)); simp [results, Try.results49, go_sem, V.mir, V.neg])
set_option maxHeartbeats 400000 in
theorem turnedR (px py n : Int) (W : World) :
    Calls Try.prog 48 #[.agg #[.int .i64 px, .int .i64 py], .int .i64 n] W (Gives W (.agg #[.int .i64 (V.turnX (n % 4) px py), .int .i64 (V.turnY (n % 4) px py)])) := by
  all_goals have hB0 : W.heap.size < W.heap.size + 1 + 1 := by omega
  all_goals have hB1 : W.heap.size + 1 < W.heap.size + 1 + 1 := by omega
  all_goals go_enter Try.func48, Try.ntmps48
  all_goals go_wp2_with (first
      | ((with_reducible refine wp_calm 6 1 [] (fun _ _ _ => True) (kept_true) ?_); simp only [List.take_succ_cons, List.take_zero, List.drop_succ_cons, List.drop_zero]; (repeat (refine calm_step (fun K hK => ?_); go_simp; first | (refine hK _ _ ?_; clear hK K) | (apply Exists.intro; refine ⟨fun t => ?_, hK _ _ ?_⟩; (first | (go_at_call 53; with_reducible exact (turnsR _ _))); clear hK K))); refine calm_nil ?_; intro wq1 hq; have hb := newborn_none hq; clear hq; obtain ⟨hgc, hgf, hgb, hg1, hg2, hg3, hg4, hg5, hg6, hg7, hg8⟩ := grown_facts hb; have hsz := hb.size; (try simp at hsz); (try have hL0 : W.heap.size < wq1.heap.size := by omega); (try have hL1 : W.heap.size + 1 < wq1.heap.size := by omega))
      | (go_at_call 53; with_reducible refine (turnsR _ _).mono ?_; rintro e w53 ⟨rfl, hb⟩; obtain ⟨hgc, hgf, hgb, hg1, hg2, hg3, hg4, hg5, hg6, hg7, hg8⟩ := grown_facts hb; have hsz := hb.size; (try simp at hsz); (try have hL0 : W.heap.size < w53.heap.size := by omega); (try have hL1 : W.heap.size + 1 < w53.heap.size := by omega)))
  all_goals (refine ret_gives ?_ ?_ rfl; exact (by (repeat' (first | with_reducible exact since_refl _ | with_reducible refine since_set ?_ ?_ _ | with_reducible refine since_alloc ?_ _ | with_reducible refine since_trans (by with_reducible assumption) ?_ | with_reducible refine since_drew ?_)); all_goals (dsimp only; omega)); simp_all [results, Try.results48, go_sem, V.turnX, V.turnY, V.neg])
set_option maxHeartbeats 400000 in
theorem applyR (x y t : Int) (m : Bool) (px py : Int) (W : World) :
    Calls Try.prog 31 #[.agg #[.int .i64 x, .int .i64 y, .int .i64 t, .bool m], .agg #[.int .i64 px, .int .i64 py]] W (Gives W (.agg #[.int .i64 (V.applyX x t m px py), .int .i64 (V.applyY y t m px py)])) := by
  all_goals have hB0 : W.heap.size < W.heap.size + 1 + 1 + 1 := by omega
  all_goals have hB1 : W.heap.size + 1 < W.heap.size + 1 + 1 + 1 := by omega
  all_goals have hB2 : W.heap.size + 1 + 1 < W.heap.size + 1 + 1 + 1 := by omega
  all_goals go_enter Try.func31, Try.ntmps31
  all_goals go_wp2_with (first
      | ((with_reducible refine wp_draw (id := 1) 10 [] (fun _ _ _ => True) (kept_true) ?_ ?_ ?_ ?_); (focus (intro c d v a w h; cases d <;> exact h)); (focus kernel_rfl); (focus kernel_rfl); simp only [List.take_succ_cons, List.take_zero, List.drop_succ_cons, List.drop_zero]; (repeat (refine calm_step (fun K hK => ?_); go_simp; first | (refine hK _ _ ?_; clear hK K) | (apply Exists.intro; refine ⟨fun t => ?_, hK _ _ ?_⟩; (first | (go_at_call 49; with_reducible exact (mirroredR _ _ _ _)) | (go_at_call 48; with_reducible exact (turnedR _ _ _ _)) | (go_at_call 32; with_reducible exact (addR _ _ _ _ _))); clear hK K))); refine calm_nil ?_; intro wq1 hq; have hb := newborn_none hq; clear hq; obtain ⟨hgc, hgf, hgb, hg1, hg2, hg3, hg4, hg5, hg6, hg7, hg8⟩ := grown_facts hb; have hsz := hb.size; (try simp at hsz); (try have hL0 : W.heap.size < wq1.heap.size := by omega); (try have hL1 : W.heap.size + 1 < wq1.heap.size := by omega); (try have hL2 : W.heap.size + 1 + 1 < wq1.heap.size := by omega)))
  all_goals (refine ret_gives ?_ ?_ rfl; exact (by (repeat' (first | with_reducible exact since_refl _ | with_reducible refine since_set ?_ ?_ _ | with_reducible refine since_alloc ?_ _ | with_reducible refine since_trans (by with_reducible assumption) ?_ | with_reducible refine since_drew ?_)); all_goals (dsimp only; omega)); simp [results, Try.results31, go_sem, V.applyX, V.applyY, *])
set_option maxHeartbeats 4000000 in
theorem apply (x y t : Int) (m : Bool) (px py : Int) (hx : R64 px) (hy : R64 py) (W : World) :
    Calls Try.prog 47 #[.agg #[.int .i64 x, .int .i64 y, .int .i64 t, .bool m], .agg #[.int .i64 px, .int .i64 py]] W (Gives W (.agg #[.int .i64 (V.applyX x t m px py), .int .i64 (V.applyY y t m px py)])) := by
  cases m
  all_goals rcases (show t % 4 = 0 ∨ t % 4 = 1 ∨ t % 4 = 2 ∨ t % 4 = 3 from by omega) with ht | ht | ht | ht
  all_goals go_enter Try.func47, Try.ntmps47
  all_goals go_wp2_with (first
      | ((with_reducible refine wp_calm 11 3 [] (fun _ _ _ => True) (kept_true) ?_); simp only [List.take_succ_cons, List.take_zero, List.drop_succ_cons, List.drop_zero]; (repeat (refine calm_step (fun K hK => ?_); go_simp; first | (refine hK _ _ ?_; clear hK K) | (apply Exists.intro; refine ⟨fun t => ?_, hK _ _ ?_⟩; (first | (go_at_call 51; with_reducible exact (turns _ _ _ _ _))); clear hK K))); refine calm_nil ?_; intro wq3 hq; have hb := newborn_none hq; clear hq; obtain ⟨hgc, hgf, hgb, hg1, hg2, hg3, hg4, hg5, hg6, hg7, hg8⟩ := grown_facts hb; have hsz := hb.size; (try simp at hsz); (try have hL0 : W.heap.size < wq3.heap.size := by omega); (try have hL1 : W.heap.size + 1 < wq3.heap.size := by omega); (try have hL2 : W.heap.size + 1 + 1 < wq3.heap.size := by omega))
      | ((with_reducible refine wp_calm 22 4 [] (fun _ _ _ => True) (kept_true) ?_); simp only [List.take_succ_cons, List.take_zero, List.drop_succ_cons, List.drop_zero]; (repeat (refine calm_step (fun K hK => ?_); go_simp; first | (refine hK _ _ ?_; clear hK K) | (apply Exists.intro; refine ⟨fun t => ?_, hK _ _ ?_⟩; (first | (go_at_call 52; with_reducible exact (add _ _ _ _ _))); clear hK K))); refine calm_nil ?_; intro wq7 hq; have hb := newborn_none hq; clear hq; obtain ⟨hgc, hgf, hgb, hg1, hg2, hg3, hg4, hg5, hg6, hg7, hg8⟩ := grown_facts hb; have hsz := hb.size; (try simp at hsz); (try have hL0 : W.heap.size < wq7.heap.size := by omega); (try have hL1 : W.heap.size + 1 < wq7.heap.size := by omega); (try have hL2 : W.heap.size + 1 + 1 < wq7.heap.size := by omega))
      | (go_at_call 51; with_reducible refine (turns _ _ _ _ _).mono ?_; rintro e w51 ⟨rfl, hb⟩; obtain ⟨hgc, hgf, hgb, hg1, hg2, hg3, hg4, hg5, hg6, hg7, hg8⟩ := grown_facts hb; have hsz := hb.size; (try simp at hsz); (try have hL0 : W.heap.size < w51.heap.size := by omega); (try have hL1 : W.heap.size + 1 < w51.heap.size := by omega); (try have hL2 : W.heap.size + 1 + 1 < w51.heap.size := by omega))
      | (go_at_call 52; with_reducible refine (add _ _ _ _ _).mono ?_; rintro e w52 ⟨rfl, hb⟩; obtain ⟨hgc, hgf, hgb, hg1, hg2, hg3, hg4, hg5, hg6, hg7, hg8⟩ := grown_facts hb; have hsz := hb.size; (try simp at hsz); (try have hL0 : W.heap.size < w52.heap.size := by omega); (try have hL1 : W.heap.size + 1 < w52.heap.size := by omega); (try have hL2 : W.heap.size + 1 + 1 < w52.heap.size := by omega)))
  all_goals refine wp_loop_rounds 4 ?_
  all_goals (repeat (rw [rounds_succ]; go_wp2_with (first
      | ((with_reducible refine wp_calm 11 3 [] (fun _ _ _ => True) (kept_true) ?_); simp only [List.take_succ_cons, List.take_zero, List.drop_succ_cons, List.drop_zero]; (repeat (refine calm_step (fun K hK => ?_); go_simp; first | (refine hK _ _ ?_; clear hK K) | (apply Exists.intro; refine ⟨fun t => ?_, hK _ _ ?_⟩; (first | (go_at_call 51; with_reducible exact (turns _ _ _ _ _))); clear hK K))); refine calm_nil ?_; intro wq3 hq; have hb := newborn_none hq; clear hq; obtain ⟨hgc, hgf, hgb, hg1, hg2, hg3, hg4, hg5, hg6, hg7, hg8⟩ := grown_facts hb; have hsz := hb.size; (try simp at hsz); (try have hL0 : W.heap.size < wq3.heap.size := by omega); (try have hL1 : W.heap.size + 1 < wq3.heap.size := by omega); (try have hL2 : W.heap.size + 1 + 1 < wq3.heap.size := by omega))
      | ((with_reducible refine wp_calm 22 4 [] (fun _ _ _ => True) (kept_true) ?_); simp only [List.take_succ_cons, List.take_zero, List.drop_succ_cons, List.drop_zero]; (repeat (refine calm_step (fun K hK => ?_); go_simp; first | (refine hK _ _ ?_; clear hK K) | (apply Exists.intro; refine ⟨fun t => ?_, hK _ _ ?_⟩; (first | (go_at_call 52; with_reducible exact (add _ _ _ _ _))); clear hK K))); refine calm_nil ?_; intro wq7 hq; have hb := newborn_none hq; clear hq; obtain ⟨hgc, hgf, hgb, hg1, hg2, hg3, hg4, hg5, hg6, hg7, hg8⟩ := grown_facts hb; have hsz := hb.size; (try simp at hsz); (try have hL0 : W.heap.size < wq7.heap.size := by omega); (try have hL1 : W.heap.size + 1 < wq7.heap.size := by omega); (try have hL2 : W.heap.size + 1 + 1 < wq7.heap.size := by omega))
      | (go_at_call 51; with_reducible refine (turns _ _ _ _ _).mono ?_; rintro e w51 ⟨rfl, hb⟩; obtain ⟨hgc, hgf, hgb, hg1, hg2, hg3, hg4, hg5, hg6, hg7, hg8⟩ := grown_facts hb; have hsz := hb.size; (try simp at hsz); (try have hL0 : W.heap.size < w51.heap.size := by omega); (try have hL1 : W.heap.size + 1 < w51.heap.size := by omega); (try have hL2 : W.heap.size + 1 + 1 < w51.heap.size := by omega))
      | (go_at_call 52; with_reducible refine (add _ _ _ _ _).mono ?_; rintro e w52 ⟨rfl, hb⟩; obtain ⟨hgc, hgf, hgb, hg1, hg2, hg3, hg4, hg5, hg6, hg7, hg8⟩ := grown_facts hb; have hsz := hb.size; (try simp at hsz); (try have hL0 : W.heap.size < w52.heap.size := by omega); (try have hL1 : W.heap.size + 1 < w52.heap.size := by omega); (try have hL2 : W.heap.size + 1 + 1 < w52.heap.size := by omega)))))
  all_goals (refine ret_gives ?_ ?_ rfl; exact (by (repeat' (first | with_reducible exact since_refl _ | with_reducible refine since_set ?_ ?_ _ | with_reducible refine since_alloc ?_ _ | with_reducible refine since_trans (by with_reducible assumption) ?_ | with_reducible refine since_drew ?_)); all_goals (dsimp only; omega)); simp [results, Try.results47, go_sem, V.applyX, V.applyY, V.turnX, V.turnY, V.mir, V.neg, ht, V.nn hx, V.nn hy, *])
end Go.Proofs.Ytmhhigaelofbmaa
