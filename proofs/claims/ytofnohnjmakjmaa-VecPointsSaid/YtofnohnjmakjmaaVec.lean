/-
  No statement is proved in this text. It holds what the functions of package vec and of the reference of chapter 5 return.
-/
import Derived.Test.YtofnohnjmakjmaaBase
import Derived.Test.YtofnohnjmakjmaaPlainVec
namespace Go.Proofs.Ytofnohnjmakjmaa
open Go.RowKit
set_option linter.unusedSimpArgs false
set_option linter.unusedVariables false
attribute [local go_sem] and3

set_option maxHeartbeats 400000 in
theorem right (x y : Int) (W : World) :
    Calls Try.prog 9 #[.agg #[.int .i64 x, .int .i64 y]] W (Gives W (.bool (V.right x y))) := by
  all_goals have hB0 : W.heap.size < W.heap.size + 1 := by omega
  all_goals go_enter Try.func9, Try.ntmps9
  all_goals go_wp2_with (fail)
  all_goals (go_ret; exact gives_of (by (repeat' (first | with_reducible exact since_refl _ | with_reducible refine since_set ?_ ?_ _ | with_reducible refine since_alloc ?_ _ | with_reducible refine since_trans (by with_reducible assumption) ?_ | with_reducible refine since_drew ?_)); all_goals (dsimp only; omega)) (by refine bool_ext ?_; simp [V.right]; omega))
set_option maxHeartbeats 400000 in
theorem rightR (x y : Int) (W : World) :
    Calls Try.prog 10 #[.agg #[.int .i64 x, .int .i64 y]] W (Gives W (.bool (V.right x y))) := by
  all_goals have hB0 : W.heap.size < W.heap.size + 1 := by omega
  all_goals go_enter Try.func10, Try.ntmps10
  all_goals go_wp2_with (fail)
  all_goals (go_ret; exact gives_of (by (repeat' (first | with_reducible exact since_refl _ | with_reducible refine since_set ?_ ?_ _ | with_reducible refine since_alloc ?_ _ | with_reducible refine since_trans (by with_reducible assumption) ?_ | with_reducible refine since_drew ?_)); all_goals (dsimp only; omega)) (by refine bool_ext ?_; simp [V.right]; omega))
set_option maxHeartbeats 400000 in
theorem add (ax ay bx by' : Int) (W : World) :
    Calls Try.prog 11 #[.agg #[.int .i64 ax, .int .i64 ay], .agg #[.int .i64 bx, .int .i64 by']] W (Gives W (.agg #[.int .i64 (V.add ax bx), .int .i64 (V.add ay by')])) := by
  all_goals have hB0 : W.heap.size < W.heap.size + 1 + 1 + 1 := by omega
  all_goals have hB1 : W.heap.size + 1 < W.heap.size + 1 + 1 + 1 := by omega
  all_goals have hB2 : W.heap.size + 1 + 1 < W.heap.size + 1 + 1 + 1 := by omega
  all_goals go_enter Try.func11, Try.ntmps11
  all_goals go_wp2_with (fail)
  all_goals (refine ret_gives ?_ ?_ rfl; exact (by (repeat' (first | with_reducible exact since_refl _ | with_reducible refine since_set ?_ ?_ _ | with_reducible refine since_alloc ?_ _ | with_reducible refine since_trans (by with_reducible assumption) ?_ | with_reducible refine since_drew ?_)); all_goals (dsimp only; omega)); simp [results, Try.results11, go_sem, V.add])
set_option maxHeartbeats 400000 in
theorem addR (ax ay bx by' : Int) (W : World) :
    Calls Try.prog 12 #[.agg #[.int .i64 ax, .int .i64 ay], .agg #[.int .i64 bx, .int .i64 by']] W (Gives W (.agg #[.int .i64 (V.add ax bx), .int .i64 (V.add ay by')])) := by
  all_goals have hB0 : W.heap.size < W.heap.size + 1 + 1 + 1 := by omega
  all_goals have hB1 : W.heap.size + 1 < W.heap.size + 1 + 1 + 1 := by omega
  all_goals have hB2 : W.heap.size + 1 + 1 < W.heap.size + 1 + 1 + 1 := by omega
  all_goals go_enter Try.func12, Try.ntmps12
  all_goals go_wp2_with (fail)
  all_goals (refine ret_gives ?_ ?_ rfl; exact (by (repeat' (first | with_reducible exact since_refl _ | with_reducible refine since_set ?_ ?_ _ | with_reducible refine since_alloc ?_ _ | with_reducible refine since_trans (by with_reducible assumption) ?_ | with_reducible refine since_drew ?_)); all_goals (dsimp only; omega)); simp [results, Try.results12, go_sem, V.add])
set_option maxHeartbeats 400000 in
theorem sub (ax ay bx by' : Int) (W : World) :
    Calls Try.prog 13 #[.agg #[.int .i64 ax, .int .i64 ay], .agg #[.int .i64 bx, .int .i64 by']] W (Gives W (.agg #[.int .i64 (V.sub ax bx), .int .i64 (V.sub ay by')])) := by
  all_goals have hB0 : W.heap.size < W.heap.size + 1 + 1 + 1 := by omega
  all_goals have hB1 : W.heap.size + 1 < W.heap.size + 1 + 1 + 1 := by omega
  all_goals have hB2 : W.heap.size + 1 + 1 < W.heap.size + 1 + 1 + 1 := by omega
  all_goals go_enter Try.func13, Try.ntmps13
  all_goals go_wp2_with (fail)
  all_goals (refine ret_gives ?_ ?_ rfl; exact (by (repeat' (first | with_reducible exact since_refl _ | with_reducible refine since_set ?_ ?_ _ | with_reducible refine since_alloc ?_ _ | with_reducible refine since_trans (by with_reducible assumption) ?_ | with_reducible refine since_drew ?_)); all_goals (dsimp only; omega)); simp [results, Try.results13, go_sem, V.sub])
set_option maxHeartbeats 400000 in
theorem subR (ax ay bx by' : Int) (W : World) :
    Calls Try.prog 14 #[.agg #[.int .i64 ax, .int .i64 ay], .agg #[.int .i64 bx, .int .i64 by']] W (Gives W (.agg #[.int .i64 (V.sub ax bx), .int .i64 (V.sub ay by')])) := by
  all_goals have hB0 : W.heap.size < W.heap.size + 1 + 1 + 1 := by omega
  all_goals have hB1 : W.heap.size + 1 < W.heap.size + 1 + 1 + 1 := by omega
  all_goals have hB2 : W.heap.size + 1 + 1 < W.heap.size + 1 + 1 + 1 := by omega
  all_goals go_enter Try.func14, Try.ntmps14
  all_goals go_wp2_with (fail)
  all_goals (refine ret_gives ?_ ?_ rfl; exact (by (repeat' (first | with_reducible exact since_refl _ | with_reducible refine since_set ?_ ?_ _ | with_reducible refine since_alloc ?_ _ | with_reducible refine since_trans (by with_reducible assumption) ?_ | with_reducible refine since_drew ?_)); all_goals (dsimp only; omega)); simp [results, Try.results14, go_sem, V.sub])
set_option maxHeartbeats 400000 in
theorem cross (ax ay bx by' : Int) (W : World) :
    Calls Try.prog 15 #[.agg #[.int .i64 ax, .int .i64 ay], .agg #[.int .i64 bx, .int .i64 by']] W (Gives W (.int .i64 (V.cross ax ay bx by'))) := by
  all_goals have hB0 : W.heap.size < W.heap.size + 1 + 1 := by omega
  all_goals have hB1 : W.heap.size + 1 < W.heap.size + 1 + 1 := by omega
  all_goals go_enter Try.func15, Try.ntmps15
  all_goals go_wp2_with (fail)
  all_goals (go_ret; exact gives_of (by (repeat' (first | with_reducible exact since_refl _ | with_reducible refine since_set ?_ ?_ _ | with_reducible refine since_alloc ?_ _ | with_reducible refine since_trans (by with_reducible assumption) ?_ | with_reducible refine since_drew ?_)); all_goals (dsimp only; omega)) (by unfold V.cross; rfl))
set_option maxHeartbeats 400000 in
theorem crossR (ax ay bx by' : Int) (W : World) :
    Calls Try.prog 16 #[.agg #[.int .i64 ax, .int .i64 ay], .agg #[.int .i64 bx, .int .i64 by']] W (Gives W (.int .i64 (V.cross ax ay bx by'))) := by
  all_goals have hB0 : W.heap.size < W.heap.size + 1 + 1 := by omega
  all_goals have hB1 : W.heap.size + 1 < W.heap.size + 1 + 1 := by omega
  all_goals go_enter Try.func16, Try.ntmps16
  all_goals go_wp2_with (fail)
  all_goals (go_ret; exact gives_of (by (repeat' (first | with_reducible exact since_refl _ | with_reducible refine since_set ?_ ?_ _ | with_reducible refine since_alloc ?_ _ | with_reducible refine since_trans (by with_reducible assumption) ?_ | with_reducible refine since_drew ?_)); all_goals (dsimp only; omega)) (by unfold V.cross; rfl))
set_option maxHeartbeats 400000 in
theorem dot (ax ay bx by' : Int) (W : World) :
    Calls Try.prog 17 #[.agg #[.int .i64 ax, .int .i64 ay], .agg #[.int .i64 bx, .int .i64 by']] W (Gives W (.int .i64 (V.dot ax ay bx by'))) := by
  all_goals have hB0 : W.heap.size < W.heap.size + 1 + 1 := by omega
  all_goals have hB1 : W.heap.size + 1 < W.heap.size + 1 + 1 := by omega
  all_goals go_enter Try.func17, Try.ntmps17
  all_goals go_wp2_with (fail)
  all_goals (go_ret; exact gives_of (by (repeat' (first | with_reducible exact since_refl _ | with_reducible refine since_set ?_ ?_ _ | with_reducible refine since_alloc ?_ _ | with_reducible refine since_trans (by with_reducible assumption) ?_ | with_reducible refine since_drew ?_)); all_goals (dsimp only; omega)) (by unfold V.dot; rfl))
set_option maxHeartbeats 400000 in
theorem dotR (ax ay bx by' : Int) (W : World) :
    Calls Try.prog 18 #[.agg #[.int .i64 ax, .int .i64 ay], .agg #[.int .i64 bx, .int .i64 by']] W (Gives W (.int .i64 (V.dot ax ay bx by'))) := by
  all_goals have hB0 : W.heap.size < W.heap.size + 1 + 1 := by omega
  all_goals have hB1 : W.heap.size + 1 < W.heap.size + 1 + 1 := by omega
  all_goals go_enter Try.func18, Try.ntmps18
  all_goals go_wp2_with (fail)
  all_goals (go_ret; exact gives_of (by (repeat' (first | with_reducible exact since_refl _ | with_reducible refine since_set ?_ ?_ _ | with_reducible refine since_alloc ?_ _ | with_reducible refine since_trans (by with_reducible assumption) ?_ | with_reducible refine since_drew ?_)); all_goals (dsimp only; omega)) (by unfold V.dot; rfl))
set_option maxHeartbeats 400000 in
theorem side (ax ay bx by' px py : Int) (W : World) :
    Calls Try.prog 19 #[.agg #[.int .i64 ax, .int .i64 ay], .agg #[.int .i64 bx, .int .i64 by'], .agg #[.int .i64 px, .int .i64 py]] W (Gives W (.int .i64 (V.side ax ay bx by' px py))) := by
  all_goals have hB0 : W.heap.size < W.heap.size + 1 + 1 + 1 := by omega
  all_goals have hB1 : W.heap.size + 1 < W.heap.size + 1 + 1 + 1 := by omega
  all_goals have hB2 : W.heap.size + 1 + 1 < W.heap.size + 1 + 1 + 1 := by omega
  all_goals go_enter Try.func19, Try.ntmps19
  all_goals go_wp2_with (first
      | (refine wp_draw (id := 1) 8 [] (fun _ _ _ => True) (fun _ _ _ _ h => h) (by kernel_rfl) (by kernel_rfl) ?_; simp only [List.take_succ_cons, List.take_zero, List.drop_succ_cons, List.drop_zero]; (repeat (refine calm_step (fun K hK => ?_); go_simp; first | (refine hK _ _ ?_; clear hK K) | (apply Exists.intro; refine ⟨fun t => ?_, hK _ _ ?_⟩; (first | (go_at_call 13; exact (sub _ _ _ _ _)) | (go_at_call 15; exact (cross _ _ _ _ _))); clear hK K))); refine calm_nil ?_; intro wq1 hq; have hb := newborn_none hq; clear hq; obtain ⟨hgc, hgf, hgb, hg1, hg2, hg3, hg4, hg5, hg6, hg7, hg8⟩ := grown_facts hb; have hsz := hb.size; (try simp at hsz); (try have hL0 : W.heap.size < wq1.heap.size := by omega); (try have hL1 : W.heap.size + 1 < wq1.heap.size := by omega); (try have hL2 : W.heap.size + 1 + 1 < wq1.heap.size := by omega)))
  all_goals (go_ret; exact gives_of (by (repeat' (first | with_reducible exact since_refl _ | with_reducible refine since_set ?_ ?_ _ | with_reducible refine since_alloc ?_ _ | with_reducible refine since_trans (by with_reducible assumption) ?_ | with_reducible refine since_drew ?_)); all_goals (dsimp only; omega)) (by refine int_ext ?_; unfold V.side V.sgn; split <;> (try split) <;> omega))
set_option maxHeartbeats 400000 in
theorem sideR (ax ay bx by' px py : Int) (W : World) :
    Calls Try.prog 20 #[.agg #[.int .i64 ax, .int .i64 ay], .agg #[.int .i64 bx, .int .i64 by'], .agg #[.int .i64 px, .int .i64 py]] W (Gives W (.int .i64 (V.side ax ay bx by' px py))) := by
  all_goals have hB0 : W.heap.size < W.heap.size + 1 + 1 + 1 := by omega
  all_goals have hB1 : W.heap.size + 1 < W.heap.size + 1 + 1 + 1 := by omega
  all_goals have hB2 : W.heap.size + 1 + 1 < W.heap.size + 1 + 1 + 1 := by omega
  all_goals go_enter Try.func20, Try.ntmps20
  all_goals go_wp2_with (first
      | (refine wp_draw (id := 1) 8 [] (fun _ _ _ => True) (fun _ _ _ _ h => h) (by kernel_rfl) (by kernel_rfl) ?_; simp only [List.take_succ_cons, List.take_zero, List.drop_succ_cons, List.drop_zero]; (repeat (refine calm_step (fun K hK => ?_); go_simp; first | (refine hK _ _ ?_; clear hK K) | (apply Exists.intro; refine ⟨fun t => ?_, hK _ _ ?_⟩; (first | (go_at_call 14; exact (subR _ _ _ _ _)) | (go_at_call 16; exact (crossR _ _ _ _ _))); clear hK K))); refine calm_nil ?_; intro wq1 hq; have hb := newborn_none hq; clear hq; obtain ⟨hgc, hgf, hgb, hg1, hg2, hg3, hg4, hg5, hg6, hg7, hg8⟩ := grown_facts hb; have hsz := hb.size; (try simp at hsz); (try have hL0 : W.heap.size < wq1.heap.size := by omega); (try have hL1 : W.heap.size + 1 < wq1.heap.size := by omega); (try have hL2 : W.heap.size + 1 + 1 < wq1.heap.size := by omega)))
  all_goals (go_ret; exact gives_of (by (repeat' (first | with_reducible exact since_refl _ | with_reducible refine since_set ?_ ?_ _ | with_reducible refine since_alloc ?_ _ | with_reducible refine since_trans (by with_reducible assumption) ?_ | with_reducible refine since_drew ?_)); all_goals (dsimp only; omega)) (by refine int_ext ?_; unfold V.side V.sgn; split <;> (try split) <;> omega))
set_option maxHeartbeats 400000 in
theorem within (dx dy fx fy tx ty : Int) (W : World) :
    Calls Try.prog 21 #[.agg #[.int .i64 dx, .int .i64 dy], .agg #[.int .i64 fx, .int .i64 fy], .agg #[.int .i64 tx, .int .i64 ty]] W (Gives W (.bool (V.within dx dy fx fy tx ty))) := by
  all_goals have hB0 : W.heap.size < W.heap.size + 1 + 1 + 1 := by omega
  all_goals have hB1 : W.heap.size + 1 < W.heap.size + 1 + 1 + 1 := by omega
  all_goals have hB2 : W.heap.size + 1 + 1 < W.heap.size + 1 + 1 + 1 := by omega
  all_goals go_enter Try.func21, Try.ntmps21
  all_goals go_wp2_with (first
      | (refine wp_draw (id := 1) 9 [] (fun _ _ _ => True) (fun _ _ _ _ h => h) (by kernel_rfl) (by kernel_rfl) ?_; simp only [List.take_succ_cons, List.take_zero, List.drop_succ_cons, List.drop_zero]; (repeat (refine calm_step (fun K hK => ?_); go_simp; first | (refine hK _ _ ?_; clear hK K) | (apply Exists.intro; refine ⟨fun t => ?_, hK _ _ ?_⟩; (first | (go_at_call 15; exact (cross _ _ _ _ _))); clear hK K))); refine calm_nil ?_; intro wq1 hq; have hb := newborn_none hq; clear hq; obtain ⟨hgc, hgf, hgb, hg1, hg2, hg3, hg4, hg5, hg6, hg7, hg8⟩ := grown_facts hb; have hsz := hb.size; (try simp at hsz); (try have hL0 : W.heap.size < wq1.heap.size := by omega); (try have hL1 : W.heap.size + 1 < wq1.heap.size := by omega); (try have hL2 : W.heap.size + 1 + 1 < wq1.heap.size := by omega)))
  all_goals (go_ret; exact gives_of (by (repeat' (first | with_reducible exact since_refl _ | with_reducible refine since_set ?_ ?_ _ | with_reducible refine since_alloc ?_ _ | with_reducible refine since_trans (by with_reducible assumption) ?_ | with_reducible refine since_drew ?_)); all_goals (dsimp only; omega)) (by refine bool_ext ?_; simp [V.within]; omega))
set_option maxHeartbeats 400000 in
theorem withinR (dx dy fx fy tx ty : Int) (W : World) :
    Calls Try.prog 22 #[.agg #[.int .i64 dx, .int .i64 dy], .agg #[.int .i64 fx, .int .i64 fy], .agg #[.int .i64 tx, .int .i64 ty]] W (Gives W (.bool (V.within dx dy fx fy tx ty))) := by
  all_goals have hB0 : W.heap.size < W.heap.size + 1 + 1 + 1 := by omega
  all_goals have hB1 : W.heap.size + 1 < W.heap.size + 1 + 1 + 1 := by omega
  all_goals have hB2 : W.heap.size + 1 + 1 < W.heap.size + 1 + 1 + 1 := by omega
  all_goals go_enter Try.func22, Try.ntmps22
  all_goals go_wp2_with (first
      | (refine wp_calm 7 11 [] (fun _ _ _ => True) (fun _ _ _ _ h => h) ?_; simp only [List.take_succ_cons, List.take_zero, List.drop_succ_cons, List.drop_zero]; (repeat (refine calm_step (fun K hK => ?_); go_simp; first | (refine hK _ _ ?_; clear hK K) | (apply Exists.intro; refine ⟨fun t => ?_, hK _ _ ?_⟩; (first | (go_at_call 16; exact (crossR _ _ _ _ _))); clear hK K))); refine calm_nil ?_; intro wq1 hq; have hb := newborn_none hq; clear hq; obtain ⟨hgc, hgf, hgb, hg1, hg2, hg3, hg4, hg5, hg6, hg7, hg8⟩ := grown_facts hb; have hsz := hb.size; (try simp at hsz); (try have hL0 : W.heap.size < wq1.heap.size := by omega); (try have hL1 : W.heap.size + 1 < wq1.heap.size := by omega); (try have hL2 : W.heap.size + 1 + 1 < wq1.heap.size := by omega))
      | (go_at_call 16; refine (crossR _ _ _ _ _).mono ?_; rintro e w16 ⟨rfl, hb⟩; obtain ⟨hgc, hgf, hgb, hg1, hg2, hg3, hg4, hg5, hg6, hg7, hg8⟩ := grown_facts hb; have hsz := hb.size; (try simp at hsz); (try have hL0 : W.heap.size < w16.heap.size := by omega); (try have hL1 : W.heap.size + 1 < w16.heap.size := by omega); (try have hL2 : W.heap.size + 1 + 1 < w16.heap.size := by omega)))
  all_goals (go_ret; exact gives_of (by (repeat' (first | with_reducible exact since_refl _ | with_reducible refine since_set ?_ ?_ _ | with_reducible refine since_alloc ?_ _ | with_reducible refine since_trans (by with_reducible assumption) ?_ | with_reducible refine since_drew ?_)); all_goals (dsimp only; omega)) (by refine bool_ext ?_; simp [V.within]; omega))
set_option maxHeartbeats 400000 in
theorem turns (x y t : Int) (m : Bool) (W : World) :
    Calls Try.prog 30 #[.agg #[.int .i64 x, .int .i64 y, .int .i64 t, .bool m]] W (Gives W (.int .i64 (t % 4))) := by
  all_goals have hB0 : W.heap.size < W.heap.size + 1 := by omega
  all_goals go_enter Try.func30, Try.ntmps30
  all_goals go_wp2_with (fail)
  all_goals (go_ret; exact gives_of (by (repeat' (first | with_reducible exact since_refl _ | with_reducible refine since_set ?_ ?_ _ | with_reducible refine since_alloc ?_ _ | with_reducible refine since_trans (by with_reducible assumption) ?_ | with_reducible refine since_drew ?_)); all_goals (dsimp only; omega)) (by rfl))
set_option maxHeartbeats 400000 in
theorem turnsR (n : Int) (W : World) :
    Calls Try.prog 33 #[.int .i64 n] W (Gives W (.int .i64 (n % 4))) := by
  all_goals go_enter Try.func33, Try.ntmps33
  all_goals go_wp2_with (fail)
  all_goals (go_ret; exact gives_of (by (repeat' (first | with_reducible exact since_refl _ | with_reducible refine since_set ?_ ?_ _ | with_reducible refine since_alloc ?_ _ | with_reducible refine since_trans (by with_reducible assumption) ?_ | with_reducible refine since_drew ?_)); all_goals (dsimp only; omega)) (by exact int_ext (turns_eq n)))
set_option maxHeartbeats 400000 in
theorem mirroredR (px py : Int) (m : Bool) (W : World) :
    Calls Try.prog 32 #[.agg #[.int .i64 px, .int .i64 py], .bool m] W (Gives W (.agg #[.int .i64 (V.mir m px), .int .i64 py])) := by
  cases m
  all_goals have hB0 : W.heap.size < W.heap.size + 1 + 1 := by omega
  all_goals have hB1 : W.heap.size + 1 < W.heap.size + 1 + 1 := by omega
  all_goals go_enter Try.func32, Try.ntmps32
  all_goals go_wp2_with (fail)
  all_goals (refine ret_gives ?_ ?_ rfl; exact (by (repeat' (first | with_reducible exact since_refl _ | with_reducible refine since_set ?_ ?_ _ | with_reducible refine since_alloc ?_ _ | with_reducible refine since_trans (by with_reducible assumption) ?_ | with_reducible refine since_drew ?_)); all_goals (dsimp only; omega)); simp [results, Try.results32, go_sem, V.mir, V.neg])
set_option maxHeartbeats 400000 in
theorem turnedR (px py n : Int) (W : World) :
    Calls Try.prog 31 #[.agg #[.int .i64 px, .int .i64 py], .int .i64 n] W (Gives W (.agg #[.int .i64 (V.turnX (n % 4) px py), .int .i64 (V.turnY (n % 4) px py)])) := by
  all_goals have hB0 : W.heap.size < W.heap.size + 1 + 1 := by omega
  all_goals have hB1 : W.heap.size + 1 < W.heap.size + 1 + 1 := by omega
  all_goals go_enter Try.func31, Try.ntmps31
  all_goals go_wp2_with (first
      | (refine wp_calm 6 1 [] (fun _ _ _ => True) (fun _ _ _ _ h => h) ?_; simp only [List.take_succ_cons, List.take_zero, List.drop_succ_cons, List.drop_zero]; (repeat (refine calm_step (fun K hK => ?_); go_simp; first | (refine hK _ _ ?_; clear hK K) | (apply Exists.intro; refine ⟨fun t => ?_, hK _ _ ?_⟩; (first | (go_at_call 33; exact (turnsR _ _))); clear hK K))); refine calm_nil ?_; intro wq1 hq; have hb := newborn_none hq; clear hq; obtain ⟨hgc, hgf, hgb, hg1, hg2, hg3, hg4, hg5, hg6, hg7, hg8⟩ := grown_facts hb; have hsz := hb.size; (try simp at hsz); (try have hL0 : W.heap.size < wq1.heap.size := by omega); (try have hL1 : W.heap.size + 1 < wq1.heap.size := by omega))
      | (go_at_call 33; refine (turnsR _ _).mono ?_; rintro e w33 ⟨rfl, hb⟩; obtain ⟨hgc, hgf, hgb, hg1, hg2, hg3, hg4, hg5, hg6, hg7, hg8⟩ := grown_facts hb; have hsz := hb.size; (try simp at hsz); (try have hL0 : W.heap.size < w33.heap.size := by omega); (try have hL1 : W.heap.size + 1 < w33.heap.size := by omega)))
  all_goals (refine ret_gives ?_ ?_ rfl; exact (by (repeat' (first | with_reducible exact since_refl _ | with_reducible refine since_set ?_ ?_ _ | with_reducible refine since_alloc ?_ _ | with_reducible refine since_trans (by with_reducible assumption) ?_ | with_reducible refine since_drew ?_)); all_goals (dsimp only; omega)); simp_all [results, Try.results31, go_sem, V.turnX, V.turnY, V.neg])
set_option maxHeartbeats 400000 in
theorem applyR (x y t : Int) (m : Bool) (px py : Int) (W : World) :
    Calls Try.prog 25 #[.agg #[.int .i64 x, .int .i64 y, .int .i64 t, .bool m], .agg #[.int .i64 px, .int .i64 py]] W (Gives W (.agg #[.int .i64 (V.applyX x t m px py), .int .i64 (V.applyY y t m px py)])) := by
  all_goals have hB0 : W.heap.size < W.heap.size + 1 + 1 + 1 := by omega
  all_goals have hB1 : W.heap.size + 1 < W.heap.size + 1 + 1 + 1 := by omega
  all_goals have hB2 : W.heap.size + 1 + 1 < W.heap.size + 1 + 1 + 1 := by omega
  all_goals go_enter Try.func25, Try.ntmps25
  all_goals go_wp2_with (first
      | (refine wp_draw (id := 1) 10 [] (fun _ _ _ => True) (fun _ _ _ _ h => h) (by kernel_rfl) (by kernel_rfl) ?_; simp only [List.take_succ_cons, List.take_zero, List.drop_succ_cons, List.drop_zero]; (repeat (refine calm_step (fun K hK => ?_); go_simp; first | (refine hK _ _ ?_; clear hK K) | (apply Exists.intro; refine ⟨fun t => ?_, hK _ _ ?_⟩; (first | (go_at_call 32; exact (mirroredR _ _ _ _)) | (go_at_call 31; exact (turnedR _ _ _ _)) | (go_at_call 12; exact (addR _ _ _ _ _))); clear hK K))); refine calm_nil ?_; intro wq1 hq; have hb := newborn_none hq; clear hq; obtain ⟨hgc, hgf, hgb, hg1, hg2, hg3, hg4, hg5, hg6, hg7, hg8⟩ := grown_facts hb; have hsz := hb.size; (try simp at hsz); (try have hL0 : W.heap.size < wq1.heap.size := by omega); (try have hL1 : W.heap.size + 1 < wq1.heap.size := by omega); (try have hL2 : W.heap.size + 1 + 1 < wq1.heap.size := by omega)))
  all_goals (refine ret_gives ?_ ?_ rfl; exact (by (repeat' (first | with_reducible exact since_refl _ | with_reducible refine since_set ?_ ?_ _ | with_reducible refine since_alloc ?_ _ | with_reducible refine since_trans (by with_reducible assumption) ?_ | with_reducible refine since_drew ?_)); all_goals (dsimp only; omega)); simp [results, Try.results25, go_sem, V.applyX, V.applyY, *])
set_option maxHeartbeats 4000000 in
theorem apply (x y t : Int) (m : Bool) (px py : Int) (hx : R64 px) (hy : R64 py) (W : World) :
    Calls Try.prog 24 #[.agg #[.int .i64 x, .int .i64 y, .int .i64 t, .bool m], .agg #[.int .i64 px, .int .i64 py]] W (Gives W (.agg #[.int .i64 (V.applyX x t m px py), .int .i64 (V.applyY y t m px py)])) := by
  cases m
  all_goals rcases (show t % 4 = 0 ∨ t % 4 = 1 ∨ t % 4 = 2 ∨ t % 4 = 3 from by omega) with ht | ht | ht | ht
  all_goals go_enter Try.func24, Try.ntmps24
  all_goals go_wp2_with (first
      | (refine wp_calm 11 3 [] (fun _ _ _ => True) (fun _ _ _ _ h => h) ?_; simp only [List.take_succ_cons, List.take_zero, List.drop_succ_cons, List.drop_zero]; (repeat (refine calm_step (fun K hK => ?_); go_simp; first | (refine hK _ _ ?_; clear hK K) | (apply Exists.intro; refine ⟨fun t => ?_, hK _ _ ?_⟩; (first | (go_at_call 30; exact (turns _ _ _ _ _))); clear hK K))); refine calm_nil ?_; intro wq3 hq; have hb := newborn_none hq; clear hq; obtain ⟨hgc, hgf, hgb, hg1, hg2, hg3, hg4, hg5, hg6, hg7, hg8⟩ := grown_facts hb; have hsz := hb.size; (try simp at hsz); (try have hL0 : W.heap.size < wq3.heap.size := by omega); (try have hL1 : W.heap.size + 1 < wq3.heap.size := by omega); (try have hL2 : W.heap.size + 1 + 1 < wq3.heap.size := by omega))
      | (refine wp_calm 22 4 [] (fun _ _ _ => True) (fun _ _ _ _ h => h) ?_; simp only [List.take_succ_cons, List.take_zero, List.drop_succ_cons, List.drop_zero]; (repeat (refine calm_step (fun K hK => ?_); go_simp; first | (refine hK _ _ ?_; clear hK K) | (apply Exists.intro; refine ⟨fun t => ?_, hK _ _ ?_⟩; (first | (go_at_call 11; exact (add _ _ _ _ _))); clear hK K))); refine calm_nil ?_; intro wq7 hq; have hb := newborn_none hq; clear hq; obtain ⟨hgc, hgf, hgb, hg1, hg2, hg3, hg4, hg5, hg6, hg7, hg8⟩ := grown_facts hb; have hsz := hb.size; (try simp at hsz); (try have hL0 : W.heap.size < wq7.heap.size := by omega); (try have hL1 : W.heap.size + 1 < wq7.heap.size := by omega); (try have hL2 : W.heap.size + 1 + 1 < wq7.heap.size := by omega))
      | (go_at_call 30; refine (turns _ _ _ _ _).mono ?_; rintro e w30 ⟨rfl, hb⟩; obtain ⟨hgc, hgf, hgb, hg1, hg2, hg3, hg4, hg5, hg6, hg7, hg8⟩ := grown_facts hb; have hsz := hb.size; (try simp at hsz); (try have hL0 : W.heap.size < w30.heap.size := by omega); (try have hL1 : W.heap.size + 1 < w30.heap.size := by omega); (try have hL2 : W.heap.size + 1 + 1 < w30.heap.size := by omega))
      | (go_at_call 11; refine (add _ _ _ _ _).mono ?_; rintro e w11 ⟨rfl, hb⟩; obtain ⟨hgc, hgf, hgb, hg1, hg2, hg3, hg4, hg5, hg6, hg7, hg8⟩ := grown_facts hb; have hsz := hb.size; (try simp at hsz); (try have hL0 : W.heap.size < w11.heap.size := by omega); (try have hL1 : W.heap.size + 1 < w11.heap.size := by omega); (try have hL2 : W.heap.size + 1 + 1 < w11.heap.size := by omega)))
  all_goals refine wp_loop_rounds 4 ?_
  all_goals (repeat (rw [rounds_succ]; go_wp2_with (first
      | (refine wp_calm 11 3 [] (fun _ _ _ => True) (fun _ _ _ _ h => h) ?_; simp only [List.take_succ_cons, List.take_zero, List.drop_succ_cons, List.drop_zero]; (repeat (refine calm_step (fun K hK => ?_); go_simp; first | (refine hK _ _ ?_; clear hK K) | (apply Exists.intro; refine ⟨fun t => ?_, hK _ _ ?_⟩; (first | (go_at_call 30; exact (turns _ _ _ _ _))); clear hK K))); refine calm_nil ?_; intro wq3 hq; have hb := newborn_none hq; clear hq; obtain ⟨hgc, hgf, hgb, hg1, hg2, hg3, hg4, hg5, hg6, hg7, hg8⟩ := grown_facts hb; have hsz := hb.size; (try simp at hsz); (try have hL0 : W.heap.size < wq3.heap.size := by omega); (try have hL1 : W.heap.size + 1 < wq3.heap.size := by omega); (try have hL2 : W.heap.size + 1 + 1 < wq3.heap.size := by omega))
      | (refine wp_calm 22 4 [] (fun _ _ _ => True) (fun _ _ _ _ h => h) ?_; simp only [List.take_succ_cons, List.take_zero, List.drop_succ_cons, List.drop_zero]; (repeat (refine calm_step (fun K hK => ?_); go_simp; first | (refine hK _ _ ?_; clear hK K) | (apply Exists.intro; refine ⟨fun t => ?_, hK _ _ ?_⟩; (first | (go_at_call 11; exact (add _ _ _ _ _))); clear hK K))); refine calm_nil ?_; intro wq7 hq; have hb := newborn_none hq; clear hq; obtain ⟨hgc, hgf, hgb, hg1, hg2, hg3, hg4, hg5, hg6, hg7, hg8⟩ := grown_facts hb; have hsz := hb.size; (try simp at hsz); (try have hL0 : W.heap.size < wq7.heap.size := by omega); (try have hL1 : W.heap.size + 1 < wq7.heap.size := by omega); (try have hL2 : W.heap.size + 1 + 1 < wq7.heap.size := by omega))
      | (go_at_call 30; refine (turns _ _ _ _ _).mono ?_; rintro e w30 ⟨rfl, hb⟩; obtain ⟨hgc, hgf, hgb, hg1, hg2, hg3, hg4, hg5, hg6, hg7, hg8⟩ := grown_facts hb; have hsz := hb.size; (try simp at hsz); (try have hL0 : W.heap.size < w30.heap.size := by omega); (try have hL1 : W.heap.size + 1 < w30.heap.size := by omega); (try have hL2 : W.heap.size + 1 + 1 < w30.heap.size := by omega))
      | (go_at_call 11; refine (add _ _ _ _ _).mono ?_; rintro e w11 ⟨rfl, hb⟩; obtain ⟨hgc, hgf, hgb, hg1, hg2, hg3, hg4, hg5, hg6, hg7, hg8⟩ := grown_facts hb; have hsz := hb.size; (try simp at hsz); (try have hL0 : W.heap.size < w11.heap.size := by omega); (try have hL1 : W.heap.size + 1 < w11.heap.size := by omega); (try have hL2 : W.heap.size + 1 + 1 < w11.heap.size := by omega)))))
  all_goals (refine ret_gives ?_ ?_ rfl; exact (by (repeat' (first | with_reducible exact since_refl _ | with_reducible refine since_set ?_ ?_ _ | with_reducible refine since_alloc ?_ _ | with_reducible refine since_trans (by with_reducible assumption) ?_ | with_reducible refine since_drew ?_)); all_goals (dsimp only; omega)); simp [results, Try.results24, go_sem, V.applyX, V.applyY, V.turnX, V.turnY, V.mir, V.neg, ht, V.nn hx, V.nn hy, *])
set_option maxHeartbeats 2000000 in
theorem compose (x y t : Int) (m : Bool) (x' y' t' : Int) (m' : Bool) (hx : R64 x') (hy : R64 y') (W : World) :
    Calls Try.prog 26 #[.agg #[.int .i64 x, .int .i64 y, .int .i64 t, .bool m], .agg #[.int .i64 x', .int .i64 y', .int .i64 t', .bool m']] W (Gives W (.agg #[.int .i64 (V.applyX x t m x' y'), .int .i64 (V.applyY y t m x' y'), .int .i64 (V.turnC t m t'), .bool (m != m')])) := by
  cases m
  all_goals have hB0 : W.heap.size < W.heap.size + 1 + 1 + 1 := by omega
  all_goals have hB1 : W.heap.size + 1 < W.heap.size + 1 + 1 + 1 := by omega
  all_goals have hB2 : W.heap.size + 1 + 1 < W.heap.size + 1 + 1 + 1 := by omega
  all_goals go_enter Try.func26, Try.ntmps26
  all_goals go_wp2_with (first
      | (refine wp_draw (id := 1) 17 [5] (fun d => NewVar (.cells #[.int .i64 0, .int .i64 0, .int .i64 0, .bool false] 34)) (fun _ _ _ t h => newVar_kept t h) (by kernel_rfl) (by kernel_rfl) ?_; simp only [List.take_succ_cons, List.take_zero, List.drop_succ_cons, List.drop_zero]; (repeat (refine calm_step (fun K hK => ?_); go_simp; first | (refine hK _ _ ?_; clear hK K) | (apply Exists.intro; refine ⟨fun t => ?_, hK _ _ ?_⟩; (first | (go_at_call 24; exact (apply _ _ _ _ _ _ (by first | with_reducible assumption | exact r64_wrap _ | exact r64_small _ (by omega) | exact V.r_add _ _ | exact V.r_sub _ _ | exact V.r_neg _ | exact V.r_applyX _ _ _ _ _ | exact V.r_applyY _ _ _ _ _ | exact V.r_invX _ _ _ _ | exact V.r_invY _ _ _ _ | exact V.r_turnI _ _ | exact V.r_turnC _ _ _) (by first | with_reducible assumption | exact r64_wrap _ | exact r64_small _ (by omega) | exact V.r_add _ _ | exact V.r_sub _ _ | exact V.r_neg _ | exact V.r_applyX _ _ _ _ _ | exact V.r_applyY _ _ _ _ _ | exact V.r_invX _ _ _ _ | exact V.r_invY _ _ _ _ | exact V.r_turnI _ _ | exact V.r_turnC _ _ _) _)) | (go_at_call 30; exact (turns _ _ _ _ _))); clear hK K) | (refine ⟨fun t => born_alloc, fun v => hK _ _ ?_⟩; clear hK K))); refine calm_nil ?_; intro wq1 hq; obtain ⟨b5, rfl, hb, hn1, hn2, hn3, hn4, hn5, hn6⟩ := newborn_one hq rfl; clear hq; obtain ⟨hgc, hgf, hgb, hg1, hg2, hg3, hg4, hg5, hg6, hg7, hg8⟩ := grown_facts hb; have hsz := hb.size; (try simp at hsz); (try have hL0 : W.heap.size < wq1.heap.size := by omega); (try have hL1 : W.heap.size + 1 < wq1.heap.size := by omega); (try have hL2 : W.heap.size + 1 + 1 < wq1.heap.size := by omega); (try have hL3 : b5 < wq1.heap.size := by omega); (try simp at hn6); (try have n5_0 : ¬ (W.heap.size = b5) := by omega); (try have m5_0 : ¬ (b5 = W.heap.size) := by omega); (try have n5_1 : ¬ (W.heap.size + 1 = b5) := by omega); (try have m5_1 : ¬ (b5 = W.heap.size + 1) := by omega); (try have n5_2 : ¬ (W.heap.size + 1 + 1 = b5) := by omega); (try have m5_2 : ¬ (b5 = W.heap.size + 1 + 1) := by omega); clear hn4 hn5)
      | (refine wp_draw (id := 3) 7 [] (fun _ _ _ => True) (fun _ _ _ _ h => h) (by kernel_rfl) (by kernel_rfl) ?_; simp only [List.take_succ_cons, List.take_zero, List.drop_succ_cons, List.drop_zero]; (repeat (refine calm_step (fun K hK => ?_); go_simp; first | (refine hK _ _ ?_; clear hK K) | (apply Exists.intro; refine ⟨fun t => ?_, hK _ _ ?_⟩; (first | (go_at_call 30; exact (turns _ _ _ _ _))); clear hK K))); refine calm_nil ?_; intro wq3 hq; have hb := newborn_none hq; clear hq; obtain ⟨hgc, hgf, hgb, hg1, hg2, hg3, hg4, hg5, hg6, hg7, hg8⟩ := grown_facts hb; have hsz := hb.size; (try simp at hsz); (try have hL0 : W.heap.size < wq3.heap.size := by omega); (try have hL1 : W.heap.size + 1 < wq3.heap.size := by omega); (try have hL2 : W.heap.size + 1 + 1 < wq3.heap.size := by omega); (try have hL3 : b5 < wq3.heap.size := by omega)))
  all_goals (refine ret_gives ?_ ?_ rfl; exact (by (repeat' (first | with_reducible exact since_refl _ | with_reducible refine since_set ?_ ?_ _ | with_reducible refine since_alloc ?_ _ | with_reducible refine since_trans (by with_reducible assumption) ?_ | with_reducible refine since_drew ?_)); all_goals (dsimp only; omega)); simp [results, Try.results26, go_sem, V.turnC, *])
set_option maxHeartbeats 2000000 in
theorem composeR (x y t : Int) (m : Bool) (x' y' t' : Int) (m' : Bool) (W : World) :
    Calls Try.prog 27 #[.agg #[.int .i64 x, .int .i64 y, .int .i64 t, .bool m], .agg #[.int .i64 x', .int .i64 y', .int .i64 t', .bool m']] W (Gives W (.agg #[.int .i64 (V.applyX x t m x' y'), .int .i64 (V.applyY y t m x' y'), .int .i64 (V.turnC t m t'), .bool (m != m')])) := by
  cases m
  all_goals have hB0 : W.heap.size < W.heap.size + 1 + 1 + 1 := by omega
  all_goals have hB1 : W.heap.size + 1 < W.heap.size + 1 + 1 + 1 := by omega
  all_goals have hB2 : W.heap.size + 1 + 1 < W.heap.size + 1 + 1 + 1 := by omega
  all_goals go_enter Try.func27, Try.ntmps27
  all_goals go_wp2_with (first
      | (refine wp_calm 6 4 [] (fun _ _ _ => True) (fun _ _ _ _ h => h) ?_; simp only [List.take_succ_cons, List.take_zero, List.drop_succ_cons, List.drop_zero]; (repeat (refine calm_step (fun K hK => ?_); go_simp; first | (refine hK _ _ ?_; clear hK K) | (apply Exists.intro; refine ⟨fun t => ?_, hK _ _ ?_⟩; (first | (go_at_call 33; exact (turnsR _ _))); clear hK K))); refine calm_nil ?_; intro wq1 hq; have hb := newborn_none hq; clear hq; obtain ⟨hgc, hgf, hgb, hg1, hg2, hg3, hg4, hg5, hg6, hg7, hg8⟩ := grown_facts hb; have hsz := hb.size; (try simp at hsz); (try have hL0 : W.heap.size < wq1.heap.size := by omega); (try have hL1 : W.heap.size + 1 < wq1.heap.size := by omega); (try have hL2 : W.heap.size + 1 + 1 < wq1.heap.size := by omega))
      | (refine wp_draw (id := 4) 16 [] (fun _ _ _ => True) (fun _ _ _ _ h => h) (by kernel_rfl) (by kernel_rfl) ?_; simp only [List.take_succ_cons, List.take_zero, List.drop_succ_cons, List.drop_zero]; (repeat (refine calm_step (fun K hK => ?_); go_simp; first | (refine hK _ _ ?_; clear hK K) | (apply Exists.intro; refine ⟨fun t => ?_, hK _ _ ?_⟩; (first | (go_at_call 25; exact (applyR _ _ _ _ _ _ _)) | (go_at_call 33; exact (turnsR _ _))); clear hK K))); refine calm_nil ?_; intro wq4 hq; have hb := newborn_none hq; clear hq; obtain ⟨hgc, hgf, hgb, hg1, hg2, hg3, hg4, hg5, hg6, hg7, hg8⟩ := grown_facts hb; have hsz := hb.size; (try simp at hsz); (try have hL0 : W.heap.size < wq4.heap.size := by omega); (try have hL1 : W.heap.size + 1 < wq4.heap.size := by omega); (try have hL2 : W.heap.size + 1 + 1 < wq4.heap.size := by omega))
      | (go_at_call 33; refine (turnsR _ _).mono ?_; rintro e w33 ⟨rfl, hb⟩; obtain ⟨hgc, hgf, hgb, hg1, hg2, hg3, hg4, hg5, hg6, hg7, hg8⟩ := grown_facts hb; have hsz := hb.size; (try simp at hsz); (try have hL0 : W.heap.size < w33.heap.size := by omega); (try have hL1 : W.heap.size + 1 < w33.heap.size := by omega); (try have hL2 : W.heap.size + 1 + 1 < w33.heap.size := by omega)))
  all_goals (refine ret_gives ?_ ?_ rfl; exact (by (repeat' (first | with_reducible exact since_refl _ | with_reducible refine since_set ?_ ?_ _ | with_reducible refine since_alloc ?_ _ | with_reducible refine since_trans (by with_reducible assumption) ?_ | with_reducible refine since_drew ?_)); all_goals (dsimp only; omega)); simp [results, Try.results27, go_sem, V.turnC, *] <;> omega)
set_option maxHeartbeats 2000000 in
theorem inverseR (x y t : Int) (m : Bool) (W : World) :
    Calls Try.prog 29 #[.agg #[.int .i64 x, .int .i64 y, .int .i64 t, .bool m]] W (Gives W (.agg #[.int .i64 (V.invX x y t m), .int .i64 (V.invY x y t m), .int .i64 (V.turnI t m), .bool m])) := by
  cases m
  all_goals have hB0 : W.heap.size < W.heap.size + 1 + 1 := by omega
  all_goals have hB1 : W.heap.size + 1 < W.heap.size + 1 + 1 := by omega
  all_goals go_enter Try.func29, Try.ntmps29
  all_goals go_wp2_with (first
      | (refine wp_draw (id := 1) 9 [3] (fun d => NewVar (.cells #[.int .i64 0, .int .i64 0, .int .i64 0, .bool false] 34)) (fun _ _ _ t h => newVar_kept t h) (by kernel_rfl) (by kernel_rfl) ?_; simp only [List.take_succ_cons, List.take_zero, List.drop_succ_cons, List.drop_zero]; (repeat (refine calm_step (fun K hK => ?_); go_simp; first | (refine hK _ _ ?_; clear hK K) | (apply Exists.intro; refine ⟨fun t => ?_, hK _ _ ?_⟩; (first | (go_at_call 33; exact (turnsR _ _))); clear hK K) | (refine ⟨fun t => born_alloc, fun v => hK _ _ ?_⟩; clear hK K))); refine calm_nil ?_; intro wq1 hq; obtain ⟨b3, rfl, hb, hn1, hn2, hn3, hn4, hn5, hn6⟩ := newborn_one hq rfl; clear hq; obtain ⟨hgc, hgf, hgb, hg1, hg2, hg3, hg4, hg5, hg6, hg7, hg8⟩ := grown_facts hb; have hsz := hb.size; (try simp at hsz); (try have hL0 : W.heap.size < wq1.heap.size := by omega); (try have hL1 : W.heap.size + 1 < wq1.heap.size := by omega); (try have hL2 : b3 < wq1.heap.size := by omega); (try have hL3 : b4 < wq1.heap.size := by omega); (try simp at hn6); (try have n3_0 : ¬ (W.heap.size = b3) := by omega); (try have m3_0 : ¬ (b3 = W.heap.size) := by omega); (try have n3_1 : ¬ (W.heap.size + 1 = b3) := by omega); (try have m3_1 : ¬ (b3 = W.heap.size + 1) := by omega); (try have n3_2 : ¬ (b4 = b3) := by omega); (try have m3_2 : ¬ (b3 = b4) := by omega); clear hn4 hn5)
      | (refine wp_calm 15 4 [] (fun _ _ _ => True) (fun _ _ _ _ h => h) ?_; simp only [List.take_succ_cons, List.take_zero, List.drop_succ_cons, List.drop_zero]; (repeat (refine calm_step (fun K hK => ?_); go_simp; first | (refine hK _ _ ?_; clear hK K) | (apply Exists.intro; refine ⟨fun t => ?_, hK _ _ ?_⟩; (first | (go_at_call 33; exact (turnsR _ _))); clear hK K))); refine calm_nil ?_; intro wq3 hq; have hb := newborn_none hq; clear hq; obtain ⟨hgc, hgf, hgb, hg1, hg2, hg3, hg4, hg5, hg6, hg7, hg8⟩ := grown_facts hb; have hsz := hb.size; (try simp at hsz); (try have hL0 : W.heap.size < wq3.heap.size := by omega); (try have hL1 : W.heap.size + 1 < wq3.heap.size := by omega); (try have hL2 : b3 < wq3.heap.size := by omega); (try have hL3 : b4 < wq3.heap.size := by omega))
      | (refine wp_calm 19 5 [4] (fun d => NewVar (.cells #[.int .i64 0, .int .i64 0] 23)) (fun _ _ _ t h => newVar_kept t h) ?_; simp only [List.take_succ_cons, List.take_zero, List.drop_succ_cons, List.drop_zero]; (repeat (refine calm_step (fun K hK => ?_); go_simp; first | (refine hK _ _ ?_; clear hK K) | (apply Exists.intro; refine ⟨fun t => ?_, hK _ _ ?_⟩; (first | (go_at_call 25; exact (applyR _ _ _ _ _ _ _))); clear hK K) | (refine ⟨fun t => born_alloc, fun v => hK _ _ ?_⟩; clear hK K))); refine calm_nil ?_; intro wq4 hq; obtain ⟨b4, rfl, hb, hn1, hn2, hn3, hn4, hn5, hn6⟩ := newborn_one hq rfl; clear hq; obtain ⟨hgc, hgf, hgb, hg1, hg2, hg3, hg4, hg5, hg6, hg7, hg8⟩ := grown_facts hb; have hsz := hb.size; (try simp at hsz); (try have hL0 : W.heap.size < wq4.heap.size := by omega); (try have hL1 : W.heap.size + 1 < wq4.heap.size := by omega); (try have hL2 : b3 < wq4.heap.size := by omega); (try have hL3 : b4 < wq4.heap.size := by omega); (try simp at hn6); (try have n4_0 : ¬ (W.heap.size = b4) := by omega); (try have m4_0 : ¬ (b4 = W.heap.size) := by omega); (try have n4_1 : ¬ (W.heap.size + 1 = b4) := by omega); (try have m4_1 : ¬ (b4 = W.heap.size + 1) := by omega); (try have n4_2 : ¬ (b3 = b4) := by omega); (try have m4_2 : ¬ (b4 = b3) := by omega); clear hn4 hn5)
      | (go_at_call 33; refine (turnsR _ _).mono ?_; rintro e w33 ⟨rfl, hb⟩; obtain ⟨hgc, hgf, hgb, hg1, hg2, hg3, hg4, hg5, hg6, hg7, hg8⟩ := grown_facts hb; have hsz := hb.size; (try simp at hsz); (try have hL0 : W.heap.size < w33.heap.size := by omega); (try have hL1 : W.heap.size + 1 < w33.heap.size := by omega); (try have hL2 : b3 < w33.heap.size := by omega); (try have hL3 : b4 < w33.heap.size := by omega))
      | (go_at_call 25; refine (applyR _ _ _ _ _ _ _).mono ?_; rintro e w25 ⟨rfl, hb⟩; obtain ⟨hgc, hgf, hgb, hg1, hg2, hg3, hg4, hg5, hg6, hg7, hg8⟩ := grown_facts hb; have hsz := hb.size; (try simp at hsz); (try have hL0 : W.heap.size < w25.heap.size := by omega); (try have hL1 : W.heap.size + 1 < w25.heap.size := by omega); (try have hL2 : b3 < w25.heap.size := by omega); (try have hL3 : b4 < w25.heap.size := by omega)))
  all_goals (refine ret_gives ?_ ?_ rfl; exact (by (repeat' (first | with_reducible exact since_refl _ | with_reducible refine since_set ?_ ?_ _ | with_reducible refine since_alloc ?_ _ | with_reducible refine since_trans (by with_reducible assumption) ?_ | with_reducible refine since_drew ?_)); all_goals (dsimp only; omega)); simp [results, Try.results29, go_sem, V.turnI, V.invX, V.invY, V.neg, *] <;> omega)
set_option maxHeartbeats 2000000 in
theorem inverse (x y t : Int) (m : Bool) (hx : R64 x) (hy : R64 y) (W : World) :
    Calls Try.prog 28 #[.agg #[.int .i64 x, .int .i64 y, .int .i64 t, .bool m]] W (Gives W (.agg #[.int .i64 (V.invX x y t m), .int .i64 (V.invY x y t m), .int .i64 (V.turnI t m), .bool m])) := by
  cases m
  all_goals have hB0 : W.heap.size < W.heap.size + 1 + 1 := by omega
  all_goals have hB1 : W.heap.size + 1 < W.heap.size + 1 + 1 := by omega
  all_goals go_enter Try.func28, Try.ntmps28
  all_goals go_wp2_with (first
      | (refine wp_draw (id := 3) 6 [3] (fun d => NewVar (.cells #[.int .i64 0, .int .i64 0, .int .i64 0, .bool false] 34)) (fun _ _ _ t h => newVar_kept t h) (by kernel_rfl) (by kernel_rfl) ?_; simp only [List.take_succ_cons, List.take_zero, List.drop_succ_cons, List.drop_zero]; (repeat (refine calm_step (fun K hK => ?_); go_simp; first | (refine hK _ _ ?_; clear hK K) | (apply Exists.intro; refine ⟨fun t => ?_, hK _ _ ?_⟩; (first | (go_at_call 30; exact (turns _ _ _ _ _))); clear hK K) | (refine ⟨fun t => born_alloc, fun v => hK _ _ ?_⟩; clear hK K))); refine calm_nil ?_; intro wq3 hq; obtain ⟨b3, rfl, hb, hn1, hn2, hn3, hn4, hn5, hn6⟩ := newborn_one hq rfl; clear hq; obtain ⟨hgc, hgf, hgb, hg1, hg2, hg3, hg4, hg5, hg6, hg7, hg8⟩ := grown_facts hb; have hsz := hb.size; (try simp at hsz); (try have hL0 : W.heap.size < wq3.heap.size := by omega); (try have hL1 : W.heap.size + 1 < wq3.heap.size := by omega); (try have hL2 : b3 < wq3.heap.size := by omega); (try simp at hn6); (try have n3_0 : ¬ (W.heap.size = b3) := by omega); (try have m3_0 : ¬ (b3 = W.heap.size) := by omega); (try have n3_1 : ¬ (W.heap.size + 1 = b3) := by omega); (try have m3_1 : ¬ (b3 = W.heap.size + 1) := by omega); clear hn4 hn5)
      | (refine wp_calm 16 5 [] (fun _ _ _ => True) (fun _ _ _ _ h => h) ?_; simp only [List.take_succ_cons, List.take_zero, List.drop_succ_cons, List.drop_zero]; (repeat (refine calm_step (fun K hK => ?_); go_simp; first | (refine hK _ _ ?_; clear hK K) | (apply Exists.intro; refine ⟨fun t => ?_, hK _ _ ?_⟩; (first | (go_at_call 30; exact (turns _ _ _ _ _))); clear hK K))); refine calm_nil ?_; intro wq5 hq; have hb := newborn_none hq; clear hq; obtain ⟨hgc, hgf, hgb, hg1, hg2, hg3, hg4, hg5, hg6, hg7, hg8⟩ := grown_facts hb; have hsz := hb.size; (try simp at hsz); (try have hL0 : W.heap.size < wq5.heap.size := by omega); (try have hL1 : W.heap.size + 1 < wq5.heap.size := by omega); (try have hL2 : b3 < wq5.heap.size := by omega))
      | (refine wp_calm 21 7 [] (fun _ _ _ => True) (fun _ _ _ _ h => h) ?_; simp only [List.take_succ_cons, List.take_zero, List.drop_succ_cons, List.drop_zero]; (repeat (refine calm_step (fun K hK => ?_); go_simp; first | (refine hK _ _ ?_; clear hK K) | (apply Exists.intro; refine ⟨fun t => ?_, hK _ _ ?_⟩; (first | (go_at_call 24; exact (apply _ _ _ _ _ _ (by first | with_reducible assumption | exact r64_wrap _ | exact r64_small _ (by omega) | exact V.r_add _ _ | exact V.r_sub _ _ | exact V.r_neg _ | exact V.r_applyX _ _ _ _ _ | exact V.r_applyY _ _ _ _ _ | exact V.r_invX _ _ _ _ | exact V.r_invY _ _ _ _ | exact V.r_turnI _ _ | exact V.r_turnC _ _ _) (by first | with_reducible assumption | exact r64_wrap _ | exact r64_small _ (by omega) | exact V.r_add _ _ | exact V.r_sub _ _ | exact V.r_neg _ | exact V.r_applyX _ _ _ _ _ | exact V.r_applyY _ _ _ _ _ | exact V.r_invX _ _ _ _ | exact V.r_invY _ _ _ _ | exact V.r_turnI _ _ | exact V.r_turnC _ _ _) _)) | (go_at_call 13; exact (sub _ _ _ _ _))); clear hK K))); refine calm_nil ?_; intro wq6 hq; have hb := newborn_none hq; clear hq; obtain ⟨hgc, hgf, hgb, hg1, hg2, hg3, hg4, hg5, hg6, hg7, hg8⟩ := grown_facts hb; have hsz := hb.size; (try simp at hsz); (try have hL0 : W.heap.size < wq6.heap.size := by omega); (try have hL1 : W.heap.size + 1 < wq6.heap.size := by omega); (try have hL2 : b3 < wq6.heap.size := by omega))
      | (go_at_call 30; refine (turns _ _ _ _ _).mono ?_; rintro e w30 ⟨rfl, hb⟩; obtain ⟨hgc, hgf, hgb, hg1, hg2, hg3, hg4, hg5, hg6, hg7, hg8⟩ := grown_facts hb; have hsz := hb.size; (try simp at hsz); (try have hL0 : W.heap.size < w30.heap.size := by omega); (try have hL1 : W.heap.size + 1 < w30.heap.size := by omega); (try have hL2 : b3 < w30.heap.size := by omega))
      | (go_at_call 24; refine (apply _ _ _ _ _ _ (by first | with_reducible assumption | exact r64_wrap _ | exact r64_small _ (by omega) | exact V.r_add _ _ | exact V.r_sub _ _ | exact V.r_neg _ | exact V.r_applyX _ _ _ _ _ | exact V.r_applyY _ _ _ _ _ | exact V.r_invX _ _ _ _ | exact V.r_invY _ _ _ _ | exact V.r_turnI _ _ | exact V.r_turnC _ _ _) (by first | with_reducible assumption | exact r64_wrap _ | exact r64_small _ (by omega) | exact V.r_add _ _ | exact V.r_sub _ _ | exact V.r_neg _ | exact V.r_applyX _ _ _ _ _ | exact V.r_applyY _ _ _ _ _ | exact V.r_invX _ _ _ _ | exact V.r_invY _ _ _ _ | exact V.r_turnI _ _ | exact V.r_turnC _ _ _) _).mono ?_; rintro e w24 ⟨rfl, hb⟩; obtain ⟨hgc, hgf, hgb, hg1, hg2, hg3, hg4, hg5, hg6, hg7, hg8⟩ := grown_facts hb; have hsz := hb.size; (try simp at hsz); (try have hL0 : W.heap.size < w24.heap.size := by omega); (try have hL1 : W.heap.size + 1 < w24.heap.size := by omega); (try have hL2 : b3 < w24.heap.size := by omega))
      | (go_at_call 13; refine (sub _ _ _ _ _).mono ?_; rintro e w13 ⟨rfl, hb⟩; obtain ⟨hgc, hgf, hgb, hg1, hg2, hg3, hg4, hg5, hg6, hg7, hg8⟩ := grown_facts hb; have hsz := hb.size; (try simp at hsz); (try have hL0 : W.heap.size < w13.heap.size := by omega); (try have hL1 : W.heap.size + 1 < w13.heap.size := by omega); (try have hL2 : b3 < w13.heap.size := by omega)))
  all_goals (refine ret_gives ?_ ?_ rfl; exact (by (repeat' (first | with_reducible exact since_refl _ | with_reducible refine since_set ?_ ?_ _ | with_reducible refine since_alloc ?_ _ | with_reducible refine since_trans (by with_reducible assumption) ?_ | with_reducible refine since_drew ?_)); all_goals (dsimp only; omega)); first | (simp [results, Try.results28, go_sem, V.turnI, V.invX, V.invY, V.sub_zero, *]; done) | (simp [results, Try.results28, go_sem, V.turnI, V.invX, V.invY, V.applyX, V.applyY, V.mir, V.turnX, V.turnY, V.add, V.neg, wrap64, *]))
set_option maxHeartbeats 400000 in
theorem at_ (x y : Int) (W : World) :
    Calls Try.prog 23 #[.int .i64 x, .int .i64 y] W (Gives W (.agg #[.int .i64 x, .int .i64 y])) := by
  all_goals have hB0 : W.heap.size < W.heap.size + 1 := by omega
  all_goals go_enter Try.func23, Try.ntmps23
  all_goals go_wp2_with (fail)
  all_goals (refine ret_gives ?_ ?_ rfl; exact (by (repeat' (first | with_reducible exact since_refl _ | with_reducible refine since_set ?_ ?_ _ | with_reducible refine since_alloc ?_ _ | with_reducible refine since_trans (by with_reducible assumption) ?_ | with_reducible refine since_drew ?_)); all_goals (dsimp only; omega)); simp [results, Try.results23, go_sem])
end Go.Proofs.Ytofnohnjmakjmaa
