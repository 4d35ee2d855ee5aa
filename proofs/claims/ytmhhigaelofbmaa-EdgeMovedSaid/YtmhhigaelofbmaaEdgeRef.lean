/-
  No statement is proved in this text. It holds what the functions of the reference of chapter 6 return.
-/
import Derived.Test.YtmhhigaelofbmaaVec
import Derived.Test.YtmhhigaelofbmaaPlainEdge
import Derived.Test.YtmhhigaelofbmaaDraw
namespace Go.Proofs.Ytmhhigaelofbmaa
open Go.RowKit
set_option linter.unusedSimpArgs false
set_option linter.unusedVariables false
attribute [local go_sem] and3

theorem eql_ptR (a b c d : Int) (w : World) : (binOp .eql 24 (.agg #[.int .i64 a, .int .i64 b]) (.agg #[.int .i64 c, .int .i64 d])).run Try.prog w = .ok (.bool (decide (a = c) && decide (b = d))) w := by
  by_cases h1 : a = c <;> by_cases h2 : b = d <;> simp [go_sem, h1, h2]
theorem neq_ptR (a b c d : Int) (w : World) : (binOp .neq 24 (.agg #[.int .i64 a, .int .i64 b]) (.agg #[.int .i64 c, .int .i64 d])).run Try.prog w = .ok (.bool !(decide (a = c) && decide (b = d))) w := by
  by_cases h1 : a = c <;> by_cases h2 : b = d <;> simp [go_sem, h1, h2]
attribute [local go_sem ↓] eql_ptR neq_ptR
set_option maxHeartbeats 400000 in
theorem turnR (k : Int) (W : World) :
    Calls Try.prog 46 #[.int .i64 k] W (Gives W (.int .i64 (E.other k))) := by
  all_goals go_enter Try.func46, Try.ntmps46
  all_goals go_wp2_with (fail)
  all_goals (go_ret; exact gives_of (by (repeat' (first | with_reducible exact since_refl _ | with_reducible refine since_set ?_ ?_ _ | with_reducible refine since_alloc ?_ _ | with_reducible refine since_trans (by with_reducible assumption) ?_ | with_reducible refine since_drew ?_)); all_goals (dsimp only; omega)) (by refine int_ext ?_; simp_all [E.other]))
set_option maxHeartbeats 400000 in
theorem boxR (k ax ay bx by' cx cy : Int) (W : World) :
    Calls Try.prog 30 #[.agg #[.int .i64 k, .int .i64 ax, .int .i64 ay, .int .i64 bx, .int .i64 by', .int .i64 cx, .int .i64 cy]] W (Gives W (.agg #[.int .i64 (E.mn ax bx), .int .i64 (E.mn ay by'), .int .i64 (E.mx ax bx), .int .i64 (E.mx ay by')])) := by
  all_goals have hB0 : W.heap.size < W.heap.size + 1 + 1 := by omega
  all_goals have hB1 : W.heap.size + 1 < W.heap.size + 1 + 1 := by omega
  all_goals go_enter Try.func30, Try.ntmps30
  all_goals go_wp2_with (fail)
  all_goals (refine ret_gives ?_ ?_ rfl; exact (by (repeat' (first | with_reducible exact since_refl _ | with_reducible refine since_set ?_ ?_ _ | with_reducible refine since_alloc ?_ _ | with_reducible refine since_trans (by with_reducible assumption) ?_ | with_reducible refine since_drew ?_)); all_goals (dsimp only; omega)); simp [results, Try.results30, go_sem, E.mn, E.mx] <;> omega)
set_option maxHeartbeats 400000 in
theorem reverseR (k ax ay bx by' cx cy : Int) (W : World) :
    Calls Try.prog 27 #[.agg #[.int .i64 k, .int .i64 ax, .int .i64 ay, .int .i64 bx, .int .i64 by', .int .i64 cx, .int .i64 cy]] W (Gives W (.agg #[.int .i64 (E.other k), .int .i64 bx, .int .i64 by', .int .i64 ax, .int .i64 ay, .int .i64 cx, .int .i64 cy])) := by
  all_goals have hB0 : W.heap.size < W.heap.size + 1 + 1 := by omega
  all_goals have hB1 : W.heap.size + 1 < W.heap.size + 1 + 1 := by omega
  all_goals go_enter Try.func27, Try.ntmps27
  all_goals go_wp2_with (first
      | ((with_reducible refine wp_draw (id := 1) 10 [] (fun _ _ _ => True) (kept_true) ?_ ?_ ?_ ?_); (focus (intro c d v a w h; cases d <;> exact h)); (focus kernel_rfl); (focus kernel_rfl); simp only [List.take_succ_cons, List.take_zero, List.drop_succ_cons, List.drop_zero]; (repeat (with_reducible refine calm_step (fun K hK => ?_); go_simp; first | (with_reducible refine hK _ _ ?_; clear hK K) | (apply Exists.intro; with_reducible refine ⟨fun t => ?_, hK _ _ ?_⟩; (first | (go_at_call 46; with_reducible exact (turnR _ _))); clear hK K))); with_reducible refine calm_nil ?_; intro wq1 hq; have hb := newborn_none hq; clear hq; obtain ⟨hgc, hgf, hgb, hg1, hg2, hg3, hg4, hg5, hg6, hg7, hg8⟩ := grown_facts hb; have hsz := hb.size; (try simp at hsz); (try have hL0 : W.heap.size < wq1.heap.size := by omega); (try have hL1 : W.heap.size + 1 < wq1.heap.size := by omega)))
  all_goals (refine ret_gives ?_ ?_ rfl; exact (by (repeat' (first | with_reducible exact since_refl _ | with_reducible refine since_set ?_ ?_ _ | with_reducible refine since_alloc ?_ _ | with_reducible refine since_trans (by with_reducible assumption) ?_ | with_reducible refine since_drew ?_)); all_goals (dsimp only; omega)); simp [results, Try.results27, go_sem, *])
set_option maxHeartbeats 2000000 in
theorem moveR (k ax ay bx by' cx cy x y t : Int) (m : Bool) (W : World) :
    Calls Try.prog 29 #[.agg #[.int .i64 k, .int .i64 ax, .int .i64 ay, .int .i64 bx, .int .i64 by', .int .i64 cx, .int .i64 cy], .agg #[.int .i64 x, .int .i64 y, .int .i64 t, .bool m]] W (Gives W (.agg #[.int .i64 (E.moveC k m), .int .i64 (V.applyX x t m ax ay), .int .i64 (V.applyY y t m ax ay), .int .i64 (V.applyX x t m bx by'), .int .i64 (V.applyY y t m bx by'), .int .i64 ((if k = 1 then cx else V.applyX x t m cx cy)), .int .i64 ((if k = 1 then cy else V.applyY y t m cx cy))])) := by
  cases m
  all_goals by_cases h1 : k = 1
  all_goals (try have e1 : (k == 1) = true := by simpa using h1)
  all_goals (try have e1 : (k == 1) = false := by simpa using h1)
  all_goals have hB0 : W.heap.size < W.heap.size + 1 + 1 + 1 := by omega
  all_goals have hB1 : W.heap.size + 1 < W.heap.size + 1 + 1 + 1 := by omega
  all_goals have hB2 : W.heap.size + 1 + 1 < W.heap.size + 1 + 1 + 1 := by omega
  all_goals go_enter Try.func29, Try.ntmps29
  all_goals go_wp2_with (first
      | ((with_reducible refine wp_draw (id := 1) 14 [5] (fun d => NewVar (.cells #[.int .i64 0, .int .i64 0, .int .i64 0, .int .i64 0, .int .i64 0, .int .i64 0, .int .i64 0] 26)) (kept_new _) ?_ ?_ ?_ ?_); (focus (intro c d v a w h; cases d <;> exact h)); (focus kernel_rfl); (focus kernel_rfl); simp only [List.take_succ_cons, List.take_zero, List.drop_succ_cons, List.drop_zero]; (repeat (with_reducible refine calm_step (fun K hK => ?_); go_simp; first | (with_reducible refine hK _ _ ?_; clear hK K) | (apply Exists.intro; with_reducible refine ⟨fun t => ?_, hK _ _ ?_⟩; (first | (go_at_call 31; with_reducible exact (applyR _ _ _ _ _ _ _))); clear hK K) | (refine ⟨fun t => born_alloc, fun v => ?_⟩; with_reducible refine hK _ _ ?_; clear hK K))); with_reducible refine calm_nil ?_; intro wq1 hq; obtain ⟨b5, rfl, hb, hn1, hn2, hn3, hn4, hn5, hn6⟩ := newborn_one hq rfl; clear hq; obtain ⟨hgc, hgf, hgb, hg1, hg2, hg3, hg4, hg5, hg6, hg7, hg8⟩ := grown_facts hb; have hsz := hb.size; (try simp at hsz); (try have hL0 : W.heap.size < wq1.heap.size := by omega); (try have hL1 : W.heap.size + 1 < wq1.heap.size := by omega); (try have hL2 : W.heap.size + 1 + 1 < wq1.heap.size := by omega); (try have hL3 : b5 < wq1.heap.size := by omega); (try simp at hn6); (try have n5_0 : ¬ (W.heap.size = b5) := by omega); (try have m5_0 : ¬ (b5 = W.heap.size) := by omega); (try have n5_1 : ¬ (W.heap.size + 1 = b5) := by omega); (try have m5_1 : ¬ (b5 = W.heap.size + 1) := by omega); (try have n5_2 : ¬ (W.heap.size + 1 + 1 = b5) := by omega); (try have m5_2 : ¬ (b5 = W.heap.size + 1 + 1) := by omega); clear hn4 hn5)
      | ((with_reducible refine wp_calm 22 5 [] (fun _ _ _ => True) (kept_true) ?_); simp only [List.take_succ_cons, List.take_zero, List.drop_succ_cons, List.drop_zero]; (repeat (with_reducible refine calm_step (fun K hK => ?_); go_simp; first | (with_reducible refine hK _ _ ?_; clear hK K) | (apply Exists.intro; with_reducible refine ⟨fun t => ?_, hK _ _ ?_⟩; (first | (go_at_call 31; with_reducible exact (applyR _ _ _ _ _ _ _))); clear hK K))); with_reducible refine calm_nil ?_; intro wq3 hq; have hb := newborn_none hq; clear hq; obtain ⟨hgc, hgf, hgb, hg1, hg2, hg3, hg4, hg5, hg6, hg7, hg8⟩ := grown_facts hb; have hsz := hb.size; (try simp at hsz); (try have hL0 : W.heap.size < wq3.heap.size := by omega); (try have hL1 : W.heap.size + 1 < wq3.heap.size := by omega); (try have hL2 : W.heap.size + 1 + 1 < wq3.heap.size := by omega); (try have hL3 : b5 < wq3.heap.size := by omega))
      | ((with_reducible refine wp_calm 29 4 [] (fun _ _ _ => True) (kept_true) ?_); simp only [List.take_succ_cons, List.take_zero, List.drop_succ_cons, List.drop_zero]; (repeat (with_reducible refine calm_step (fun K hK => ?_); go_simp; first | (with_reducible refine hK _ _ ?_; clear hK K) | (apply Exists.intro; with_reducible refine ⟨fun t => ?_, hK _ _ ?_⟩; (first | (go_at_call 46; with_reducible exact (turnR _ _))); clear hK K))); with_reducible refine calm_nil ?_; intro wq5 hq; have hb := newborn_none hq; clear hq; obtain ⟨hgc, hgf, hgb, hg1, hg2, hg3, hg4, hg5, hg6, hg7, hg8⟩ := grown_facts hb; have hsz := hb.size; (try simp at hsz); (try have hL0 : W.heap.size < wq5.heap.size := by omega); (try have hL1 : W.heap.size + 1 < wq5.heap.size := by omega); (try have hL2 : W.heap.size + 1 + 1 < wq5.heap.size := by omega); (try have hL3 : b5 < wq5.heap.size := by omega))
      | (go_at_call 31; with_reducible refine (applyR _ _ _ _ _ _ _).mono ?_; rintro e w31 ⟨rfl, hb⟩; obtain ⟨hgc, hgf, hgb, hg1, hg2, hg3, hg4, hg5, hg6, hg7, hg8⟩ := grown_facts hb; have hsz := hb.size; (try simp at hsz); (try have hL0 : W.heap.size < w31.heap.size := by omega); (try have hL1 : W.heap.size + 1 < w31.heap.size := by omega); (try have hL2 : W.heap.size + 1 + 1 < w31.heap.size := by omega); (try have hL3 : b5 < w31.heap.size := by omega))
      | (go_at_call 46; with_reducible refine (turnR _ _).mono ?_; rintro e w46 ⟨rfl, hb⟩; obtain ⟨hgc, hgf, hgb, hg1, hg2, hg3, hg4, hg5, hg6, hg7, hg8⟩ := grown_facts hb; have hsz := hb.size; (try simp at hsz); (try have hL0 : W.heap.size < w46.heap.size := by omega); (try have hL1 : W.heap.size + 1 < w46.heap.size := by omega); (try have hL2 : W.heap.size + 1 + 1 < w46.heap.size := by omega); (try have hL3 : b5 < w46.heap.size := by omega)))
  all_goals (refine ret_gives ?_ ?_ rfl; exact (by (repeat' (first | with_reducible exact since_refl _ | with_reducible refine since_set ?_ ?_ _ | with_reducible refine since_alloc ?_ _ | with_reducible refine since_trans (by with_reducible assumption) ?_ | with_reducible refine since_drew ?_)); all_goals (dsimp only; omega)); simp [results, Try.results29, go_sem, E.moveC, *])
end Go.Proofs.Ytmhhigaelofbmaa
