/-
  No statement is proved in this text. It holds what functions return.
-/
import Derived.Test.YtoojlpcimogehaaProg
import Derived.Test.YtoojlpcimogehaaK21h
namespace Go.Proofs.Ytoojlpcimogehaa
open Go.RowKit
set_option linter.unusedVariables false
set_option linter.unusedSimpArgs false
theorem bifP {n : Nat} {c : Bool} {x y : TCond × TDraw} (h1 : CondOk n x.1 ∧ DrawOk x.2) (h2 : CondOk n y.1 ∧ DrawOk y.2) : CondOk n (bif c then x else y).1 ∧ DrawOk (bif c then x else y).2 := by cases c <;> assumption
theorem condOk_nil (o : Int) (t : ByteArray) (n : Int) (r : TRect) : ∀ k, CondOk k (.mk o t n r [])
  | 0 => trivial
  | k + 1 => ⟨by show ((([] : List TCond).length : Int)) ≤ _; simp, fun i => condOk_default k⟩
theorem lsOk_app {n : Nat} {l : List TCond} {c : TCond} (h : ∀ i, CondOk n (l.getD i default)) (hc : CondOk n c) : ∀ i, CondOk n ((l ++ [c]).getD i default) := by
  intro i
  by_cases hi : i < l.length
  · have := h i
    rw [List.getD_eq_getElem?_getD] at this ⊢
    rwa [List.getElem?_append_left hi]
  · rw [List.getD_eq_getElem?_getD, List.getElem?_append_right (by omega)]
    by_cases h0 : i - l.length = 0
    · rw [h0]; simpa using hc
    · obtain ⟨k, hk⟩ := Nat.exists_eq_succ_of_ne_zero h0
      rw [hk]
      simpa using condOk_default n
theorem condOk_list {n : Nat} {o : Int} {t : ByteArray} {m : Int} {r : TRect} {l : List TCond} (h : (l.length : Int) ≤ 9223372036854775807) (hl : ∀ i, CondOk n (l.getD i default)) : CondOk (n + 1) (.mk o t m r l) := ⟨h, hl⟩
theorem condOk_one {n : Nat} {o : Int} {t : ByteArray} {m : Int} {r : TRect} {c : TCond} (h : CondOk n c) : CondOk (n + 1) (.mk o t m r [c]) :=
  condOk_list (by simp) (lsOk_app (l := []) (fun i => by simpa using condOk_default n) h)
theorem cond0_ok (n : Nat) (d : TDraw) (deep : Int) (hd : DrawOk d) : CondOk n (Fcond0 d deep).1 ∧ DrawOk (Fcond0 d deep).2 := by
  unfold Fcond0
  repeat (first | with_reducible refine bifP ?_ ?_ | exact ⟨condOk_nil _ _ _ _ n, (by repeat (first | assumption | exact draw_new (by assumption) | refine next_ok ?_ | refine near_ok ?_ | refine draw_bif ?_ ?_ | refine hKd _ _ ?_ | refine cond_dk _ ?_))⟩)
theorem draw_dflt : DrawOk default := ⟨Int.le_refl 0, Int.le_refl 0, by show ((([] : List Int).length : Int)) ≤ _; simp⟩
theorem condS_l (n : Nat) (K : TDraw → Int → TCond × TDraw) (hK : ∀ d deep, DrawOk d → CondOk n (K d deep).1 ∧ DrawOk (K d deep).2) (d : TDraw) (deep : Int) :
    ∀ (m : Nat) (l : List TCond) (v : TDraw) (i : Int), DrawOk v → (∀ j, CondOk n (l.getD j default)) → (l.length : Int) + m ≤ 1000000 → CondOk (n + 1) (FcondS_l0 K d deep m l v i).1 ∧ DrawOk (FcondS_l0 K d deep m l v i).2 := by
  intro m
  induction m with
  | zero => intro l v i _ _ _; exact ⟨condOk_default (n + 1), draw_dflt⟩
  | succ m ih =>
      intro l v i hv hl hm
      unfold FcondS_l0
      refine bifP ?_ ?_
      · exact ih _ _ _ (hK _ _ hv).2 (lsOk_app hl (hK _ _ hv).1) (by simp only [List.length_append, List.length_cons, List.length_nil]; omega)
      · exact ⟨condOk_list (by omega) hl, hv⟩
theorem condS_ok (n : Nat) (K : TDraw → Int → TCond × TDraw) (hK : ∀ d deep, DrawOk d → CondOk n (K d deep).1 ∧ DrawOk (K d deep).2) (d : TDraw) (deep : Int) (hd : DrawOk d) : CondOk (n + 1) (FcondS K d deep).1 ∧ DrawOk (FcondS K d deep).2 := by
  unfold FcondS
  repeat (first | with_reducible refine bifP ?_ ?_ | exact ⟨condOk_nil _ _ _ _ _, (by repeat (first | assumption | exact draw_new (by assumption) | refine next_ok ?_ | refine near_ok ?_ | refine draw_bif ?_ ?_ | refine hKd _ _ ?_ | refine cond_dk _ ?_))⟩ | exact ⟨condOk_one (hK _ _ (next_ok hd)).1, (hK _ _ (next_ok hd)).2⟩)
  · refine condS_l n K hK d deep _ [] _ 0 (next_ok (next_ok hd)) (fun j => by simpa using condOk_default n) ?_
    have b1 := next_b (FNext d 10).2 3 (by decide) (by decide)
    simp only [W64_def, List.length_nil]
    omega
  · exact ⟨condOk_nil _ _ _ _ _, next_ok hd⟩
def Fcond : Nat → TDraw → Int → TCond × TDraw
  | 0, d, deep => Fcond0 d deep
  | n + 1, d, deep => bif decide (deep = 0) then Fcond0 d deep else FcondS (Fcond n) d deep
theorem cond_ok : ∀ (n : Nat) (d : TDraw) (deep : Int), DrawOk d → CondOk n (Fcond n d deep).1 ∧ DrawOk (Fcond n d deep).2
  | 0, d, deep, hd => cond0_ok 0 d deep hd
  | n + 1, d, deep, hd => bifP (cond0_ok (n + 1) d deep hd) (condS_ok n (Fcond n) (cond_ok n) d deep hd)
theorem cond_dk (n : Nat) {d : TDraw} {deep : Int} (h : DrawOk d) : DrawOk (Fcond n d deep).2 := (cond_ok n d deep h).2
theorem pcond : ∀ (n : Nat) (d : TDraw) (deep : Int), DrawOk d → (0 ≤ deep ∧ deep ≤ (n : Int) ∧ deep ≤ 1000) → Wr Try.prog 38 1000 [.one (.ptr 1000 0), .one (.i deep)] (.cells (TDraw.c d) 83) (.av (.agg ((condC (LL (n))) ((Fcond n d deep).1)))) (.cells (TDraw.c ((Fcond n d deep).2)) 83)
  | 0, d, deep, hd, h => pcond0 0 d deep hd (by omega)
  | n + 1, d, deep, hd, h => by
      by_cases h0 : deep = 0
      · have e : Fcond (n + 1) d deep = Fcond0 d deep := by show (bif decide (deep = 0) then _ else _) = _; rw [decide_eq_true h0]; rfl
        rw [e]; exact pcond0 (n + 1) d deep hd h0
      · have e : Fcond (n + 1) d deep = FcondS (Fcond n) d deep := by show (bif decide (deep = 0) then _ else _) = _; rw [decide_eq_false h0]; rfl
        rw [e]; exact pcondS n (Fcond n) d deep (fun d deep hd hn => pcond n d deep hd hn) (fun d deep hd => cond_dk n hd) hd (by omega)
theorem next_deep (d : TDraw) (n : Int) (k : Nat) (h0 : 0 < n) (h1 : n ≤ (k : Int) + 1) (h2 : (k : Int) ≤ 1000) : 0 ≤ (FNext d n).1 ∧ (FNext d n).1 ≤ (k : Int) ∧ (FNext d n).1 ≤ 1000 := by
  have := next_b d n h0 (by omega)
  omega
theorem nm_ok (x : UInt8) : ((({ data := #[114] } : ByteArray)) ++ ByteArray.empty.push x).size ≤ 140737488355328 := by
  rw [ByteArray.size_append]
  show 1 + 1 ≤ 140737488355328
  omega
def wCond_0 (l : (List Int)) : FuncId × List Av × Ef := (38, ([.one (.ptr 1000 0), .one (.i 3)] : List Av).map (renA 1000 5), wrI 5 (.cells [lst 1 (fun x => [.i x]) l, .i 0] 83) (.av (.agg ((condC (LL (3))) ((Fcond 3 (TDraw.mk l 0) 3).1)))) (.cells (TDraw.c ((Fcond 3 (TDraw.mk l 0) 3).2)) 83))
def FCond (l : (List Int)) : TCond := (Fcond 3 (TDraw.mk l 0) 3).1
set_option maxRecDepth 100000 in
theorem pCond  (l : (List Int)) (hl : (l.length : Int) ≤ 9223372036854775807) : Pure Try.prog 20 [.one (lst 1 (fun x => [.i x]) l)] (.av (.agg ((condC (LL (3))) (FCond l)))) := by
  refine pure_of_awF Try.func20 rfl (by kernel_rfl) (by kernel_rfl) fun W0 M0 => ?_
  have hd0 := draw_new hl
  refine aw_seq ?_
  refine aw_region eqok [] [] [] [0, 2] [2] [] ⟨[(0, .av (.one (lst 1 (fun x => [.i x]) l))), (2, tP 2 0)], [(2, .cells [.i 0, .s (⟨#[]⟩), .i 0, .i 0, .i 0, .i 0, .i 0, .val (.slice none 0 0)] 58)]⟩ .nil (by kernel_rfl) .nil ?_
  refine ath_n ?_
  refine aw_seq ?_
  refine aw_region eqok [] [] [(6, (wCond_0 l))] [2] [2] [Same ((wCond_0 l)).2.1, SameB (.cells [lst 1 (fun x => [.i x]) l, .i 0] 83)] ⟨[(2, tP 2 0)], [(2, .cells ((condC (LL (3))) ((Fcond 3 (TDraw.mk l 0) 3).1)) 58)]⟩ (.cons (callOk_wr (fun _ _ => by kernel_rfl) (by kernel_rfl) (by kernel_rfl) (pcond 3 (TDraw.mk l 0) 3 (by repeat (first | assumption | exact draw_new (by assumption) | refine next_ok ?_ | refine near_ok ?_ | refine draw_bif ?_ ?_ | refine hKd _ _ ?_ | refine cond_dk _ ?_)) (by first | exact next_deep _ _ _ (by decide) (by decide) (by decide) | decide))) .nil) (by kernel_rfl) (.cons rfl (.cons rfl .nil)) ?_
  refine ath_n ?_
  refine aw_ret ?_
  exact ⟨_, Cv.refl _, .inl rfl, .av (.agg ((condC (LL (3))) ((Fcond 3 (TDraw.mk l 0) 3).1))), by kernel_rfl, tve_eq (by rfl)⟩
end Go.Proofs.Ytoojlpcimogehaa
