/-
  No statement is proved in this text. It holds what functions return.
-/
import Derived.Test.YtgmhnkoifdpemaaProg
import Derived.Test.YtgmhnkoifdpemaaK9c
import Derived.Test.YtgmhnkoifdpemaaSq
namespace Go.Proofs.Ytgmhnkoifdpemaa
open Go.RowKit
set_option linter.unusedVariables false
set_option linter.unusedSimpArgs false
theorem sqrt_now (x : Nat) : CallOk Try.prog 67 [.one (.val (.float .f64 x))] (.val [FloatKind.f64.format.sqrt x = some (fSqrt x)] (.av (.one (.val (.float .f64 (fSqrt x)))))) := by
  refine .inr ⟨_, _, rfl, fun M σ w args himm hc hargs => ?_⟩
  cases hargs with
  | cons ha ht =>
    cases ht
    obtain ⟨rfl, _⟩ := ha
    have h := hc.head
    refine ⟨.float .f64 (fSqrt x), ?_, rfl, rfl⟩
    have hf : Try.prog.funcs[67]? = some Try.f67 := Try.func67
    have h1 : (Try.f67.name == "runtime.NumGoroutine") = false := by decide
    have h2 : Try.f67.body.isNone = true := rfl
    have h3 : Extern.findNext Try.f67 = none := by kernel_rfl
    have h4 : Extern.find Try.f67 = some Extern.MathSqrt.sqrt := by kernel_rfl
    have e : Extern.MathSqrt.sqrt #[Value.float .f64 x] = (match FloatKind.f64.format.sqrt x with | some r => pure (Value.float .f64 r) | none => do pure (.float .f64 (← choose (.nanBits .f64 x x)))) := rfl
    rw [h] at e
    simp only [callFunc, Sem.run_bind, run_program, Result.andThen_ok, hf, h1, h2, h3, h4, run_mark, Bool.false_eq_true, if_false, if_true, e, Sem.run_pure]
def FmathSqrt (x : Nat) : Nat := fSqrt x
def cmathSqrt (x : Nat) : FuncId × List Av × Ef := (33, [.one (.val (.float .f64 x))], .val [] (.av (.one (.val (.float .f64 (FmathSqrt x))))))
set_option maxRecDepth 100000 in
theorem pmathSqrt (x : Nat) (hx : FloatKind.f64.format.sqrt x = some (fSqrt x)) : Pure Try.prog 33 (cmathSqrt x).2.1 (.av (.one (.val (.float .f64 (FmathSqrt x))))) := by
  refine pure_of_awF Try.func33 rfl (by kernel_rfl) (by kernel_rfl) fun W0 M0 => ?_
  refine aw_seq ?_
  refine aw_region eqok [] [] [] [0] [] [] ⟨[(0, .av (.one (.val (.float .f64 x))))], []⟩ .nil (by kernel_rfl) .nil ?_
  refine ath_n ?_
  refine aw_seq ?_
  refine aw_region eqok [] [] [(4, (67, [.one (.val (.float .f64 x))], .val [FloatKind.f64.format.sqrt x = some (fSqrt x)] (.av (.one (.val (.float .f64 (fSqrt x)))))))] [2] [] [Same [.one (.val (.float .f64 x))], FloatKind.f64.format.sqrt x = some (fSqrt x)] ⟨[(2, .av (.one (.val (.float .f64 (fSqrt x)))))], []⟩ (.cons (sqrt_now x) .nil) (by kernel_rfl) (.cons rfl (.cons (by assumption) .nil)) ?_
  refine ath_n ?_
  refine aw_ret ?_
  exact ⟨_, Cv.refl _, .inl rfl, .av (.one (.val (.float .f64 (fSqrt x)))), by kernel_rfl, tve_eq (by rfl)⟩
theorem okmathSqrt (x : Nat) (hx : FloatKind.f64.format.sqrt x = some (fSqrt x)) : CallOk Try.prog (cmathSqrt x).1 (cmathSqrt x).2.1 (cmathSqrt x).2.2 := callOk_pure (fun _ _ => by kernel_rfl) fun _ => pmathSqrt x hx
def FlenSqrt_l1 (n : Int) (s : Int) (K0 : Int → Int) : Nat → Int → Int
  | 0, _ => default
  | n1 + 1, s' => bif bif decide ((s' : Int) < 3037000499) then decide (((W64 ((s' + 1) * (s' + 1))) : Int) ≤ n) else false then ((FlenSqrt_l1 n s K0 n1) (s' + 1)) else (s')
def FlenSqrt_l0 (n : Int) : Nat → Int → Int
  | 0, _ => default
  | n0 + 1, s => bif decide ((n : Int) < (W64 (s * s))) then ((FlenSqrt_l0 n n0) (s - 1)) else (FlenSqrt_l1 n s (FlenSqrt_l0 n n0) ((3037000499 - s).toNat + 1) s)
def FlenSqrt (n : Int) : Int := bif decide ((n : Int) ≤ 0) then (0) else (FlenSqrt_l0 n ((min (f2i .f64 (FmathSqrt (FloatKind.f64.nearest n))) 3037000499).toNat + 1) (min (f2i .f64 (FmathSqrt (FloatKind.f64.nearest n))) 3037000499))
def clenSqrt (n : Int) : FuncId × List Av × Ef := (10, [.one (.i n)], .val [] (.av (.one (.i (FlenSqrt n)))))
set_option maxRecDepth 100000 in
theorem plenSqrt (n : Int) (hn : -9223372036854775808 ≤ n ∧ n ≤ 9223372036854775807) : Pure Try.prog 10 (clenSqrt n).2.1 (.av (.one (.i (FlenSqrt n)))) := by
  refine pure_of_awF Try.func10 rfl (by kernel_rfl) (by kernel_rfl) fun W0 M0 => ?_
  refine aw_seq ?_
  refine aw_region eqok [] [] [] [0] [] [] ⟨[(0, tI n)], []⟩ .nil (by kernel_rfl) .nil ?_
  refine ath_n ?_
  refine aw_seq ?_
  refine aw_seq ?_
  refine aw_region eqok [] [] [] [0, 5] [] [] ⟨[(0, tI n), (5, tB (decide ((n : Int) ≤ 0)))], []⟩ .nil (by kernel_rfl) .nil ?_
  refine ath_n ?_
  refine aw_cond (decide ((n : Int) ≤ 0)) (by kernel_rfl) (fun h1 => ?_) (fun h1 => ?_)
  · have g1 := of_decide_eq_true h1
    refine aw_seq ?_
    refine aw_region eqok [] [] [] [2] [] [] ⟨[(2, tI 0)], []⟩ .nil (by kernel_rfl) .nil ?_
    refine ath_n ?_
    refine aw_ret ?_
    refine ath_r ?_
    exact ⟨_, Cv.refl _, .inl rfl, .av (.one (.i 0)), by kernel_rfl, tve_eq (by first | (simp only [FlenSqrt, h1, cond_true, cond_false]; done) | (simp only [FlenSqrt, h1, cond_true, cond_false]; rfl))⟩
  · have g1 := of_decide_eq_false h1
    refine aw_skip ?_
    refine ath_n ?_
    refine aw_seq ?_
    refine aw_region eqok [] [] [(8, cmathSqrt (FloatKind.f64.nearest n))] [0, 3] [] [Same (cmathSqrt (FloatKind.f64.nearest n)).2.1, F2iOk .f64 (FmathSqrt (FloatKind.f64.nearest n)) .i64] ⟨[(0, tI n), (3, tI (min (f2i .f64 (FmathSqrt (FloatKind.f64.nearest n))) 3037000499))], []⟩ (.cons (okmathSqrt (FloatKind.f64.nearest n) (sq_fin (by omega) (by omega)).1) .nil) (by kernel_rfl) (.cons rfl (.cons (by unfold FmathSqrt; exact (sq_f2i (by omega) (by omega)).1) .nil)) ?_
    refine ath_n ?_
    refine aw_seq ?_
    refine aw_block ?_
    refine aw_loopC (ι := Nat × Int) (fun x => ⟨[(0, tI n), (3, tI x.2)], []⟩) (fun x => x.2.toNat < x.1 ∧ (0 ≤ x.2 ∧ x.2 ≤ 3037000499) ∧ FlenSqrt_l0 n x.1 x.2 = FlenSqrt n) (fun x => x.1) ?_ ((min (f2i .f64 (FmathSqrt (FloatKind.f64.nearest n))) 3037000499).toNat + 1, min (f2i .f64 (FmathSqrt (FloatKind.f64.nearest n))) 3037000499) ⟨Nat.lt_succ_self _, (by show 0 ≤ (min (f2i .f64 (FmathSqrt (FloatKind.f64.nearest n))) 3037000499) ∧ (min (f2i .f64 (FmathSqrt (FloatKind.f64.nearest n))) 3037000499) ≤ 3037000499; (have h := sq_f2i (n := n) (by omega) (by omega); unfold FmathSqrt; omega)), (by simp only [FlenSqrt, h1, cond_true, cond_false])⟩
    rintro ⟨n0, s⟩ ⟨hn, hinv, hF⟩
    have hm0 : s.toNat < n0 := hn; have hinv0 : 0 ≤ s ∧ s ≤ 3037000499 := hinv; have hF0 : FlenSqrt_l0 n n0 s = FlenSqrt n := hF; clear hn hinv hF
    cases n0 with
    | zero => exact absurd hm0 (Nat.not_lt_zero _)
    | succ n0 =>
      have hs0 : n < W64 (s * s) → 0 < s := fun hq => by have hz : s ≠ 0 := fun e => by rw [e] at hq; simp only [W64_def] at hq; omega
                                                         omega
      refine aw_seq ?_
      refine aw_seq ?_
      refine aw_region eqok [] [] [] [0, 3, 15] [] [] ⟨[(0, tI n), (3, tI s), (15, tB (decide ((n : Int) < (W64 (s * s)))))], []⟩ .nil (by kernel_rfl) .nil ?_
      refine ath_n ?_
      refine aw_cond (decide ((n : Int) < (W64 (s * s)))) (by kernel_rfl) (fun h2 => ?_) (fun h2 => ?_)
      · have g2 := of_decide_eq_true h2
        refine aw_skip ?_
        refine ath_n ?_
        refine aw_block ?_
        refine aw_region eqok [] [] [] [0, 3] [] [] ⟨[(0, tI n), (3, tI (W64 (s - 1)))], []⟩ .nil (by kernel_rfl) .nil ?_
        (try rw [(show W64 (s - 1) = s - 1 from W64_id (by omega) (by omega))])
        refine abl_n ?_
        refine ath_n ?_
        refine ⟨(n0, s - 1), ⟨?_, ?_, (by rw [← hF0]; simp only [FlenSqrt_l0, h2, cond_true, cond_false])⟩, Nat.lt_succ_self _, cv_eq (by kernel_rfl)⟩
        · show (s - 1).toNat < n0; omega
        · exact ⟨(by show 0 ≤ (s - 1); first | trivial | omega | (simp only [List.length_append, List.length_cons, List.length_nil]; omega) | (simp only [List.length_set, List.length_append, List.length_cons, List.length_nil]; omega) | (simp only [W64_def]; omega) | (simp; omega) | simp), (by show (s - 1) ≤ 3037000499; first | trivial | omega | (simp only [List.length_append, List.length_cons, List.length_nil]; omega) | (simp only [List.length_set, List.length_append, List.length_cons, List.length_nil]; omega) | (simp only [W64_def]; omega) | (simp; omega) | simp)⟩
      · have g2 := of_decide_eq_false h2
        refine aw_exit ?_
        refine ath_e ?_
        refine ath_e ?_
        refine abl_hit ?_
        refine ath_n ?_
        refine aw_seq ?_
        refine aw_block ?_
        refine aw_cv (Cv.trans (cv_keep [0, 3] [] (⟨[(0, tI n), (3, tI s)], []⟩) (by kernel_rfl)) (Cv.refl _)) ?_
        refine aw_loopC (ι := Nat × Int) (fun x => ⟨[(0, tI n), (3, tI x.2)], []⟩) (fun x => (3037000499 - x.2).toNat < x.1 ∧ (0 ≤ x.2 ∧ x.2 ≤ 3037000499) ∧ FlenSqrt_l1 n s (FlenSqrt_l0 n n0) x.1 x.2 = FlenSqrt n) (fun x => x.1) ?_ ((3037000499 - s).toNat + 1, s) ⟨Nat.lt_succ_self _, ⟨(by show 0 ≤ s; first | trivial | omega | (simp only [List.length_append, List.length_cons, List.length_nil]; omega) | (simp only [List.length_set, List.length_append, List.length_cons, List.length_nil]; omega) | (simp only [W64_def]; omega) | (simp; omega) | simp), (by show s ≤ 3037000499; first | trivial | omega | (simp only [List.length_append, List.length_cons, List.length_nil]; omega) | (simp only [List.length_set, List.length_append, List.length_cons, List.length_nil]; omega) | (simp only [W64_def]; omega) | (simp; omega) | simp)⟩, (by rw [← hF0]; simp only [FlenSqrt_l0, h2, cond_true, cond_false])⟩
        rintro ⟨n1, s'⟩ ⟨hn, hinv, hF⟩
        have hm1 : (3037000499 - s').toNat < n1 := hn; have hinv1 : 0 ≤ s' ∧ s' ≤ 3037000499 := hinv; have hF1 : FlenSqrt_l1 n s (FlenSqrt_l0 n n0) n1 s' = FlenSqrt n := hF; clear hn hinv hF
        cases n1 with
        | zero => exact absurd hm1 (Nat.not_lt_zero _)
        | succ n1 =>
          refine aw_seq ?_
          refine aw_seq ?_
          refine aw_region eqok [] [] [] [0, 3, 28] [] [((decide ((s' : Int) < 3037000499)) = true) → ((decide ((s' : Int) < 3037000499)) = true), ((decide ((s' : Int) < 3037000499)) = true) → ((decide ((s' : Int) < 3037000499)) = true), ((decide ((s' : Int) < 3037000499)) = true) → ((decide ((s' : Int) < 3037000499)) = true), ((decide ((s' : Int) < 3037000499)) = true) → ((decide ((s' : Int) < 3037000499)) = true), ((decide ((s' : Int) < 3037000499)) = true) → ((decide ((s' : Int) < 3037000499)) = true), ((decide ((s' : Int) < 3037000499)) = true) → ((decide ((s' : Int) < 3037000499)) = true), (decide ((s' : Int) < 3037000499)) = true → ((decide ((s' : Int) < 3037000499)) = true)] ⟨[(0, tI n), (3, tI s'), (28, tB (bif decide ((s' : Int) < 3037000499) then decide (((W64 ((W64 (s' + 1)) * (W64 (s' + 1)))) : Int) ≤ n) else false))], []⟩ .nil (by kernel_rfl) (.cons id (.cons id (.cons id (.cons id (.cons id (.cons id (.cons id .nil))))))) ?_
          (try rw [(show W64 (s' + 1) = s' + 1 from W64_id (by omega) (by omega))])
          refine ath_n ?_
          refine aw_cond (bif decide ((s' : Int) < 3037000499) then decide (((W64 ((s' + 1) * (s' + 1))) : Int) ≤ n) else false) (by kernel_rfl) (fun h3 => ?_) (fun h3 => ?_)
          · have g3 := and_dec h3
            refine aw_skip ?_
            refine ath_n ?_
            refine aw_block ?_
            refine aw_region eqok [] [] [] [0, 3] [] [] ⟨[(0, tI n), (3, tI (W64 (s' + 1)))], []⟩ .nil (by kernel_rfl) .nil ?_
            (try rw [(show W64 (s' + 1) = s' + 1 from W64_id (by omega) (by omega))])
            refine abl_n ?_
            refine ath_n ?_
            refine ⟨(n1, s' + 1), ⟨?_, ?_, (by rw [← hF1]; simp only [FlenSqrt_l1, h3, cond_true, cond_false])⟩, Nat.lt_succ_self _, cv_eq (by kernel_rfl)⟩
            · show (3037000499 - (s' + 1)).toNat < n1; omega
            · exact ⟨(by show 0 ≤ (s' + 1); first | trivial | omega | (simp only [List.length_append, List.length_cons, List.length_nil]; omega) | (simp only [List.length_set, List.length_append, List.length_cons, List.length_nil]; omega) | (simp only [W64_def]; omega) | (simp; omega) | simp), (by show (s' + 1) ≤ 3037000499; first | trivial | omega | (simp only [List.length_append, List.length_cons, List.length_nil]; omega) | (simp only [List.length_set, List.length_append, List.length_cons, List.length_nil]; omega) | (simp only [W64_def]; omega) | (simp; omega) | simp)⟩
          · refine aw_exit ?_
            refine ath_e ?_
            refine ath_e ?_
            refine abl_hit ?_
            refine ath_n ?_
            refine aw_seq ?_
            refine aw_region eqok [] [] [] [2] [] [] ⟨[(2, tI s')], []⟩ .nil (by kernel_rfl) .nil ?_
            refine ath_n ?_
            refine aw_ret ?_
            exact ⟨_, Cv.refl _, .inl rfl, .av (.one (.i s')), by kernel_rfl, tve_eq (by rw [← hF1]; first | (simp only [FlenSqrt_l1, h3, cond_true, cond_false]; done) | (simp only [FlenSqrt_l1, h3, cond_true, cond_false]; rfl))⟩
theorem oklenSqrt (n : Int) (hn : -9223372036854775808 ≤ n ∧ n ≤ 9223372036854775807) : CallOk Try.prog (clenSqrt n).1 (clenSqrt n).2.1 (clenSqrt n).2.2 := callOk_pure (fun _ _ => by kernel_rfl) fun _ => plenSqrt n hn
theorem w64_rng (x : Int) : -9223372036854775808 ≤ W64 x ∧ W64 x ≤ 9223372036854775807 := by rw [W64_def]; omega
theorem tmod_rng (x m : Int) (h : 0 < m) : -m < Int.tmod x m ∧ Int.tmod x m < m := by
  rcases Int.lt_or_le x 0 with hx | hx
  · have b := Int.emod_nonneg (-x) (show m ≠ 0 by omega)
    have b2 := Int.emod_lt_of_pos (-x) h
    rw [show x.tmod m = -((-x) % m) by rw [← Int.tmod_eq_emod_of_nonneg (by omega), Int.neg_tmod, Int.neg_neg]]
    omega
  · have b := Int.emod_nonneg x (show m ≠ 0 by omega)
    have b2 := Int.emod_lt_of_pos x h
    rw [Int.tmod_eq_emod_of_nonneg hx]
    omega
theorem dot_rng (a c : TPoint) : -9223372036854775808 ≤ FvecDot a c ∧ FvecDot a c ≤ 9223372036854775807 := w64_rng _
def FrefSqrt_l0 (n : Int) : Nat → Int → Int → Int
  | 0, _, _ => default
  | n0 + 1, out, bit => bif decide ((0 : Int) ≤ bit) then ((FrefSqrt_l0 n n0) (bif bif decide (((W64 (out + (W64 (1 * 2 ^ (min bit.toNat 64))))) : Int) ≤ 3037000499) then decide (((W64 ((W64 (out + (W64 (1 * 2 ^ (min bit.toNat 64))))) * (W64 (out + (W64 (1 * 2 ^ (min bit.toNat 64))))))) : Int) ≤ n) else false then (W64 (out + (W64 (1 * 2 ^ (min bit.toNat 64))))) else out) (bit - 1)) else (out)
def FrefSqrt (n : Int) : Int := FrefSqrt_l0 n (((31 : Int) + 1).toNat + 1) 0 31
def crefSqrt (n : Int) : FuncId × List Av × Ef := (11, [.one (.i n)], .val [] (.av (.one (.i (FrefSqrt n)))))
set_option maxRecDepth 100000 in
theorem prefSqrt (n : Int) : Pure Try.prog 11 (crefSqrt n).2.1 (.av (.one (.i (FrefSqrt n)))) := by
  refine pure_of_awF Try.func11 rfl (by kernel_rfl) (by kernel_rfl) fun W0 M0 => ?_
  refine aw_seq ?_
  refine aw_region eqok [] [] [] [0] [] [] ⟨[(0, tI n)], []⟩ .nil (by kernel_rfl) .nil ?_
  refine ath_n ?_
  refine aw_seq ?_
  refine aw_region eqok [] [] [] [0, 3] [] [] ⟨[(0, tI n), (3, tI 0)], []⟩ .nil (by kernel_rfl) .nil ?_
  refine ath_n ?_
  refine aw_seq ?_
  refine aw_seq ?_
  refine aw_region eqok [] [] [] [0, 3, 4] [] [] ⟨[(0, tI n), (3, tI 0), (4, tI 31)], []⟩ .nil (by kernel_rfl) .nil ?_
  refine ath_n ?_
  refine aw_block ?_
  refine aw_loopC (ι := Nat × Int × Int) (fun x => ⟨[(0, tI n), (3, tI x.2.1), (4, tI x.2.2)], []⟩) (fun x => ((x.2.2 : Int) + 1).toNat < x.1 ∧ (-1 ≤ x.2.2 ∧ x.2.2 ≤ 31) ∧ FrefSqrt_l0 n x.1 x.2.1 x.2.2 = FrefSqrt n) (fun x => x.1) ?_ (((31 : Int) + 1).toNat + 1, 0, 31) ⟨Nat.lt_succ_self _, ⟨(by show -1 ≤ 31; first | trivial | omega | (simp only [List.length_append, List.length_cons, List.length_nil]; omega) | (simp only [List.length_set, List.length_append, List.length_cons, List.length_nil]; omega) | (simp only [W64_def]; omega) | (simp; omega) | simp), (by show 31 ≤ 31; first | trivial | omega | (simp only [List.length_append, List.length_cons, List.length_nil]; omega) | (simp only [List.length_set, List.length_append, List.length_cons, List.length_nil]; omega) | (simp only [W64_def]; omega) | (simp; omega) | simp)⟩, (by simp only [FrefSqrt, cond_true, cond_false])⟩
  rintro ⟨n0, out, bit⟩ ⟨hn, hinv, hF⟩
  have hm0 : ((bit : Int) + 1).toNat < n0 := hn; have hinv0 : -1 ≤ bit ∧ bit ≤ 31 := hinv; have hF0 : FrefSqrt_l0 n n0 out bit = FrefSqrt n := hF; clear hn hinv hF
  cases n0 with
  | zero => exact absurd hm0 (Nat.not_lt_zero _)
  | succ n0 =>
    refine aw_seq ?_
    refine aw_seq ?_
    refine aw_region eqok [] [] [] [0, 3, 4, 7] [] [] ⟨[(0, tI n), (3, tI out), (4, tI bit), (7, tB (decide ((0 : Int) ≤ bit)))], []⟩ .nil (by kernel_rfl) .nil ?_
    refine ath_n ?_
    refine aw_cond (decide ((0 : Int) ≤ bit)) (by kernel_rfl) (fun h1 => ?_) (fun h1 => ?_)
    · have g1 := of_decide_eq_true h1
      refine aw_skip ?_
      refine ath_n ?_
      refine aw_seq ?_
      refine aw_joinC (⟨[(0, tI n), (3, tI (bif bif decide (((W64 (out + (W64 (1 * 2 ^ (min bit.toNat 64))))) : Int) ≤ 3037000499) then decide (((W64 ((W64 (out + (W64 (1 * 2 ^ (min bit.toNat 64))))) * (W64 (out + (W64 (1 * 2 ^ (min bit.toNat 64))))))) : Int) ≤ n) else false then (W64 (out + (W64 (1 * 2 ^ (min bit.toNat 64))))) else out)), (4, tI bit)], []⟩) ?_ ?_
      · refine aw_block ?_
        refine aw_seq ?_
        refine aw_region eqok [] [] [] [0, 3, 4, 5] [] [0 ≤ (bit : Int)] ⟨[(0, tI n), (3, tI out), (4, tI bit), (5, tI (W64 (out + (W64 (1 * 2 ^ (min bit.toNat 64))))))], []⟩ .nil (by kernel_rfl) (.cons (by first | decide | omega | exact idx_tmod (by first | omega | (simp only [W64_def]; omega)) (by omega) | (simp only [W64_def]; omega) | (constructor <;> omega) | (simp only [List.length_append, List.length_cons, List.length_nil]; omega) | (simp only [List.length_append, List.length_cons, List.length_nil, List.length_drop, List.length_take] at *; omega)) .nil) ?_
        refine ath_n ?_
        refine aw_seq ?_
        refine aw_region eqok [] [] [] [0, 3, 4, 5, 22] [] [((decide (((W64 (out + (W64 (1 * 2 ^ (min bit.toNat 64))))) : Int) ≤ 3037000499)) = true) → ((decide (((W64 (out + (W64 (1 * 2 ^ (min bit.toNat 64))))) : Int) ≤ 3037000499)) = true), ((decide (((W64 (out + (W64 (1 * 2 ^ (min bit.toNat 64))))) : Int) ≤ 3037000499)) = true) → ((decide (((W64 (out + (W64 (1 * 2 ^ (min bit.toNat 64))))) : Int) ≤ 3037000499)) = true), ((decide (((W64 (out + (W64 (1 * 2 ^ (min bit.toNat 64))))) : Int) ≤ 3037000499)) = true) → ((decide (((W64 (out + (W64 (1 * 2 ^ (min bit.toNat 64))))) : Int) ≤ 3037000499)) = true), ((decide (((W64 (out + (W64 (1 * 2 ^ (min bit.toNat 64))))) : Int) ≤ 3037000499)) = true) → ((decide (((W64 (out + (W64 (1 * 2 ^ (min bit.toNat 64))))) : Int) ≤ 3037000499)) = true), (decide (((W64 (out + (W64 (1 * 2 ^ (min bit.toNat 64))))) : Int) ≤ 3037000499)) = true → ((decide (((W64 (out + (W64 (1 * 2 ^ (min bit.toNat 64))))) : Int) ≤ 3037000499)) = true)] ⟨[(0, tI n), (3, tI out), (4, tI bit), (5, tI (W64 (out + (W64 (1 * 2 ^ (min bit.toNat 64)))))), (22, tB (bif decide (((W64 (out + (W64 (1 * 2 ^ (min bit.toNat 64))))) : Int) ≤ 3037000499) then decide (((W64 ((W64 (out + (W64 (1 * 2 ^ (min bit.toNat 64))))) * (W64 (out + (W64 (1 * 2 ^ (min bit.toNat 64))))))) : Int) ≤ n) else false))], []⟩ .nil (by kernel_rfl) (.cons id (.cons id (.cons id (.cons id (.cons id .nil))))) ?_
        refine ath_n ?_
        refine aw_cond (bif decide (((W64 (out + (W64 (1 * 2 ^ (min bit.toNat 64))))) : Int) ≤ 3037000499) then decide (((W64 ((W64 (out + (W64 (1 * 2 ^ (min bit.toNat 64))))) * (W64 (out + (W64 (1 * 2 ^ (min bit.toNat 64))))))) : Int) ≤ n) else false) (by kernel_rfl) (fun h2 => ?_) (fun h2 => ?_)
        · have g2 := and_dec h2
          refine aw_region eqok [] [] [] [0, 3, 4] [] [] ⟨[(0, tI n), (3, tI (W64 (out + (W64 (1 * 2 ^ (min bit.toNat 64)))))), (4, tI bit)], []⟩ .nil (by kernel_rfl) .nil ?_
          refine abl_n ?_
          refine ath_n ?_
          refine cv_eq ?_
          first | rfl | (simp only [h2, cond_true, cond_false]; done) | (simp only [h2, cond_true, cond_false]; rfl)
        · refine aw_skip ?_
          refine abl_n ?_
          refine ath_n ?_
          refine Cv.trans (cv_keep [0, 3, 4] [] (⟨[(0, tI n), (3, tI out), (4, tI bit)], []⟩) (by kernel_rfl)) (cv_eq ?_)
          first | rfl | (simp only [h2, cond_true, cond_false]; done) | (simp only [h2, cond_true, cond_false]; rfl)
      refine aw_region eqok [] [] [] [0, 3, 4] [] [] ⟨[(0, tI n), (3, tI (bif bif decide (((W64 (out + (W64 (1 * 2 ^ (min bit.toNat 64))))) : Int) ≤ 3037000499) then decide (((W64 ((W64 (out + (W64 (1 * 2 ^ (min bit.toNat 64))))) * (W64 (out + (W64 (1 * 2 ^ (min bit.toNat 64))))))) : Int) ≤ n) else false then (W64 (out + (W64 (1 * 2 ^ (min bit.toNat 64))))) else out)), (4, tI (W64 (bit - 1)))], []⟩ .nil (by kernel_rfl) .nil ?_
      (try rw [(show W64 (bit - 1) = bit - 1 from W64_id (by omega) (by omega))])
      refine ath_n ?_
      refine ⟨(n0, bif bif decide (((W64 (out + (W64 (1 * 2 ^ (min bit.toNat 64))))) : Int) ≤ 3037000499) then decide (((W64 ((W64 (out + (W64 (1 * 2 ^ (min bit.toNat 64))))) * (W64 (out + (W64 (1 * 2 ^ (min bit.toNat 64))))))) : Int) ≤ n) else false then (W64 (out + (W64 (1 * 2 ^ (min bit.toNat 64))))) else out, bit - 1), ⟨?_, ?_, (by rw [← hF0]; simp only [FrefSqrt_l0, h1, cond_true, cond_false])⟩, Nat.lt_succ_self _, cv_eq (by kernel_rfl)⟩
      · show (((bit - 1) : Int) + 1).toNat < n0; omega
      · exact ⟨(by show -1 ≤ (bit - 1); first | trivial | omega | (simp only [List.length_append, List.length_cons, List.length_nil]; omega) | (simp only [List.length_set, List.length_append, List.length_cons, List.length_nil]; omega) | (simp only [W64_def]; omega) | (simp; omega) | simp), (by show (bit - 1) ≤ 31; first | trivial | omega | (simp only [List.length_append, List.length_cons, List.length_nil]; omega) | (simp only [List.length_set, List.length_append, List.length_cons, List.length_nil]; omega) | (simp only [W64_def]; omega) | (simp; omega) | simp)⟩
    · have g1 := of_decide_eq_false h1
      refine aw_exit ?_
      refine ath_e ?_
      refine ath_e ?_
      refine abl_hit ?_
      refine ath_n ?_
      refine aw_seq ?_
      refine aw_region eqok [] [] [] [2] [] [] ⟨[(2, tI out)], []⟩ .nil (by kernel_rfl) .nil ?_
      refine ath_n ?_
      refine aw_ret ?_
      exact ⟨_, Cv.refl _, .inl rfl, .av (.one (.i out)), by kernel_rfl, tve_eq (by rw [← hF0]; first | (simp only [FrefSqrt_l0, h1, cond_true, cond_false]; done) | (simp only [FrefSqrt_l0, h1, cond_true, cond_false]; rfl))⟩
theorem okrefSqrt (n : Int) : CallOk Try.prog (crefSqrt n).1 (crefSqrt n).2.1 (crefSqrt n).2.2 := callOk_pure (fun _ _ => by kernel_rfl) fun _ => prefSqrt n 
def FlenEdge (x0 : TEdge) : Int := bif !decide (((FCheck x0) : Int) = 0) then (0) else (bif !decide ((x0.Kind : Int) = 1) then (W64 (Int.tdiv (W64 (355 * (FRadius x0))) 226)) else (FlenSqrt (FvecDot (FvecSub x0.B x0.A) (FvecSub x0.B x0.A))))
def clenEdge (x0 : TEdge) : FuncId × List Av × Ef := (14, [.agg (TEdge.c x0)], .val [] (.av (.one (.i (FlenEdge x0)))))
set_option maxRecDepth 100000 in
theorem plenEdge (x0 : TEdge) : Pure Try.prog 14 (clenEdge x0).2.1 (.av (.one (.i (FlenEdge x0)))) := by
  refine pure_of_awF Try.func14 rfl (by kernel_rfl) (by kernel_rfl) fun W0 M0 => ?_
  refine aw_seq ?_
  refine aw_region eqok [] [] [] [1] [1] [] ⟨[(1, tP 1 0)], [(1, .cells (TEdge.c x0) 33)]⟩ .nil (by kernel_rfl) .nil ?_
  refine ath_n ?_
  refine aw_seq ?_
  refine aw_block ?_
  refine aw_seq ?_
  refine aw_region eqok [] [] [(6, cCheck x0)] [1, 4] [1] [Same (cCheck x0).2.1] ⟨[(1, tP 1 0), (4, tB (!decide (((FCheck x0) : Int) = 0)))], [(1, .cells (TEdge.c x0) 33)]⟩ (.cons (okCheck x0) .nil) (by kernel_rfl) (.cons rfl .nil) ?_
  refine ath_n ?_
  refine aw_cond (!decide (((FCheck x0) : Int) = 0)) (by kernel_rfl) (fun h1 => ?_) (fun h1 => ?_)
  · have g1 := of_not_decide_true h1
    refine aw_seq ?_
    refine aw_region eqok [] [] [] [2] [] [] ⟨[(2, tI 0)], []⟩ .nil (by kernel_rfl) .nil ?_
    refine ath_n ?_
    refine aw_ret ?_
    refine abl_r ?_
    refine ath_r ?_
    exact ⟨_, Cv.refl _, .inl rfl, .av (.one (.i 0)), by kernel_rfl, tve_eq (by first | (simp only [FlenEdge, h1, cond_true, cond_false]; done) | (simp only [FlenEdge, h1, cond_true, cond_false]; rfl))⟩
  · have g1 := of_not_decide_false h1
    refine aw_seq ?_
    refine aw_region eqok [] [] [] [1, 8] [1] [] ⟨[(1, tP 1 0), (8, tB (!decide ((x0.Kind : Int) = 1)))], [(1, .cells (TEdge.c x0) 33)]⟩ .nil (by kernel_rfl) .nil ?_
    refine ath_n ?_
    refine aw_cond (!decide ((x0.Kind : Int) = 1)) (by kernel_rfl) (fun h2 => ?_) (fun h2 => ?_)
    · have g2 := of_not_decide_true h2
      refine aw_seq ?_
      refine aw_region eqok [] [] [(13, cRadius x0)] [2] [] [Same (cRadius x0).2.1, (226 : Int) ≠ 0] ⟨[(2, tI (W64 (Int.tdiv (W64 (355 * (FRadius x0))) 226)))], []⟩ (.cons (okRadius x0) .nil) (by kernel_rfl) (.cons rfl (.cons (by first | assumption | decide | omega) .nil)) ?_
      refine ath_n ?_
      refine aw_ret ?_
      refine abl_r ?_
      refine ath_r ?_
      exact ⟨_, Cv.refl _, .inl rfl, .av (.one (.i (W64 (Int.tdiv (W64 (355 * (FRadius x0))) 226)))), by kernel_rfl, tve_eq (by first | (simp only [FlenEdge, h1, h2, cond_true, cond_false]; done) | (simp only [FlenEdge, h1, h2, cond_true, cond_false]; rfl))⟩
    · have g2 := of_not_decide_false h2
      refine aw_skip ?_
      refine abl_n ?_
      refine ath_n ?_
      refine aw_seq ?_
      refine aw_region eqok [] [] [(20, cvecSub x0.B x0.A)] [3] [3] [Same (cvecSub x0.B x0.A).2.1] ⟨[(3, tP 3 0)], [(3, .cells (TPoint.c (FvecSub x0.B x0.A)) 31)]⟩ (.cons (okvecSub x0.B x0.A) .nil) (by kernel_rfl) (.cons rfl .nil) ?_
      refine ath_n ?_
      refine aw_seq ?_
      refine aw_region eqok [] [] [(23, cvecDot (FvecSub x0.B x0.A) (FvecSub x0.B x0.A)), (24, clenSqrt (FvecDot (FvecSub x0.B x0.A) (FvecSub x0.B x0.A)))] [2] [] [Same (cvecDot (FvecSub x0.B x0.A) (FvecSub x0.B x0.A)).2.1, Same (clenSqrt (FvecDot (FvecSub x0.B x0.A) (FvecSub x0.B x0.A))).2.1] ⟨[(2, tI (FlenSqrt (FvecDot (FvecSub x0.B x0.A) (FvecSub x0.B x0.A))))], []⟩ (.cons (okvecDot (FvecSub x0.B x0.A) (FvecSub x0.B x0.A)) (.cons (oklenSqrt (FvecDot (FvecSub x0.B x0.A) (FvecSub x0.B x0.A)) (by first | with_reducible assumption | exact w64_rng _ | exact dot_rng _ _ | omega | decide)) .nil)) (by kernel_rfl) (.cons rfl (.cons rfl .nil)) ?_
      refine ath_n ?_
      refine aw_ret ?_
      exact ⟨_, Cv.refl _, .inl rfl, .av (.one (.i (FlenSqrt (FvecDot (FvecSub x0.B x0.A) (FvecSub x0.B x0.A))))), by kernel_rfl, tve_eq (by first | (simp only [FlenEdge, h1, h2, cond_true, cond_false]; done) | (simp only [FlenEdge, h1, h2, cond_true, cond_false]; rfl))⟩
theorem oklenEdge (x0 : TEdge) : CallOk Try.prog (clenEdge x0).1 (clenEdge x0).2.1 (clenEdge x0).2.2 := callOk_pure (fun _ _ => by kernel_rfl) fun _ => plenEdge x0 
def FrefEdge (x0 : TEdge) : Int := bif !decide (((Fref06Check x0) : Int) = 0) then (0) else (bif !decide ((x0.Kind : Int) = 1) then (W64 (Int.tdiv (W64 (355 * (Fref06Radius x0))) 226)) else (FrefSqrt (Fref05Dot (Fref05Sub x0.B x0.A) (Fref05Sub x0.B x0.A))))
def crefEdge (x0 : TEdge) : FuncId × List Av × Ef := (15, [.agg (TEdge.c x0)], .val [] (.av (.one (.i (FrefEdge x0)))))
set_option maxRecDepth 100000 in
theorem prefEdge (x0 : TEdge) : Pure Try.prog 15 (crefEdge x0).2.1 (.av (.one (.i (FrefEdge x0)))) := by
  refine pure_of_awF Try.func15 rfl (by kernel_rfl) (by kernel_rfl) fun W0 M0 => ?_
  refine aw_seq ?_
  refine aw_region eqok [] [] [] [1] [1] [] ⟨[(1, tP 1 0)], [(1, .cells (TEdge.c x0) 33)]⟩ .nil (by kernel_rfl) .nil ?_
  refine ath_n ?_
  refine aw_seq ?_
  refine aw_seq ?_
  refine aw_region eqok [] [] [(5, cref06Check x0)] [1, 6] [1] [Same (cref06Check x0).2.1] ⟨[(1, tP 1 0), (6, tB (!decide (((Fref06Check x0) : Int) = 0)))], [(1, .cells (TEdge.c x0) 33)]⟩ (.cons (okref06Check x0) .nil) (by kernel_rfl) (.cons rfl .nil) ?_
  refine ath_n ?_
  refine aw_cond (!decide (((Fref06Check x0) : Int) = 0)) (by kernel_rfl) (fun h1 => ?_) (fun h1 => ?_)
  · have g1 := of_not_decide_true h1
    refine aw_seq ?_
    refine aw_region eqok [] [] [] [2] [] [] ⟨[(2, tI 0)], []⟩ .nil (by kernel_rfl) .nil ?_
    refine ath_n ?_
    refine aw_ret ?_
    refine ath_r ?_
    exact ⟨_, Cv.refl _, .inl rfl, .av (.one (.i 0)), by kernel_rfl, tve_eq (by first | (simp only [FrefEdge, h1, cond_true, cond_false]; done) | (simp only [FrefEdge, h1, cond_true, cond_false]; rfl))⟩
  · have g1 := of_not_decide_false h1
    refine aw_skip ?_
    refine ath_n ?_
    refine aw_seq ?_
    refine aw_seq ?_
    refine aw_region eqok [] [] [] [1, 9] [1] [] ⟨[(1, tP 1 0), (9, tB (!decide ((x0.Kind : Int) = 1)))], [(1, .cells (TEdge.c x0) 33)]⟩ .nil (by kernel_rfl) .nil ?_
    refine ath_n ?_
    refine aw_cond (!decide ((x0.Kind : Int) = 1)) (by kernel_rfl) (fun h2 => ?_) (fun h2 => ?_)
    · have g2 := of_not_decide_true h2
      refine aw_seq ?_
      refine aw_region eqok [] [] [(11, cref06Radius x0)] [2] [] [Same (cref06Radius x0).2.1, (226 : Int) ≠ 0] ⟨[(2, tI (W64 (Int.tdiv (W64 (355 * (Fref06Radius x0))) 226)))], []⟩ (.cons (okref06Radius x0) .nil) (by kernel_rfl) (.cons rfl (.cons (by first | assumption | decide | omega) .nil)) ?_
      refine ath_n ?_
      refine aw_ret ?_
      refine ath_r ?_
      exact ⟨_, Cv.refl _, .inl rfl, .av (.one (.i (W64 (Int.tdiv (W64 (355 * (Fref06Radius x0))) 226)))), by kernel_rfl, tve_eq (by first | (simp only [FrefEdge, h1, h2, cond_true, cond_false]; done) | (simp only [FrefEdge, h1, h2, cond_true, cond_false]; rfl))⟩
    · have g2 := of_not_decide_false h2
      refine aw_skip ?_
      refine ath_n ?_
      refine aw_seq ?_
      refine aw_region eqok [] [] [(18, cref05Sub x0.B x0.A)] [3] [3] [Same (cref05Sub x0.B x0.A).2.1] ⟨[(3, tP 3 0)], [(3, .cells (TPoint.c (Fref05Sub x0.B x0.A)) 31)]⟩ (.cons (okref05Sub x0.B x0.A) .nil) (by kernel_rfl) (.cons rfl .nil) ?_
      refine ath_n ?_
      refine aw_seq ?_
      refine aw_region eqok [] [] [(21, cref05Dot (Fref05Sub x0.B x0.A) (Fref05Sub x0.B x0.A)), (22, crefSqrt (Fref05Dot (Fref05Sub x0.B x0.A) (Fref05Sub x0.B x0.A)))] [2] [] [Same (cref05Dot (Fref05Sub x0.B x0.A) (Fref05Sub x0.B x0.A)).2.1, Same (crefSqrt (Fref05Dot (Fref05Sub x0.B x0.A) (Fref05Sub x0.B x0.A))).2.1] ⟨[(2, tI (FrefSqrt (Fref05Dot (Fref05Sub x0.B x0.A) (Fref05Sub x0.B x0.A))))], []⟩ (.cons (okref05Dot (Fref05Sub x0.B x0.A) (Fref05Sub x0.B x0.A)) (.cons (okrefSqrt (Fref05Dot (Fref05Sub x0.B x0.A) (Fref05Sub x0.B x0.A))) .nil)) (by kernel_rfl) (.cons rfl (.cons rfl .nil)) ?_
      refine ath_n ?_
      refine aw_ret ?_
      exact ⟨_, Cv.refl _, .inl rfl, .av (.one (.i (FrefSqrt (Fref05Dot (Fref05Sub x0.B x0.A) (Fref05Sub x0.B x0.A))))), by kernel_rfl, tve_eq (by first | (simp only [FrefEdge, h1, h2, cond_true, cond_false]; done) | (simp only [FrefEdge, h1, h2, cond_true, cond_false]; rfl))⟩
theorem okrefEdge (x0 : TEdge) : CallOk Try.prog (crefEdge x0).1 (crefEdge x0).2.1 (crefEdge x0).2.2 := callOk_pure (fun _ _ => by kernel_rfl) fun _ => prefEdge x0 
def FchainR_l0 (l : (List TEdge)) : Nat → Int → Bool
  | 0, _ => default
  | n0 + 1, k => bif decide ((k : Int) < ((l.length : Int))) then (bif !(decide ((((l.getD k.toNat default).A).X) = (((l.getD ((W64 (k - 1)).toNat) default).B).X)) && (decide ((((l.getD k.toNat default).A).Y) = (((l.getD ((W64 (k - 1)).toNat) default).B).Y)) && true)) then (false) else ((FchainR_l0 l n0) (k + 1))) else (true)
def FchainR (l : (List TEdge)) : Bool := FchainR_l0 l (((((l.length : Int))) - 1).toNat + 1) 1
def cchainR (l : (List TEdge)) : FuncId × List Av × Ef := (74, [.one (lst 7 TEdge.c l)], .val [] (.av (.one (.b (FchainR l)))))
set_option maxRecDepth 100000 in
theorem pchainR (l : (List TEdge)) (h0 : (l.length : Int) ≤ 1000000) : Pure Try.prog 74 (cchainR l).2.1 (.av (.one (.b (FchainR l)))) := by
  refine pure_of_awF Try.func74 rfl (by kernel_rfl) (by kernel_rfl) fun W0 M0 => ?_
  refine aw_seq ?_
  refine aw_region eqok [] [] [] [0] [] [] ⟨[(0, .av (.one (lst 7 TEdge.c l)))], []⟩ .nil (by kernel_rfl) .nil ?_
  refine ath_n ?_
  refine aw_seq ?_
  refine aw_seq ?_
  refine aw_region eqok [] [] [] [0, 3] [] [] ⟨[(0, .av (.one (lst 7 TEdge.c l))), (3, tI 1)], []⟩ .nil (by kernel_rfl) .nil ?_
  refine ath_n ?_
  refine aw_block ?_
  refine aw_loopC (ι := Nat × Int) (fun x => ⟨[(0, .av (.one (lst 7 TEdge.c l))), (3, tI x.2)], []⟩) (fun x => ((((l.length : Int))) - x.2).toNat < x.1 ∧ (1 ≤ x.2 ∧ (x.2 ≤ ((l.length : Int)) ∨ x.2 = 1)) ∧ FchainR_l0 l x.1 x.2 = FchainR l) (fun x => x.1) ?_ (((((l.length : Int))) - 1).toNat + 1, 1) ⟨Nat.lt_succ_self _, ⟨(by show 1 ≤ 1; first | trivial | omega | (simp only [List.length_append, List.length_cons, List.length_nil]; omega) | (simp only [List.length_set, List.length_append, List.length_cons, List.length_nil]; omega) | (simp only [W64_def]; omega) | (simp; omega) | simp), (by show (1 ≤ ((l.length : Int)) ∨ 1 = 1); first | trivial | omega | (simp only [List.length_append, List.length_cons, List.length_nil]; omega) | (simp only [List.length_set, List.length_append, List.length_cons, List.length_nil]; omega) | (simp only [W64_def]; omega) | (simp; omega) | simp)⟩, (by simp only [FchainR, cond_true, cond_false])⟩
  rintro ⟨n0, k⟩ ⟨hn, hinv, hF⟩
  have hm0 : ((((l.length : Int))) - k).toNat < n0 := hn; have hinv0 : 1 ≤ k ∧ (k ≤ ((l.length : Int)) ∨ k = 1) := hinv; have hF0 : FchainR_l0 l n0 k = FchainR l := hF; clear hn hinv hF
  cases n0 with
  | zero => exact absurd hm0 (Nat.not_lt_zero _)
  | succ n0 =>
    refine aw_seq ?_
    refine aw_seq ?_
    refine aw_region eqok [] [] [] [0, 3, 7] [] [] ⟨[(0, .av (.one (lst 7 TEdge.c l))), (3, tI k), (7, tB (decide ((k : Int) < ((l.length : Int)))))], []⟩ .nil (by kernel_rfl) .nil ?_
    refine ath_n ?_
    refine aw_cond (decide ((k : Int) < ((l.length : Int)))) (by kernel_rfl) (fun h1 => ?_) (fun h1 => ?_)
    · have g1 := of_decide_eq_true h1
      refine aw_skip ?_
      refine ath_n ?_
      refine aw_seq ?_
      refine aw_block ?_
      refine aw_seq ?_
      refine aw_draw mixed eqok [] [] [] [0, 3, 21] [] [0 ≤ (k : Int) ∧ (k : Int) < ((l.length : Nat) : Int), 0 ≤ (W64 (k - 1) : Int) ∧ (W64 (k - 1) : Int) < ((l.length : Nat) : Int)] ⟨[(0, .av (.one (lst 7 TEdge.c l))), (3, tI k), (21, tB (!(decide ((((l.getD k.toNat default).A).X) = (((l.getD ((W64 (k - 1)).toNat) default).B).X)) && (decide ((((l.getD k.toNat default).A).Y) = (((l.getD ((W64 (k - 1)).toNat) default).B).Y)) && true))))], []⟩ .nil (by kernel_rfl) (by kernel_rfl) (.cons (by first | decide | omega | exact idx_tmod (by first | omega | (simp only [W64_def]; omega)) (by omega) | (simp only [W64_def]; omega) | (constructor <;> omega) | (simp only [List.length_append, List.length_cons, List.length_nil]; omega) | (simp only [List.length_append, List.length_cons, List.length_nil, List.length_drop, List.length_take] at *; omega)) (.cons (by first | decide | omega | exact idx_tmod (by first | omega | (simp only [W64_def]; omega)) (by omega) | (simp only [W64_def]; omega) | (constructor <;> omega) | (simp only [List.length_append, List.length_cons, List.length_nil]; omega) | (simp only [List.length_append, List.length_cons, List.length_nil, List.length_drop, List.length_take] at *; omega)) .nil)) ?_
      refine ath_n ?_
      refine aw_cond (!(decide ((((l.getD k.toNat default).A).X) = (((l.getD ((W64 (k - 1)).toNat) default).B).X)) && (decide ((((l.getD k.toNat default).A).Y) = (((l.getD ((W64 (k - 1)).toNat) default).B).Y)) && true))) (by kernel_rfl) (fun h2 => ?_) (fun h2 => ?_)
      · refine aw_seq ?_
        refine aw_region eqok [] [] [] [2] [] [] ⟨[(2, tB false)], []⟩ .nil (by kernel_rfl) .nil ?_
        refine ath_n ?_
        refine aw_ret ?_
        refine abl_r ?_
        refine ath_r ?_
        refine ath_r ?_
        refine abl_r ?_
        refine ath_r ?_
        exact ⟨_, Cv.refl _, .inl rfl, .av (.one (.b false)), by kernel_rfl, tve_eq (by rw [← hF0]; first | (simp only [FchainR_l0, h1, h2, cond_true, cond_false]; done) | (simp only [FchainR_l0, h1, h2, cond_true, cond_false]; rfl))⟩
      · refine aw_skip ?_
        refine abl_n ?_
        refine ath_n ?_
        refine aw_region eqok [] [] [] [0, 3] [] [] ⟨[(0, .av (.one (lst 7 TEdge.c l))), (3, tI (W64 (k + 1)))], []⟩ .nil (by kernel_rfl) .nil ?_
        (try rw [(show W64 (k + 1) = k + 1 from W64_id (by omega) (by first | omega | (simp only [List.length_drop, List.length_take] at *; omega)))])
        refine ath_n ?_
        refine ⟨(n0, k + 1), ⟨?_, ?_, (by rw [← hF0]; simp only [FchainR_l0, h1, h2, cond_true, cond_false])⟩, Nat.lt_succ_self _, cv_eq (by kernel_rfl)⟩
        · show ((((l.length : Int))) - (k + 1)).toNat < n0; omega
        · exact ⟨(by show 1 ≤ (k + 1); first | trivial | omega | (simp only [List.length_append, List.length_cons, List.length_nil]; omega) | (simp only [List.length_set, List.length_append, List.length_cons, List.length_nil]; omega) | (simp only [W64_def]; omega) | (simp; omega) | simp), (by show ((k + 1) ≤ ((l.length : Int)) ∨ (k + 1) = 1); first | trivial | omega | (simp only [List.length_append, List.length_cons, List.length_nil]; omega) | (simp only [List.length_set, List.length_append, List.length_cons, List.length_nil]; omega) | (simp only [W64_def]; omega) | (simp; omega) | simp)⟩
    · have g1 := of_decide_eq_false h1
      refine aw_exit ?_
      refine ath_e ?_
      refine ath_e ?_
      refine abl_hit ?_
      refine ath_n ?_
      refine aw_seq ?_
      refine aw_region eqok [] [] [] [2] [] [] ⟨[(2, tB true)], []⟩ .nil (by kernel_rfl) .nil ?_
      refine ath_n ?_
      refine aw_ret ?_
      exact ⟨_, Cv.refl _, .inl rfl, .av (.one (.b true)), by kernel_rfl, tve_eq (by rw [← hF0]; first | (simp only [FchainR_l0, h1, cond_true, cond_false]; done) | (simp only [FchainR_l0, h1, cond_true, cond_false]; rfl))⟩
theorem okchainR (l : (List TEdge)) (h0 : (l.length : Int) ≤ 1000000) : CallOk Try.prog (cchainR l).1 (cchainR l).2.1 (cchainR l).2.2 := callOk_pure (fun _ _ => by kernel_rfl) fun _ => pchainR l h0
def wCheckR_0 (s : TShape) : TPoint := (s.Edges.getD ((W64 (((s.Edges.length : Int)) - 1)).toNat) default).B
def FCheckR_l0 (s : TShape) : Nat → Int → Int
  | 0, _ => default
  | n0 + 1, v4 => bif decide ((v4 : Int) < ((s.Edges.length : Int))) then (bif !decide (((Fref06Check (s.Edges.getD v4.toNat default)) : Int) = 0) then (Fref06Check (s.Edges.getD v4.toNat default)) else ((FCheckR_l0 s n0) (v4 + 1))) else (bif bif !(FchainR s.Edges) then true else bif decide ((s.Kind : Int) = 2) then !((decide ((((s.Edges.getD 0 default).A).X) = ((wCheckR_0 s).X)) && (decide ((((s.Edges.getD 0 default).A).Y) = ((wCheckR_0 s).Y)) && true))) else false then (12) else (bif bif bif bif decide ((s.Kind : Int) = 2) then !decide ((s.R : Int) = 0) else false then true else decide ((s.R : Int) < 0) then true else decide ((4194304 : Int) < s.R) then (3) else (0)))
def FCheckR (s : TShape) : Int := bif decide ((s.Kind : Int) = 1) then (bif decide ((((s.Edges.length : Int)) : Int) < 1) then (12) else (bif decide ((40 : Int) < ((s.Edges.length : Int))) then (2) else (FCheckR_l0 s (((((s.Edges.length : Int))) - 0).toNat + 1) 0))) else (bif decide ((s.Kind : Int) = 2) then (bif decide ((((s.Edges.length : Int)) : Int) < 2) then (12) else (bif decide ((40 : Int) < ((s.Edges.length : Int))) then (2) else (FCheckR_l0 s (((((s.Edges.length : Int))) - 0).toNat + 1) 0))) else (12))
def cCheckR (s : TShape) : FuncId × List Av × Ef := (51, [.agg (TShape.c s)], .val [] (.av (.one (.i (FCheckR s)))))
set_option maxRecDepth 100000 in
theorem pCheckR (s : TShape) (hl : (s.Edges.length : Int) ≤ 1000000) : Pure Try.prog 51 (cCheckR s).2.1 (.av (.one (.i (FCheckR s)))) := by
  refine pure_of_awF Try.func51 rfl (by kernel_rfl) (by kernel_rfl) fun W0 M0 => ?_
  refine aw_seq ?_
  refine aw_region eqok [] [] [] [1] [1] [] ⟨[(1, tP 1 0)], [(1, .cells (TShape.c s) 36)]⟩ .nil (by kernel_rfl) .nil ?_
  refine ath_n ?_
  refine aw_seq ?_
  refine aw_region eqok [] [] [] [1, 3] [1] [] ⟨[(1, tP 1 0), (3, tI 1)], [(1, .cells (TShape.c s) 36)]⟩ .nil (by kernel_rfl) .nil ?_
  refine ath_n ?_
  refine aw_seq ?_
  refine aw_seq ?_
  refine aw_region eqok [] [] [] [1, 3, 9] [1] [] ⟨[(1, tP 1 0), (3, tI 1), (9, tI s.Kind)], [(1, .cells (TShape.c s) 36)]⟩ .nil (by kernel_rfl) .nil ?_
  refine ath_n ?_
  refine aw_block ?_
  refine aw_seq ?_
  refine aw_region eqok [] [] [] [1, 3, 9, 10] [1] [] ⟨[(1, tP 1 0), (3, tI 1), (9, tI s.Kind), (10, tB (decide ((s.Kind : Int) = 1)))], [(1, .cells (TShape.c s) 36)]⟩ .nil (by kernel_rfl) .nil ?_
  refine ath_n ?_
  refine aw_cond (decide ((s.Kind : Int) = 1)) (by kernel_rfl) (fun h1 => ?_) (fun h1 => ?_)
  · have g1 := of_decide_eq_true h1
    refine aw_skip ?_
    refine abl_n ?_
    refine ath_n ?_
    refine aw_seq ?_
    refine aw_seq ?_
    refine aw_region eqok [] [] [] [1, 18] [1] [] ⟨[(1, tP 1 0), (18, tB (decide ((((s.Edges.length : Int)) : Int) < 1)))], [(1, .cells (TShape.c s) 36)]⟩ .nil (by kernel_rfl) .nil ?_
    refine ath_n ?_
    refine aw_cond (decide ((((s.Edges.length : Int)) : Int) < 1)) (by kernel_rfl) (fun h2 => ?_) (fun h2 => ?_)
    · have g2 := of_decide_eq_true h2
      refine aw_seq ?_
      refine aw_region eqok [] [] [] [2] [] [] ⟨[(2, tI 12)], []⟩ .nil (by kernel_rfl) .nil ?_
      refine ath_n ?_
      refine aw_ret ?_
      refine ath_r ?_
      exact ⟨_, Cv.refl _, .inl rfl, .av (.one (.i 12)), by kernel_rfl, tve_eq (by first | (simp only [FCheckR, h1, h2, cond_true, cond_false]; done) | (simp only [FCheckR, h1, h2, cond_true, cond_false]; rfl))⟩
    · have g2 := of_decide_eq_false h2
      refine aw_skip ?_
      refine ath_n ?_
      refine aw_seq ?_
      refine aw_seq ?_
      refine aw_region eqok [] [] [] [1, 22] [1] [] ⟨[(1, tP 1 0), (22, tB (decide ((40 : Int) < ((s.Edges.length : Int)))))], [(1, .cells (TShape.c s) 36)]⟩ .nil (by kernel_rfl) .nil ?_
      refine ath_n ?_
      refine aw_cond (decide ((40 : Int) < ((s.Edges.length : Int)))) (by kernel_rfl) (fun h3 => ?_) (fun h3 => ?_)
      · have g3 := of_decide_eq_true h3
        refine aw_seq ?_
        refine aw_region eqok [] [] [] [2] [] [] ⟨[(2, tI 2)], []⟩ .nil (by kernel_rfl) .nil ?_
        refine ath_n ?_
        refine aw_ret ?_
        refine ath_r ?_
        exact ⟨_, Cv.refl _, .inl rfl, .av (.one (.i 2)), by kernel_rfl, tve_eq (by first | (simp only [FCheckR, h1, h2, h3, cond_true, cond_false]; done) | (simp only [FCheckR, h1, h2, h3, cond_true, cond_false]; rfl))⟩
      · have g3 := of_decide_eq_false h3
        refine aw_skip ?_
        refine ath_n ?_
        refine aw_seq ?_
        refine aw_seq ?_
        refine aw_region eqok [] [] [] [1, 4] [1] [] ⟨[(1, tP 1 0), (4, tI 0)], [(1, .cells (TShape.c s) 36)]⟩ .nil (by kernel_rfl) .nil ?_
        refine ath_n ?_
        refine aw_block ?_
        refine aw_loopC (ι := Nat × Int) (fun x => ⟨[(1, tP 1 0), (4, tI x.2)], [(1, .cells (TShape.c s) 36)]⟩) (fun x => ((((s.Edges.length : Int))) - x.2).toNat < x.1 ∧ (0 ≤ x.2 ∧ (x.2 ≤ ((s.Edges.length : Int)) ∨ x.2 = 0)) ∧ FCheckR_l0 s x.1 x.2 = FCheckR s) (fun x => x.1) ?_ (((((s.Edges.length : Int))) - 0).toNat + 1, 0) ⟨Nat.lt_succ_self _, ⟨(by show 0 ≤ 0; first | trivial | omega | (simp only [List.length_append, List.length_cons, List.length_nil]; omega) | (simp only [List.length_set, List.length_append, List.length_cons, List.length_nil]; omega) | (simp only [W64_def]; omega) | (simp; omega) | simp), (by show (0 ≤ ((s.Edges.length : Int)) ∨ 0 = 0); first | trivial | omega | (simp only [List.length_append, List.length_cons, List.length_nil]; omega) | (simp only [List.length_set, List.length_append, List.length_cons, List.length_nil]; omega) | (simp only [W64_def]; omega) | (simp; omega) | simp)⟩, (by simp only [FCheckR, h1, h2, h3, cond_true, cond_false])⟩
        rintro ⟨n0, v4⟩ ⟨hn, hinv, hF⟩
        have hm0 : ((((s.Edges.length : Int))) - v4).toNat < n0 := hn; have hinv0 : 0 ≤ v4 ∧ (v4 ≤ ((s.Edges.length : Int)) ∨ v4 = 0) := hinv; have hF0 : FCheckR_l0 s n0 v4 = FCheckR s := hF; clear hn hinv hF
        cases n0 with
        | zero => exact absurd hm0 (Nat.not_lt_zero _)
        | succ n0 =>
          refine aw_seq ?_
          refine aw_seq ?_
          refine aw_region eqok [] [] [] [1, 4, 27] [1] [] ⟨[(1, tP 1 0), (4, tI v4), (27, tB (decide ((v4 : Int) < ((s.Edges.length : Int)))))], [(1, .cells (TShape.c s) 36)]⟩ .nil (by kernel_rfl) .nil ?_
          refine ath_n ?_
          refine aw_cond (decide ((v4 : Int) < ((s.Edges.length : Int)))) (by kernel_rfl) (fun h4 => ?_) (fun h4 => ?_)
          · have g4 := of_decide_eq_true h4
            refine aw_skip ?_
            refine ath_n ?_
            refine aw_seq ?_
            refine aw_block ?_
            refine aw_seq ?_
            refine aw_region eqok [] [] [(35, cref06Check (s.Edges.getD v4.toNat default))] [1, 4, 5] [1] [0 ≤ (v4 : Int) ∧ (v4 : Int) < ((s.Edges.length : Nat) : Int), Same (cref06Check (s.Edges.getD v4.toNat default)).2.1] ⟨[(1, tP 1 0), (4, tI v4), (5, tI (Fref06Check (s.Edges.getD v4.toNat default)))], [(1, .cells (TShape.c s) 36)]⟩ (.cons (okref06Check (s.Edges.getD v4.toNat default)) .nil) (by kernel_rfl) (.cons (by first | decide | omega | exact idx_tmod (by first | omega | (simp only [W64_def]; omega)) (by omega) | (simp only [W64_def]; omega) | (constructor <;> omega) | (simp only [List.length_append, List.length_cons, List.length_nil]; omega) | (simp only [List.length_append, List.length_cons, List.length_nil, List.length_drop, List.length_take] at *; omega)) (.cons rfl .nil)) ?_
            refine ath_n ?_
            refine aw_seq ?_
            refine aw_region eqok [] [] [] [1, 4, 5, 37] [1] [] ⟨[(1, tP 1 0), (4, tI v4), (5, tI (Fref06Check (s.Edges.getD v4.toNat default))), (37, tB (!decide (((Fref06Check (s.Edges.getD v4.toNat default)) : Int) = 0)))], [(1, .cells (TShape.c s) 36)]⟩ .nil (by kernel_rfl) .nil ?_
            refine ath_n ?_
            refine aw_cond (!decide (((Fref06Check (s.Edges.getD v4.toNat default)) : Int) = 0)) (by kernel_rfl) (fun h5 => ?_) (fun h5 => ?_)
            · have g5 := of_not_decide_true h5
              refine aw_seq ?_
              refine aw_region eqok [] [] [] [2] [] [] ⟨[(2, tI (Fref06Check (s.Edges.getD v4.toNat default)))], []⟩ .nil (by kernel_rfl) .nil ?_
              refine ath_n ?_
              refine aw_ret ?_
              refine abl_r ?_
              refine ath_r ?_
              refine ath_r ?_
              refine abl_r ?_
              refine ath_r ?_
              exact ⟨_, Cv.refl _, .inl rfl, .av (.one (.i (Fref06Check (s.Edges.getD v4.toNat default)))), by kernel_rfl, tve_eq (by rw [← hF0]; first | (simp only [FCheckR_l0, h4, h5, cond_true, cond_false]; done) | (simp only [FCheckR_l0, h4, h5, cond_true, cond_false]; rfl))⟩
            · have g5 := of_not_decide_false h5
              refine aw_skip ?_
              refine abl_n ?_
              refine ath_n ?_
              refine aw_region eqok [] [] [] [1, 4] [1] [] ⟨[(1, tP 1 0), (4, tI (W64 (v4 + 1)))], [(1, .cells (TShape.c s) 36)]⟩ .nil (by kernel_rfl) .nil ?_
              (try rw [(show W64 (v4 + 1) = v4 + 1 from W64_id (by omega) (by first | omega | (simp only [List.length_drop, List.length_take] at *; omega)))])
              refine ath_n ?_
              refine ⟨(n0, v4 + 1), ⟨?_, ?_, (by rw [← hF0]; simp only [FCheckR_l0, h4, h5, cond_true, cond_false])⟩, Nat.lt_succ_self _, cv_eq (by kernel_rfl)⟩
              · show ((((s.Edges.length : Int))) - (v4 + 1)).toNat < n0; omega
              · exact ⟨(by show 0 ≤ (v4 + 1); first | trivial | omega | (simp only [List.length_append, List.length_cons, List.length_nil]; omega) | (simp only [List.length_set, List.length_append, List.length_cons, List.length_nil]; omega) | (simp only [W64_def]; omega) | (simp; omega) | simp), (by show ((v4 + 1) ≤ ((s.Edges.length : Int)) ∨ (v4 + 1) = 0); first | trivial | omega | (simp only [List.length_append, List.length_cons, List.length_nil]; omega) | (simp only [List.length_set, List.length_append, List.length_cons, List.length_nil]; omega) | (simp only [W64_def]; omega) | (simp; omega) | simp)⟩
          · have g4 := of_decide_eq_false h4
            refine aw_exit ?_
            refine ath_e ?_
            refine ath_e ?_
            refine abl_hit ?_
            refine ath_n ?_
            refine aw_seq ?_
            refine aw_region eqok [] [] [(41, cchainR s.Edges)] [1, 6] [1] [Same (cchainR s.Edges).2.1] ⟨[(1, tP 1 0), (6, tB (FchainR s.Edges))], [(1, .cells (TShape.c s) 36)]⟩ (.cons (okchainR s.Edges (by first | with_reducible assumption | omega | decide | (simp only [List.length_cons, List.length_nil, List.length_append]; omega) | assumption)) .nil) (by kernel_rfl) (.cons rfl .nil) ?_
            refine ath_n ?_
            refine aw_seq ?_
            refine aw_draw mixed eqok [] [] [] [1, 6, 7] [1] [0 ≤ (0 : Int) ∧ (0 : Int) < ((s.Edges.length : Nat) : Int), 0 ≤ (W64 (((s.Edges.length : Int)) - 1) : Int) ∧ (W64 (((s.Edges.length : Int)) - 1) : Int) < ((s.Edges.length : Nat) : Int)] ⟨[(1, tP 1 0), (6, tB (FchainR s.Edges)), (7, tB ((decide ((((s.Edges.getD 0 default).A).X) = ((wCheckR_0 s).X)) && (decide ((((s.Edges.getD 0 default).A).Y) = ((wCheckR_0 s).Y)) && true))))], [(1, .cells (TShape.c s) 36)]⟩ .nil (by kernel_rfl) (by kernel_rfl) (.cons (by first | decide | omega | exact idx_tmod (by first | omega | (simp only [W64_def]; omega)) (by omega) | (simp only [W64_def]; omega) | (constructor <;> omega) | (simp only [List.length_append, List.length_cons, List.length_nil]; omega) | (simp only [List.length_append, List.length_cons, List.length_nil, List.length_drop, List.length_take] at *; omega)) (.cons (by first | decide | omega | exact idx_tmod (by first | omega | (simp only [W64_def]; omega)) (by omega) | (simp only [W64_def]; omega) | (constructor <;> omega) | (simp only [List.length_append, List.length_cons, List.length_nil]; omega) | (simp only [List.length_append, List.length_cons, List.length_nil, List.length_drop, List.length_take] at *; omega)) .nil)) ?_
            refine ath_n ?_
            refine aw_seq ?_
            refine aw_seq ?_
            refine aw_region eqok [] [] [] [1, 67] [1] [((!(FchainR s.Edges)) = false) → ((!(FchainR s.Edges)) = false), ((!(FchainR s.Edges)) = false) → ((!(FchainR s.Edges)) = false), ((!(FchainR s.Edges)) = false) → ((!(FchainR s.Edges)) = false), (((!(FchainR s.Edges)) = false) ∧ (decide ((s.Kind : Int) = 2)) = true) → (((!(FchainR s.Edges)) = false) ∧ (decide ((s.Kind : Int) = 2)) = true), ((!(FchainR s.Edges)) = false) → ((!(FchainR s.Edges)) = false), ((!(FchainR s.Edges)) = false) → ((decide ((s.Kind : Int) = 2)) = true → (((!(FchainR s.Edges)) = false) ∧ (decide ((s.Kind : Int) = 2)) = true)), (!(FchainR s.Edges)) = false → ((!(FchainR s.Edges)) = false)] ⟨[(1, tP 1 0), (67, tB (bif !(FchainR s.Edges) then true else bif decide ((s.Kind : Int) = 2) then !((decide ((((s.Edges.getD 0 default).A).X) = ((wCheckR_0 s).X)) && (decide ((((s.Edges.getD 0 default).A).Y) = ((wCheckR_0 s).Y)) && true))) else false))], [(1, .cells (TShape.c s) 36)]⟩ .nil (by kernel_rfl) (.cons id (.cons id (.cons id (.cons id (.cons id (.cons (by intros; first | assumption | exact ⟨by assumption, by assumption⟩ | simp_all) (.cons id .nil))))))) ?_
            refine ath_n ?_
            refine aw_cond (bif !(FchainR s.Edges) then true else bif decide ((s.Kind : Int) = 2) then !((decide ((((s.Edges.getD 0 default).A).X) = ((wCheckR_0 s).X)) && (decide ((((s.Edges.getD 0 default).A).Y) = ((wCheckR_0 s).Y)) && true))) else false) (by kernel_rfl) (fun h5 => ?_) (fun h5 => ?_)
            · refine aw_seq ?_
              refine aw_region eqok [] [] [] [2] [] [] ⟨[(2, tI 12)], []⟩ .nil (by kernel_rfl) .nil ?_
              refine ath_n ?_
              refine aw_ret ?_
              refine ath_r ?_
              exact ⟨_, Cv.refl _, .inl rfl, .av (.one (.i 12)), by kernel_rfl, tve_eq (by rw [← hF0]; first | (simp only [FCheckR_l0, h4, h5, cond_true, cond_false]; done) | (simp only [FCheckR_l0, h4, h5, cond_true, cond_false]; rfl))⟩
            · refine aw_skip ?_
              refine ath_n ?_
              refine aw_seq ?_
              refine aw_seq ?_
              refine aw_region eqok [] [] [] [85] [] [((decide ((s.Kind : Int) = 2)) = true) → ((decide ((s.Kind : Int) = 2)) = true), ((decide ((s.Kind : Int) = 2)) = true) → ((decide ((s.Kind : Int) = 2)) = true), (decide ((s.Kind : Int) = 2)) = true → ((decide ((s.Kind : Int) = 2)) = true), ((bif decide ((s.Kind : Int) = 2) then !decide ((s.R : Int) = 0) else false) = false) → ((bif decide ((s.Kind : Int) = 2) then !decide ((s.R : Int) = 0) else false) = false), ((bif decide ((s.Kind : Int) = 2) then !decide ((s.R : Int) = 0) else false) = false) → ((bif decide ((s.Kind : Int) = 2) then !decide ((s.R : Int) = 0) else false) = false), (bif decide ((s.Kind : Int) = 2) then !decide ((s.R : Int) = 0) else false) = false → ((bif decide ((s.Kind : Int) = 2) then !decide ((s.R : Int) = 0) else false) = false), ((bif bif decide ((s.Kind : Int) = 2) then !decide ((s.R : Int) = 0) else false then true else decide ((s.R : Int) < 0)) = false) → ((bif bif decide ((s.Kind : Int) = 2) then !decide ((s.R : Int) = 0) else false then true else decide ((s.R : Int) < 0)) = false), ((bif bif decide ((s.Kind : Int) = 2) then !decide ((s.R : Int) = 0) else false then true else decide ((s.R : Int) < 0)) = false) → ((bif bif decide ((s.Kind : Int) = 2) then !decide ((s.R : Int) = 0) else false then true else decide ((s.R : Int) < 0)) = false), (bif bif decide ((s.Kind : Int) = 2) then !decide ((s.R : Int) = 0) else false then true else decide ((s.R : Int) < 0)) = false → ((bif bif decide ((s.Kind : Int) = 2) then !decide ((s.R : Int) = 0) else false then true else decide ((s.R : Int) < 0)) = false)] ⟨[(85, tB (bif bif bif decide ((s.Kind : Int) = 2) then !decide ((s.R : Int) = 0) else false then true else decide ((s.R : Int) < 0) then true else decide ((4194304 : Int) < s.R)))], []⟩ .nil (by kernel_rfl) (.cons id (.cons id (.cons id (.cons id (.cons id (.cons id (.cons id (.cons id (.cons id .nil))))))))) ?_
              refine ath_n ?_
              refine aw_cond (bif bif bif decide ((s.Kind : Int) = 2) then !decide ((s.R : Int) = 0) else false then true else decide ((s.R : Int) < 0) then true else decide ((4194304 : Int) < s.R)) (by kernel_rfl) (fun h6 => ?_) (fun h6 => ?_)
              · refine aw_seq ?_
                refine aw_region eqok [] [] [] [2] [] [] ⟨[(2, tI 3)], []⟩ .nil (by kernel_rfl) .nil ?_
                refine ath_n ?_
                refine aw_ret ?_
                refine ath_r ?_
                exact ⟨_, Cv.refl _, .inl rfl, .av (.one (.i 3)), by kernel_rfl, tve_eq (by rw [← hF0]; first | (simp only [FCheckR_l0, h4, h5, h6, cond_true, cond_false]; done) | (simp only [FCheckR_l0, h4, h5, h6, cond_true, cond_false]; rfl))⟩
              · refine aw_skip ?_
                refine ath_n ?_
                refine aw_seq ?_
                refine aw_region eqok [] [] [] [2] [] [] ⟨[(2, tI 0)], []⟩ .nil (by kernel_rfl) .nil ?_
                refine ath_n ?_
                refine aw_ret ?_
                exact ⟨_, Cv.refl _, .inl rfl, .av (.one (.i 0)), by kernel_rfl, tve_eq (by rw [← hF0]; first | (simp only [FCheckR_l0, h4, h5, h6, cond_true, cond_false]; done) | (simp only [FCheckR_l0, h4, h5, h6, cond_true, cond_false]; rfl))⟩
  · have g1 := of_decide_eq_false h1
    refine aw_seq ?_
    refine aw_region eqok [] [] [] [1, 12] [1] [] ⟨[(1, tP 1 0), (12, tB (decide ((s.Kind : Int) = 2)))], [(1, .cells (TShape.c s) 36)]⟩ .nil (by kernel_rfl) .nil ?_
    refine ath_n ?_
    refine aw_cond (decide ((s.Kind : Int) = 2)) (by kernel_rfl) (fun h2 => ?_) (fun h2 => ?_)
    · have g2 := of_decide_eq_true h2
      refine aw_region eqok [] [] [] [1, 3] [1] [] ⟨[(1, tP 1 0), (3, tI 2)], [(1, .cells (TShape.c s) 36)]⟩ .nil (by kernel_rfl) .nil ?_
      refine abl_n ?_
      refine ath_n ?_
      refine aw_seq ?_
      refine aw_seq ?_
      refine aw_region eqok [] [] [] [1, 18] [1] [] ⟨[(1, tP 1 0), (18, tB (decide ((((s.Edges.length : Int)) : Int) < 2)))], [(1, .cells (TShape.c s) 36)]⟩ .nil (by kernel_rfl) .nil ?_
      refine ath_n ?_
      refine aw_cond (decide ((((s.Edges.length : Int)) : Int) < 2)) (by kernel_rfl) (fun h3 => ?_) (fun h3 => ?_)
      · have g3 := of_decide_eq_true h3
        refine aw_seq ?_
        refine aw_region eqok [] [] [] [2] [] [] ⟨[(2, tI 12)], []⟩ .nil (by kernel_rfl) .nil ?_
        refine ath_n ?_
        refine aw_ret ?_
        refine ath_r ?_
        exact ⟨_, Cv.refl _, .inl rfl, .av (.one (.i 12)), by kernel_rfl, tve_eq (by first | (simp only [FCheckR, h1, h2, h3, cond_true, cond_false]; done) | (simp only [FCheckR, h1, h2, h3, cond_true, cond_false]; rfl))⟩
      · have g3 := of_decide_eq_false h3
        refine aw_skip ?_
        refine ath_n ?_
        refine aw_seq ?_
        refine aw_seq ?_
        refine aw_region eqok [] [] [] [1, 22] [1] [] ⟨[(1, tP 1 0), (22, tB (decide ((40 : Int) < ((s.Edges.length : Int)))))], [(1, .cells (TShape.c s) 36)]⟩ .nil (by kernel_rfl) .nil ?_
        refine ath_n ?_
        refine aw_cond (decide ((40 : Int) < ((s.Edges.length : Int)))) (by kernel_rfl) (fun h4 => ?_) (fun h4 => ?_)
        · have g4 := of_decide_eq_true h4
          refine aw_seq ?_
          refine aw_region eqok [] [] [] [2] [] [] ⟨[(2, tI 2)], []⟩ .nil (by kernel_rfl) .nil ?_
          refine ath_n ?_
          refine aw_ret ?_
          refine ath_r ?_
          exact ⟨_, Cv.refl _, .inl rfl, .av (.one (.i 2)), by kernel_rfl, tve_eq (by first | (simp only [FCheckR, h1, h2, h3, h4, cond_true, cond_false]; done) | (simp only [FCheckR, h1, h2, h3, h4, cond_true, cond_false]; rfl))⟩
        · have g4 := of_decide_eq_false h4
          refine aw_skip ?_
          refine ath_n ?_
          refine aw_seq ?_
          refine aw_seq ?_
          refine aw_region eqok [] [] [] [1, 4] [1] [] ⟨[(1, tP 1 0), (4, tI 0)], [(1, .cells (TShape.c s) 36)]⟩ .nil (by kernel_rfl) .nil ?_
          refine ath_n ?_
          refine aw_block ?_
          refine aw_loopC (ι := Nat × Int) (fun x => ⟨[(1, tP 1 0), (4, tI x.2)], [(1, .cells (TShape.c s) 36)]⟩) (fun x => ((((s.Edges.length : Int))) - x.2).toNat < x.1 ∧ (0 ≤ x.2 ∧ (x.2 ≤ ((s.Edges.length : Int)) ∨ x.2 = 0)) ∧ FCheckR_l0 s x.1 x.2 = FCheckR s) (fun x => x.1) ?_ (((((s.Edges.length : Int))) - 0).toNat + 1, 0) ⟨Nat.lt_succ_self _, ⟨(by show 0 ≤ 0; first | trivial | omega | (simp only [List.length_append, List.length_cons, List.length_nil]; omega) | (simp only [List.length_set, List.length_append, List.length_cons, List.length_nil]; omega) | (simp only [W64_def]; omega) | (simp; omega) | simp), (by show (0 ≤ ((s.Edges.length : Int)) ∨ 0 = 0); first | trivial | omega | (simp only [List.length_append, List.length_cons, List.length_nil]; omega) | (simp only [List.length_set, List.length_append, List.length_cons, List.length_nil]; omega) | (simp only [W64_def]; omega) | (simp; omega) | simp)⟩, (by simp only [FCheckR, h1, h2, h3, h4, cond_true, cond_false])⟩
          rintro ⟨n1, v4⟩ ⟨hn, hinv, hF⟩
          have hm1 : ((((s.Edges.length : Int))) - v4).toNat < n1 := hn; have hinv1 : 0 ≤ v4 ∧ (v4 ≤ ((s.Edges.length : Int)) ∨ v4 = 0) := hinv; have hF1 : FCheckR_l0 s n1 v4 = FCheckR s := hF; clear hn hinv hF
          cases n1 with
          | zero => exact absurd hm1 (Nat.not_lt_zero _)
          | succ n1 =>
            refine aw_seq ?_
            refine aw_seq ?_
            refine aw_region eqok [] [] [] [1, 4, 27] [1] [] ⟨[(1, tP 1 0), (4, tI v4), (27, tB (decide ((v4 : Int) < ((s.Edges.length : Int)))))], [(1, .cells (TShape.c s) 36)]⟩ .nil (by kernel_rfl) .nil ?_
            refine ath_n ?_
            refine aw_cond (decide ((v4 : Int) < ((s.Edges.length : Int)))) (by kernel_rfl) (fun h5 => ?_) (fun h5 => ?_)
            · have g5 := of_decide_eq_true h5
              refine aw_skip ?_
              refine ath_n ?_
              refine aw_seq ?_
              refine aw_block ?_
              refine aw_seq ?_
              refine aw_region eqok [] [] [(35, cref06Check (s.Edges.getD v4.toNat default))] [1, 4, 5] [1] [0 ≤ (v4 : Int) ∧ (v4 : Int) < ((s.Edges.length : Nat) : Int), Same (cref06Check (s.Edges.getD v4.toNat default)).2.1] ⟨[(1, tP 1 0), (4, tI v4), (5, tI (Fref06Check (s.Edges.getD v4.toNat default)))], [(1, .cells (TShape.c s) 36)]⟩ (.cons (okref06Check (s.Edges.getD v4.toNat default)) .nil) (by kernel_rfl) (.cons (by first | decide | omega | exact idx_tmod (by first | omega | (simp only [W64_def]; omega)) (by omega) | (simp only [W64_def]; omega) | (constructor <;> omega) | (simp only [List.length_append, List.length_cons, List.length_nil]; omega) | (simp only [List.length_append, List.length_cons, List.length_nil, List.length_drop, List.length_take] at *; omega)) (.cons rfl .nil)) ?_
              refine ath_n ?_
              refine aw_seq ?_
              refine aw_region eqok [] [] [] [1, 4, 5, 37] [1] [] ⟨[(1, tP 1 0), (4, tI v4), (5, tI (Fref06Check (s.Edges.getD v4.toNat default))), (37, tB (!decide (((Fref06Check (s.Edges.getD v4.toNat default)) : Int) = 0)))], [(1, .cells (TShape.c s) 36)]⟩ .nil (by kernel_rfl) .nil ?_
              refine ath_n ?_
              refine aw_cond (!decide (((Fref06Check (s.Edges.getD v4.toNat default)) : Int) = 0)) (by kernel_rfl) (fun h6 => ?_) (fun h6 => ?_)
              · have g6 := of_not_decide_true h6
                refine aw_seq ?_
                refine aw_region eqok [] [] [] [2] [] [] ⟨[(2, tI (Fref06Check (s.Edges.getD v4.toNat default)))], []⟩ .nil (by kernel_rfl) .nil ?_
                refine ath_n ?_
                refine aw_ret ?_
                refine abl_r ?_
                refine ath_r ?_
                refine ath_r ?_
                refine abl_r ?_
                refine ath_r ?_
                exact ⟨_, Cv.refl _, .inl rfl, .av (.one (.i (Fref06Check (s.Edges.getD v4.toNat default)))), by kernel_rfl, tve_eq (by rw [← hF1]; first | (simp only [FCheckR_l0, h5, h6, cond_true, cond_false]; done) | (simp only [FCheckR_l0, h5, h6, cond_true, cond_false]; rfl))⟩
              · have g6 := of_not_decide_false h6
                refine aw_skip ?_
                refine abl_n ?_
                refine ath_n ?_
                refine aw_region eqok [] [] [] [1, 4] [1] [] ⟨[(1, tP 1 0), (4, tI (W64 (v4 + 1)))], [(1, .cells (TShape.c s) 36)]⟩ .nil (by kernel_rfl) .nil ?_
                (try rw [(show W64 (v4 + 1) = v4 + 1 from W64_id (by omega) (by first | omega | (simp only [List.length_drop, List.length_take] at *; omega)))])
                refine ath_n ?_
                refine ⟨(n1, v4 + 1), ⟨?_, ?_, (by rw [← hF1]; simp only [FCheckR_l0, h5, h6, cond_true, cond_false])⟩, Nat.lt_succ_self _, cv_eq (by kernel_rfl)⟩
                · show ((((s.Edges.length : Int))) - (v4 + 1)).toNat < n1; omega
                · exact ⟨(by show 0 ≤ (v4 + 1); first | trivial | omega | (simp only [List.length_append, List.length_cons, List.length_nil]; omega) | (simp only [List.length_set, List.length_append, List.length_cons, List.length_nil]; omega) | (simp only [W64_def]; omega) | (simp; omega) | simp), (by show ((v4 + 1) ≤ ((s.Edges.length : Int)) ∨ (v4 + 1) = 0); first | trivial | omega | (simp only [List.length_append, List.length_cons, List.length_nil]; omega) | (simp only [List.length_set, List.length_append, List.length_cons, List.length_nil]; omega) | (simp only [W64_def]; omega) | (simp; omega) | simp)⟩
            · have g5 := of_decide_eq_false h5
              refine aw_exit ?_
              refine ath_e ?_
              refine ath_e ?_
              refine abl_hit ?_
              refine ath_n ?_
              refine aw_seq ?_
              refine aw_region eqok [] [] [(41, cchainR s.Edges)] [1, 6] [1] [Same (cchainR s.Edges).2.1] ⟨[(1, tP 1 0), (6, tB (FchainR s.Edges))], [(1, .cells (TShape.c s) 36)]⟩ (.cons (okchainR s.Edges (by first | with_reducible assumption | omega | decide | (simp only [List.length_cons, List.length_nil, List.length_append]; omega) | assumption)) .nil) (by kernel_rfl) (.cons rfl .nil) ?_
              refine ath_n ?_
              refine aw_seq ?_
              refine aw_draw mixed eqok [] [] [] [1, 6, 7] [1] [0 ≤ (0 : Int) ∧ (0 : Int) < ((s.Edges.length : Nat) : Int), 0 ≤ (W64 (((s.Edges.length : Int)) - 1) : Int) ∧ (W64 (((s.Edges.length : Int)) - 1) : Int) < ((s.Edges.length : Nat) : Int)] ⟨[(1, tP 1 0), (6, tB (FchainR s.Edges)), (7, tB ((decide ((((s.Edges.getD 0 default).A).X) = ((wCheckR_0 s).X)) && (decide ((((s.Edges.getD 0 default).A).Y) = ((wCheckR_0 s).Y)) && true))))], [(1, .cells (TShape.c s) 36)]⟩ .nil (by kernel_rfl) (by kernel_rfl) (.cons (by first | decide | omega | exact idx_tmod (by first | omega | (simp only [W64_def]; omega)) (by omega) | (simp only [W64_def]; omega) | (constructor <;> omega) | (simp only [List.length_append, List.length_cons, List.length_nil]; omega) | (simp only [List.length_append, List.length_cons, List.length_nil, List.length_drop, List.length_take] at *; omega)) (.cons (by first | decide | omega | exact idx_tmod (by first | omega | (simp only [W64_def]; omega)) (by omega) | (simp only [W64_def]; omega) | (constructor <;> omega) | (simp only [List.length_append, List.length_cons, List.length_nil]; omega) | (simp only [List.length_append, List.length_cons, List.length_nil, List.length_drop, List.length_take] at *; omega)) .nil)) ?_
              refine ath_n ?_
              refine aw_seq ?_
              refine aw_seq ?_
              refine aw_region eqok [] [] [] [1, 67] [1] [((!(FchainR s.Edges)) = false) → ((!(FchainR s.Edges)) = false), ((!(FchainR s.Edges)) = false) → ((!(FchainR s.Edges)) = false), ((!(FchainR s.Edges)) = false) → ((!(FchainR s.Edges)) = false), (((!(FchainR s.Edges)) = false) ∧ (decide ((s.Kind : Int) = 2)) = true) → (((!(FchainR s.Edges)) = false) ∧ (decide ((s.Kind : Int) = 2)) = true), ((!(FchainR s.Edges)) = false) → ((!(FchainR s.Edges)) = false), ((!(FchainR s.Edges)) = false) → ((decide ((s.Kind : Int) = 2)) = true → (((!(FchainR s.Edges)) = false) ∧ (decide ((s.Kind : Int) = 2)) = true)), (!(FchainR s.Edges)) = false → ((!(FchainR s.Edges)) = false)] ⟨[(1, tP 1 0), (67, tB (bif !(FchainR s.Edges) then true else bif decide ((s.Kind : Int) = 2) then !((decide ((((s.Edges.getD 0 default).A).X) = ((wCheckR_0 s).X)) && (decide ((((s.Edges.getD 0 default).A).Y) = ((wCheckR_0 s).Y)) && true))) else false))], [(1, .cells (TShape.c s) 36)]⟩ .nil (by kernel_rfl) (.cons id (.cons id (.cons id (.cons id (.cons id (.cons (by intros; first | assumption | exact ⟨by assumption, by assumption⟩ | simp_all) (.cons id .nil))))))) ?_
              refine ath_n ?_
              refine aw_cond (bif !(FchainR s.Edges) then true else bif decide ((s.Kind : Int) = 2) then !((decide ((((s.Edges.getD 0 default).A).X) = ((wCheckR_0 s).X)) && (decide ((((s.Edges.getD 0 default).A).Y) = ((wCheckR_0 s).Y)) && true))) else false) (by kernel_rfl) (fun h6 => ?_) (fun h6 => ?_)
              · refine aw_seq ?_
                refine aw_region eqok [] [] [] [2] [] [] ⟨[(2, tI 12)], []⟩ .nil (by kernel_rfl) .nil ?_
                refine ath_n ?_
                refine aw_ret ?_
                refine ath_r ?_
                exact ⟨_, Cv.refl _, .inl rfl, .av (.one (.i 12)), by kernel_rfl, tve_eq (by rw [← hF1]; first | (simp only [FCheckR_l0, h5, h6, cond_true, cond_false]; done) | (simp only [FCheckR_l0, h5, h6, cond_true, cond_false]; rfl))⟩
              · refine aw_skip ?_
                refine ath_n ?_
                refine aw_seq ?_
                refine aw_seq ?_
                refine aw_region eqok [] [] [] [85] [] [((decide ((s.Kind : Int) = 2)) = true) → ((decide ((s.Kind : Int) = 2)) = true), ((decide ((s.Kind : Int) = 2)) = true) → ((decide ((s.Kind : Int) = 2)) = true), (decide ((s.Kind : Int) = 2)) = true → ((decide ((s.Kind : Int) = 2)) = true), ((bif decide ((s.Kind : Int) = 2) then !decide ((s.R : Int) = 0) else false) = false) → ((bif decide ((s.Kind : Int) = 2) then !decide ((s.R : Int) = 0) else false) = false), ((bif decide ((s.Kind : Int) = 2) then !decide ((s.R : Int) = 0) else false) = false) → ((bif decide ((s.Kind : Int) = 2) then !decide ((s.R : Int) = 0) else false) = false), (bif decide ((s.Kind : Int) = 2) then !decide ((s.R : Int) = 0) else false) = false → ((bif decide ((s.Kind : Int) = 2) then !decide ((s.R : Int) = 0) else false) = false), ((bif bif decide ((s.Kind : Int) = 2) then !decide ((s.R : Int) = 0) else false then true else decide ((s.R : Int) < 0)) = false) → ((bif bif decide ((s.Kind : Int) = 2) then !decide ((s.R : Int) = 0) else false then true else decide ((s.R : Int) < 0)) = false), ((bif bif decide ((s.Kind : Int) = 2) then !decide ((s.R : Int) = 0) else false then true else decide ((s.R : Int) < 0)) = false) → ((bif bif decide ((s.Kind : Int) = 2) then !decide ((s.R : Int) = 0) else false then true else decide ((s.R : Int) < 0)) = false), (bif bif decide ((s.Kind : Int) = 2) then !decide ((s.R : Int) = 0) else false then true else decide ((s.R : Int) < 0)) = false → ((bif bif decide ((s.Kind : Int) = 2) then !decide ((s.R : Int) = 0) else false then true else decide ((s.R : Int) < 0)) = false)] ⟨[(85, tB (bif bif bif decide ((s.Kind : Int) = 2) then !decide ((s.R : Int) = 0) else false then true else decide ((s.R : Int) < 0) then true else decide ((4194304 : Int) < s.R)))], []⟩ .nil (by kernel_rfl) (.cons id (.cons id (.cons id (.cons id (.cons id (.cons id (.cons id (.cons id (.cons id .nil))))))))) ?_
                refine ath_n ?_
                refine aw_cond (bif bif bif decide ((s.Kind : Int) = 2) then !decide ((s.R : Int) = 0) else false then true else decide ((s.R : Int) < 0) then true else decide ((4194304 : Int) < s.R)) (by kernel_rfl) (fun h7 => ?_) (fun h7 => ?_)
                · refine aw_seq ?_
                  refine aw_region eqok [] [] [] [2] [] [] ⟨[(2, tI 3)], []⟩ .nil (by kernel_rfl) .nil ?_
                  refine ath_n ?_
                  refine aw_ret ?_
                  refine ath_r ?_
                  exact ⟨_, Cv.refl _, .inl rfl, .av (.one (.i 3)), by kernel_rfl, tve_eq (by rw [← hF1]; first | (simp only [FCheckR_l0, h5, h6, h7, cond_true, cond_false]; done) | (simp only [FCheckR_l0, h5, h6, h7, cond_true, cond_false]; rfl))⟩
                · refine aw_skip ?_
                  refine ath_n ?_
                  refine aw_seq ?_
                  refine aw_region eqok [] [] [] [2] [] [] ⟨[(2, tI 0)], []⟩ .nil (by kernel_rfl) .nil ?_
                  refine ath_n ?_
                  refine aw_ret ?_
                  exact ⟨_, Cv.refl _, .inl rfl, .av (.one (.i 0)), by kernel_rfl, tve_eq (by rw [← hF1]; first | (simp only [FCheckR_l0, h5, h6, h7, cond_true, cond_false]; done) | (simp only [FCheckR_l0, h5, h6, h7, cond_true, cond_false]; rfl))⟩
    · have g2 := of_decide_eq_false h2
      refine aw_seq ?_
      refine aw_region eqok [] [] [] [2] [] [] ⟨[(2, tI 12)], []⟩ .nil (by kernel_rfl) .nil ?_
      refine ath_n ?_
      refine aw_ret ?_
      refine abl_r ?_
      refine ath_r ?_
      exact ⟨_, Cv.refl _, .inl rfl, .av (.one (.i 12)), by kernel_rfl, tve_eq (by first | (simp only [FCheckR, h1, h2, cond_true, cond_false]; done) | (simp only [FCheckR, h1, h2, cond_true, cond_false]; rfl))⟩
theorem okCheckR (s : TShape) (hl : (s.Edges.length : Int) ≤ 1000000) : CallOk Try.prog (cCheckR s).1 (cCheckR s).2.1 (cCheckR s).2.2 := callOk_pure (fun _ _ => by kernel_rfl) fun _ => pCheckR s hl
def FsumE_l0 (xs : (List TEdge)) : Nat → Int → Int → Int
  | 0, _, _ => default
  | n0 + 1, n_, v10 => bif decide ((v10 : Int) < ((xs.length : Int))) then ((FsumE_l0 xs n0) (W64 (n_ + (FlenEdge (xs.getD v10.toNat default)))) (v10 + 1)) else (n_)
def FsumE (xs : (List TEdge)) : Int := FsumE_l0 xs (((((xs.length : Int))) - 0).toNat + 1) 0 0
set_option maxRecDepth 100000 in
theorem psumE  (xs : (List TEdge)) (hx : (xs.length : Int) ≤ 9223372036854775807) : Pure Try.prog 50 [.one (lst 7 TEdge.c xs), .one (.clo 14 0 (fun _ => default))] (.av (.one (.i (FsumE xs)))) := by
  refine pure_of_awF Try.func50 rfl (by kernel_rfl) (by kernel_rfl) fun W0 M0 => ?_
  refine aw_seq ?_
  refine aw_region eqok [] [] [] [0, 1] [] [] ⟨[(0, .av (.one (lst 7 TEdge.c xs))), (1, .av (.one (.clo 14 0 (fun _ => default))))], []⟩ .nil (by kernel_rfl) .nil ?_
  refine ath_n ?_
  refine aw_seq ?_
  refine aw_region eqok [] [] [] [0, 1, 5] [] [] ⟨[(0, .av (.one (lst 7 TEdge.c xs))), (1, .av (.one (.clo 14 0 (fun _ => default)))), (5, tI 0)], []⟩ .nil (by kernel_rfl) .nil ?_
  refine ath_n ?_
  refine aw_seq ?_
  refine aw_seq ?_
  refine aw_region eqok [] [] [] [1, 5, 8, 9, 10] [] [] ⟨[(1, .av (.one (.clo 14 0 (fun _ => default)))), (5, tI 0), (8, .av (.one (lst 7 TEdge.c xs))), (9, tI ((xs.length : Int))), (10, tI 0)], []⟩ .nil (by kernel_rfl) .nil ?_
  refine ath_n ?_
  refine aw_block ?_
  refine aw_loopC (ι := Nat × Int × Int) (fun x => ⟨[(1, .av (.one (.clo 14 0 (fun _ => default)))), (5, tI x.2.1), (8, .av (.one (lst 7 TEdge.c xs))), (9, tI ((xs.length : Int))), (10, tI x.2.2)], []⟩) (fun x => ((((xs.length : Int))) - x.2.2).toNat < x.1 ∧ (0 ≤ x.2.2 ∧ (x.2.2 ≤ ((xs.length : Int)) ∨ x.2.2 = 0)) ∧ FsumE_l0 xs x.1 x.2.1 x.2.2 = FsumE xs) (fun x => x.1) ?_ (((((xs.length : Int))) - 0).toNat + 1, 0, 0) ⟨Nat.lt_succ_self _, ⟨(by show 0 ≤ 0; first | trivial | omega | (simp only [List.length_append, List.length_cons, List.length_nil]; omega) | (simp only [List.length_set, List.length_append, List.length_cons, List.length_nil]; omega) | (simp only [W64_def]; omega) | (simp; omega) | simp), (by show (0 ≤ ((xs.length : Int)) ∨ 0 = 0); first | trivial | omega | (simp only [List.length_append, List.length_cons, List.length_nil]; omega) | (simp only [List.length_set, List.length_append, List.length_cons, List.length_nil]; omega) | (simp only [W64_def]; omega) | (simp; omega) | simp)⟩, (by simp only [FsumE, cond_true, cond_false])⟩
  rintro ⟨n0, n_, v10⟩ ⟨hn, hinv, hF⟩
  have hm0 : ((((xs.length : Int))) - v10).toNat < n0 := hn; have hinv0 : 0 ≤ v10 ∧ (v10 ≤ ((xs.length : Int)) ∨ v10 = 0) := hinv; have hF0 : FsumE_l0 xs n0 n_ v10 = FsumE xs := hF; clear hn hinv hF
  cases n0 with
  | zero => exact absurd hm0 (Nat.not_lt_zero _)
  | succ n0 =>
    refine aw_seq ?_
    refine aw_region eqok [] [] [] [1, 5, 8, 9, 10, 11] [] [] ⟨[(1, .av (.one (.clo 14 0 (fun _ => default)))), (5, tI n_), (8, .av (.one (lst 7 TEdge.c xs))), (9, tI ((xs.length : Int))), (10, tI v10), (11, tB (decide ((v10 : Int) < ((xs.length : Int)))))], []⟩ .nil (by kernel_rfl) .nil ?_
    refine ath_n ?_
    refine aw_seq ?_
    refine aw_cond (decide ((v10 : Int) < ((xs.length : Int)))) (by kernel_rfl) (fun h1 => ?_) (fun h1 => ?_)
    · have g1 := of_decide_eq_true h1
      refine aw_skip ?_
      refine ath_n ?_
      refine aw_seq ?_
      refine aw_block ?_
      refine aw_seq ?_
      refine aw_region eqok [] [] [] [1, 5, 7, 8, 9, 10] [7] [0 ≤ (v10 : Int) ∧ (v10 : Int) < ((xs.length : Nat) : Int)] ⟨[(1, .av (.one (.clo 14 0 (fun _ => default)))), (5, tI n_), (7, tP 7 0), (8, .av (.one (lst 7 TEdge.c xs))), (9, tI ((xs.length : Int))), (10, tI v10)], [(7, .cells (TEdge.c (xs.getD v10.toNat default)) 33)]⟩ .nil (by kernel_rfl) (.cons (by first | decide | omega | exact idx_tmod (by first | omega | (simp only [W64_def]; omega)) (by omega) | (simp only [W64_def]; omega) | (constructor <;> omega) | (simp only [List.length_append, List.length_cons, List.length_nil]; omega) | (simp only [List.length_append, List.length_cons, List.length_nil, List.length_drop, List.length_take] at *; omega)) .nil) ?_
      refine ath_n ?_
      refine aw_region eqok [] [] [(17, clenEdge (xs.getD v10.toNat default))] [1, 5, 8, 9, 10] [] [Same (clenEdge (xs.getD v10.toNat default)).2.1] ⟨[(1, .av (.one (.clo 14 0 (fun _ => default)))), (5, tI (W64 (n_ + (FlenEdge (xs.getD v10.toNat default))))), (8, .av (.one (lst 7 TEdge.c xs))), (9, tI ((xs.length : Int))), (10, tI v10)], []⟩ (.cons (oklenEdge (xs.getD v10.toNat default)) .nil) (by kernel_rfl) (.cons rfl .nil) ?_
      refine abl_n ?_
      refine ath_n ?_
      refine aw_region eqok [] [] [] [1, 5, 8, 9, 10] [] [] ⟨[(1, .av (.one (.clo 14 0 (fun _ => default)))), (5, tI (W64 (n_ + (FlenEdge (xs.getD v10.toNat default))))), (8, .av (.one (lst 7 TEdge.c xs))), (9, tI ((xs.length : Int))), (10, tI (W64 (v10 + 1)))], []⟩ .nil (by kernel_rfl) .nil ?_
      (try rw [(show W64 (v10 + 1) = v10 + 1 from W64_id (by omega) (by first | omega | (simp only [List.length_drop, List.length_take] at *; omega)))])
      refine ath_n ?_
      refine ⟨(n0, W64 (n_ + (FlenEdge (xs.getD v10.toNat default))), v10 + 1), ⟨?_, ?_, (by rw [← hF0]; simp only [FsumE_l0, h1, cond_true, cond_false])⟩, Nat.lt_succ_self _, cv_eq (by kernel_rfl)⟩
      · show ((((xs.length : Int))) - (v10 + 1)).toNat < n0; omega
      · exact ⟨(by show 0 ≤ (v10 + 1); first | trivial | omega | (simp only [List.length_append, List.length_cons, List.length_nil]; omega) | (simp only [List.length_set, List.length_append, List.length_cons, List.length_nil]; omega) | (simp only [W64_def]; omega) | (simp; omega) | simp), (by show ((v10 + 1) ≤ ((xs.length : Int)) ∨ (v10 + 1) = 0); first | trivial | omega | (simp only [List.length_append, List.length_cons, List.length_nil]; omega) | (simp only [List.length_set, List.length_append, List.length_cons, List.length_nil]; omega) | (simp only [W64_def]; omega) | (simp; omega) | simp)⟩
    · have g1 := of_decide_eq_false h1
      refine aw_exit ?_
      refine ath_e ?_
      refine ath_e ?_
      refine abl_hit ?_
      refine ath_n ?_
      refine aw_seq ?_
      refine aw_region eqok [] [] [] [4] [] [] ⟨[(4, tI n_)], []⟩ .nil (by kernel_rfl) .nil ?_
      refine ath_n ?_
      refine aw_ret ?_
      exact ⟨_, Cv.refl _, .inl rfl, .av (.one (.i n_)), by kernel_rfl, tve_eq (by rw [← hF0]; first | (simp only [FsumE_l0, h1, cond_true, cond_false]; done) | (simp only [FsumE_l0, h1, cond_true, cond_false]; rfl))⟩
def FlenShape (s : TShape) : Int := bif !decide (((FCheckS s) : Int) = 0) then (0) else (FsumE s.Edges)
def clenShape (s : TShape) : FuncId × List Av × Ef := (16, [.agg (TShape.c s)], .val [] (.av (.one (.i (FlenShape s)))))
set_option maxRecDepth 100000 in
theorem plenShape (s : TShape) (hl : (s.Edges.length : Int) ≤ 1000000) : Pure Try.prog 16 (clenShape s).2.1 (.av (.one (.i (FlenShape s)))) := by
  refine pure_of_awF Try.func16 rfl (by kernel_rfl) (by kernel_rfl) fun W0 M0 => ?_
  refine aw_seq ?_
  refine aw_region eqok [] [] [] [1] [1] [] ⟨[(1, tP 1 0)], [(1, .cells (TShape.c s) 36)]⟩ .nil (by kernel_rfl) .nil ?_
  refine ath_n ?_
  refine aw_seq ?_
  refine aw_seq ?_
  refine aw_region eqok [] [] [(4, cCheckS s)] [1, 5] [1] [Same (cCheckS s).2.1] ⟨[(1, tP 1 0), (5, tB (!decide (((FCheckS s) : Int) = 0)))], [(1, .cells (TShape.c s) 36)]⟩ (.cons (okCheckS s (by first | with_reducible assumption | omega | decide | (simp only [List.length_cons, List.length_nil, List.length_append]; omega) | assumption)) .nil) (by kernel_rfl) (.cons rfl .nil) ?_
  refine ath_n ?_
  refine aw_cond (!decide (((FCheckS s) : Int) = 0)) (by kernel_rfl) (fun h1 => ?_) (fun h1 => ?_)
  · have g1 := of_not_decide_true h1
    refine aw_seq ?_
    refine aw_region eqok [] [] [] [2] [] [] ⟨[(2, tI 0)], []⟩ .nil (by kernel_rfl) .nil ?_
    refine ath_n ?_
    refine aw_ret ?_
    refine ath_r ?_
    exact ⟨_, Cv.refl _, .inl rfl, .av (.one (.i 0)), by kernel_rfl, tve_eq (by first | (simp only [FlenShape, h1, cond_true, cond_false]; done) | (simp only [FlenShape, h1, cond_true, cond_false]; rfl))⟩
  · have g1 := of_not_decide_false h1
    refine aw_skip ?_
    refine ath_n ?_
    refine aw_seq ?_
    refine aw_region eqok [] [] [(8, (50, [.one (lst 7 TEdge.c s.Edges), .one (.clo 14 0 (fun _ => default))], .val [] (tI (FsumE s.Edges))))] [2] [] [Same [.one (lst 7 TEdge.c s.Edges), .one (.clo 14 0 (fun _ => default))]] ⟨[(2, tI (FsumE s.Edges))], []⟩ (.cons (callOk_pure (fun _ _ => by kernel_rfl) fun _ => psumE s.Edges (by first | with_reducible assumption | omega | decide | (simp only [List.length_cons, List.length_nil, List.length_append]; omega) | assumption)) .nil) (by kernel_rfl) (.cons rfl .nil) ?_
    refine ath_n ?_
    refine aw_ret ?_
    exact ⟨_, Cv.refl _, .inl rfl, .av (.one (.i (FsumE s.Edges))), by kernel_rfl, tve_eq (by first | (simp only [FlenShape, h1, cond_true, cond_false]; done) | (simp only [FlenShape, h1, cond_true, cond_false]; rfl))⟩
theorem oklenShape (s : TShape) (hl : (s.Edges.length : Int) ≤ 1000000) : CallOk Try.prog (clenShape s).1 (clenShape s).2.1 (clenShape s).2.2 := callOk_pure (fun _ _ => by kernel_rfl) fun _ => plenShape s hl
def FrefShape_l0 (s : TShape) : Nat → Int → Int → Int
  | 0, _, _ => default
  | n0 + 1, out, k => bif decide ((k : Int) < ((s.Edges.length : Int))) then ((FrefShape_l0 s n0) (W64 (out + (FrefEdge (s.Edges.getD k.toNat default)))) (k + 1)) else (out)
def FrefShape (s : TShape) : Int := bif !decide (((FCheckR s) : Int) = 0) then (0) else (FrefShape_l0 s (((((s.Edges.length : Int))) - 0).toNat + 1) 0 0)
def crefShape (s : TShape) : FuncId × List Av × Ef := (17, [.agg (TShape.c s)], .val [] (.av (.one (.i (FrefShape s)))))
set_option maxRecDepth 100000 in
theorem prefShape (s : TShape) (hl : (s.Edges.length : Int) ≤ 1000000) : Pure Try.prog 17 (crefShape s).2.1 (.av (.one (.i (FrefShape s)))) := by
  refine pure_of_awF Try.func17 rfl (by kernel_rfl) (by kernel_rfl) fun W0 M0 => ?_
  refine aw_seq ?_
  refine aw_region eqok [] [] [] [1] [1] [] ⟨[(1, tP 1 0)], [(1, .cells (TShape.c s) 36)]⟩ .nil (by kernel_rfl) .nil ?_
  refine ath_n ?_
  refine aw_seq ?_
  refine aw_seq ?_
  refine aw_region eqok [] [] [(6, cCheckR s)] [1, 7] [1] [Same (cCheckR s).2.1] ⟨[(1, tP 1 0), (7, tB (!decide (((FCheckR s) : Int) = 0)))], [(1, .cells (TShape.c s) 36)]⟩ (.cons (okCheckR s (by first | with_reducible assumption | omega | decide | (simp only [List.length_cons, List.length_nil, List.length_append]; omega) | assumption)) .nil) (by kernel_rfl) (.cons rfl .nil) ?_
  refine ath_n ?_
  refine aw_cond (!decide (((FCheckR s) : Int) = 0)) (by kernel_rfl) (fun h1 => ?_) (fun h1 => ?_)
  · have g1 := of_not_decide_true h1
    refine aw_seq ?_
    refine aw_region eqok [] [] [] [2] [] [] ⟨[(2, tI 0)], []⟩ .nil (by kernel_rfl) .nil ?_
    refine ath_n ?_
    refine aw_ret ?_
    refine ath_r ?_
    exact ⟨_, Cv.refl _, .inl rfl, .av (.one (.i 0)), by kernel_rfl, tve_eq (by first | (simp only [FrefShape, h1, cond_true, cond_false]; done) | (simp only [FrefShape, h1, cond_true, cond_false]; rfl))⟩
  · have g1 := of_not_decide_false h1
    refine aw_skip ?_
    refine ath_n ?_
    refine aw_seq ?_
    refine aw_region eqok [] [] [] [1, 3] [1] [] ⟨[(1, tP 1 0), (3, tI 0)], [(1, .cells (TShape.c s) 36)]⟩ .nil (by kernel_rfl) .nil ?_
    refine ath_n ?_
    refine aw_seq ?_
    refine aw_seq ?_
    refine aw_region eqok [] [] [] [1, 3, 4] [1] [] ⟨[(1, tP 1 0), (3, tI 0), (4, tI 0)], [(1, .cells (TShape.c s) 36)]⟩ .nil (by kernel_rfl) .nil ?_
    refine ath_n ?_
    refine aw_block ?_
    refine aw_loopC (ι := Nat × Int × Int) (fun x => ⟨[(1, tP 1 0), (3, tI x.2.1), (4, tI x.2.2)], [(1, .cells (TShape.c s) 36)]⟩) (fun x => ((((s.Edges.length : Int))) - x.2.2).toNat < x.1 ∧ (0 ≤ x.2.2 ∧ (x.2.2 ≤ ((s.Edges.length : Int)) ∨ x.2.2 = 0)) ∧ FrefShape_l0 s x.1 x.2.1 x.2.2 = FrefShape s) (fun x => x.1) ?_ (((((s.Edges.length : Int))) - 0).toNat + 1, 0, 0) ⟨Nat.lt_succ_self _, ⟨(by show 0 ≤ 0; first | trivial | omega | (simp only [List.length_append, List.length_cons, List.length_nil]; omega) | (simp only [List.length_set, List.length_append, List.length_cons, List.length_nil]; omega) | (simp only [W64_def]; omega) | (simp; omega) | simp), (by show (0 ≤ ((s.Edges.length : Int)) ∨ 0 = 0); first | trivial | omega | (simp only [List.length_append, List.length_cons, List.length_nil]; omega) | (simp only [List.length_set, List.length_append, List.length_cons, List.length_nil]; omega) | (simp only [W64_def]; omega) | (simp; omega) | simp)⟩, (by simp only [FrefShape, h1, cond_true, cond_false])⟩
    rintro ⟨n0, out, k⟩ ⟨hn, hinv, hF⟩
    have hm0 : ((((s.Edges.length : Int))) - k).toNat < n0 := hn; have hinv0 : 0 ≤ k ∧ (k ≤ ((s.Edges.length : Int)) ∨ k = 0) := hinv; have hF0 : FrefShape_l0 s n0 out k = FrefShape s := hF; clear hn hinv hF
    cases n0 with
    | zero => exact absurd hm0 (Nat.not_lt_zero _)
    | succ n0 =>
      refine aw_seq ?_
      refine aw_seq ?_
      refine aw_region eqok [] [] [] [1, 3, 4, 12] [1] [] ⟨[(1, tP 1 0), (3, tI out), (4, tI k), (12, tB (decide ((k : Int) < ((s.Edges.length : Int)))))], [(1, .cells (TShape.c s) 36)]⟩ .nil (by kernel_rfl) .nil ?_
      refine ath_n ?_
      refine aw_cond (decide ((k : Int) < ((s.Edges.length : Int)))) (by kernel_rfl) (fun h2 => ?_) (fun h2 => ?_)
      · have g2 := of_decide_eq_true h2
        refine aw_skip ?_
        refine ath_n ?_
        refine aw_seq ?_
        refine aw_block ?_
        refine aw_region eqok [] [] [(21, crefEdge (s.Edges.getD k.toNat default))] [1, 3, 4] [1] [0 ≤ (k : Int) ∧ (k : Int) < ((s.Edges.length : Nat) : Int), Same (crefEdge (s.Edges.getD k.toNat default)).2.1] ⟨[(1, tP 1 0), (3, tI (W64 (out + (FrefEdge (s.Edges.getD k.toNat default))))), (4, tI k)], [(1, .cells (TShape.c s) 36)]⟩ (.cons (okrefEdge (s.Edges.getD k.toNat default)) .nil) (by kernel_rfl) (.cons (by first | decide | omega | exact idx_tmod (by first | omega | (simp only [W64_def]; omega)) (by omega) | (simp only [W64_def]; omega) | (constructor <;> omega) | (simp only [List.length_append, List.length_cons, List.length_nil]; omega) | (simp only [List.length_append, List.length_cons, List.length_nil, List.length_drop, List.length_take] at *; omega)) (.cons rfl .nil)) ?_
        refine abl_n ?_
        refine ath_n ?_
        refine aw_region eqok [] [] [] [1, 3, 4] [1] [] ⟨[(1, tP 1 0), (3, tI (W64 (out + (FrefEdge (s.Edges.getD k.toNat default))))), (4, tI (W64 (k + 1)))], [(1, .cells (TShape.c s) 36)]⟩ .nil (by kernel_rfl) .nil ?_
        (try rw [(show W64 (k + 1) = k + 1 from W64_id (by omega) (by first | omega | (simp only [List.length_drop, List.length_take] at *; omega)))])
        refine ath_n ?_
        refine ⟨(n0, W64 (out + (FrefEdge (s.Edges.getD k.toNat default))), k + 1), ⟨?_, ?_, (by rw [← hF0]; simp only [FrefShape_l0, h2, cond_true, cond_false])⟩, Nat.lt_succ_self _, cv_eq (by kernel_rfl)⟩
        · show ((((s.Edges.length : Int))) - (k + 1)).toNat < n0; omega
        · exact ⟨(by show 0 ≤ (k + 1); first | trivial | omega | (simp only [List.length_append, List.length_cons, List.length_nil]; omega) | (simp only [List.length_set, List.length_append, List.length_cons, List.length_nil]; omega) | (simp only [W64_def]; omega) | (simp; omega) | simp), (by show ((k + 1) ≤ ((s.Edges.length : Int)) ∨ (k + 1) = 0); first | trivial | omega | (simp only [List.length_append, List.length_cons, List.length_nil]; omega) | (simp only [List.length_set, List.length_append, List.length_cons, List.length_nil]; omega) | (simp only [W64_def]; omega) | (simp; omega) | simp)⟩
      · have g2 := of_decide_eq_false h2
        refine aw_exit ?_
        refine ath_e ?_
        refine ath_e ?_
        refine abl_hit ?_
        refine ath_n ?_
        refine aw_seq ?_
        refine aw_region eqok [] [] [] [2] [] [] ⟨[(2, tI out)], []⟩ .nil (by kernel_rfl) .nil ?_
        refine ath_n ?_
        refine aw_ret ?_
        exact ⟨_, Cv.refl _, .inl rfl, .av (.one (.i out)), by kernel_rfl, tve_eq (by rw [← hF0]; first | (simp only [FrefShape_l0, h2, cond_true, cond_false]; done) | (simp only [FrefShape_l0, h2, cond_true, cond_false]; rfl))⟩
theorem okrefShape (s : TShape) (hl : (s.Edges.length : Int) ≤ 1000000) : CallOk Try.prog (crefShape s).1 (crefShape s).2.1 (crefShape s).2.2 := callOk_pure (fun _ _ => by kernel_rfl) fun _ => prefShape s hl
theorem and_dec1 {p : Prop} [Decidable p] {q : Bool} (h : (bif decide p then q else false) = true) : p := by
  by_cases hp : p
  · exact hp
  · rw [decide_eq_false hp] at h; cases h
end Go.Proofs.Ytgmhnkoifdpemaa
