/-
  No statement is proved in this text. It holds what functions return.
-/
import Derived.Test.YtpnlegfdkkcnlaaProg
import Derived.Test.YtpnlegfdkkcnlaaK9e
namespace Go.Proofs.Ytpnlegfdkkcnlaa
open Go.RowKit
set_option linter.unusedVariables false
set_option linter.unusedSimpArgs false
def Ftrim_l0 (d : (List Int)) : Nat → List Int → (List Int)
  | 0, _ => default
  | n0 + 1, d' => bif bif decide ((0 : Int) < ((d'.length : Int))) then decide (((d'.getD ((((d'.length : Int)) - 1).toNat) default) : Int) = 0) else false then ((Ftrim_l0 d n0) (d'.take (W64 (((d'.length : Int)) - 1) : Int).toNat)) else (d')
def Ftrim (d : (List Int)) : (List Int) := Ftrim_l0 d (d.length + 1) d
def ctrim (d : (List Int)) : FuncId × List Av × Ef := (114, [.one (lst 1 (fun x => [.val (.int .u32 x)]) d)], .val [] (.av (.one (lst 1 (fun x => [.val (.int .u32 x)]) (Ftrim d)))))
set_option maxRecDepth 100000 in
theorem ptrim (d : (List Int)) (h0 : (d.length : Int) ≤ 1000000) : Pure Try.prog 114 (ctrim d).2.1 (.av (.one (lst 1 (fun x => [.val (.int .u32 x)]) (Ftrim d)))) := by
  refine pure_of_awF Try.func114 rfl (by kernel_rfl) (by kernel_rfl) fun W0 M0 => ?_
  refine aw_seq ?_
  refine aw_region eqok [] [] [] [0] [] [] ⟨[(0, .av (.one (lst 1 (fun x => [.val (.int .u32 x)]) d)))], []⟩ .nil (by kernel_rfl) .nil ?_
  refine ath_n ?_
  refine aw_seq ?_
  refine aw_block ?_
  refine aw_loopC (ι := Nat × List Int) (fun x => ⟨[(0, .av (.one (lst 1 (fun x => [.val (.int .u32 x)]) x.2)))], []⟩) (fun x => x.2.length < x.1 ∧ ((x.2.length : Int) ≤ 1000000) ∧ Ftrim_l0 d x.1 x.2 = Ftrim d) (fun x => x.1) ?_ (d.length + 1, d) ⟨Nat.lt_succ_self _, (by show (d.length : Int) ≤ 1000000; first | trivial | omega | (simp only [List.length_append, List.length_cons, List.length_nil]; omega) | (simp only [List.length_set, List.length_append, List.length_cons, List.length_nil]; omega) | (simp only [W64_def]; omega) | (simp; omega) | simp), (by simp only [Ftrim, cond_true, cond_false])⟩
  rintro ⟨n0, d'⟩ ⟨hn, hinv, hF⟩
  have hm0 : d'.length < n0 := hn; have hinv0 : (d'.length : Int) ≤ 1000000 := hinv; have hF0 : Ftrim_l0 d n0 d' = Ftrim d := hF; clear hn hinv hF
  cases n0 with
  | zero => exact absurd hm0 (Nat.not_lt_zero _)
  | succ n0 =>
    refine aw_seq ?_
    refine aw_seq ?_
    refine aw_region eqok [] [] [] [0, 14] [] [((decide ((0 : Int) < ((d'.length : Int)))) = true) → ((decide ((0 : Int) < ((d'.length : Int)))) = true), ((decide ((0 : Int) < ((d'.length : Int)))) = true) → ((decide ((0 : Int) < ((d'.length : Int)))) = true), ((decide ((0 : Int) < ((d'.length : Int)))) = true) → ((decide ((0 : Int) < ((d'.length : Int)))) = true), ((decide ((0 : Int) < ((d'.length : Int)))) = true) → ((decide ((0 : Int) < ((d'.length : Int)))) = true), ((decide ((0 : Int) < ((d'.length : Int)))) = true) → (0 ≤ (W64 (((d'.length : Int)) - 1) : Int) ∧ (W64 (((d'.length : Int)) - 1) : Int) < ((d'.length : Nat) : Int)), ((decide ((0 : Int) < ((d'.length : Int)))) = true) → ((decide ((0 : Int) < ((d'.length : Int)))) = true), ((decide ((0 : Int) < ((d'.length : Int)))) = true) → ((decide ((0 : Int) < ((d'.length : Int)))) = true), (decide ((0 : Int) < ((d'.length : Int)))) = true → ((decide ((0 : Int) < ((d'.length : Int)))) = true)] ⟨[(0, .av (.one (lst 1 (fun x => [.val (.int .u32 x)]) d'))), (14, tB (bif decide ((0 : Int) < ((d'.length : Int))) then decide (((d'.getD ((W64 (((d'.length : Int)) - 1)).toNat) default) : Int) = 0) else false))], []⟩ .nil (by kernel_rfl) (.cons id (.cons id (.cons id (.cons id (.cons (fun hG => by first | exact (by first | decide | omega | exact idx_tmod (by first | omega | (simp only [W64_def]; omega)) (by omega) | (simp only [W64_def]; omega) | (constructor <;> omega) | (simp only [List.length_append, List.length_cons, List.length_nil]; omega) | (simp only [List.length_append, List.length_cons, List.length_nil, List.length_drop, List.length_take] at *; omega)) | (simp only [decide_eq_true_eq, decide_eq_false_iff_not, Bool.not_eq_true, Bool.and_eq_true] at hG <;> omega) | (simp at hG <;> omega) | (simp only [decide_eq_true_eq, decide_eq_false_iff_not] at hG; simp only [W64_def]; omega)) (.cons id (.cons id (.cons id .nil)))))))) ?_
    (try rw [(show W64 (((d'.length : Int)) - 1) = ((d'.length : Int)) - 1 from W64_id (by omega) (by omega))])
    refine ath_n ?_
    refine aw_cond (bif decide ((0 : Int) < ((d'.length : Int))) then decide (((d'.getD ((((d'.length : Int)) - 1).toNat) default) : Int) = 0) else false) (by kernel_rfl) (fun h1 => ?_) (fun h1 => ?_)
    · have g1 := and_dec h1
      refine aw_skip ?_
      refine ath_n ?_
      refine aw_block ?_
      refine aw_region eqok [] [] [] [0] [] [0 ≤ (0 : Int) ∧ (0 : Int) ≤ (W64 (((d'.length : Int)) - 1) : Int) ∧ (W64 (((d'.length : Int)) - 1) : Int) ≤ ((d'.length : Nat) : Int)] ⟨[(0, .av (.one (.list false 1 ((W64 (((d'.length : Int)) - 1) : Int).toNat - (0 : Int).toNat) (fun i j => (rowF (fun x => [.val (.int .u32 x)]) d') (i + (0 : Int).toNat) j))))], []⟩ .nil (by kernel_rfl) (.cons (by first | decide | omega | exact idx_tmod (by first | omega | (simp only [W64_def]; omega)) (by omega) | (simp only [W64_def]; omega) | (constructor <;> omega) | (simp only [List.length_append, List.length_cons, List.length_nil]; omega) | (simp only [List.length_append, List.length_cons, List.length_nil, List.length_drop, List.length_take] at *; omega)) .nil) ?_
      refine abl_n ?_
      refine ath_n ?_
      refine ⟨(n0, d'.take (W64 (((d'.length : Int)) - 1) : Int).toNat), ⟨?_, ?_, (by rw [← hF0]; simp only [Ftrim_l0, h1, cond_true, cond_false])⟩, Nat.lt_succ_self _, Cv.trans (cv_ce (⟨[(0, .av (.one (lst 1 (fun x => [.val (.int .u32 x)]) (d'.take (W64 (((d'.length : Int)) - 1) : Int).toNat))))], []⟩) (.cons ⟨rfl, .av (.one (cle_told false (told_take (b := W64 (((d'.length : Int)) - 1)) (told_rfl 1 (fun x => [.val (.int .u32 x)]) d') (by have hc := (show 0 ≤ (0 : Int) ∧ (0 : Int) ≤ (W64 (((d'.length : Int)) - 1) : Int) ∧ (W64 (((d'.length : Int)) - 1) : Int) ≤ ((d'.length : Nat) : Int) from (by first | decide | omega | exact idx_tmod (by first | omega | (simp only [W64_def]; omega)) (by omega) | (simp only [W64_def]; omega) | (constructor <;> omega) | (simp only [List.length_append, List.length_cons, List.length_nil]; omega) | (simp only [List.length_append, List.length_cons, List.length_nil, List.length_drop, List.length_take] at *; omega))); exact hc.2.1) (by have hc := (show 0 ≤ (0 : Int) ∧ (0 : Int) ≤ (W64 (((d'.length : Int)) - 1) : Int) ∧ (W64 (((d'.length : Int)) - 1) : Int) ≤ ((d'.length : Nat) : Int) from (by first | decide | omega | exact idx_tmod (by first | omega | (simp only [W64_def]; omega)) (by omega) | (simp only [W64_def]; omega) | (constructor <;> omega) | (simp only [List.length_append, List.length_cons, List.length_nil]; omega) | (simp only [List.length_append, List.length_cons, List.length_nil, List.length_drop, List.length_take] at *; omega))); exact hc.2.2))))⟩ .nil) .nil) (cv_eq (by kernel_rfl))⟩
      · show (d'.take (W64 (((d'.length : Int)) - 1) : Int).toNat).length < n0; (simp only [List.length_take, W64_def]; omega)
      · exact (by show ((d'.take (W64 (((d'.length : Int)) - 1) : Int).toNat).length : Int) ≤ 1000000; first | trivial | omega | (simp only [List.length_append, List.length_cons, List.length_nil]; omega) | (simp only [List.length_set, List.length_append, List.length_cons, List.length_nil]; omega) | (simp only [W64_def]; omega) | (simp; omega) | simp)
    · refine aw_exit ?_
      refine ath_e ?_
      refine ath_e ?_
      refine abl_hit ?_
      refine ath_n ?_
      refine aw_seq ?_
      refine aw_region eqok [] [] [] [2] [] [] ⟨[(2, .av (.one (lst 1 (fun x => [.val (.int .u32 x)]) d')))], []⟩ .nil (by kernel_rfl) .nil ?_
      refine ath_n ?_
      refine aw_ret ?_
      exact ⟨_, Cv.refl _, .inl rfl, .av (.one (lst 1 (fun x => [.val (.int .u32 x)]) d')), by kernel_rfl, tve_eq (by rw [← hF0]; first | (simp only [Ftrim_l0, h1, cond_true, cond_false]; done) | (simp only [Ftrim_l0, h1, cond_true, cond_false]; rfl))⟩
theorem oktrim (d : (List Int)) (h0 : (d.length : Int) ≤ 1000000) : CallOk Try.prog (ctrim d).1 (ctrim d).2.1 (ctrim d).2.2 := callOk_pure (fun _ _ => by kernel_rfl) fun _ => ptrim d h0
theorem trim_len (d : List Int) : (Ftrim d).length ≤ d.length := by
  have h : ∀ (n : Nat) (l : List Int), l.length < n → (Ftrim_l0 d n l).length ≤ l.length := by
    intro n
    induction n with
    | zero => intro l h; omega
    | succ n ih =>
      intro l h
      unfold Ftrim_l0
      by_cases h0 : (0 : Int) < ((l.length : Nat) : Int)
      · rw [decide_eq_true h0]
        simp only [cond_true]
        cases decide (((l.getD ((((l.length : Int)) - 1).toNat) default) : Int) = 0)
        · exact Nat.le_refl _
        · have hl : (l.take (W64 (((l.length : Int)) - 1) : Int).toNat).length < l.length ∨ l.length ≤ (W64 (((l.length : Int)) - 1) : Int).toNat := by rw [List.length_take]; omega
          rcases hl with hl | hl
          · exact Nat.le_trans (ih _ (by omega)) (Nat.le_of_lt hl)
          · exfalso
            simp only [W64_def] at hl
            omega
      · rw [decide_eq_false h0]
        exact Nat.le_refl _
  exact h _ _ (Nat.lt_succ_self _)
def FmadeN (neg : Bool) (d : (List Int)) : (TNum × Bool) := bif decide ((64 : Int) < (((Ftrim d).length : Int))) then ((TNum.mk false [], false)) else (bif decide (((((Ftrim d).length : Int)) : Int) = 0) then ((TNum.mk false [], true)) else ((TNum.mk neg (Ftrim d), true)))
def cmadeN (neg : Bool) (d : (List Int)) : FuncId × List Av × Ef := (108, [.one (.b neg), .one (lst 1 (fun x => [.val (.int .u32 x)]) d)], .val [] (.tup [.agg (TNum.c ((FmadeN neg d).1)), .one (.b ((FmadeN neg d).2))]))
set_option maxRecDepth 100000 in
theorem pmadeN (neg : Bool) (d : (List Int)) (h0 : (d.length : Int) ≤ 1000000) : Pure Try.prog 108 (cmadeN neg d).2.1 (.tup [.agg (TNum.c ((FmadeN neg d).1)), .one (.b ((FmadeN neg d).2))]) := by
  refine pure_of_awF Try.func108 rfl (by kernel_rfl) (by kernel_rfl) fun W0 M0 => ?_
  have ht := trim_len d
  have ht2 : ((Ftrim d).length : Int) ≤ 1000000 := by omega
  refine aw_seq ?_
  refine aw_region eqok [] [] [] [0, 1, 4] [4] [] ⟨[(0, tB neg), (1, .av (.one (lst 1 (fun x => [.val (.int .u32 x)]) d))), (4, tP 4 0)], [(4, .cells [.b false, .val (.slice none 0 0)] 118)]⟩ .nil (by kernel_rfl) .nil ?_
  refine ath_n ?_
  refine aw_seq ?_
  refine aw_region eqok [] [] [(7, ctrim d)] [0, 1, 4] [4] [Same (ctrim d).2.1] ⟨[(0, tB neg), (1, .av (.one (lst 1 (fun x => [.val (.int .u32 x)]) (Ftrim d)))), (4, tP 4 0)], [(4, .cells [.b false, .val (.slice none 0 0)] 118)]⟩ (.cons (oktrim d (by first | assumption | decide | omega | (simp only [List.length_cons, List.length_nil, List.length_append]; omega))) .nil) (by kernel_rfl) (.cons rfl .nil) ?_
  refine ath_n ?_
  refine aw_seq ?_
  refine aw_seq ?_
  refine aw_region eqok [] [] [] [0, 1, 4, 10] [4] [] ⟨[(0, tB neg), (1, .av (.one (lst 1 (fun x => [.val (.int .u32 x)]) (Ftrim d)))), (4, tP 4 0), (10, tB (decide ((64 : Int) < (((Ftrim d).length : Int)))))], [(4, .cells [.b false, .val (.slice none 0 0)] 118)]⟩ .nil (by kernel_rfl) .nil ?_
  refine ath_n ?_
  refine aw_cond (decide ((64 : Int) < (((Ftrim d).length : Int)))) (by kernel_rfl) (fun h1 => ?_) (fun h1 => ?_)
  · have g1 := of_decide_eq_true h1
    refine aw_seq ?_
    refine aw_region eqok [] [] [] [4, 5] [4] [] ⟨[(4, tP 4 0), (5, tB false)], [(4, .cells [.b false, .val (.slice none 0 0)] 118)]⟩ .nil (by kernel_rfl) .nil ?_
    refine ath_n ?_
    refine aw_ret ?_
    refine ath_r ?_
    exact ⟨_, Cv.refl _, .inl rfl, .tup [.agg [.b false, .val (.slice none 0 0)], .one (.b false)], by kernel_rfl, tve_of (y := .tup [.agg [.b false, lst 1 (fun x => [.val (.int .u32 x)]) []], .one (.b false)]) (.tup (.cons (.agg (.cons (.refl _) (.cons (cle_nil 1 (fun x => [.val (.int .u32 x)])) .nil))) (.cons (AvE.refl _) .nil))) (by first | (simp only [FmadeN, h1, cond_true, cond_false]; done) | (simp only [FmadeN, h1, cond_true, cond_false]; rfl))⟩
  · have g1 := of_decide_eq_false h1
    refine aw_skip ?_
    refine ath_n ?_
    refine aw_seq ?_
    refine aw_seq ?_
    refine aw_region eqok [] [] [] [0, 1, 4, 14] [4] [] ⟨[(0, tB neg), (1, .av (.one (lst 1 (fun x => [.val (.int .u32 x)]) (Ftrim d)))), (4, tP 4 0), (14, tB (decide (((((Ftrim d).length : Int)) : Int) = 0)))], [(4, .cells [.b false, .val (.slice none 0 0)] 118)]⟩ .nil (by kernel_rfl) .nil ?_
    refine ath_n ?_
    refine aw_cond (decide (((((Ftrim d).length : Int)) : Int) = 0)) (by kernel_rfl) (fun h2 => ?_) (fun h2 => ?_)
    · have g2 := of_decide_eq_true h2
      refine aw_seq ?_
      refine aw_region eqok [] [] [] [4, 5] [4] [] ⟨[(4, tP 4 0), (5, tB true)], [(4, .cells [.b false, .val (.slice none 0 0)] 118)]⟩ .nil (by kernel_rfl) .nil ?_
      refine ath_n ?_
      refine aw_ret ?_
      refine ath_r ?_
      exact ⟨_, Cv.refl _, .inl rfl, .tup [.agg [.b false, .val (.slice none 0 0)], .one (.b true)], by kernel_rfl, tve_of (y := .tup [.agg [.b false, lst 1 (fun x => [.val (.int .u32 x)]) []], .one (.b true)]) (.tup (.cons (.agg (.cons (.refl _) (.cons (cle_nil 1 (fun x => [.val (.int .u32 x)])) .nil))) (.cons (AvE.refl _) .nil))) (by first | (simp only [FmadeN, h1, h2, cond_true, cond_false]; done) | (simp only [FmadeN, h1, h2, cond_true, cond_false]; rfl))⟩
    · have g2 := of_decide_eq_false h2
      refine aw_skip ?_
      refine ath_n ?_
      refine aw_seq ?_
      refine aw_region eqok [17] [] [] [4, 5] [4, 19] [0 = 0, 0 + ((Ftrim d).length) ≤ maxLen, (0 + ((Ftrim d).length)) * 4 ≤ 140737488355328] ⟨[(4, tP 4 0), (5, tB true)], [(4, .cells [.b neg, .own 19 1 (0 + ((Ftrim d).length))] 118), (19, .row 1 (0 + ((Ftrim d).length)) (fun i j => if i < 0 then (colsC 1 0 []) i j else (rowF (fun x => [.val (.int .u32 x)]) (Ftrim d)) (i - 0) j) 40)]⟩ .nil (by kernel_rfl) (.cons rfl (.cons (by first | (unfold maxLen; omega) | (unfold maxLen; simp only [List.length_append, List.length_cons, List.length_nil]; omega) | first | omega | (simp only [List.length_append, List.length_cons, List.length_nil]; omega)) (.cons (by first | (unfold maxLen; omega) | (unfold maxLen; simp only [List.length_append, List.length_cons, List.length_nil]; omega) | first | omega | (simp only [List.length_append, List.length_cons, List.length_nil]; omega)) .nil))) ?_
      refine ath_n ?_
      refine aw_cv (Cv.trans (cv_ce (⟨[(4, tP 4 0), (5, tB true)], [(4, .cells [.b neg, .own 19 1 ((Ftrim d).length)] 118), (19, .row 1 ((Ftrim d).length) (rowF (fun x => [.val (.int .u32 x)]) (Ftrim d)) 40)]⟩) (.cons ⟨rfl, .refl _⟩ (.cons ⟨rfl, .refl _⟩ .nil)) (.cons ⟨rfl, .cells _ (.cons (.refl _) (.cons (.own _ _ (by first | (simp; done) | (simp; omega))) .nil))⟩ (.cons ⟨rfl, bke_told 40 (told_app (told_lit (c := (fun x => [.val (.int .u32 x)])) (xs := (([] : List Int) : List Int)) rfl (by kernel_rfl)) (told_rfl 1 (fun x => [.val (.int .u32 x)]) (Ftrim d)))⟩ .nil))) (Cv.refl _)) ?_
      refine aw_ret ?_
      exact ⟨_, Cv.trans (cv_fz (⟨[(4, tP 4 0), (5, tB true)], [(4, .cells [.b neg, lst 1 (fun x => [.val (.int .u32 x)]) (Ftrim d)] 118)]⟩) 19 1 ((Ftrim d).length) (rowF (fun x => [.val (.int .u32 x)]) (Ftrim d)) 40 (K := none) (fun k x h => by cases h) (by kernel_rfl) (by kernel_rfl) (.cons ⟨rfl, rfl⟩ .nil) (by kernel_rfl)) (Cv.refl _), .inl rfl, .tup [.agg [.b neg, lst 1 (fun x => [.val (.int .u32 x)]) (Ftrim d)], .one (.b true)], by kernel_rfl, tve_eq (by first | (simp only [FmadeN, h1, h2, cond_true, cond_false]; done) | (simp only [FmadeN, h1, h2, cond_true, cond_false]; rfl))⟩
theorem okmadeN (neg : Bool) (d : (List Int)) (h0 : (d.length : Int) ≤ 1000000) : CallOk Try.prog (cmadeN neg d).1 (cmadeN neg d).2.1 (cmadeN neg d).2.2 := callOk_pure (fun _ _ => by kernel_rfl) fun _ => pmadeN neg d h0
def FRightN (x0 : TNum) : Bool := bif decide ((((x0.D.length : Int)) : Int) ≤ 64) then bif bif decide ((((x0.D.length : Int)) : Int) = 0) then !x0.Neg else false then true else bif decide ((0 : Int) < ((x0.D.length : Int))) then !decide (((x0.D.getD ((W64 (((x0.D.length : Int)) - 1)).toNat) default) : Int) = 0) else false else false
def cRightN (x0 : TNum) : FuncId × List Av × Ef := (107, [.agg (TNum.c x0)], .val [] (.av (.one (.b (FRightN x0)))))
set_option maxRecDepth 100000 in
theorem pRightN (x0 : TNum) : Pure Try.prog 107 (cRightN x0).2.1 (.av (.one (.b (FRightN x0)))) := by
  refine pure_of_awF Try.func107 rfl (by kernel_rfl) (by kernel_rfl) fun W0 M0 => ?_
  refine aw_seq ?_
  refine aw_region eqok [] [] [] [1] [1] [] ⟨[(1, tP 1 0)], [(1, .cells (TNum.c x0) 118)]⟩ .nil (by kernel_rfl) .nil ?_
  refine ath_n ?_
  refine aw_seq ?_
  refine aw_region eqok [] [] [] [1, 3] [1] [] ⟨[(1, tP 1 0), (3, tI ((x0.D.length : Int)))], [(1, .cells (TNum.c x0) 118)]⟩ .nil (by kernel_rfl) .nil ?_
  refine ath_n ?_
  refine aw_seq ?_
  refine aw_region eqok [] [] [] [2] [] [((decide ((((x0.D.length : Int)) : Int) ≤ 64)) = true) → ((decide ((((x0.D.length : Int)) : Int) ≤ 64)) = true), ((decide ((((x0.D.length : Int)) : Int) ≤ 64)) = true) → ((decide ((((x0.D.length : Int)) : Int) ≤ 64)) = true), (((decide ((((x0.D.length : Int)) : Int) ≤ 64)) = true) ∧ (decide ((((x0.D.length : Int)) : Int) = 0)) = true) → (((decide ((((x0.D.length : Int)) : Int) ≤ 64)) = true) ∧ (decide ((((x0.D.length : Int)) : Int) = 0)) = true), (((decide ((((x0.D.length : Int)) : Int) ≤ 64)) = true) ∧ (decide ((((x0.D.length : Int)) : Int) = 0)) = true) → (((decide ((((x0.D.length : Int)) : Int) ≤ 64)) = true) ∧ (decide ((((x0.D.length : Int)) : Int) = 0)) = true), ((decide ((((x0.D.length : Int)) : Int) ≤ 64)) = true) → ((decide ((((x0.D.length : Int)) : Int) ≤ 64)) = true), ((decide ((((x0.D.length : Int)) : Int) ≤ 64)) = true) → ((decide ((((x0.D.length : Int)) : Int) = 0)) = true → (((decide ((((x0.D.length : Int)) : Int) ≤ 64)) = true) ∧ (decide ((((x0.D.length : Int)) : Int) = 0)) = true)), ((decide ((((x0.D.length : Int)) : Int) ≤ 64)) = true) → ((decide ((((x0.D.length : Int)) : Int) ≤ 64)) = true), (((decide ((((x0.D.length : Int)) : Int) ≤ 64)) = true) ∧ (bif decide ((((x0.D.length : Int)) : Int) = 0) then !x0.Neg else false) = false) → (((decide ((((x0.D.length : Int)) : Int) ≤ 64)) = true) ∧ (bif decide ((((x0.D.length : Int)) : Int) = 0) then !x0.Neg else false) = false), (((decide ((((x0.D.length : Int)) : Int) ≤ 64)) = true) ∧ (bif decide ((((x0.D.length : Int)) : Int) = 0) then !x0.Neg else false) = false) → (((decide ((((x0.D.length : Int)) : Int) ≤ 64)) = true) ∧ (bif decide ((((x0.D.length : Int)) : Int) = 0) then !x0.Neg else false) = false), ((((decide ((((x0.D.length : Int)) : Int) ≤ 64)) = true) ∧ (bif decide ((((x0.D.length : Int)) : Int) = 0) then !x0.Neg else false) = false) ∧ (decide ((0 : Int) < ((x0.D.length : Int)))) = true) → ((((decide ((((x0.D.length : Int)) : Int) ≤ 64)) = true) ∧ (bif decide ((((x0.D.length : Int)) : Int) = 0) then !x0.Neg else false) = false) ∧ (decide ((0 : Int) < ((x0.D.length : Int)))) = true), ((((decide ((((x0.D.length : Int)) : Int) ≤ 64)) = true) ∧ (bif decide ((((x0.D.length : Int)) : Int) = 0) then !x0.Neg else false) = false) ∧ (decide ((0 : Int) < ((x0.D.length : Int)))) = true) → ((((decide ((((x0.D.length : Int)) : Int) ≤ 64)) = true) ∧ (bif decide ((((x0.D.length : Int)) : Int) = 0) then !x0.Neg else false) = false) ∧ (decide ((0 : Int) < ((x0.D.length : Int)))) = true), ((((decide ((((x0.D.length : Int)) : Int) ≤ 64)) = true) ∧ (bif decide ((((x0.D.length : Int)) : Int) = 0) then !x0.Neg else false) = false) ∧ (decide ((0 : Int) < ((x0.D.length : Int)))) = true) → ((((decide ((((x0.D.length : Int)) : Int) ≤ 64)) = true) ∧ (bif decide ((((x0.D.length : Int)) : Int) = 0) then !x0.Neg else false) = false) ∧ (decide ((0 : Int) < ((x0.D.length : Int)))) = true), ((((decide ((((x0.D.length : Int)) : Int) ≤ 64)) = true) ∧ (bif decide ((((x0.D.length : Int)) : Int) = 0) then !x0.Neg else false) = false) ∧ (decide ((0 : Int) < ((x0.D.length : Int)))) = true) → ((((decide ((((x0.D.length : Int)) : Int) ≤ 64)) = true) ∧ (bif decide ((((x0.D.length : Int)) : Int) = 0) then !x0.Neg else false) = false) ∧ (decide ((0 : Int) < ((x0.D.length : Int)))) = true), ((((decide ((((x0.D.length : Int)) : Int) ≤ 64)) = true) ∧ (bif decide ((((x0.D.length : Int)) : Int) = 0) then !x0.Neg else false) = false) ∧ (decide ((0 : Int) < ((x0.D.length : Int)))) = true) → (0 ≤ (W64 (((x0.D.length : Int)) - 1) : Int) ∧ (W64 (((x0.D.length : Int)) - 1) : Int) < ((x0.D.length : Nat) : Int)), ((((decide ((((x0.D.length : Int)) : Int) ≤ 64)) = true) ∧ (bif decide ((((x0.D.length : Int)) : Int) = 0) then !x0.Neg else false) = false) ∧ (decide ((0 : Int) < ((x0.D.length : Int)))) = true) → ((((decide ((((x0.D.length : Int)) : Int) ≤ 64)) = true) ∧ (bif decide ((((x0.D.length : Int)) : Int) = 0) then !x0.Neg else false) = false) ∧ (decide ((0 : Int) < ((x0.D.length : Int)))) = true), ((((decide ((((x0.D.length : Int)) : Int) ≤ 64)) = true) ∧ (bif decide ((((x0.D.length : Int)) : Int) = 0) then !x0.Neg else false) = false) ∧ (decide ((0 : Int) < ((x0.D.length : Int)))) = true) → ((((decide ((((x0.D.length : Int)) : Int) ≤ 64)) = true) ∧ (bif decide ((((x0.D.length : Int)) : Int) = 0) then !x0.Neg else false) = false) ∧ (decide ((0 : Int) < ((x0.D.length : Int)))) = true), (((decide ((((x0.D.length : Int)) : Int) ≤ 64)) = true) ∧ (bif decide ((((x0.D.length : Int)) : Int) = 0) then !x0.Neg else false) = false) → (((decide ((((x0.D.length : Int)) : Int) ≤ 64)) = true) ∧ (bif decide ((((x0.D.length : Int)) : Int) = 0) then !x0.Neg else false) = false), (((decide ((((x0.D.length : Int)) : Int) ≤ 64)) = true) ∧ (bif decide ((((x0.D.length : Int)) : Int) = 0) then !x0.Neg else false) = false) → ((decide ((0 : Int) < ((x0.D.length : Int)))) = true → ((((decide ((((x0.D.length : Int)) : Int) ≤ 64)) = true) ∧ (bif decide ((((x0.D.length : Int)) : Int) = 0) then !x0.Neg else false) = false) ∧ (decide ((0 : Int) < ((x0.D.length : Int)))) = true)), ((decide ((((x0.D.length : Int)) : Int) ≤ 64)) = true) → ((decide ((((x0.D.length : Int)) : Int) ≤ 64)) = true), ((decide ((((x0.D.length : Int)) : Int) ≤ 64)) = true) → ((bif decide ((((x0.D.length : Int)) : Int) = 0) then !x0.Neg else false) = false → (((decide ((((x0.D.length : Int)) : Int) ≤ 64)) = true) ∧ (bif decide ((((x0.D.length : Int)) : Int) = 0) then !x0.Neg else false) = false)), (decide ((((x0.D.length : Int)) : Int) ≤ 64)) = true → ((decide ((((x0.D.length : Int)) : Int) ≤ 64)) = true)] ⟨[(2, tB (bif decide ((((x0.D.length : Int)) : Int) ≤ 64) then bif bif decide ((((x0.D.length : Int)) : Int) = 0) then !x0.Neg else false then true else bif decide ((0 : Int) < ((x0.D.length : Int))) then !decide (((x0.D.getD ((W64 (((x0.D.length : Int)) - 1)).toNat) default) : Int) = 0) else false else false))], []⟩ .nil (by kernel_rfl) (.cons id (.cons id (.cons id (.cons id (.cons id (.cons (by intros; first | assumption | exact ⟨by assumption, by assumption⟩ | simp_all) (.cons id (.cons id (.cons id (.cons id (.cons id (.cons id (.cons id (.cons (fun hG => by first | exact (by first | decide | omega | exact idx_tmod (by first | omega | (simp only [W64_def]; omega)) (by omega) | (simp only [W64_def]; omega) | (constructor <;> omega) | (simp only [List.length_append, List.length_cons, List.length_nil]; omega) | (simp only [List.length_append, List.length_cons, List.length_nil, List.length_drop, List.length_take] at *; omega)) | (simp only [decide_eq_true_eq, decide_eq_false_iff_not, Bool.not_eq_true, Bool.and_eq_true] at hG <;> omega) | (simp at hG <;> omega) | (simp only [decide_eq_true_eq, decide_eq_false_iff_not] at hG; simp only [W64_def]; omega)) (.cons id (.cons id (.cons id (.cons (by intros; first | assumption | exact ⟨by assumption, by assumption⟩ | simp_all) (.cons id (.cons (by intros; first | assumption | exact ⟨by assumption, by assumption⟩ | simp_all) (.cons id .nil))))))))))))))))))))) ?_
  refine ath_n ?_
  refine aw_ret ?_
  exact ⟨_, Cv.refl _, .inl rfl, .av (.one (.b (bif decide ((((x0.D.length : Int)) : Int) ≤ 64) then bif bif decide ((((x0.D.length : Int)) : Int) = 0) then !x0.Neg else false then true else bif decide ((0 : Int) < ((x0.D.length : Int))) then !decide (((x0.D.getD ((W64 (((x0.D.length : Int)) - 1)).toNat) default) : Int) = 0) else false else false))), by kernel_rfl, tve_eq (by rfl)⟩
theorem okRightN (x0 : TNum) : CallOk Try.prog (cRightN x0).1 (cRightN x0).2.1 (cRightN x0).2.2 := callOk_pure (fun _ _ => by kernel_rfl) fun _ => pRightN x0 
def wOfN_0 (x0 : Int) : TNum := (FmadeN (decide ((x0 : Int) < 0)) [IntKind.u32.wrap (bif decide ((x0 : Int) < 0) then (IntKind.u64.wrap (0 - (IntKind.u64.wrap (x0)))) else (IntKind.u64.wrap (x0))), IntKind.u32.wrap (Int.fdiv (bif decide ((x0 : Int) < 0) then (IntKind.u64.wrap (0 - (IntKind.u64.wrap (x0)))) else (IntKind.u64.wrap (x0))) 4294967296)]).1
def FOfN (x0 : Int) : TNum := wOfN_0 x0
def cOfN (x0 : Int) : FuncId × List Av × Ef := (93, [.one (.i x0)], .val [] (.av (.agg (TNum.c (FOfN x0)))))
set_option maxRecDepth 100000 in
theorem pOfN (x0 : Int) : Pure Try.prog 93 (cOfN x0).2.1 (.av (.agg (TNum.c (FOfN x0)))) := by
  refine pure_of_awF Try.func93 rfl (by kernel_rfl) (by kernel_rfl) fun W0 M0 => ?_
  refine aw_seq ?_
  refine aw_region eqok [] [] [] [0, 2] [2] [] ⟨[(0, tI x0), (2, tP 2 0)], [(2, .cells [.b false, .val (.slice none 0 0)] 118)]⟩ .nil (by kernel_rfl) .nil ?_
  refine ath_n ?_
  refine aw_seq ?_
  refine aw_region eqok [] [] [] [0, 2, 3] [2] [] ⟨[(0, tI x0), (2, tP 2 0), (3, .av (.one (.val (.int .u64 (IntKind.u64.wrap (x0))))))], [(2, .cells [.b false, .val (.slice none 0 0)] 118)]⟩ .nil (by kernel_rfl) .nil ?_
  refine ath_n ?_
  refine aw_seq ?_
  refine aw_seq ?_
  refine aw_region eqok [] [] [] [0, 2, 3, 9] [2] [] ⟨[(0, tI x0), (2, tP 2 0), (3, .av (.one (.val (.int .u64 (IntKind.u64.wrap (x0)))))), (9, tB (decide ((x0 : Int) < 0)))], [(2, .cells [.b false, .val (.slice none 0 0)] 118)]⟩ .nil (by kernel_rfl) .nil ?_
  refine ath_n ?_
  refine aw_joinC (⟨[(0, tI x0), (2, tP 2 0), (3, .av (.one (.val (.int .u64 (bif decide ((x0 : Int) < 0) then (IntKind.u64.wrap (0 - (IntKind.u64.wrap (x0)))) else (IntKind.u64.wrap (x0)))))))], [(2, .cells [.b false, .val (.slice none 0 0)] 118)]⟩) ?_ ?_
  · refine aw_cond (decide ((x0 : Int) < 0)) (by kernel_rfl) (fun h1 => ?_) (fun h1 => ?_)
    · have g1 := of_decide_eq_true h1
      refine aw_region eqok [] [] [] [0, 2, 3] [2] [] ⟨[(0, tI x0), (2, tP 2 0), (3, .av (.one (.val (.int .u64 (IntKind.u64.wrap (0 - (IntKind.u64.wrap (x0))))))))], [(2, .cells [.b false, .val (.slice none 0 0)] 118)]⟩ .nil (by kernel_rfl) .nil ?_
      refine ath_n ?_
      refine cv_eq ?_
      first | rfl | (simp only [h1, cond_true, cond_false]; done) | (simp only [h1, cond_true, cond_false]; rfl)
    · have g1 := of_decide_eq_false h1
      refine aw_skip ?_
      refine ath_n ?_
      refine Cv.trans (cv_keep [0, 2, 3] [2] (⟨[(0, tI x0), (2, tP 2 0), (3, .av (.one (.val (.int .u64 (IntKind.u64.wrap (x0))))))], [(2, .cells [.b false, .val (.slice none 0 0)] 118)]⟩) (by kernel_rfl)) (cv_eq ?_)
      first | rfl | (simp only [h1, cond_true, cond_false]; done) | (simp only [h1, cond_true, cond_false]; rfl)
  refine aw_seq ?_
  refine aw_region eqok [] [] [(21, ceI [.one (.b (decide ((x0 : Int) < 0))), .one (.list true 1 2 (colsC 1 2 [.val (.int .u32 (IntKind.u32.wrap (bif decide ((x0 : Int) < 0) then (IntKind.u64.wrap (0 - (IntKind.u64.wrap (x0)))) else (IntKind.u64.wrap (x0))))), .val (.int .u32 (IntKind.u32.wrap (Int.fdiv (bif decide ((x0 : Int) < 0) then (IntKind.u64.wrap (0 - (IntKind.u64.wrap (x0)))) else (IntKind.u64.wrap (x0))) 4294967296)))]))] (cmadeN (decide ((x0 : Int) < 0)) [IntKind.u32.wrap (bif decide ((x0 : Int) < 0) then (IntKind.u64.wrap (0 - (IntKind.u64.wrap (x0)))) else (IntKind.u64.wrap (x0))), IntKind.u32.wrap (Int.fdiv (bif decide ((x0 : Int) < 0) then (IntKind.u64.wrap (0 - (IntKind.u64.wrap (x0)))) else (IntKind.u64.wrap (x0))) 4294967296)]))] [2, 4] [2, 4] [0 ≤ (32 : Int), Same (ceI [.one (.b (decide ((x0 : Int) < 0))), .one (.list true 1 2 (colsC 1 2 [.val (.int .u32 (IntKind.u32.wrap (bif decide ((x0 : Int) < 0) then (IntKind.u64.wrap (0 - (IntKind.u64.wrap (x0)))) else (IntKind.u64.wrap (x0))))), .val (.int .u32 (IntKind.u32.wrap (Int.fdiv (bif decide ((x0 : Int) < 0) then (IntKind.u64.wrap (0 - (IntKind.u64.wrap (x0)))) else (IntKind.u64.wrap (x0))) 4294967296)))]))] (cmadeN (decide ((x0 : Int) < 0)) [IntKind.u32.wrap (bif decide ((x0 : Int) < 0) then (IntKind.u64.wrap (0 - (IntKind.u64.wrap (x0)))) else (IntKind.u64.wrap (x0))), IntKind.u32.wrap (Int.fdiv (bif decide ((x0 : Int) < 0) then (IntKind.u64.wrap (0 - (IntKind.u64.wrap (x0)))) else (IntKind.u64.wrap (x0))) 4294967296)])).2.1] ⟨[(2, tP 2 0), (4, tP 4 0)], [(2, .cells [.b false, .val (.slice none 0 0)] 118), (4, .cells (TNum.c (wOfN_0 x0)) 118)]⟩ (.cons (callOk_ce (okmadeN (decide ((x0 : Int) < 0)) [IntKind.u32.wrap (bif decide ((x0 : Int) < 0) then (IntKind.u64.wrap (0 - (IntKind.u64.wrap (x0)))) else (IntKind.u64.wrap (x0))), IntKind.u32.wrap (Int.fdiv (bif decide ((x0 : Int) < 0) then (IntKind.u64.wrap (0 - (IntKind.u64.wrap (x0)))) else (IntKind.u64.wrap (x0))) 4294967296)] (by first | assumption | decide | omega | (simp only [List.length_cons, List.length_nil, List.length_append]; omega))) (.cons (AvE.refl _) (.cons (.one (cle_told true (told_lit (c := (fun x => [.val (.int .u32 x)])) (xs := ([IntKind.u32.wrap (bif decide ((x0 : Int) < 0) then (IntKind.u64.wrap (0 - (IntKind.u64.wrap (x0)))) else (IntKind.u64.wrap (x0))), IntKind.u32.wrap (Int.fdiv (bif decide ((x0 : Int) < 0) then (IntKind.u64.wrap (0 - (IntKind.u64.wrap (x0)))) else (IntKind.u64.wrap (x0))) 4294967296)] : List Int)) rfl (by kernel_rfl)))) .nil))) .nil) (by kernel_rfl) (.cons (by decide) (.cons rfl .nil)) ?_
  refine ath_n ?_
  refine aw_seq ?_
  refine aw_region eqok [] [] [] [2] [2] [] ⟨[(2, tP 2 0)], [(2, .cells (TNum.c (wOfN_0 x0)) 118)]⟩ .nil (by kernel_rfl) .nil ?_
  refine ath_n ?_
  refine aw_ret ?_
  exact ⟨_, Cv.refl _, .inl rfl, .av (.agg (TNum.c (wOfN_0 x0))), by kernel_rfl, tve_eq (by rfl)⟩
theorem okOfN (x0 : Int) : CallOk Try.prog (cOfN x0).1 (cOfN x0).2.1 (cOfN x0).2.2 := callOk_pure (fun _ _ => by kernel_rfl) fun _ => pOfN x0 
def FcompareN_l0 (p1 : (List Int)) (p2 : (List Int)) : Nat → Int → Int
  | 0, _ => default
  | n0 + 1, k => bif decide ((0 : Int) ≤ k) then (bif decide (((p1.getD k.toNat default) : Int) < (p2.getD k.toNat default)) then ((-1)) else (bif decide (((p2.getD k.toNat default) : Int) < (p1.getD k.toNat default)) then (1) else ((FcompareN_l0 p1 p2 n0) (k - 1)))) else (0)
def FcompareN (p1 : (List Int)) (p2 : (List Int)) : Int := bif !decide ((((p1.length : Int)) : Int) = ((p2.length : Int))) then (bif decide ((((p1.length : Int)) : Int) < ((p2.length : Int))) then ((-1)) else (1)) else (FcompareN_l0 p1 p2 (((W64 (((p1.length : Int)) - 1)) + 1).toNat + 1) (W64 (((p1.length : Int)) - 1)))
def ccompareN (p1 : (List Int)) (p2 : (List Int)) : FuncId × List Av × Ef := (110, [.one (lst 1 (fun x => [.val (.int .u32 x)]) p1), .one (lst 1 (fun x => [.val (.int .u32 x)]) p2)], .val [] (.av (.one (.i (FcompareN p1 p2)))))
set_option maxRecDepth 100000 in
theorem pcompareN (p1 : (List Int)) (p2 : (List Int)) (h0 : (p1.length : Int) ≤ 1000000) (h1 : (p2.length : Int) ≤ 1000000) : Pure Try.prog 110 (ccompareN p1 p2).2.1 (.av (.one (.i (FcompareN p1 p2)))) := by
  refine pure_of_awF Try.func110 rfl (by kernel_rfl) (by kernel_rfl) fun W0 M0 => ?_
  refine aw_seq ?_
  refine aw_region eqok [] [] [] [0, 1] [] [] ⟨[(0, .av (.one (lst 1 (fun x => [.val (.int .u32 x)]) p1))), (1, .av (.one (lst 1 (fun x => [.val (.int .u32 x)]) p2)))], []⟩ .nil (by kernel_rfl) .nil ?_
  refine ath_n ?_
  refine aw_seq ?_
  refine aw_seq ?_
  refine aw_region eqok [] [] [] [0, 1, 10] [] [] ⟨[(0, .av (.one (lst 1 (fun x => [.val (.int .u32 x)]) p1))), (1, .av (.one (lst 1 (fun x => [.val (.int .u32 x)]) p2))), (10, tB (!decide ((((p1.length : Int)) : Int) = ((p2.length : Int)))))], []⟩ .nil (by kernel_rfl) .nil ?_
  refine ath_n ?_
  refine aw_cond (!decide ((((p1.length : Int)) : Int) = ((p2.length : Int)))) (by kernel_rfl) (fun h1 => ?_) (fun h1 => ?_)
  · have g1 := of_not_decide_true h1
    refine aw_seq ?_
    refine aw_seq ?_
    refine aw_region eqok [] [] [] [15] [] [] ⟨[(15, tB (decide ((((p1.length : Int)) : Int) < ((p2.length : Int)))))], []⟩ .nil (by kernel_rfl) .nil ?_
    refine ath_n ?_
    refine aw_cond (decide ((((p1.length : Int)) : Int) < ((p2.length : Int)))) (by kernel_rfl) (fun h2 => ?_) (fun h2 => ?_)
    · have g2 := of_decide_eq_true h2
      refine aw_seq ?_
      refine aw_region eqok [] [] [] [4] [] [] ⟨[(4, tI ((-1)))], []⟩ .nil (by kernel_rfl) .nil ?_
      refine ath_n ?_
      refine aw_ret ?_
      refine ath_r ?_
      refine ath_r ?_
      exact ⟨_, Cv.refl _, .inl rfl, .av (.one (.i ((-1)))), by kernel_rfl, tve_eq (by first | (simp only [FcompareN, h1, h2, cond_true, cond_false]; done) | (simp only [FcompareN, h1, h2, cond_true, cond_false]; rfl))⟩
    · have g2 := of_decide_eq_false h2
      refine aw_skip ?_
      refine ath_n ?_
      refine aw_seq ?_
      refine aw_region eqok [] [] [] [4] [] [] ⟨[(4, tI 1)], []⟩ .nil (by kernel_rfl) .nil ?_
      refine ath_n ?_
      refine aw_ret ?_
      refine ath_r ?_
      exact ⟨_, Cv.refl _, .inl rfl, .av (.one (.i 1)), by kernel_rfl, tve_eq (by first | (simp only [FcompareN, h1, h2, cond_true, cond_false]; done) | (simp only [FcompareN, h1, h2, cond_true, cond_false]; rfl))⟩
  · have g1 := of_not_decide_false h1
    refine aw_skip ?_
    refine ath_n ?_
    refine aw_seq ?_
    refine aw_seq ?_
    refine aw_region eqok [] [] [] [0, 1, 5] [] [] ⟨[(0, .av (.one (lst 1 (fun x => [.val (.int .u32 x)]) p1))), (1, .av (.one (lst 1 (fun x => [.val (.int .u32 x)]) p2))), (5, tI (W64 (((p1.length : Int)) - 1)))], []⟩ .nil (by kernel_rfl) .nil ?_
    refine ath_n ?_
    refine aw_block ?_
    refine aw_loopC (ι := Nat × Int) (fun x => ⟨[(0, .av (.one (lst 1 (fun x => [.val (.int .u32 x)]) p1))), (1, .av (.one (lst 1 (fun x => [.val (.int .u32 x)]) p2))), (5, tI x.2)], []⟩) (fun x => (x.2 + 1).toNat < x.1 ∧ (-1 ≤ x.2 ∧ x.2 < (p1.length : Int)) ∧ FcompareN_l0 p1 p2 x.1 x.2 = FcompareN p1 p2) (fun x => x.1) ?_ (((W64 (((p1.length : Int)) - 1)) + 1).toNat + 1, W64 (((p1.length : Int)) - 1)) ⟨Nat.lt_succ_self _, (by show -1 ≤ (W64 (((p1.length : Int)) - 1)) ∧ (W64 (((p1.length : Int)) - 1)) < (p1.length : Int); (simp only [W64_def]; omega)), (by simp only [FcompareN, h1, cond_true, cond_false])⟩
    rintro ⟨n0, k⟩ ⟨hn, hinv, hF⟩
    have hm0 : (k + 1).toNat < n0 := hn; have hinv0 : -1 ≤ k ∧ k < (p1.length : Int) := hinv; have hF0 : FcompareN_l0 p1 p2 n0 k = FcompareN p1 p2 := hF; clear hn hinv hF
    cases n0 with
    | zero => exact absurd hm0 (Nat.not_lt_zero _)
    | succ n0 =>
      refine aw_seq ?_
      refine aw_seq ?_
      refine aw_region eqok [] [] [] [0, 1, 5, 20] [] [] ⟨[(0, .av (.one (lst 1 (fun x => [.val (.int .u32 x)]) p1))), (1, .av (.one (lst 1 (fun x => [.val (.int .u32 x)]) p2))), (5, tI k), (20, tB (decide ((0 : Int) ≤ k)))], []⟩ .nil (by kernel_rfl) .nil ?_
      refine ath_n ?_
      refine aw_cond (decide ((0 : Int) ≤ k)) (by kernel_rfl) (fun h2 => ?_) (fun h2 => ?_)
      · have g2 := of_decide_eq_true h2
        refine aw_skip ?_
        refine ath_n ?_
        refine aw_seq ?_
        refine aw_block ?_
        refine aw_seq ?_
        refine aw_seq ?_
        refine aw_draw mixed eqok [] [] [] [0, 1, 5, 31] [] [0 ≤ (k : Int) ∧ (k : Int) < ((p1.length : Nat) : Int), 0 ≤ (k : Int) ∧ (k : Int) < ((p2.length : Nat) : Int)] ⟨[(0, .av (.one (lst 1 (fun x => [.val (.int .u32 x)]) p1))), (1, .av (.one (lst 1 (fun x => [.val (.int .u32 x)]) p2))), (5, tI k), (31, tB (decide (((p1.getD k.toNat default) : Int) < (p2.getD k.toNat default))))], []⟩ .nil (by kernel_rfl) (by kernel_rfl) (.cons (by first | decide | omega | exact idx_tmod (by first | omega | (simp only [W64_def]; omega)) (by omega) | (simp only [W64_def]; omega) | (constructor <;> omega) | (simp only [List.length_append, List.length_cons, List.length_nil]; omega) | (simp only [List.length_append, List.length_cons, List.length_nil, List.length_drop, List.length_take] at *; omega)) (.cons (by first | decide | omega | exact idx_tmod (by first | omega | (simp only [W64_def]; omega)) (by omega) | (simp only [W64_def]; omega) | (constructor <;> omega) | (simp only [List.length_append, List.length_cons, List.length_nil]; omega) | (simp only [List.length_append, List.length_cons, List.length_nil, List.length_drop, List.length_take] at *; omega)) .nil)) ?_
        refine ath_n ?_
        refine aw_cond (decide (((p1.getD k.toNat default) : Int) < (p2.getD k.toNat default))) (by kernel_rfl) (fun h3 => ?_) (fun h3 => ?_)
        · have g3 := of_decide_eq_true h3
          refine aw_seq ?_
          refine aw_region eqok [] [] [] [4] [] [] ⟨[(4, tI ((-1)))], []⟩ .nil (by kernel_rfl) .nil ?_
          refine ath_n ?_
          refine aw_ret ?_
          refine ath_r ?_
          refine abl_r ?_
          refine ath_r ?_
          refine ath_r ?_
          refine abl_r ?_
          refine ath_r ?_
          exact ⟨_, Cv.refl _, .inl rfl, .av (.one (.i ((-1)))), by kernel_rfl, tve_eq (by rw [← hF0]; first | (simp only [FcompareN_l0, h2, h3, cond_true, cond_false]; done) | (simp only [FcompareN_l0, h2, h3, cond_true, cond_false]; rfl))⟩
        · have g3 := of_decide_eq_false h3
          refine aw_skip ?_
          refine ath_n ?_
          refine aw_seq ?_
          refine aw_draw mixed eqok [] [] [] [0, 1, 5, 40] [] [0 ≤ (k : Int) ∧ (k : Int) < ((p1.length : Nat) : Int), 0 ≤ (k : Int) ∧ (k : Int) < ((p2.length : Nat) : Int)] ⟨[(0, .av (.one (lst 1 (fun x => [.val (.int .u32 x)]) p1))), (1, .av (.one (lst 1 (fun x => [.val (.int .u32 x)]) p2))), (5, tI k), (40, tB (decide (((p2.getD k.toNat default) : Int) < (p1.getD k.toNat default))))], []⟩ .nil (by kernel_rfl) (by kernel_rfl) (.cons (by first | decide | omega | exact idx_tmod (by first | omega | (simp only [W64_def]; omega)) (by omega) | (simp only [W64_def]; omega) | (constructor <;> omega) | (simp only [List.length_append, List.length_cons, List.length_nil]; omega) | (simp only [List.length_append, List.length_cons, List.length_nil, List.length_drop, List.length_take] at *; omega)) (.cons (by first | decide | omega | exact idx_tmod (by first | omega | (simp only [W64_def]; omega)) (by omega) | (simp only [W64_def]; omega) | (constructor <;> omega) | (simp only [List.length_append, List.length_cons, List.length_nil]; omega) | (simp only [List.length_append, List.length_cons, List.length_nil, List.length_drop, List.length_take] at *; omega)) .nil)) ?_
          refine ath_n ?_
          refine aw_cond (decide (((p2.getD k.toNat default) : Int) < (p1.getD k.toNat default))) (by kernel_rfl) (fun h4 => ?_) (fun h4 => ?_)
          · have g4 := of_decide_eq_true h4
            refine aw_seq ?_
            refine aw_region eqok [] [] [] [4] [] [] ⟨[(4, tI 1)], []⟩ .nil (by kernel_rfl) .nil ?_
            refine ath_n ?_
            refine aw_ret ?_
            refine abl_r ?_
            refine ath_r ?_
            refine ath_r ?_
            refine abl_r ?_
            refine ath_r ?_
            exact ⟨_, Cv.refl _, .inl rfl, .av (.one (.i 1)), by kernel_rfl, tve_eq (by rw [← hF0]; first | (simp only [FcompareN_l0, h2, h3, h4, cond_true, cond_false]; done) | (simp only [FcompareN_l0, h2, h3, h4, cond_true, cond_false]; rfl))⟩
          · have g4 := of_decide_eq_false h4
            refine aw_skip ?_
            refine abl_n ?_
            refine ath_n ?_
            refine aw_region eqok [] [] [] [0, 1, 5] [] [] ⟨[(0, .av (.one (lst 1 (fun x => [.val (.int .u32 x)]) p1))), (1, .av (.one (lst 1 (fun x => [.val (.int .u32 x)]) p2))), (5, tI (W64 (k - 1)))], []⟩ .nil (by kernel_rfl) .nil ?_
            (try rw [(show W64 (k - 1) = k - 1 from W64_id (by omega) (by omega))])
            refine ath_n ?_
            refine ⟨(n0, k - 1), ⟨?_, ?_, (by rw [← hF0]; simp only [FcompareN_l0, h2, h3, h4, cond_true, cond_false])⟩, Nat.lt_succ_self _, cv_eq (by kernel_rfl)⟩
            · show ((k - 1) + 1).toNat < n0; omega
            · exact ⟨(by show -1 ≤ (k - 1); first | trivial | omega | (simp only [List.length_append, List.length_cons, List.length_nil]; omega) | (simp only [List.length_set, List.length_append, List.length_cons, List.length_nil]; omega) | (simp only [W64_def]; omega) | (simp; omega) | simp), (by show (k - 1) < (p1.length : Int); first | trivial | omega | (simp only [List.length_append, List.length_cons, List.length_nil]; omega) | (simp only [List.length_set, List.length_append, List.length_cons, List.length_nil]; omega) | (simp only [W64_def]; omega) | (simp; omega) | simp)⟩
      · have g2 := of_decide_eq_false h2
        refine aw_exit ?_
        refine ath_e ?_
        refine ath_e ?_
        refine abl_hit ?_
        refine ath_n ?_
        refine aw_seq ?_
        refine aw_region eqok [] [] [] [4] [] [] ⟨[(4, tI 0)], []⟩ .nil (by kernel_rfl) .nil ?_
        refine ath_n ?_
        refine aw_ret ?_
        exact ⟨_, Cv.refl _, .inl rfl, .av (.one (.i 0)), by kernel_rfl, tve_eq (by rw [← hF0]; first | (simp only [FcompareN_l0, h2, cond_true, cond_false]; done) | (simp only [FcompareN_l0, h2, cond_true, cond_false]; rfl))⟩
theorem okcompareN (p1 : (List Int)) (p2 : (List Int)) (h0 : (p1.length : Int) ≤ 1000000) (h1 : (p2.length : Int) ≤ 1000000) : CallOk Try.prog (ccompareN p1 p2).1 (ccompareN p1 p2).2.1 (ccompareN p1 p2).2.2 := callOk_pure (fun _ _ => by kernel_rfl) fun _ => pcompareN p1 p2 h0 h1
def wCmpN_0 (p1 : TNum) : Bool := FRightN p1
def wCmpN_1 (p1 : TNum) : Bool := !(wCmpN_0 p1)
def wCmpN_2 (p1 : TNum) : Bool := wCmpN_1 p1
def wCmpN_3 (p1 : TNum) (p2 : TNum) : Bool := bif wCmpN_2 p1 then true else !(FRightN p2)
def wCmpN_4 (p1 : TNum) (p2 : TNum) : Bool := !(p1.Neg == p2.Neg)
def FCmpN (p1 : TNum) (p2 : TNum) : Int := bif wCmpN_3 p1 p2 then (0) else (bif wCmpN_4 p1 p2 then (bif p1.Neg then ((-1)) else (1)) else (bif p1.Neg then (FcompareN p2.D p1.D) else (FcompareN p1.D p2.D)))
def cCmpN (p1 : TNum) (p2 : TNum) : FuncId × List Av × Ef := (94, [.agg (TNum.c p1), .agg (TNum.c p2)], .val [] (.av (.one (.i (FCmpN p1 p2)))))
set_option maxRecDepth 100000 in
theorem pCmpN (p1 : TNum) (p2 : TNum) (h0 : (p1.D.length : Int) ≤ 1000000) (h1 : (p2.D.length : Int) ≤ 1000000) : Pure Try.prog 94 (cCmpN p1 p2).2.1 (.av (.one (.i (FCmpN p1 p2)))) := by
  refine pure_of_awF Try.func94 rfl (by kernel_rfl) (by kernel_rfl) fun W0 M0 => ?_
  refine aw_seq ?_
  refine aw_region eqok [] [] [] [2, 3] [2, 3] [] ⟨[(2, tP 2 0), (3, tP 3 0)], [(2, .cells (TNum.c p1) 118), (3, .cells (TNum.c p2) 118)]⟩ .nil (by kernel_rfl) .nil ?_
  refine ath_n ?_
  refine aw_seq ?_
  refine aw_seq ?_
  refine aw_region eqok [] [] [(6, cRightN p1), (10, cRightN p2)] [2, 3, 12] [2, 3] [Same (cRightN p1).2.1, ((wCmpN_2 p1) = false) → ((wCmpN_2 p1) = false), ((wCmpN_2 p1) = false) → (Same (cRightN p2).2.1), ((wCmpN_2 p1) = false) → ((wCmpN_2 p1) = false), (wCmpN_2 p1) = false → ((wCmpN_2 p1) = false)] ⟨[(2, tP 2 0), (3, tP 3 0), (12, tB (wCmpN_3 p1 p2))], [(2, .cells (TNum.c p1) 118), (3, .cells (TNum.c p2) 118)]⟩ (.cons (okRightN p1) (.cons (okRightN p2) .nil)) (by kernel_rfl) (.cons rfl (.cons id (.cons (fun _ => rfl) (.cons id (.cons id .nil))))) ?_
  refine ath_n ?_
  refine aw_cond (wCmpN_3 p1 p2) (by kernel_rfl) (fun h1 => ?_) (fun h1 => ?_)
  · refine aw_seq ?_
    refine aw_region eqok [] [] [] [4] [] [] ⟨[(4, tI 0)], []⟩ .nil (by kernel_rfl) .nil ?_
    refine ath_n ?_
    refine aw_ret ?_
    refine ath_r ?_
    exact ⟨_, Cv.refl _, .inl rfl, .av (.one (.i 0)), by kernel_rfl, tve_eq (by first | (simp only [FCmpN, h1, cond_true, cond_false]; done) | (simp only [FCmpN, h1, cond_true, cond_false]; rfl))⟩
  · refine aw_skip ?_
    refine ath_n ?_
    refine aw_seq ?_
    refine aw_seq ?_
    refine aw_region eqok [] [] [] [2, 3, 17] [2, 3] [] ⟨[(2, tP 2 0), (3, tP 3 0), (17, tB (wCmpN_4 p1 p2))], [(2, .cells (TNum.c p1) 118), (3, .cells (TNum.c p2) 118)]⟩ .nil (by kernel_rfl) .nil ?_
    refine ath_n ?_
    refine aw_cond (wCmpN_4 p1 p2) (by kernel_rfl) (fun h2 => ?_) (fun h2 => ?_)
    · refine aw_seq ?_
      refine aw_seq ?_
      refine aw_region eqok [] [] [] [19] [] [] ⟨[(19, tB p1.Neg)], []⟩ .nil (by kernel_rfl) .nil ?_
      refine ath_n ?_
      refine aw_cond (p1.Neg) (by kernel_rfl) (fun h3 => ?_) (fun h3 => ?_)
      · refine aw_seq ?_
        refine aw_region eqok [] [] [] [4] [] [] ⟨[(4, tI ((-1)))], []⟩ .nil (by kernel_rfl) .nil ?_
        refine ath_n ?_
        refine aw_ret ?_
        refine ath_r ?_
        refine ath_r ?_
        exact ⟨_, Cv.refl _, .inl rfl, .av (.one (.i ((-1)))), by kernel_rfl, tve_eq (by first | (simp only [FCmpN, h1, h2, h3, cond_true, cond_false]; done) | (simp only [FCmpN, h1, h2, h3, cond_true, cond_false]; rfl))⟩
      · refine aw_skip ?_
        refine ath_n ?_
        refine aw_seq ?_
        refine aw_region eqok [] [] [] [4] [] [] ⟨[(4, tI 1)], []⟩ .nil (by kernel_rfl) .nil ?_
        refine ath_n ?_
        refine aw_ret ?_
        refine ath_r ?_
        exact ⟨_, Cv.refl _, .inl rfl, .av (.one (.i 1)), by kernel_rfl, tve_eq (by first | (simp only [FCmpN, h1, h2, h3, cond_true, cond_false]; done) | (simp only [FCmpN, h1, h2, h3, cond_true, cond_false]; rfl))⟩
    · refine aw_skip ?_
      refine ath_n ?_
      refine aw_seq ?_
      refine aw_seq ?_
      refine aw_region eqok [] [] [] [2, 3, 21] [2, 3] [] ⟨[(2, tP 2 0), (3, tP 3 0), (21, tB p1.Neg)], [(2, .cells (TNum.c p1) 118), (3, .cells (TNum.c p2) 118)]⟩ .nil (by kernel_rfl) .nil ?_
      refine ath_n ?_
      refine aw_cond (p1.Neg) (by kernel_rfl) (fun h3 => ?_) (fun h3 => ?_)
      · refine aw_seq ?_
        refine aw_region eqok [] [] [(26, ccompareN p2.D p1.D)] [4] [] [Same (ccompareN p2.D p1.D).2.1] ⟨[(4, tI (FcompareN p2.D p1.D))], []⟩ (.cons (okcompareN p2.D p1.D (by first | assumption | decide | omega | (simp only [List.length_cons, List.length_nil, List.length_append]; omega)) (by first | assumption | decide | omega | (simp only [List.length_cons, List.length_nil, List.length_append]; omega))) .nil) (by kernel_rfl) (.cons rfl .nil) ?_
        refine ath_n ?_
        refine aw_ret ?_
        refine ath_r ?_
        exact ⟨_, Cv.refl _, .inl rfl, .av (.one (.i (FcompareN p2.D p1.D))), by kernel_rfl, tve_eq (by first | (simp only [FCmpN, h1, h2, h3, cond_true, cond_false]; done) | (simp only [FCmpN, h1, h2, h3, cond_true, cond_false]; rfl))⟩
      · refine aw_skip ?_
        refine ath_n ?_
        refine aw_seq ?_
        refine aw_region eqok [] [] [(31, ccompareN p1.D p2.D)] [4] [] [Same (ccompareN p1.D p2.D).2.1] ⟨[(4, tI (FcompareN p1.D p2.D))], []⟩ (.cons (okcompareN p1.D p2.D (by first | assumption | decide | omega | (simp only [List.length_cons, List.length_nil, List.length_append]; omega)) (by first | assumption | decide | omega | (simp only [List.length_cons, List.length_nil, List.length_append]; omega))) .nil) (by kernel_rfl) (.cons rfl .nil) ?_
        refine ath_n ?_
        refine aw_ret ?_
        exact ⟨_, Cv.refl _, .inl rfl, .av (.one (.i (FcompareN p1.D p2.D))), by kernel_rfl, tve_eq (by first | (simp only [FCmpN, h1, h2, h3, cond_true, cond_false]; done) | (simp only [FCmpN, h1, h2, h3, cond_true, cond_false]; rfl))⟩
theorem okCmpN (p1 : TNum) (p2 : TNum) (h0 : (p1.D.length : Int) ≤ 1000000) (h1 : (p2.D.length : Int) ≤ 1000000) : CallOk Try.prog (cCmpN p1 p2).1 (cCmpN p1 p2).2.1 (cCmpN p1 p2).2.2 := callOk_pure (fun _ _ => by kernel_rfl) fun _ => pCmpN p1 p2 h0 h1
end Go.Proofs.Ytpnlegfdkkcnlaa
