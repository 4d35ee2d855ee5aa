/-
  No statement is proved in this text. It holds what functions return.
-/
import Derived.Test.YtoojlpcimogehaaProg
import Derived.Test.YtoojlpcimogehaaK21c
namespace Go.Proofs.Ytoojlpcimogehaa
open Go.RowKit
set_option linter.unusedVariables false
set_option linter.unusedSimpArgs false
def wHas_0 (l : (List ByteArray)) (k : Int) (s : ByteArray) : Bool := ((l.getD k.toNat default).toList == s.toList)
def FHas_l0 (l : (List ByteArray)) (s : ByteArray) : Nat → Int → Bool
  | 0, _ => default
  | n0 + 1, k => bif decide ((k : Int) < ((l.length : Int))) then (bif wHas_0 l k s then (true) else ((FHas_l0 l s n0) (k + 1))) else (false)
def FHas (l : (List ByteArray)) (s : ByteArray) : Bool := FHas_l0 l s (((((l.length : Int))) - 0).toNat + 1) 0
def cHas (l : (List ByteArray)) (s : ByteArray) : FuncId × List Av × Ef := (67, [.one (lst 1 (fun x => [.s x]) l), .one (.s s)], .val [] (.av (.one (.b (FHas l s)))))
set_option maxRecDepth 100000 in
theorem pHas (l : (List ByteArray)) (s : ByteArray) (h0 : (l.length : Int) ≤ 9223372036854775807) : Pure Try.prog 67 (cHas l s).2.1 (.av (.one (.b (FHas l s)))) := by
  refine pure_of_awF Try.func67 rfl (by kernel_rfl) (by kernel_rfl) fun W0 M0 => ?_
  refine aw_seq ?_
  refine aw_region eqok [] [] [] [0, 1] [] [] ⟨[(0, .av (.one (lst 1 (fun x => [.s x]) l))), (1, .av (.one (.s s)))], []⟩ .nil (by kernel_rfl) .nil ?_
  refine ath_n ?_
  refine aw_seq ?_
  refine aw_seq ?_
  refine aw_region eqok [] [] [] [0, 1, 5] [] [] ⟨[(0, .av (.one (lst 1 (fun x => [.s x]) l))), (1, .av (.one (.s s))), (5, tI 0)], []⟩ .nil (by kernel_rfl) .nil ?_
  refine ath_n ?_
  refine aw_block ?_
  refine aw_loopC (ι := Nat × Int) (fun x => ⟨[(0, .av (.one (lst 1 (fun x => [.s x]) l))), (1, .av (.one (.s s))), (5, tI x.2)], []⟩) (fun x => ((((l.length : Int))) - x.2).toNat < x.1 ∧ (0 ≤ x.2 ∧ (x.2 ≤ ((l.length : Int)) ∨ x.2 = 0)) ∧ FHas_l0 l s x.1 x.2 = FHas l s) (fun x => x.1) ?_ (((((l.length : Int))) - 0).toNat + 1, 0) ⟨Nat.lt_succ_self _, ⟨(by show 0 ≤ 0; first | trivial | omega | (simp only [List.length_append, List.length_cons, List.length_nil]; omega) | (simp only [List.length_set, List.length_append, List.length_cons, List.length_nil]; omega) | (simp only [W64_def]; omega) | (simp; omega) | simp), (by show (0 ≤ ((l.length : Int)) ∨ 0 = 0); first | trivial | omega | (simp only [List.length_append, List.length_cons, List.length_nil]; omega) | (simp only [List.length_set, List.length_append, List.length_cons, List.length_nil]; omega) | (simp only [W64_def]; omega) | (simp; omega) | simp)⟩, (by simp only [FHas, cond_true, cond_false])⟩
  rintro ⟨n0, k⟩ ⟨hn, hinv, hF⟩
  have hm0 : ((((l.length : Int))) - k).toNat < n0 := hn; have hinv0 : 0 ≤ k ∧ (k ≤ ((l.length : Int)) ∨ k = 0) := hinv; have hF0 : FHas_l0 l s n0 k = FHas l s := hF; clear hn hinv hF
  cases n0 with
  | zero => exact absurd hm0 (Nat.not_lt_zero _)
  | succ n0 =>
    refine aw_seq ?_
    refine aw_seq ?_
    refine aw_region eqok [] [] [] [0, 1, 5, 9] [] [] ⟨[(0, .av (.one (lst 1 (fun x => [.s x]) l))), (1, .av (.one (.s s))), (5, tI k), (9, tB (decide ((k : Int) < ((l.length : Int)))))], []⟩ .nil (by kernel_rfl) .nil ?_
    refine ath_n ?_
    refine aw_cond (decide ((k : Int) < ((l.length : Int)))) (by kernel_rfl) (fun h1 => ?_) (fun h1 => ?_)
    · have g1 := of_decide_eq_true h1
      refine aw_skip ?_
      refine ath_n ?_
      refine aw_seq ?_
      refine aw_block ?_
      refine aw_seq ?_
      refine aw_region eqok [] [] [] [0, 1, 5, 17] [] [0 ≤ (k : Int) ∧ (k : Int) < ((l.length : Nat) : Int)] ⟨[(0, .av (.one (lst 1 (fun x => [.s x]) l))), (1, .av (.one (.s s))), (5, tI k), (17, tB (wHas_0 l k s))], []⟩ .nil (by kernel_rfl) (.cons (by first | decide | omega | exact idx_tmod (by first | omega | (simp only [W64_def]; omega)) (by omega) | (simp only [W64_def]; omega) | (constructor <;> omega) | (simp only [List.length_append, List.length_cons, List.length_nil]; omega) | (simp only [List.length_append, List.length_cons, List.length_nil, List.length_drop, List.length_take] at *; omega)) .nil) ?_
      refine ath_n ?_
      refine aw_cond (wHas_0 l k s) (by kernel_rfl) (fun h2 => ?_) (fun h2 => ?_)
      · refine aw_seq ?_
        refine aw_region eqok [] [] [] [4] [] [] ⟨[(4, tB true)], []⟩ .nil (by kernel_rfl) .nil ?_
        refine ath_n ?_
        refine aw_ret ?_
        refine abl_r ?_
        refine ath_r ?_
        refine ath_r ?_
        refine abl_r ?_
        refine ath_r ?_
        exact ⟨_, Cv.refl _, .inl rfl, .av (.one (.b true)), by kernel_rfl, tve_eq (by rw [← hF0]; first | (simp only [FHas_l0, h1, h2, cond_true, cond_false]; done) | (simp only [FHas_l0, h1, h2, cond_true, cond_false]; rfl))⟩
      · refine aw_skip ?_
        refine abl_n ?_
        refine ath_n ?_
        refine aw_region eqok [] [] [] [0, 1, 5] [] [] ⟨[(0, .av (.one (lst 1 (fun x => [.s x]) l))), (1, .av (.one (.s s))), (5, tI (W64 (k + 1)))], []⟩ .nil (by kernel_rfl) .nil ?_
        (try rw [(show W64 (k + 1) = k + 1 from W64_id (by omega) (by first | omega | (simp only [List.length_drop, List.length_take] at *; omega)))])
        refine ath_n ?_
        refine ⟨(n0, k + 1), ⟨?_, ?_, (by rw [← hF0]; simp only [FHas_l0, h1, h2, cond_true, cond_false])⟩, Nat.lt_succ_self _, cv_eq (by kernel_rfl)⟩
        · show ((((l.length : Int))) - (k + 1)).toNat < n0; omega
        · exact ⟨(by show 0 ≤ (k + 1); first | trivial | omega | (simp only [List.length_append, List.length_cons, List.length_nil]; omega) | (simp only [List.length_set, List.length_append, List.length_cons, List.length_nil]; omega) | (simp only [W64_def]; omega) | (simp; omega) | simp), (by show ((k + 1) ≤ ((l.length : Int)) ∨ (k + 1) = 0); first | trivial | omega | (simp only [List.length_append, List.length_cons, List.length_nil]; omega) | (simp only [List.length_set, List.length_append, List.length_cons, List.length_nil]; omega) | (simp only [W64_def]; omega) | (simp; omega) | simp)⟩
    · have g1 := of_decide_eq_false h1
      refine aw_exit ?_
      refine ath_e ?_
      refine ath_e ?_
      refine abl_hit ?_
      refine ath_n ?_
      refine aw_seq ?_
      refine aw_region eqok [] [] [] [4] [] [] ⟨[(4, tB false)], []⟩ .nil (by kernel_rfl) .nil ?_
      refine ath_n ?_
      refine aw_ret ?_
      exact ⟨_, Cv.refl _, .inl rfl, .av (.one (.b false)), by kernel_rfl, tve_eq (by rw [← hF0]; first | (simp only [FHas_l0, h1, cond_true, cond_false]; done) | (simp only [FHas_l0, h1, cond_true, cond_false]; rfl))⟩
theorem okHas (l : (List ByteArray)) (s : ByteArray) (h0 : (l.length : Int) ≤ 9223372036854775807) : CallOk Try.prog (cHas l s).1 (cHas l s).2.1 (cHas l s).2.2 := callOk_pure (fun _ _ => by kernel_rfl) fun _ => pHas l s h0
def wclsR_3 (b : TBoard) (k : Int) (net : ByteArray) : Bool := FHas ((b.Classes.getD k.toNat default).Nets) net
def wclsR_4 (b : TBoard) (k : Int) (name : ByteArray) : Bool := (((b.Classes.getD k.toNat default).Name).toList == name.toList)
def wclsR_5 (b : TBoard) (k : Int) (name : ByteArray) (net : ByteArray) : Bool := bif wclsR_4 b k name then wclsR_3 b k net else false
def FclsR_l0 (b : TBoard) (name : ByteArray) (net : ByteArray) : Nat → Int → Bool
  | 0, _ => default
  | n0 + 1, k => bif decide ((k : Int) < ((b.Classes.length : Int))) then (bif wclsR_5 b k name net then (true) else ((FclsR_l0 b name net n0) (k + 1))) else (false)
def FclsR (b : TBoard) (name : ByteArray) (net : ByteArray) : Bool := FclsR_l0 b name net (((((b.Classes.length : Int))) - 0).toNat + 1) 0
set_option maxRecDepth 100000 in
theorem pclsR (m : Nat) (b : TBoard) (name : ByteArray) (net : ByteArray) (hb : ClsOk b.Classes) : Pure Try.prog 39 [.agg ((boardC (LL (m))) b), .one (.s name), .one (.s net)] (.av (.one (.b (FclsR b name net)))) := by
  refine pure_of_awF Try.func39 rfl (by kernel_rfl) (by kernel_rfl) fun W0 M0 => ?_
  have hb1 := hb.1
  refine aw_seq ?_
  refine aw_region eqok [] [] [] [1, 2, 3] [3] [] ⟨[(1, .av (.one (.s name))), (2, .av (.one (.s net))), (3, tP 3 0)], [(3, .cells ((boardC (LL (m))) b) 41)]⟩ .nil (by kernel_rfl) .nil ?_
  refine ath_n ?_
  refine aw_seq ?_
  refine aw_seq ?_
  refine aw_region eqok [] [] [] [1, 2, 3, 7] [3] [] ⟨[(1, .av (.one (.s name))), (2, .av (.one (.s net))), (3, tP 3 0), (7, tI 0)], [(3, .cells ((boardC (LL (m))) b) 41)]⟩ .nil (by kernel_rfl) .nil ?_
  refine ath_n ?_
  refine aw_block ?_
  refine aw_loopC (ι := Nat × Int) (fun x => ⟨[(1, .av (.one (.s name))), (2, .av (.one (.s net))), (3, tP 3 0), (7, tI x.2)], [(3, .cells ((boardC (LL (m))) b) 41)]⟩) (fun x => ((((b.Classes.length : Int))) - x.2).toNat < x.1 ∧ (0 ≤ x.2 ∧ (x.2 ≤ ((b.Classes.length : Int)) ∨ x.2 = 0)) ∧ FclsR_l0 b name net x.1 x.2 = FclsR b name net) (fun x => x.1) ?_ (((((b.Classes.length : Int))) - 0).toNat + 1, 0) ⟨Nat.lt_succ_self _, ⟨(by show 0 ≤ 0; first | trivial | omega | (simp only [List.length_append, List.length_cons, List.length_nil]; omega) | (simp only [List.length_set, List.length_append, List.length_cons, List.length_nil]; omega) | (simp only [W64_def]; omega) | (simp; omega) | simp), (by show (0 ≤ ((b.Classes.length : Int)) ∨ 0 = 0); first | trivial | omega | (simp only [List.length_append, List.length_cons, List.length_nil]; omega) | (simp only [List.length_set, List.length_append, List.length_cons, List.length_nil]; omega) | (simp only [W64_def]; omega) | (simp; omega) | simp)⟩, (by simp only [FclsR, cond_true, cond_false])⟩
  rintro ⟨n0, k⟩ ⟨hn, hinv, hF⟩
  have hm0 : ((((b.Classes.length : Int))) - k).toNat < n0 := hn; have hinv0 : 0 ≤ k ∧ (k ≤ ((b.Classes.length : Int)) ∨ k = 0) := hinv; have hF0 : FclsR_l0 b name net n0 k = FclsR b name net := hF; clear hn hinv hF
  cases n0 with
  | zero => exact absurd hm0 (Nat.not_lt_zero _)
  | succ n0 =>
    refine aw_seq ?_
    refine aw_seq ?_
    refine aw_region eqok [] [] [] [1, 2, 3, 7, 13] [3] [] ⟨[(1, .av (.one (.s name))), (2, .av (.one (.s net))), (3, tP 3 0), (7, tI k), (13, tB (decide ((k : Int) < ((b.Classes.length : Int)))))], [(3, .cells ((boardC (LL (m))) b) 41)]⟩ .nil (by kernel_rfl) .nil ?_
    refine ath_n ?_
    refine aw_cond (decide ((k : Int) < ((b.Classes.length : Int)))) (by kernel_rfl) (fun h1 => ?_) (fun h1 => ?_)
    · have g1 := of_decide_eq_true h1
      refine aw_skip ?_
      refine ath_n ?_
      refine aw_seq ?_
      refine aw_block ?_
      refine aw_seq ?_
      refine aw_region eqok [] [] [(23, cHas ((b.Classes.getD k.toNat default).Nets) net)] [1, 2, 3, 7, 8] [3] [0 ≤ (k : Int) ∧ (k : Int) < ((b.Classes.length : Nat) : Int), Same (cHas ((b.Classes.getD k.toNat default).Nets) net).2.1] ⟨[(1, .av (.one (.s name))), (2, .av (.one (.s net))), (3, tP 3 0), (7, tI k), (8, tB (wclsR_3 b k net))], [(3, .cells ((boardC (LL (m))) b) 41)]⟩ (.cons (okHas ((b.Classes.getD k.toNat default).Nets) net (by first | assumption | exact hb.2 _)) .nil) (by kernel_rfl) (.cons (by first | decide | omega | exact idx_tmod (by first | omega | (simp only [W64_def]; omega)) (by omega) | (simp only [W64_def]; omega) | (constructor <;> omega) | (simp only [List.length_append, List.length_cons, List.length_nil]; omega) | (simp only [List.length_append, List.length_cons, List.length_nil, List.length_drop, List.length_take] at *; omega)) (.cons rfl .nil)) ?_
      refine ath_n ?_
      refine aw_seq ?_
      refine aw_region eqok [] [] [] [1, 2, 3, 7, 34] [3] [0 ≤ (k : Int) ∧ (k : Int) < ((b.Classes.length : Nat) : Int), (wclsR_4 b k name) = true → ((wclsR_4 b k name) = true)] ⟨[(1, .av (.one (.s name))), (2, .av (.one (.s net))), (3, tP 3 0), (7, tI k), (34, tB (wclsR_5 b k name net))], [(3, .cells ((boardC (LL (m))) b) 41)]⟩ .nil (by kernel_rfl) (.cons (by first | decide | omega | exact idx_tmod (by first | omega | (simp only [W64_def]; omega)) (by omega) | (simp only [W64_def]; omega) | (constructor <;> omega) | (simp only [List.length_append, List.length_cons, List.length_nil]; omega) | (simp only [List.length_append, List.length_cons, List.length_nil, List.length_drop, List.length_take] at *; omega)) (.cons id .nil)) ?_
      refine ath_n ?_
      refine aw_cond (wclsR_5 b k name net) (by kernel_rfl) (fun h2 => ?_) (fun h2 => ?_)
      · refine aw_seq ?_
        refine aw_region eqok [] [] [] [6] [] [] ⟨[(6, tB true)], []⟩ .nil (by kernel_rfl) .nil ?_
        refine ath_n ?_
        refine aw_ret ?_
        refine abl_r ?_
        refine ath_r ?_
        refine ath_r ?_
        refine abl_r ?_
        refine ath_r ?_
        exact ⟨_, Cv.refl _, .inl rfl, .av (.one (.b true)), by kernel_rfl, tve_eq (by rw [← hF0]; first | (simp only [FclsR_l0, h1, h2, cond_true, cond_false]; done) | (simp only [FclsR_l0, h1, h2, cond_true, cond_false]; rfl))⟩
      · refine aw_skip ?_
        refine abl_n ?_
        refine ath_n ?_
        refine aw_region eqok [] [] [] [1, 2, 3, 7] [3] [] ⟨[(1, .av (.one (.s name))), (2, .av (.one (.s net))), (3, tP 3 0), (7, tI (W64 (k + 1)))], [(3, .cells ((boardC (LL (m))) b) 41)]⟩ .nil (by kernel_rfl) .nil ?_
        (try rw [(show W64 (k + 1) = k + 1 from W64_id (by omega) (by first | omega | (simp only [List.length_drop, List.length_take] at *; omega)))])
        refine ath_n ?_
        refine ⟨(n0, k + 1), ⟨?_, ?_, (by rw [← hF0]; simp only [FclsR_l0, h1, h2, cond_true, cond_false])⟩, Nat.lt_succ_self _, cv_eq (by kernel_rfl)⟩
        · show ((((b.Classes.length : Int))) - (k + 1)).toNat < n0; omega
        · exact ⟨(by show 0 ≤ (k + 1); first | trivial | omega | (simp only [List.length_append, List.length_cons, List.length_nil]; omega) | (simp only [List.length_set, List.length_append, List.length_cons, List.length_nil]; omega) | (simp only [W64_def]; omega) | (simp; omega) | simp), (by show ((k + 1) ≤ ((b.Classes.length : Int)) ∨ (k + 1) = 0); first | trivial | omega | (simp only [List.length_append, List.length_cons, List.length_nil]; omega) | (simp only [List.length_set, List.length_append, List.length_cons, List.length_nil]; omega) | (simp only [W64_def]; omega) | (simp; omega) | simp)⟩
    · have g1 := of_decide_eq_false h1
      refine aw_exit ?_
      refine ath_e ?_
      refine ath_e ?_
      refine abl_hit ?_
      refine ath_n ?_
      refine aw_seq ?_
      refine aw_region eqok [] [] [] [6] [] [] ⟨[(6, tB false)], []⟩ .nil (by kernel_rfl) .nil ?_
      refine ath_n ?_
      refine aw_ret ?_
      exact ⟨_, Cv.refl _, .inl rfl, .av (.one (.b false)), by kernel_rfl, tve_eq (by rw [← hF0]; first | (simp only [FclsR_l0, h1, cond_true, cond_false]; done) | (simp only [FclsR_l0, h1, cond_true, cond_false]; rfl))⟩
def whoS_0 (m : Nat) (b : TBoard) (n : Nat) (c : TCond) (it : TItem) (layer : Int) (K : TBoard → TCond → TItem → Int → Bool) : FuncId × List Av × Ef := (23, [.agg ((boardC (LL (m))) b), .agg ((condC (LL (n))) (c.L.getD 0 default)), .agg (TItem.c it), .one (.i layer)], .val [] (tB (K b (c.L.getD 0 default) it layer)))
def whoS_1 (m : Nat) (b : TBoard) (n : Nat) (c : TCond) (v10 : Int) (it : TItem) (layer : Int) (K : TBoard → TCond → TItem → Int → Bool) : FuncId × List Av × Ef := (23, [.agg ((boardC (LL (m))) b), .agg ((condC (LL (n))) (c.L.getD v10.toNat default)), .agg (TItem.c it), .one (.i layer)], .val [] (tB (K b (c.L.getD v10.toNat default) it layer)))
def whoS_2 (K : TBoard → TCond → TItem → Int → Bool) (b : TBoard) (c : TCond) (v10 : Int) (it : TItem) (layer : Int) : Bool := K b (c.L.getD v10.toNat default) it layer
def FhoS_l0 (K : TBoard → TCond → TItem → Int → Bool) (b : TBoard) (c : TCond) (it : TItem) (layer : Int) : Nat → Int → Bool
  | 0, _ => default
  | n0 + 1, v10 => bif decide ((v10 : Int) < ((c.L.length : Int))) then (bif ((whoS_2 K b c v10 it layer) == (decide ((c.Op : Int) = 10))) then (whoS_2 K b c v10 it layer) else ((FhoS_l0 K b c it layer n0) (v10 + 1))) else (decide ((c.Op : Int) = 9))
def FhoS (K : TBoard → TCond → TItem → Int → Bool) (b : TBoard) (c : TCond) (it : TItem) (layer : Int) : Bool := bif decide ((c.Op : Int) = 1) then (true) else (bif decide ((c.Op : Int) = 2) then ((it.Net.toList == c.Text.toList)) else (bif decide ((c.Op : Int) = 3) then (FclsR b c.Text it.Net) else (bif decide ((c.Op : Int) = 4) then (decide ((it.Kind : Int) = c.N)) else (bif decide ((c.Op : Int) = 5) then (decide ((layer : Int) = c.N)) else (bif decide ((c.Op : Int) = 6) then (bif decide ((it.Kind : Int) = 1) then decide ((it.Id : Int) = c.N) else false) else (bif decide ((c.Op : Int) = 7) then (bif bif bif decide ((c.Box.X0 : Int) ≤ ((FBoxR it.Shape).X0)) then decide ((c.Box.Y0 : Int) ≤ ((FBoxR it.Shape).Y0)) else false then decide ((((FBoxR it.Shape).X1) : Int) ≤ c.Box.X1) else false then decide ((((FBoxR it.Shape).Y1) : Int) ≤ c.Box.Y1) else false) else (bif decide ((c.Op : Int) = 8) then (bif decide ((((c.L.length : Int)) : Int) = 1) then !(K b (c.L.getD 0 default) it layer) else false) else (bif bif decide ((c.Op : Int) = 9) then (decide ((c.Op : Int) = 9)) else (decide ((c.Op : Int) = 10)) then (FhoS_l0 K b c it layer (((((c.L.length : Int))) - 0).toNat + 1) 0) else (false)))))))))
set_option maxRecDepth 100000 in
theorem phoS (m : Nat) (n : Nat) (K : TBoard → TCond → TItem → Int → Bool) (b : TBoard) (c : TCond) (it : TItem) (layer : Int) (hK : ∀ (b : TBoard) (c : TCond) (it : TItem) (layer : Int), BoxOk b it → CondOk n c → Pure Try.prog 23 [.agg ((boardC (LL (m))) b), .agg ((condC (LL (n))) c), .agg (TItem.c it), .one (.i layer)] (.av (.one (.b (K b c it layer))))) (hbx : BoxOk b it) (hxs : LsOk n c.L) : Pure Try.prog 23 [.agg ((boardC (LL (m))) b), .agg ((condC (LL (n + 1))) c), .agg (TItem.c it), .one (.i layer)] (.av (.one (.b (FhoS K b c it layer)))) := by
  refine pure_of_awF Try.func23 rfl (by kernel_rfl) (by kernel_rfl) fun W0 M0 => ?_
  have hl := hxs.1
  have hs := hbx.2
  refine aw_seq ?_
  refine aw_region eqok [] [] [] [3, 4, 5, 6] [4, 5, 6] [] ⟨[(3, tI layer), (4, tP 4 0), (5, tP 5 0), (6, tP 6 0)], [(4, .cells ((boardC (LL (m))) b) 41), (5, .cells ((condC (LL (n + 1))) c) 58), (6, .cells (TItem.c it) 44)]⟩ .nil (by kernel_rfl) .nil ?_
  refine ath_n ?_
  refine aw_seq ?_
  refine aw_seq ?_
  refine aw_region eqok [] [] [] [3, 4, 5, 6, 13] [4, 5, 6] [] ⟨[(3, tI layer), (4, tP 4 0), (5, tP 5 0), (6, tP 6 0), (13, tI c.Op)], [(4, .cells ((boardC (LL (m))) b) 41), (5, .cells ((condC (LL (n + 1))) c) 58), (6, .cells (TItem.c it) 44)]⟩ .nil (by kernel_rfl) .nil ?_
  refine ath_n ?_
  refine aw_block ?_
  refine aw_seq ?_
  refine aw_region eqok [] [] [] [3, 4, 5, 6, 13, 14] [4, 5, 6] [] ⟨[(3, tI layer), (4, tP 4 0), (5, tP 5 0), (6, tP 6 0), (13, tI c.Op), (14, tB (decide ((c.Op : Int) = 1)))], [(4, .cells ((boardC (LL (m))) b) 41), (5, .cells ((condC (LL (n + 1))) c) 58), (6, .cells (TItem.c it) 44)]⟩ .nil (by kernel_rfl) .nil ?_
  refine ath_n ?_
  refine aw_cond (decide ((c.Op : Int) = 1)) (by kernel_rfl) (fun h1 => ?_) (fun h1 => ?_)
  · have g1 := of_decide_eq_true h1
    refine aw_seq ?_
    refine aw_region eqok [] [] [] [8] [] [] ⟨[(8, tB true)], []⟩ .nil (by kernel_rfl) .nil ?_
    refine ath_n ?_
    refine aw_ret ?_
    refine abl_r ?_
    refine ath_r ?_
    exact ⟨_, Cv.refl _, .inl rfl, .av (.one (.b true)), by kernel_rfl, tve_eq (by first | (simp only [FhoS, h1, cond_true, cond_false]; done) | (simp only [FhoS, h1, cond_true, cond_false]; rfl))⟩
  · have g1 := of_decide_eq_false h1
    refine aw_seq ?_
    refine aw_region eqok [] [] [] [3, 4, 5, 6, 13, 16] [4, 5, 6] [] ⟨[(3, tI layer), (4, tP 4 0), (5, tP 5 0), (6, tP 6 0), (13, tI c.Op), (16, tB (decide ((c.Op : Int) = 2)))], [(4, .cells ((boardC (LL (m))) b) 41), (5, .cells ((condC (LL (n + 1))) c) 58), (6, .cells (TItem.c it) 44)]⟩ .nil (by kernel_rfl) .nil ?_
    refine ath_n ?_
    refine aw_cond (decide ((c.Op : Int) = 2)) (by kernel_rfl) (fun h2 => ?_) (fun h2 => ?_)
    · have g2 := of_decide_eq_true h2
      refine aw_seq ?_
      refine aw_region eqok [] [] [] [8] [] [] ⟨[(8, tB ((it.Net.toList == c.Text.toList)))], []⟩ .nil (by kernel_rfl) .nil ?_
      refine ath_n ?_
      refine aw_ret ?_
      refine abl_r ?_
      refine ath_r ?_
      exact ⟨_, Cv.refl _, .inl rfl, .av (.one (.b ((it.Net.toList == c.Text.toList)))), by kernel_rfl, tve_eq (by first | (simp only [FhoS, h1, h2, cond_true, cond_false]; done) | (simp only [FhoS, h1, h2, cond_true, cond_false]; rfl))⟩
    · have g2 := of_decide_eq_false h2
      refine aw_seq ?_
      refine aw_region eqok [] [] [] [3, 4, 5, 6, 13, 23] [4, 5, 6] [] ⟨[(3, tI layer), (4, tP 4 0), (5, tP 5 0), (6, tP 6 0), (13, tI c.Op), (23, tB (decide ((c.Op : Int) = 3)))], [(4, .cells ((boardC (LL (m))) b) 41), (5, .cells ((condC (LL (n + 1))) c) 58), (6, .cells (TItem.c it) 44)]⟩ .nil (by kernel_rfl) .nil ?_
      refine ath_n ?_
      refine aw_cond (decide ((c.Op : Int) = 3)) (by kernel_rfl) (fun h3 => ?_) (fun h3 => ?_)
      · have g3 := of_decide_eq_true h3
        refine aw_seq ?_
        refine aw_region eqok [] [] [(30, (39, [.agg ((boardC (LL (m))) b), .one (.s c.Text), .one (.s it.Net)], .val [] (tB (FclsR b c.Text it.Net))))] [8] [] [Same [.agg ((boardC (LL (m))) b), .one (.s c.Text), .one (.s it.Net)]] ⟨[(8, tB (FclsR b c.Text it.Net))], []⟩ (.cons (callOk_pure (fun _ _ => by kernel_rfl) fun _ => pclsR m b c.Text it.Net (by first | assumption | exact hbx.1)) .nil) (by kernel_rfl) (.cons rfl .nil) ?_
        refine ath_n ?_
        refine aw_ret ?_
        refine abl_r ?_
        refine ath_r ?_
        exact ⟨_, Cv.refl _, .inl rfl, .av (.one (.b (FclsR b c.Text it.Net))), by kernel_rfl, tve_eq (by first | (simp only [FhoS, h1, h2, h3, cond_true, cond_false]; done) | (simp only [FhoS, h1, h2, h3, cond_true, cond_false]; rfl))⟩
      · have g3 := of_decide_eq_false h3
        refine aw_seq ?_
        refine aw_region eqok [] [] [] [3, 4, 5, 6, 13, 31] [4, 5, 6] [] ⟨[(3, tI layer), (4, tP 4 0), (5, tP 5 0), (6, tP 6 0), (13, tI c.Op), (31, tB (decide ((c.Op : Int) = 4)))], [(4, .cells ((boardC (LL (m))) b) 41), (5, .cells ((condC (LL (n + 1))) c) 58), (6, .cells (TItem.c it) 44)]⟩ .nil (by kernel_rfl) .nil ?_
        refine ath_n ?_
        refine aw_cond (decide ((c.Op : Int) = 4)) (by kernel_rfl) (fun h4 => ?_) (fun h4 => ?_)
        · have g4 := of_decide_eq_true h4
          refine aw_seq ?_
          refine aw_region eqok [] [] [] [8] [] [] ⟨[(8, tB (decide ((it.Kind : Int) = c.N)))], []⟩ .nil (by kernel_rfl) .nil ?_
          refine ath_n ?_
          refine aw_ret ?_
          refine abl_r ?_
          refine ath_r ?_
          exact ⟨_, Cv.refl _, .inl rfl, .av (.one (.b (decide ((it.Kind : Int) = c.N)))), by kernel_rfl, tve_eq (by first | (simp only [FhoS, h1, h2, h3, h4, cond_true, cond_false]; done) | (simp only [FhoS, h1, h2, h3, h4, cond_true, cond_false]; rfl))⟩
        · have g4 := of_decide_eq_false h4
          refine aw_seq ?_
          refine aw_region eqok [] [] [] [3, 4, 5, 6, 13, 38] [4, 5, 6] [] ⟨[(3, tI layer), (4, tP 4 0), (5, tP 5 0), (6, tP 6 0), (13, tI c.Op), (38, tB (decide ((c.Op : Int) = 5)))], [(4, .cells ((boardC (LL (m))) b) 41), (5, .cells ((condC (LL (n + 1))) c) 58), (6, .cells (TItem.c it) 44)]⟩ .nil (by kernel_rfl) .nil ?_
          refine ath_n ?_
          refine aw_cond (decide ((c.Op : Int) = 5)) (by kernel_rfl) (fun h5 => ?_) (fun h5 => ?_)
          · have g5 := of_decide_eq_true h5
            refine aw_seq ?_
            refine aw_region eqok [] [] [] [8] [] [] ⟨[(8, tB (decide ((layer : Int) = c.N)))], []⟩ .nil (by kernel_rfl) .nil ?_
            refine ath_n ?_
            refine aw_ret ?_
            refine abl_r ?_
            refine ath_r ?_
            exact ⟨_, Cv.refl _, .inl rfl, .av (.one (.b (decide ((layer : Int) = c.N)))), by kernel_rfl, tve_eq (by first | (simp only [FhoS, h1, h2, h3, h4, h5, cond_true, cond_false]; done) | (simp only [FhoS, h1, h2, h3, h4, h5, cond_true, cond_false]; rfl))⟩
          · have g5 := of_decide_eq_false h5
            refine aw_seq ?_
            refine aw_region eqok [] [] [] [3, 4, 5, 6, 13, 44] [4, 5, 6] [] ⟨[(3, tI layer), (4, tP 4 0), (5, tP 5 0), (6, tP 6 0), (13, tI c.Op), (44, tB (decide ((c.Op : Int) = 6)))], [(4, .cells ((boardC (LL (m))) b) 41), (5, .cells ((condC (LL (n + 1))) c) 58), (6, .cells (TItem.c it) 44)]⟩ .nil (by kernel_rfl) .nil ?_
            refine ath_n ?_
            refine aw_cond (decide ((c.Op : Int) = 6)) (by kernel_rfl) (fun h6 => ?_) (fun h6 => ?_)
            · have g6 := of_decide_eq_true h6
              refine aw_seq ?_
              refine aw_region eqok [] [] [] [8] [] [((decide ((it.Kind : Int) = 1)) = true) → ((decide ((it.Kind : Int) = 1)) = true), ((decide ((it.Kind : Int) = 1)) = true) → ((decide ((it.Kind : Int) = 1)) = true), ((decide ((it.Kind : Int) = 1)) = true) → ((decide ((it.Kind : Int) = 1)) = true), ((decide ((it.Kind : Int) = 1)) = true) → ((decide ((it.Kind : Int) = 1)) = true), (decide ((it.Kind : Int) = 1)) = true → ((decide ((it.Kind : Int) = 1)) = true)] ⟨[(8, tB (bif decide ((it.Kind : Int) = 1) then decide ((it.Id : Int) = c.N) else false))], []⟩ .nil (by kernel_rfl) (.cons id (.cons id (.cons id (.cons id (.cons id .nil))))) ?_
              refine ath_n ?_
              refine aw_ret ?_
              refine abl_r ?_
              refine ath_r ?_
              exact ⟨_, Cv.refl _, .inl rfl, .av (.one (.b (bif decide ((it.Kind : Int) = 1) then decide ((it.Id : Int) = c.N) else false))), by kernel_rfl, tve_eq (by first | (simp only [FhoS, h1, h2, h3, h4, h5, h6, cond_true, cond_false]; done) | (simp only [FhoS, h1, h2, h3, h4, h5, h6, cond_true, cond_false]; rfl))⟩
            · have g6 := of_decide_eq_false h6
              refine aw_seq ?_
              refine aw_region eqok [] [] [] [3, 4, 5, 6, 13, 56] [4, 5, 6] [] ⟨[(3, tI layer), (4, tP 4 0), (5, tP 5 0), (6, tP 6 0), (13, tI c.Op), (56, tB (decide ((c.Op : Int) = 7)))], [(4, .cells ((boardC (LL (m))) b) 41), (5, .cells ((condC (LL (n + 1))) c) 58), (6, .cells (TItem.c it) 44)]⟩ .nil (by kernel_rfl) .nil ?_
              refine ath_n ?_
              refine aw_cond (decide ((c.Op : Int) = 7)) (by kernel_rfl) (fun h7 => ?_) (fun h7 => ?_)
              · have g7 := of_decide_eq_true h7
                refine aw_seq ?_
                refine aw_region eqok [] [] [(60, cBoxR it.Shape)] [5, 9] [5, 9] [Same (cBoxR it.Shape).2.1] ⟨[(5, tP 5 0), (9, tP 9 0)], [(5, .cells ((condC (LL (n + 1))) c) 58), (9, .cells (TRect.c (FBoxR it.Shape)) 55)]⟩ (.cons (okBoxR it.Shape (by first | assumption | decide | omega | (simp only [List.length_cons, List.length_nil, List.length_append]; omega))) .nil) (by kernel_rfl) (.cons rfl .nil) ?_
                refine ath_n ?_
                refine aw_seq ?_
                refine aw_region eqok [] [] [] [8] [] [((decide ((c.Box.X0 : Int) ≤ ((FBoxR it.Shape).X0))) = true) → ((decide ((c.Box.X0 : Int) ≤ ((FBoxR it.Shape).X0))) = true), ((decide ((c.Box.X0 : Int) ≤ ((FBoxR it.Shape).X0))) = true) → ((decide ((c.Box.X0 : Int) ≤ ((FBoxR it.Shape).X0))) = true), ((decide ((c.Box.X0 : Int) ≤ ((FBoxR it.Shape).X0))) = true) → ((decide ((c.Box.X0 : Int) ≤ ((FBoxR it.Shape).X0))) = true), ((decide ((c.Box.X0 : Int) ≤ ((FBoxR it.Shape).X0))) = true) → ((decide ((c.Box.X0 : Int) ≤ ((FBoxR it.Shape).X0))) = true), ((decide ((c.Box.X0 : Int) ≤ ((FBoxR it.Shape).X0))) = true) → ((decide ((c.Box.X0 : Int) ≤ ((FBoxR it.Shape).X0))) = true), (decide ((c.Box.X0 : Int) ≤ ((FBoxR it.Shape).X0))) = true → ((decide ((c.Box.X0 : Int) ≤ ((FBoxR it.Shape).X0))) = true), ((bif decide ((c.Box.X0 : Int) ≤ ((FBoxR it.Shape).X0)) then decide ((c.Box.Y0 : Int) ≤ ((FBoxR it.Shape).Y0)) else false) = true) → ((bif decide ((c.Box.X0 : Int) ≤ ((FBoxR it.Shape).X0)) then decide ((c.Box.Y0 : Int) ≤ ((FBoxR it.Shape).Y0)) else false) = true), ((bif decide ((c.Box.X0 : Int) ≤ ((FBoxR it.Shape).X0)) then decide ((c.Box.Y0 : Int) ≤ ((FBoxR it.Shape).Y0)) else false) = true) → ((bif decide ((c.Box.X0 : Int) ≤ ((FBoxR it.Shape).X0)) then decide ((c.Box.Y0 : Int) ≤ ((FBoxR it.Shape).Y0)) else false) = true), ((bif decide ((c.Box.X0 : Int) ≤ ((FBoxR it.Shape).X0)) then decide ((c.Box.Y0 : Int) ≤ ((FBoxR it.Shape).Y0)) else false) = true) → ((bif decide ((c.Box.X0 : Int) ≤ ((FBoxR it.Shape).X0)) then decide ((c.Box.Y0 : Int) ≤ ((FBoxR it.Shape).Y0)) else false) = true), ((bif decide ((c.Box.X0 : Int) ≤ ((FBoxR it.Shape).X0)) then decide ((c.Box.Y0 : Int) ≤ ((FBoxR it.Shape).Y0)) else false) = true) → ((bif decide ((c.Box.X0 : Int) ≤ ((FBoxR it.Shape).X0)) then decide ((c.Box.Y0 : Int) ≤ ((FBoxR it.Shape).Y0)) else false) = true), ((bif decide ((c.Box.X0 : Int) ≤ ((FBoxR it.Shape).X0)) then decide ((c.Box.Y0 : Int) ≤ ((FBoxR it.Shape).Y0)) else false) = true) → ((bif decide ((c.Box.X0 : Int) ≤ ((FBoxR it.Shape).X0)) then decide ((c.Box.Y0 : Int) ≤ ((FBoxR it.Shape).Y0)) else false) = true), (bif decide ((c.Box.X0 : Int) ≤ ((FBoxR it.Shape).X0)) then decide ((c.Box.Y0 : Int) ≤ ((FBoxR it.Shape).Y0)) else false) = true → ((bif decide ((c.Box.X0 : Int) ≤ ((FBoxR it.Shape).X0)) then decide ((c.Box.Y0 : Int) ≤ ((FBoxR it.Shape).Y0)) else false) = true), ((bif bif decide ((c.Box.X0 : Int) ≤ ((FBoxR it.Shape).X0)) then decide ((c.Box.Y0 : Int) ≤ ((FBoxR it.Shape).Y0)) else false then decide ((((FBoxR it.Shape).X1) : Int) ≤ c.Box.X1) else false) = true) → ((bif bif decide ((c.Box.X0 : Int) ≤ ((FBoxR it.Shape).X0)) then decide ((c.Box.Y0 : Int) ≤ ((FBoxR it.Shape).Y0)) else false then decide ((((FBoxR it.Shape).X1) : Int) ≤ c.Box.X1) else false) = true), ((bif bif decide ((c.Box.X0 : Int) ≤ ((FBoxR it.Shape).X0)) then decide ((c.Box.Y0 : Int) ≤ ((FBoxR it.Shape).Y0)) else false then decide ((((FBoxR it.Shape).X1) : Int) ≤ c.Box.X1) else false) = true) → ((bif bif decide ((c.Box.X0 : Int) ≤ ((FBoxR it.Shape).X0)) then decide ((c.Box.Y0 : Int) ≤ ((FBoxR it.Shape).Y0)) else false then decide ((((FBoxR it.Shape).X1) : Int) ≤ c.Box.X1) else false) = true), ((bif bif decide ((c.Box.X0 : Int) ≤ ((FBoxR it.Shape).X0)) then decide ((c.Box.Y0 : Int) ≤ ((FBoxR it.Shape).Y0)) else false then decide ((((FBoxR it.Shape).X1) : Int) ≤ c.Box.X1) else false) = true) → ((bif bif decide ((c.Box.X0 : Int) ≤ ((FBoxR it.Shape).X0)) then decide ((c.Box.Y0 : Int) ≤ ((FBoxR it.Shape).Y0)) else false then decide ((((FBoxR it.Shape).X1) : Int) ≤ c.Box.X1) else false) = true), ((bif bif decide ((c.Box.X0 : Int) ≤ ((FBoxR it.Shape).X0)) then decide ((c.Box.Y0 : Int) ≤ ((FBoxR it.Shape).Y0)) else false then decide ((((FBoxR it.Shape).X1) : Int) ≤ c.Box.X1) else false) = true) → ((bif bif decide ((c.Box.X0 : Int) ≤ ((FBoxR it.Shape).X0)) then decide ((c.Box.Y0 : Int) ≤ ((FBoxR it.Shape).Y0)) else false then decide ((((FBoxR it.Shape).X1) : Int) ≤ c.Box.X1) else false) = true), ((bif bif decide ((c.Box.X0 : Int) ≤ ((FBoxR it.Shape).X0)) then decide ((c.Box.Y0 : Int) ≤ ((FBoxR it.Shape).Y0)) else false then decide ((((FBoxR it.Shape).X1) : Int) ≤ c.Box.X1) else false) = true) → ((bif bif decide ((c.Box.X0 : Int) ≤ ((FBoxR it.Shape).X0)) then decide ((c.Box.Y0 : Int) ≤ ((FBoxR it.Shape).Y0)) else false then decide ((((FBoxR it.Shape).X1) : Int) ≤ c.Box.X1) else false) = true), (bif bif decide ((c.Box.X0 : Int) ≤ ((FBoxR it.Shape).X0)) then decide ((c.Box.Y0 : Int) ≤ ((FBoxR it.Shape).Y0)) else false then decide ((((FBoxR it.Shape).X1) : Int) ≤ c.Box.X1) else false) = true → ((bif bif decide ((c.Box.X0 : Int) ≤ ((FBoxR it.Shape).X0)) then decide ((c.Box.Y0 : Int) ≤ ((FBoxR it.Shape).Y0)) else false then decide ((((FBoxR it.Shape).X1) : Int) ≤ c.Box.X1) else false) = true)] ⟨[(8, tB (bif bif bif decide ((c.Box.X0 : Int) ≤ ((FBoxR it.Shape).X0)) then decide ((c.Box.Y0 : Int) ≤ ((FBoxR it.Shape).Y0)) else false then decide ((((FBoxR it.Shape).X1) : Int) ≤ c.Box.X1) else false then decide ((((FBoxR it.Shape).Y1) : Int) ≤ c.Box.Y1) else false))], []⟩ .nil (by kernel_rfl) (.cons id (.cons id (.cons id (.cons id (.cons id (.cons id (.cons id (.cons id (.cons id (.cons id (.cons id (.cons id (.cons id (.cons id (.cons id (.cons id (.cons id (.cons id .nil)))))))))))))))))) ?_
                refine ath_n ?_
                refine aw_ret ?_
                refine abl_r ?_
                refine ath_r ?_
                exact ⟨_, Cv.refl _, .inl rfl, .av (.one (.b (bif bif bif decide ((c.Box.X0 : Int) ≤ ((FBoxR it.Shape).X0)) then decide ((c.Box.Y0 : Int) ≤ ((FBoxR it.Shape).Y0)) else false then decide ((((FBoxR it.Shape).X1) : Int) ≤ c.Box.X1) else false then decide ((((FBoxR it.Shape).Y1) : Int) ≤ c.Box.Y1) else false))), by kernel_rfl, tve_eq (by first | (simp only [FhoS, h1, h2, h3, h4, h5, h6, h7, cond_true, cond_false]; done) | (simp only [FhoS, h1, h2, h3, h4, h5, h6, h7, cond_true, cond_false]; rfl))⟩
              · have g7 := of_decide_eq_false h7
                refine aw_seq ?_
                refine aw_region eqok [] [] [] [3, 4, 5, 6, 13, 91] [4, 5, 6] [] ⟨[(3, tI layer), (4, tP 4 0), (5, tP 5 0), (6, tP 6 0), (13, tI c.Op), (91, tB (decide ((c.Op : Int) = 8)))], [(4, .cells ((boardC (LL (m))) b) 41), (5, .cells ((condC (LL (n + 1))) c) 58), (6, .cells (TItem.c it) 44)]⟩ .nil (by kernel_rfl) .nil ?_
                refine ath_n ?_
                refine aw_cond (decide ((c.Op : Int) = 8)) (by kernel_rfl) (fun h8 => ?_) (fun h8 => ?_)
                · have g8 := of_decide_eq_true h8
                  refine aw_seq ?_
                  refine aw_draw mixed eqok [] [] [(105, (whoS_0 m b n c it layer K))] [8] [] [((decide ((((c.L.length : Int)) : Int) = 1)) = true) → ((decide ((((c.L.length : Int)) : Int) = 1)) = true), ((decide ((((c.L.length : Int)) : Int) = 1)) = true) → ((decide ((((c.L.length : Int)) : Int) = 1)) = true), ((decide ((((c.L.length : Int)) : Int) = 1)) = true) → (0 ≤ (0 : Int) ∧ (0 : Int) < ((c.L.length : Nat) : Int)), ((decide ((((c.L.length : Int)) : Int) = 1)) = true) → ((decide ((((c.L.length : Int)) : Int) = 1)) = true), ((decide ((((c.L.length : Int)) : Int) = 1)) = true) → ((decide ((((c.L.length : Int)) : Int) = 1)) = true), ((decide ((((c.L.length : Int)) : Int) = 1)) = true) → ((decide ((((c.L.length : Int)) : Int) = 1)) = true), ((decide ((((c.L.length : Int)) : Int) = 1)) = true) → ((decide ((((c.L.length : Int)) : Int) = 1)) = true), ((decide ((((c.L.length : Int)) : Int) = 1)) = true) → ((decide ((((c.L.length : Int)) : Int) = 1)) = true), ((decide ((((c.L.length : Int)) : Int) = 1)) = true) → (Same (whoS_0 m b n c it layer K).2.1), ((decide ((((c.L.length : Int)) : Int) = 1)) = true) → ((decide ((((c.L.length : Int)) : Int) = 1)) = true), (decide ((((c.L.length : Int)) : Int) = 1)) = true → ((decide ((((c.L.length : Int)) : Int) = 1)) = true)] ⟨[(8, tB (bif decide ((((c.L.length : Int)) : Int) = 1) then !(K b (c.L.getD 0 default) it layer) else false))], []⟩ (.cons (callOk_pure (fun _ _ => by kernel_rfl) fun _ => hK b (c.L.getD 0 default) it layer (by assumption) (by first | assumption | exact hxs.2 _)) .nil) (by kernel_rfl) (by kernel_rfl) (.cons id (.cons id (.cons (fun hG => by first | exact (by first | decide | omega | exact idx_tmod (by first | omega | (simp only [W64_def]; omega)) (by omega) | (simp only [W64_def]; omega) | (constructor <;> omega) | (simp only [List.length_append, List.length_cons, List.length_nil]; omega) | (simp only [List.length_append, List.length_cons, List.length_nil, List.length_drop, List.length_take] at *; omega)) | (simp only [decide_eq_true_eq, decide_eq_false_iff_not, Bool.not_eq_true, Bool.and_eq_true] at hG <;> omega) | (simp at hG <;> omega)) (.cons id (.cons id (.cons id (.cons id (.cons id (.cons (fun _ => rfl) (.cons id (.cons id .nil))))))))))) ?_
                  refine ath_n ?_
                  refine aw_ret ?_
                  refine abl_r ?_
                  refine ath_r ?_
                  exact ⟨_, Cv.refl _, .inl rfl, .av (.one (.b (bif decide ((((c.L.length : Int)) : Int) = 1) then !(K b (c.L.getD 0 default) it layer) else false))), by kernel_rfl, tve_eq (by first | (simp only [FhoS, h1, h2, h3, h4, h5, h6, h7, h8, cond_true, cond_false]; done) | (simp only [FhoS, h1, h2, h3, h4, h5, h6, h7, h8, cond_true, cond_false]; rfl))⟩
                · have g8 := of_decide_eq_false h8
                  refine aw_seq ?_
                  refine aw_seq ?_
                  refine aw_region eqok [] [] [] [3, 4, 5, 6, 13, 108] [4, 5, 6] [] ⟨[(3, tI layer), (4, tP 4 0), (5, tP 5 0), (6, tP 6 0), (13, tI c.Op), (108, tB (decide ((c.Op : Int) = 9)))], [(4, .cells ((boardC (LL (m))) b) 41), (5, .cells ((condC (LL (n + 1))) c) 58), (6, .cells (TItem.c it) 44)]⟩ .nil (by kernel_rfl) .nil ?_
                  refine ath_n ?_
                  refine aw_joinC (⟨[(3, tI layer), (4, tP 4 0), (5, tP 5 0), (6, tP 6 0), (108, tB (bif decide ((c.Op : Int) = 9) then (decide ((c.Op : Int) = 9)) else (decide ((c.Op : Int) = 10))))], [(4, .cells ((boardC (LL (m))) b) 41), (5, .cells ((condC (LL (n + 1))) c) 58), (6, .cells (TItem.c it) 44)]⟩) ?_ ?_
                  · refine aw_cond (decide ((c.Op : Int) = 9)) (by kernel_rfl) (fun h9 => ?_) (fun h9 => ?_)
                    · have g9 := of_decide_eq_true h9
                      refine aw_skip ?_
                      refine ath_n ?_
                      refine Cv.trans (cv_keep [3, 4, 5, 6, 108] [4, 5, 6] (⟨[(3, tI layer), (4, tP 4 0), (5, tP 5 0), (6, tP 6 0), (108, tB (decide ((c.Op : Int) = 9)))], [(4, .cells ((boardC (LL (m))) b) 41), (5, .cells ((condC (LL (n + 1))) c) 58), (6, .cells (TItem.c it) 44)]⟩) (by kernel_rfl)) (cv_eq ?_)
                      first | rfl | (simp only [h9, cond_true, cond_false]; done) | (simp only [h9, cond_true, cond_false]; rfl)
                    · have g9 := of_decide_eq_false h9
                      refine aw_region eqok [] [] [] [3, 4, 5, 6, 108] [4, 5, 6] [] ⟨[(3, tI layer), (4, tP 4 0), (5, tP 5 0), (6, tP 6 0), (108, tB (decide ((c.Op : Int) = 10)))], [(4, .cells ((boardC (LL (m))) b) 41), (5, .cells ((condC (LL (n + 1))) c) 58), (6, .cells (TItem.c it) 44)]⟩ .nil (by kernel_rfl) .nil ?_
                      refine ath_n ?_
                      refine cv_eq ?_
                      first | rfl | (simp only [h9, cond_true, cond_false]; done) | (simp only [h9, cond_true, cond_false]; rfl)
                  refine aw_cond (bif decide ((c.Op : Int) = 9) then (decide ((c.Op : Int) = 9)) else (decide ((c.Op : Int) = 10))) (by kernel_rfl) (fun h9 => ?_) (fun h9 => ?_)
                  · refine aw_seq ?_
                    refine aw_seq ?_
                    refine aw_region eqok [] [] [] [3, 4, 5, 6, 10] [4, 5, 6] [] ⟨[(3, tI layer), (4, tP 4 0), (5, tP 5 0), (6, tP 6 0), (10, tI 0)], [(4, .cells ((boardC (LL (m))) b) 41), (5, .cells ((condC (LL (n + 1))) c) 58), (6, .cells (TItem.c it) 44)]⟩ .nil (by kernel_rfl) .nil ?_
                    refine ath_n ?_
                    refine aw_block ?_
                    refine aw_loopC (ι := Nat × Int) (fun x => ⟨[(3, tI layer), (4, tP 4 0), (5, tP 5 0), (6, tP 6 0), (10, tI x.2)], [(4, .cells ((boardC (LL (m))) b) 41), (5, .cells ((condC (LL (n + 1))) c) 58), (6, .cells (TItem.c it) 44)]⟩) (fun x => ((((c.L.length : Int))) - x.2).toNat < x.1 ∧ (0 ≤ x.2 ∧ (x.2 ≤ ((c.L.length : Int)) ∨ x.2 = 0)) ∧ FhoS_l0 K b c it layer x.1 x.2 = FhoS K b c it layer) (fun x => x.1) ?_ (((((c.L.length : Int))) - 0).toNat + 1, 0) ⟨Nat.lt_succ_self _, ⟨(by show 0 ≤ 0; first | trivial | omega | (simp only [List.length_append, List.length_cons, List.length_nil]; omega) | (simp only [List.length_set, List.length_append, List.length_cons, List.length_nil]; omega) | (simp only [W64_def]; omega) | (simp; omega) | simp), (by show (0 ≤ ((c.L.length : Int)) ∨ 0 = 0); first | trivial | omega | (simp only [List.length_append, List.length_cons, List.length_nil]; omega) | (simp only [List.length_set, List.length_append, List.length_cons, List.length_nil]; omega) | (simp only [W64_def]; omega) | (simp; omega) | simp)⟩, (by simp only [FhoS, h1, h2, h3, h4, h5, h6, h7, h8, h9, cond_true, cond_false])⟩
                    rintro ⟨n0, v10⟩ ⟨hn, hinv, hF⟩
                    have hm0 : ((((c.L.length : Int))) - v10).toNat < n0 := hn; have hinv0 : 0 ≤ v10 ∧ (v10 ≤ ((c.L.length : Int)) ∨ v10 = 0) := hinv; have hF0 : FhoS_l0 K b c it layer n0 v10 = FhoS K b c it layer := hF; clear hn hinv hF
                    cases n0 with
                    | zero => exact absurd hm0 (Nat.not_lt_zero _)
                    | succ n0 =>
                      refine aw_seq ?_
                      refine aw_seq ?_
                      refine aw_region eqok [] [] [] [3, 4, 5, 6, 10, 115] [4, 5, 6] [] ⟨[(3, tI layer), (4, tP 4 0), (5, tP 5 0), (6, tP 6 0), (10, tI v10), (115, tB (decide ((v10 : Int) < ((c.L.length : Int)))))], [(4, .cells ((boardC (LL (m))) b) 41), (5, .cells ((condC (LL (n + 1))) c) 58), (6, .cells (TItem.c it) 44)]⟩ .nil (by kernel_rfl) .nil ?_
                      refine ath_n ?_
                      refine aw_cond (decide ((v10 : Int) < ((c.L.length : Int)))) (by kernel_rfl) (fun h10 => ?_) (fun h10 => ?_)
                      · have g10 := of_decide_eq_true h10
                        refine aw_skip ?_
                        refine ath_n ?_
                        refine aw_seq ?_
                        refine aw_block ?_
                        refine aw_seq ?_
                        refine aw_draw mixed eqok [] [] [(126, (whoS_1 m b n c v10 it layer K))] [3, 4, 5, 6, 10, 11] [4, 5, 6] [0 ≤ (v10 : Int) ∧ (v10 : Int) < ((c.L.length : Nat) : Int), Same (whoS_1 m b n c v10 it layer K).2.1] ⟨[(3, tI layer), (4, tP 4 0), (5, tP 5 0), (6, tP 6 0), (10, tI v10), (11, tB (whoS_2 K b c v10 it layer))], [(4, .cells ((boardC (LL (m))) b) 41), (5, .cells ((condC (LL (n + 1))) c) 58), (6, .cells (TItem.c it) 44)]⟩ (.cons (callOk_pure (fun _ _ => by kernel_rfl) fun _ => hK b (c.L.getD v10.toNat default) it layer (by assumption) (by first | assumption | exact hxs.2 _)) .nil) (by kernel_rfl) (by kernel_rfl) (.cons (by first | decide | omega | exact idx_tmod (by first | omega | (simp only [W64_def]; omega)) (by omega) | (simp only [W64_def]; omega) | (constructor <;> omega) | (simp only [List.length_append, List.length_cons, List.length_nil]; omega) | (simp only [List.length_append, List.length_cons, List.length_nil, List.length_drop, List.length_take] at *; omega)) (.cons rfl .nil)) ?_
                        refine ath_n ?_
                        refine aw_seq ?_
                        refine aw_region eqok [] [] [] [3, 4, 5, 6, 10, 11, 131] [4, 5, 6] [] ⟨[(3, tI layer), (4, tP 4 0), (5, tP 5 0), (6, tP 6 0), (10, tI v10), (11, tB (whoS_2 K b c v10 it layer)), (131, tB (((whoS_2 K b c v10 it layer) == (decide ((c.Op : Int) = 10)))))], [(4, .cells ((boardC (LL (m))) b) 41), (5, .cells ((condC (LL (n + 1))) c) 58), (6, .cells (TItem.c it) 44)]⟩ .nil (by kernel_rfl) .nil ?_
                        refine ath_n ?_
                        refine aw_cond (((whoS_2 K b c v10 it layer) == (decide ((c.Op : Int) = 10)))) (by kernel_rfl) (fun h11 => ?_) (fun h11 => ?_)
                        · refine aw_seq ?_
                          refine aw_region eqok [] [] [] [8] [] [] ⟨[(8, tB (whoS_2 K b c v10 it layer))], []⟩ .nil (by kernel_rfl) .nil ?_
                          refine ath_n ?_
                          refine aw_ret ?_
                          refine abl_r ?_
                          refine ath_r ?_
                          refine ath_r ?_
                          refine abl_r ?_
                          refine ath_r ?_
                          refine abl_r ?_
                          refine ath_r ?_
                          exact ⟨_, Cv.refl _, .inl rfl, .av (.one (.b (whoS_2 K b c v10 it layer))), by kernel_rfl, tve_eq (by rw [← hF0]; first | (simp only [FhoS_l0, h10, h11, cond_true, cond_false]; done) | (simp only [FhoS_l0, h10, h11, cond_true, cond_false]; rfl))⟩
                        · refine aw_skip ?_
                          refine abl_n ?_
                          refine ath_n ?_
                          refine aw_region eqok [] [] [] [3, 4, 5, 6, 10] [4, 5, 6] [] ⟨[(3, tI layer), (4, tP 4 0), (5, tP 5 0), (6, tP 6 0), (10, tI (W64 (v10 + 1)))], [(4, .cells ((boardC (LL (m))) b) 41), (5, .cells ((condC (LL (n + 1))) c) 58), (6, .cells (TItem.c it) 44)]⟩ .nil (by kernel_rfl) .nil ?_
                          (try rw [(show W64 (v10 + 1) = v10 + 1 from W64_id (by omega) (by first | omega | (simp only [List.length_drop, List.length_take] at *; omega)))])
                          refine ath_n ?_
                          refine ⟨(n0, v10 + 1), ⟨?_, ?_, (by rw [← hF0]; simp only [FhoS_l0, h10, h11, cond_true, cond_false])⟩, Nat.lt_succ_self _, cv_eq (by kernel_rfl)⟩
                          · show ((((c.L.length : Int))) - (v10 + 1)).toNat < n0; omega
                          · exact ⟨(by show 0 ≤ (v10 + 1); first | trivial | omega | (simp only [List.length_append, List.length_cons, List.length_nil]; omega) | (simp only [List.length_set, List.length_append, List.length_cons, List.length_nil]; omega) | (simp only [W64_def]; omega) | (simp; omega) | simp), (by show ((v10 + 1) ≤ ((c.L.length : Int)) ∨ (v10 + 1) = 0); first | trivial | omega | (simp only [List.length_append, List.length_cons, List.length_nil]; omega) | (simp only [List.length_set, List.length_append, List.length_cons, List.length_nil]; omega) | (simp only [W64_def]; omega) | (simp; omega) | simp)⟩
                      · have g10 := of_decide_eq_false h10
                        refine aw_exit ?_
                        refine ath_e ?_
                        refine ath_e ?_
                        refine abl_hit ?_
                        refine ath_n ?_
                        refine aw_seq ?_
                        refine aw_region eqok [] [] [] [8] [] [] ⟨[(8, tB (decide ((c.Op : Int) = 9)))], []⟩ .nil (by kernel_rfl) .nil ?_
                        refine ath_n ?_
                        refine aw_ret ?_
                        refine abl_r ?_
                        refine ath_r ?_
                        exact ⟨_, Cv.refl _, .inl rfl, .av (.one (.b (decide ((c.Op : Int) = 9)))), by kernel_rfl, tve_eq (by rw [← hF0]; first | (simp only [FhoS_l0, h10, cond_true, cond_false]; done) | (simp only [FhoS_l0, h10, cond_true, cond_false]; rfl))⟩
                  · refine aw_skip ?_
                    refine abl_n ?_
                    refine ath_n ?_
                    refine aw_seq ?_
                    refine aw_region eqok [] [] [] [8] [] [] ⟨[(8, tB false)], []⟩ .nil (by kernel_rfl) .nil ?_
                    refine ath_n ?_
                    refine aw_ret ?_
                    exact ⟨_, Cv.refl _, .inl rfl, .av (.one (.b false)), by kernel_rfl, tve_eq (by first | (simp only [FhoS, h1, h2, h3, h4, h5, h6, h7, h8, h9, cond_true, cond_false]; done) | (simp only [FhoS, h1, h2, h3, h4, h5, h6, h7, h8, h9, cond_true, cond_false]; rfl))⟩
def FhoZ (b : TBoard) (c : TCond) (it : TItem) (layer : Int) : Bool := bif decide ((c.Op : Int) = 1) then (true) else (bif decide ((c.Op : Int) = 2) then ((it.Net.toList == c.Text.toList)) else (bif decide ((c.Op : Int) = 3) then (FclsR b c.Text it.Net) else (bif decide ((c.Op : Int) = 4) then (decide ((it.Kind : Int) = c.N)) else (bif decide ((c.Op : Int) = 5) then (decide ((layer : Int) = c.N)) else (bif decide ((c.Op : Int) = 6) then (bif decide ((it.Kind : Int) = 1) then decide ((it.Id : Int) = c.N) else false) else (bif decide ((c.Op : Int) = 7) then (bif bif bif decide ((c.Box.X0 : Int) ≤ ((FBoxR it.Shape).X0)) then decide ((c.Box.Y0 : Int) ≤ ((FBoxR it.Shape).Y0)) else false then decide ((((FBoxR it.Shape).X1) : Int) ≤ c.Box.X1) else false then decide ((((FBoxR it.Shape).Y1) : Int) ≤ c.Box.Y1) else false) else (bif decide ((c.Op : Int) = 8) then (false) else (bif bif decide ((c.Op : Int) = 9) then (decide ((c.Op : Int) = 9)) else (decide ((c.Op : Int) = 10)) then (decide ((c.Op : Int) = 9)) else (false)))))))))
set_option maxRecDepth 100000 in
theorem phoZ (m : Nat) (b : TBoard) (c : TCond) (it : TItem) (layer : Int) (hbx : BoxOk b it) : Pure Try.prog 23 [.agg ((boardC (LL (m))) b), .agg ((condC (LL (0))) c), .agg (TItem.c it), .one (.i layer)] (.av (.one (.b (FhoZ b c it layer)))) := by
  refine pure_of_awF Try.func23 rfl (by kernel_rfl) (by kernel_rfl) fun W0 M0 => ?_
  have hs := hbx.2
  refine aw_seq ?_
  refine aw_region eqok [] [] [] [3, 4, 5, 6] [4, 5, 6] [] ⟨[(3, tI layer), (4, tP 4 0), (5, tP 5 0), (6, tP 6 0)], [(4, .cells ((boardC (LL (m))) b) 41), (5, .cells ((condC (LL (0))) c) 58), (6, .cells (TItem.c it) 44)]⟩ .nil (by kernel_rfl) .nil ?_
  refine ath_n ?_
  refine aw_seq ?_
  refine aw_seq ?_
  refine aw_region eqok [] [] [] [3, 4, 5, 6, 13] [4, 5, 6] [] ⟨[(3, tI layer), (4, tP 4 0), (5, tP 5 0), (6, tP 6 0), (13, tI c.Op)], [(4, .cells ((boardC (LL (m))) b) 41), (5, .cells ((condC (LL (0))) c) 58), (6, .cells (TItem.c it) 44)]⟩ .nil (by kernel_rfl) .nil ?_
  refine ath_n ?_
  refine aw_block ?_
  refine aw_seq ?_
  refine aw_region eqok [] [] [] [3, 4, 5, 6, 13, 14] [4, 5, 6] [] ⟨[(3, tI layer), (4, tP 4 0), (5, tP 5 0), (6, tP 6 0), (13, tI c.Op), (14, tB (decide ((c.Op : Int) = 1)))], [(4, .cells ((boardC (LL (m))) b) 41), (5, .cells ((condC (LL (0))) c) 58), (6, .cells (TItem.c it) 44)]⟩ .nil (by kernel_rfl) .nil ?_
  refine ath_n ?_
  refine aw_cond (decide ((c.Op : Int) = 1)) (by kernel_rfl) (fun h1 => ?_) (fun h1 => ?_)
  · have g1 := of_decide_eq_true h1
    refine aw_seq ?_
    refine aw_region eqok [] [] [] [8] [] [] ⟨[(8, tB true)], []⟩ .nil (by kernel_rfl) .nil ?_
    refine ath_n ?_
    refine aw_ret ?_
    refine abl_r ?_
    refine ath_r ?_
    exact ⟨_, Cv.refl _, .inl rfl, .av (.one (.b true)), by kernel_rfl, tve_eq (by first | (simp only [FhoZ, h1, cond_true, cond_false]; done) | (simp only [FhoZ, h1, cond_true, cond_false]; rfl))⟩
  · have g1 := of_decide_eq_false h1
    refine aw_seq ?_
    refine aw_region eqok [] [] [] [3, 4, 5, 6, 13, 16] [4, 5, 6] [] ⟨[(3, tI layer), (4, tP 4 0), (5, tP 5 0), (6, tP 6 0), (13, tI c.Op), (16, tB (decide ((c.Op : Int) = 2)))], [(4, .cells ((boardC (LL (m))) b) 41), (5, .cells ((condC (LL (0))) c) 58), (6, .cells (TItem.c it) 44)]⟩ .nil (by kernel_rfl) .nil ?_
    refine ath_n ?_
    refine aw_cond (decide ((c.Op : Int) = 2)) (by kernel_rfl) (fun h2 => ?_) (fun h2 => ?_)
    · have g2 := of_decide_eq_true h2
      refine aw_seq ?_
      refine aw_region eqok [] [] [] [8] [] [] ⟨[(8, tB ((it.Net.toList == c.Text.toList)))], []⟩ .nil (by kernel_rfl) .nil ?_
      refine ath_n ?_
      refine aw_ret ?_
      refine abl_r ?_
      refine ath_r ?_
      exact ⟨_, Cv.refl _, .inl rfl, .av (.one (.b ((it.Net.toList == c.Text.toList)))), by kernel_rfl, tve_eq (by first | (simp only [FhoZ, h1, h2, cond_true, cond_false]; done) | (simp only [FhoZ, h1, h2, cond_true, cond_false]; rfl))⟩
    · have g2 := of_decide_eq_false h2
      refine aw_seq ?_
      refine aw_region eqok [] [] [] [3, 4, 5, 6, 13, 23] [4, 5, 6] [] ⟨[(3, tI layer), (4, tP 4 0), (5, tP 5 0), (6, tP 6 0), (13, tI c.Op), (23, tB (decide ((c.Op : Int) = 3)))], [(4, .cells ((boardC (LL (m))) b) 41), (5, .cells ((condC (LL (0))) c) 58), (6, .cells (TItem.c it) 44)]⟩ .nil (by kernel_rfl) .nil ?_
      refine ath_n ?_
      refine aw_cond (decide ((c.Op : Int) = 3)) (by kernel_rfl) (fun h3 => ?_) (fun h3 => ?_)
      · have g3 := of_decide_eq_true h3
        refine aw_seq ?_
        refine aw_region eqok [] [] [(30, (39, [.agg ((boardC (LL (m))) b), .one (.s c.Text), .one (.s it.Net)], .val [] (tB (FclsR b c.Text it.Net))))] [8] [] [Same [.agg ((boardC (LL (m))) b), .one (.s c.Text), .one (.s it.Net)]] ⟨[(8, tB (FclsR b c.Text it.Net))], []⟩ (.cons (callOk_pure (fun _ _ => by kernel_rfl) fun _ => pclsR m b c.Text it.Net (by first | assumption | exact hbx.1)) .nil) (by kernel_rfl) (.cons rfl .nil) ?_
        refine ath_n ?_
        refine aw_ret ?_
        refine abl_r ?_
        refine ath_r ?_
        exact ⟨_, Cv.refl _, .inl rfl, .av (.one (.b (FclsR b c.Text it.Net))), by kernel_rfl, tve_eq (by first | (simp only [FhoZ, h1, h2, h3, cond_true, cond_false]; done) | (simp only [FhoZ, h1, h2, h3, cond_true, cond_false]; rfl))⟩
      · have g3 := of_decide_eq_false h3
        refine aw_seq ?_
        refine aw_region eqok [] [] [] [3, 4, 5, 6, 13, 31] [4, 5, 6] [] ⟨[(3, tI layer), (4, tP 4 0), (5, tP 5 0), (6, tP 6 0), (13, tI c.Op), (31, tB (decide ((c.Op : Int) = 4)))], [(4, .cells ((boardC (LL (m))) b) 41), (5, .cells ((condC (LL (0))) c) 58), (6, .cells (TItem.c it) 44)]⟩ .nil (by kernel_rfl) .nil ?_
        refine ath_n ?_
        refine aw_cond (decide ((c.Op : Int) = 4)) (by kernel_rfl) (fun h4 => ?_) (fun h4 => ?_)
        · have g4 := of_decide_eq_true h4
          refine aw_seq ?_
          refine aw_region eqok [] [] [] [8] [] [] ⟨[(8, tB (decide ((it.Kind : Int) = c.N)))], []⟩ .nil (by kernel_rfl) .nil ?_
          refine ath_n ?_
          refine aw_ret ?_
          refine abl_r ?_
          refine ath_r ?_
          exact ⟨_, Cv.refl _, .inl rfl, .av (.one (.b (decide ((it.Kind : Int) = c.N)))), by kernel_rfl, tve_eq (by first | (simp only [FhoZ, h1, h2, h3, h4, cond_true, cond_false]; done) | (simp only [FhoZ, h1, h2, h3, h4, cond_true, cond_false]; rfl))⟩
        · have g4 := of_decide_eq_false h4
          refine aw_seq ?_
          refine aw_region eqok [] [] [] [3, 4, 5, 6, 13, 38] [4, 5, 6] [] ⟨[(3, tI layer), (4, tP 4 0), (5, tP 5 0), (6, tP 6 0), (13, tI c.Op), (38, tB (decide ((c.Op : Int) = 5)))], [(4, .cells ((boardC (LL (m))) b) 41), (5, .cells ((condC (LL (0))) c) 58), (6, .cells (TItem.c it) 44)]⟩ .nil (by kernel_rfl) .nil ?_
          refine ath_n ?_
          refine aw_cond (decide ((c.Op : Int) = 5)) (by kernel_rfl) (fun h5 => ?_) (fun h5 => ?_)
          · have g5 := of_decide_eq_true h5
            refine aw_seq ?_
            refine aw_region eqok [] [] [] [8] [] [] ⟨[(8, tB (decide ((layer : Int) = c.N)))], []⟩ .nil (by kernel_rfl) .nil ?_
            refine ath_n ?_
            refine aw_ret ?_
            refine abl_r ?_
            refine ath_r ?_
            exact ⟨_, Cv.refl _, .inl rfl, .av (.one (.b (decide ((layer : Int) = c.N)))), by kernel_rfl, tve_eq (by first | (simp only [FhoZ, h1, h2, h3, h4, h5, cond_true, cond_false]; done) | (simp only [FhoZ, h1, h2, h3, h4, h5, cond_true, cond_false]; rfl))⟩
          · have g5 := of_decide_eq_false h5
            refine aw_seq ?_
            refine aw_region eqok [] [] [] [3, 4, 5, 6, 13, 44] [4, 5, 6] [] ⟨[(3, tI layer), (4, tP 4 0), (5, tP 5 0), (6, tP 6 0), (13, tI c.Op), (44, tB (decide ((c.Op : Int) = 6)))], [(4, .cells ((boardC (LL (m))) b) 41), (5, .cells ((condC (LL (0))) c) 58), (6, .cells (TItem.c it) 44)]⟩ .nil (by kernel_rfl) .nil ?_
            refine ath_n ?_
            refine aw_cond (decide ((c.Op : Int) = 6)) (by kernel_rfl) (fun h6 => ?_) (fun h6 => ?_)
            · have g6 := of_decide_eq_true h6
              refine aw_seq ?_
              refine aw_region eqok [] [] [] [8] [] [((decide ((it.Kind : Int) = 1)) = true) → ((decide ((it.Kind : Int) = 1)) = true), ((decide ((it.Kind : Int) = 1)) = true) → ((decide ((it.Kind : Int) = 1)) = true), ((decide ((it.Kind : Int) = 1)) = true) → ((decide ((it.Kind : Int) = 1)) = true), ((decide ((it.Kind : Int) = 1)) = true) → ((decide ((it.Kind : Int) = 1)) = true), (decide ((it.Kind : Int) = 1)) = true → ((decide ((it.Kind : Int) = 1)) = true)] ⟨[(8, tB (bif decide ((it.Kind : Int) = 1) then decide ((it.Id : Int) = c.N) else false))], []⟩ .nil (by kernel_rfl) (.cons id (.cons id (.cons id (.cons id (.cons id .nil))))) ?_
              refine ath_n ?_
              refine aw_ret ?_
              refine abl_r ?_
              refine ath_r ?_
              exact ⟨_, Cv.refl _, .inl rfl, .av (.one (.b (bif decide ((it.Kind : Int) = 1) then decide ((it.Id : Int) = c.N) else false))), by kernel_rfl, tve_eq (by first | (simp only [FhoZ, h1, h2, h3, h4, h5, h6, cond_true, cond_false]; done) | (simp only [FhoZ, h1, h2, h3, h4, h5, h6, cond_true, cond_false]; rfl))⟩
            · have g6 := of_decide_eq_false h6
              refine aw_seq ?_
              refine aw_region eqok [] [] [] [3, 4, 5, 6, 13, 56] [4, 5, 6] [] ⟨[(3, tI layer), (4, tP 4 0), (5, tP 5 0), (6, tP 6 0), (13, tI c.Op), (56, tB (decide ((c.Op : Int) = 7)))], [(4, .cells ((boardC (LL (m))) b) 41), (5, .cells ((condC (LL (0))) c) 58), (6, .cells (TItem.c it) 44)]⟩ .nil (by kernel_rfl) .nil ?_
              refine ath_n ?_
              refine aw_cond (decide ((c.Op : Int) = 7)) (by kernel_rfl) (fun h7 => ?_) (fun h7 => ?_)
              · have g7 := of_decide_eq_true h7
                refine aw_seq ?_
                refine aw_region eqok [] [] [(60, cBoxR it.Shape)] [5, 9] [5, 9] [Same (cBoxR it.Shape).2.1] ⟨[(5, tP 5 0), (9, tP 9 0)], [(5, .cells ((condC (LL (0))) c) 58), (9, .cells (TRect.c (FBoxR it.Shape)) 55)]⟩ (.cons (okBoxR it.Shape (by first | assumption | decide | omega | (simp only [List.length_cons, List.length_nil, List.length_append]; omega))) .nil) (by kernel_rfl) (.cons rfl .nil) ?_
                refine ath_n ?_
                refine aw_seq ?_
                refine aw_region eqok [] [] [] [8] [] [((decide ((c.Box.X0 : Int) ≤ ((FBoxR it.Shape).X0))) = true) → ((decide ((c.Box.X0 : Int) ≤ ((FBoxR it.Shape).X0))) = true), ((decide ((c.Box.X0 : Int) ≤ ((FBoxR it.Shape).X0))) = true) → ((decide ((c.Box.X0 : Int) ≤ ((FBoxR it.Shape).X0))) = true), ((decide ((c.Box.X0 : Int) ≤ ((FBoxR it.Shape).X0))) = true) → ((decide ((c.Box.X0 : Int) ≤ ((FBoxR it.Shape).X0))) = true), ((decide ((c.Box.X0 : Int) ≤ ((FBoxR it.Shape).X0))) = true) → ((decide ((c.Box.X0 : Int) ≤ ((FBoxR it.Shape).X0))) = true), ((decide ((c.Box.X0 : Int) ≤ ((FBoxR it.Shape).X0))) = true) → ((decide ((c.Box.X0 : Int) ≤ ((FBoxR it.Shape).X0))) = true), (decide ((c.Box.X0 : Int) ≤ ((FBoxR it.Shape).X0))) = true → ((decide ((c.Box.X0 : Int) ≤ ((FBoxR it.Shape).X0))) = true), ((bif decide ((c.Box.X0 : Int) ≤ ((FBoxR it.Shape).X0)) then decide ((c.Box.Y0 : Int) ≤ ((FBoxR it.Shape).Y0)) else false) = true) → ((bif decide ((c.Box.X0 : Int) ≤ ((FBoxR it.Shape).X0)) then decide ((c.Box.Y0 : Int) ≤ ((FBoxR it.Shape).Y0)) else false) = true), ((bif decide ((c.Box.X0 : Int) ≤ ((FBoxR it.Shape).X0)) then decide ((c.Box.Y0 : Int) ≤ ((FBoxR it.Shape).Y0)) else false) = true) → ((bif decide ((c.Box.X0 : Int) ≤ ((FBoxR it.Shape).X0)) then decide ((c.Box.Y0 : Int) ≤ ((FBoxR it.Shape).Y0)) else false) = true), ((bif decide ((c.Box.X0 : Int) ≤ ((FBoxR it.Shape).X0)) then decide ((c.Box.Y0 : Int) ≤ ((FBoxR it.Shape).Y0)) else false) = true) → ((bif decide ((c.Box.X0 : Int) ≤ ((FBoxR it.Shape).X0)) then decide ((c.Box.Y0 : Int) ≤ ((FBoxR it.Shape).Y0)) else false) = true), ((bif decide ((c.Box.X0 : Int) ≤ ((FBoxR it.Shape).X0)) then decide ((c.Box.Y0 : Int) ≤ ((FBoxR it.Shape).Y0)) else false) = true) → ((bif decide ((c.Box.X0 : Int) ≤ ((FBoxR it.Shape).X0)) then decide ((c.Box.Y0 : Int) ≤ ((FBoxR it.Shape).Y0)) else false) = true), ((bif decide ((c.Box.X0 : Int) ≤ ((FBoxR it.Shape).X0)) then decide ((c.Box.Y0 : Int) ≤ ((FBoxR it.Shape).Y0)) else false) = true) → ((bif decide ((c.Box.X0 : Int) ≤ ((FBoxR it.Shape).X0)) then decide ((c.Box.Y0 : Int) ≤ ((FBoxR it.Shape).Y0)) else false) = true), (bif decide ((c.Box.X0 : Int) ≤ ((FBoxR it.Shape).X0)) then decide ((c.Box.Y0 : Int) ≤ ((FBoxR it.Shape).Y0)) else false) = true → ((bif decide ((c.Box.X0 : Int) ≤ ((FBoxR it.Shape).X0)) then decide ((c.Box.Y0 : Int) ≤ ((FBoxR it.Shape).Y0)) else false) = true), ((bif bif decide ((c.Box.X0 : Int) ≤ ((FBoxR it.Shape).X0)) then decide ((c.Box.Y0 : Int) ≤ ((FBoxR it.Shape).Y0)) else false then decide ((((FBoxR it.Shape).X1) : Int) ≤ c.Box.X1) else false) = true) → ((bif bif decide ((c.Box.X0 : Int) ≤ ((FBoxR it.Shape).X0)) then decide ((c.Box.Y0 : Int) ≤ ((FBoxR it.Shape).Y0)) else false then decide ((((FBoxR it.Shape).X1) : Int) ≤ c.Box.X1) else false) = true), ((bif bif decide ((c.Box.X0 : Int) ≤ ((FBoxR it.Shape).X0)) then decide ((c.Box.Y0 : Int) ≤ ((FBoxR it.Shape).Y0)) else false then decide ((((FBoxR it.Shape).X1) : Int) ≤ c.Box.X1) else false) = true) → ((bif bif decide ((c.Box.X0 : Int) ≤ ((FBoxR it.Shape).X0)) then decide ((c.Box.Y0 : Int) ≤ ((FBoxR it.Shape).Y0)) else false then decide ((((FBoxR it.Shape).X1) : Int) ≤ c.Box.X1) else false) = true), ((bif bif decide ((c.Box.X0 : Int) ≤ ((FBoxR it.Shape).X0)) then decide ((c.Box.Y0 : Int) ≤ ((FBoxR it.Shape).Y0)) else false then decide ((((FBoxR it.Shape).X1) : Int) ≤ c.Box.X1) else false) = true) → ((bif bif decide ((c.Box.X0 : Int) ≤ ((FBoxR it.Shape).X0)) then decide ((c.Box.Y0 : Int) ≤ ((FBoxR it.Shape).Y0)) else false then decide ((((FBoxR it.Shape).X1) : Int) ≤ c.Box.X1) else false) = true), ((bif bif decide ((c.Box.X0 : Int) ≤ ((FBoxR it.Shape).X0)) then decide ((c.Box.Y0 : Int) ≤ ((FBoxR it.Shape).Y0)) else false then decide ((((FBoxR it.Shape).X1) : Int) ≤ c.Box.X1) else false) = true) → ((bif bif decide ((c.Box.X0 : Int) ≤ ((FBoxR it.Shape).X0)) then decide ((c.Box.Y0 : Int) ≤ ((FBoxR it.Shape).Y0)) else false then decide ((((FBoxR it.Shape).X1) : Int) ≤ c.Box.X1) else false) = true), ((bif bif decide ((c.Box.X0 : Int) ≤ ((FBoxR it.Shape).X0)) then decide ((c.Box.Y0 : Int) ≤ ((FBoxR it.Shape).Y0)) else false then decide ((((FBoxR it.Shape).X1) : Int) ≤ c.Box.X1) else false) = true) → ((bif bif decide ((c.Box.X0 : Int) ≤ ((FBoxR it.Shape).X0)) then decide ((c.Box.Y0 : Int) ≤ ((FBoxR it.Shape).Y0)) else false then decide ((((FBoxR it.Shape).X1) : Int) ≤ c.Box.X1) else false) = true), (bif bif decide ((c.Box.X0 : Int) ≤ ((FBoxR it.Shape).X0)) then decide ((c.Box.Y0 : Int) ≤ ((FBoxR it.Shape).Y0)) else false then decide ((((FBoxR it.Shape).X1) : Int) ≤ c.Box.X1) else false) = true → ((bif bif decide ((c.Box.X0 : Int) ≤ ((FBoxR it.Shape).X0)) then decide ((c.Box.Y0 : Int) ≤ ((FBoxR it.Shape).Y0)) else false then decide ((((FBoxR it.Shape).X1) : Int) ≤ c.Box.X1) else false) = true)] ⟨[(8, tB (bif bif bif decide ((c.Box.X0 : Int) ≤ ((FBoxR it.Shape).X0)) then decide ((c.Box.Y0 : Int) ≤ ((FBoxR it.Shape).Y0)) else false then decide ((((FBoxR it.Shape).X1) : Int) ≤ c.Box.X1) else false then decide ((((FBoxR it.Shape).Y1) : Int) ≤ c.Box.Y1) else false))], []⟩ .nil (by kernel_rfl) (.cons id (.cons id (.cons id (.cons id (.cons id (.cons id (.cons id (.cons id (.cons id (.cons id (.cons id (.cons id (.cons id (.cons id (.cons id (.cons id (.cons id (.cons id .nil)))))))))))))))))) ?_
                refine ath_n ?_
                refine aw_ret ?_
                refine abl_r ?_
                refine ath_r ?_
                exact ⟨_, Cv.refl _, .inl rfl, .av (.one (.b (bif bif bif decide ((c.Box.X0 : Int) ≤ ((FBoxR it.Shape).X0)) then decide ((c.Box.Y0 : Int) ≤ ((FBoxR it.Shape).Y0)) else false then decide ((((FBoxR it.Shape).X1) : Int) ≤ c.Box.X1) else false then decide ((((FBoxR it.Shape).Y1) : Int) ≤ c.Box.Y1) else false))), by kernel_rfl, tve_eq (by first | (simp only [FhoZ, h1, h2, h3, h4, h5, h6, h7, cond_true, cond_false]; done) | (simp only [FhoZ, h1, h2, h3, h4, h5, h6, h7, cond_true, cond_false]; rfl))⟩
              · have g7 := of_decide_eq_false h7
                refine aw_seq ?_
                refine aw_region eqok [] [] [] [3, 4, 5, 6, 13, 91] [4, 5, 6] [] ⟨[(3, tI layer), (4, tP 4 0), (5, tP 5 0), (6, tP 6 0), (13, tI c.Op), (91, tB (decide ((c.Op : Int) = 8)))], [(4, .cells ((boardC (LL (m))) b) 41), (5, .cells ((condC (LL (0))) c) 58), (6, .cells (TItem.c it) 44)]⟩ .nil (by kernel_rfl) .nil ?_
                refine ath_n ?_
                refine aw_cond (decide ((c.Op : Int) = 8)) (by kernel_rfl) (fun h8 => ?_) (fun h8 => ?_)
                · have g8 := of_decide_eq_true h8
                  refine aw_seq ?_
                  refine aw_draw mixed eqok [] [] [] [8] [] [((false) = true) → ((false) = true), ((false) = true) → ((false) = true), ((false) = true) → (0 ≤ (0 : Int) ∧ (0 : Int) < ((0 : Nat) : Int)), ((false) = true) → ((false) = true), ¬ ((false) = true), ((false) = true) → ((false) = true), (false) = true → ((false) = true)] ⟨[(8, tB false)], []⟩ .nil (by kernel_rfl) (by kernel_rfl) (.cons id (.cons id (.cons (fun hG => by first | exact (by first | decide | omega | exact idx_tmod (by first | omega | (simp only [W64_def]; omega)) (by omega) | (simp only [W64_def]; omega) | (constructor <;> omega) | (simp only [List.length_append, List.length_cons, List.length_nil]; omega) | (simp only [List.length_append, List.length_cons, List.length_nil, List.length_drop, List.length_take] at *; omega)) | (simp only [decide_eq_true_eq, decide_eq_false_iff_not, Bool.not_eq_true, Bool.and_eq_true] at hG <;> omega) | (simp at hG <;> omega)) (.cons id (.cons (by simp) (.cons id (.cons id .nil))))))) ?_
                  refine ath_n ?_
                  refine aw_ret ?_
                  refine abl_r ?_
                  refine ath_r ?_
                  exact ⟨_, Cv.refl _, .inl rfl, .av (.one (.b false)), by kernel_rfl, tve_eq (by first | (simp only [FhoZ, h1, h2, h3, h4, h5, h6, h7, h8, cond_true, cond_false]; done) | (simp only [FhoZ, h1, h2, h3, h4, h5, h6, h7, h8, cond_true, cond_false]; rfl))⟩
                · have g8 := of_decide_eq_false h8
                  refine aw_seq ?_
                  refine aw_seq ?_
                  refine aw_region eqok [] [] [] [3, 4, 5, 6, 13, 108] [4, 5, 6] [] ⟨[(3, tI layer), (4, tP 4 0), (5, tP 5 0), (6, tP 6 0), (13, tI c.Op), (108, tB (decide ((c.Op : Int) = 9)))], [(4, .cells ((boardC (LL (m))) b) 41), (5, .cells ((condC (LL (0))) c) 58), (6, .cells (TItem.c it) 44)]⟩ .nil (by kernel_rfl) .nil ?_
                  refine ath_n ?_
                  refine aw_joinC (⟨[(3, tI layer), (4, tP 4 0), (5, tP 5 0), (6, tP 6 0), (108, tB (bif decide ((c.Op : Int) = 9) then (decide ((c.Op : Int) = 9)) else (decide ((c.Op : Int) = 10))))], [(4, .cells ((boardC (LL (m))) b) 41), (5, .cells ((condC (LL (0))) c) 58), (6, .cells (TItem.c it) 44)]⟩) ?_ ?_
                  · refine aw_cond (decide ((c.Op : Int) = 9)) (by kernel_rfl) (fun h9 => ?_) (fun h9 => ?_)
                    · have g9 := of_decide_eq_true h9
                      refine aw_skip ?_
                      refine ath_n ?_
                      refine Cv.trans (cv_keep [3, 4, 5, 6, 108] [4, 5, 6] (⟨[(3, tI layer), (4, tP 4 0), (5, tP 5 0), (6, tP 6 0), (108, tB (decide ((c.Op : Int) = 9)))], [(4, .cells ((boardC (LL (m))) b) 41), (5, .cells ((condC (LL (0))) c) 58), (6, .cells (TItem.c it) 44)]⟩) (by kernel_rfl)) (cv_eq ?_)
                      first | rfl | (simp only [h9, cond_true, cond_false]; done) | (simp only [h9, cond_true, cond_false]; rfl)
                    · have g9 := of_decide_eq_false h9
                      refine aw_region eqok [] [] [] [3, 4, 5, 6, 108] [4, 5, 6] [] ⟨[(3, tI layer), (4, tP 4 0), (5, tP 5 0), (6, tP 6 0), (108, tB (decide ((c.Op : Int) = 10)))], [(4, .cells ((boardC (LL (m))) b) 41), (5, .cells ((condC (LL (0))) c) 58), (6, .cells (TItem.c it) 44)]⟩ .nil (by kernel_rfl) .nil ?_
                      refine ath_n ?_
                      refine cv_eq ?_
                      first | rfl | (simp only [h9, cond_true, cond_false]; done) | (simp only [h9, cond_true, cond_false]; rfl)
                  refine aw_cond (bif decide ((c.Op : Int) = 9) then (decide ((c.Op : Int) = 9)) else (decide ((c.Op : Int) = 10))) (by kernel_rfl) (fun h9 => ?_) (fun h9 => ?_)
                  · refine aw_seq ?_
                    refine aw_seq ?_
                    refine aw_region eqok [] [] [] [3, 4, 5, 6, 10] [4, 5, 6] [] ⟨[(3, tI layer), (4, tP 4 0), (5, tP 5 0), (6, tP 6 0), (10, tI 0)], [(4, .cells ((boardC (LL (m))) b) 41), (5, .cells ((condC (LL (0))) c) 58), (6, .cells (TItem.c it) 44)]⟩ .nil (by kernel_rfl) .nil ?_
                    refine ath_n ?_
                    refine aw_block ?_
                    refine aw_unroll 1 ?_
                    refine aw_round ?_
                    refine aw_seq ?_
                    refine aw_seq ?_
                    refine aw_region eqok [] [] [] [3, 4, 5, 6, 10, 115] [4, 5, 6] [] ⟨[(3, tI layer), (4, tP 4 0), (5, tP 5 0), (6, tP 6 0), (10, tI 0), (115, tB false)], [(4, .cells ((boardC (LL (m))) b) 41), (5, .cells ((condC (LL (0))) c) 58), (6, .cells (TItem.c it) 44)]⟩ .nil (by kernel_rfl) .nil ?_
                    refine ath_n ?_
                    refine aw_cond_f (by kernel_rfl) ?_
                    refine aw_exit ?_
                    refine ath_e ?_
                    refine ath_e ?_
                    refine abl_hit ?_
                    refine ath_n ?_
                    refine aw_seq ?_
                    refine aw_region eqok [] [] [] [8] [] [] ⟨[(8, tB (decide ((c.Op : Int) = 9)))], []⟩ .nil (by kernel_rfl) .nil ?_
                    refine ath_n ?_
                    refine aw_ret ?_
                    refine abl_r ?_
                    refine ath_r ?_
                    exact ⟨_, Cv.refl _, .inl rfl, .av (.one (.b (decide ((c.Op : Int) = 9)))), by kernel_rfl, tve_eq (by first | (simp only [FhoZ, h1, h2, h3, h4, h5, h6, h7, h8, h9, cond_true, cond_false]; done) | (simp only [FhoZ, h1, h2, h3, h4, h5, h6, h7, h8, h9, cond_true, cond_false]; rfl))⟩
                  · refine aw_skip ?_
                    refine abl_n ?_
                    refine ath_n ?_
                    refine aw_seq ?_
                    refine aw_region eqok [] [] [] [8] [] [] ⟨[(8, tB false)], []⟩ .nil (by kernel_rfl) .nil ?_
                    refine ath_n ?_
                    refine aw_ret ?_
                    exact ⟨_, Cv.refl _, .inl rfl, .av (.one (.b false)), by kernel_rfl, tve_eq (by first | (simp only [FhoZ, h1, h2, h3, h4, h5, h6, h7, h8, h9, cond_true, cond_false]; done) | (simp only [FhoZ, h1, h2, h3, h4, h5, h6, h7, h8, h9, cond_true, cond_false]; rfl))⟩
def Fhold : Nat → TBoard → TCond → TItem → Int → Bool
  | 0, b, c, it, layer => FhoZ b c it layer
  | n + 1, b, c, it, layer => FhoS (Fhold n) b c it layer
theorem pHold (m : Nat) : ∀ (n : Nat) (b : TBoard) (c : TCond) (it : TItem) (layer : Int), BoxOk b it → CondOk n c → Pure Try.prog 23 [.agg ((boardC (LL (m))) b), .agg ((condC (LL (n))) c), .agg (TItem.c it), .one (.i layer)] (.av (.one (.b (Fhold n b c it layer))))
  | 0, b, c, it, layer, hb, _ => phoZ m b c it layer hb
  | n + 1, b, c, it, layer, hb, hc => phoS m n (Fhold n) b c it layer (fun b c it layer hb hc => pHold m n b c it layer hb hc) hb hc
end Go.Proofs.Ytoojlpcimogehaa
