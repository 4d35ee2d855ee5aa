/-
  No statement is proved in this text. It holds what functions return.
-/
import Derived.Test.YtoojlpcimogehaaProg
import Derived.Test.YtoojlpcimogehaaOps21
namespace Go.Proofs.Ytoojlpcimogehaa
open Go.RowKit
set_option linter.unusedVariables false
set_option linter.unusedSimpArgs false
def widxS_0 (v : ByteArray) (s : (List ByteArray)) (v8 : Int) : Bool := (v.toList == (s.getD v8.toNat default).toList)
def FidxS_l0 (s : (List ByteArray)) (v : ByteArray) : Nat → Int → Int
  | 0, _ => default
  | n0 + 1, v8 => bif decide ((v8 : Int) < ((s.length : Int))) then (bif widxS_0 v s v8 then (v8) else ((FidxS_l0 s v n0) (v8 + 1))) else ((-1))
def FidxS (s : (List ByteArray)) (v : ByteArray) : Int := FidxS_l0 s v (((((s.length : Int))) - 0).toNat + 1) 0
def cidxS (s : (List ByteArray)) (v : ByteArray) : FuncId × List Av × Ef := (75, [.one (lst 1 (fun x => [.s x]) s), .one (.s v)], .val [] (.av (.one (.i (FidxS s v)))))
set_option maxRecDepth 100000 in
theorem pidxS (s : (List ByteArray)) (v : ByteArray) (h0 : (s.length : Int) ≤ 9223372036854775807) : Pure Try.prog 75 (cidxS s v).2.1 (.av (.one (.i (FidxS s v)))) := by
  refine pure_of_awF Try.func75 rfl (by kernel_rfl) (by kernel_rfl) fun W0 M0 => ?_
  refine aw_seq ?_
  refine aw_region eqok [] [] [] [0, 1] [] [] ⟨[(0, .av (.one (lst 1 (fun x => [.s x]) s))), (1, .av (.one (.s v)))], []⟩ .nil (by kernel_rfl) .nil ?_
  refine ath_n ?_
  refine aw_seq ?_
  refine aw_seq ?_
  refine aw_region eqok [] [] [] [0, 1, 7, 8] [] [] ⟨[(0, .av (.one (lst 1 (fun x => [.s x]) s))), (1, .av (.one (.s v))), (7, tI ((s.length : Int))), (8, tI 0)], []⟩ .nil (by kernel_rfl) .nil ?_
  refine ath_n ?_
  refine aw_block ?_
  refine aw_loopC (ι := Nat × Int) (fun x => ⟨[(0, .av (.one (lst 1 (fun x => [.s x]) s))), (1, .av (.one (.s v))), (7, tI ((s.length : Int))), (8, tI x.2)], []⟩) (fun x => ((((s.length : Int))) - x.2).toNat < x.1 ∧ (0 ≤ x.2 ∧ (x.2 ≤ ((s.length : Int)) ∨ x.2 = 0)) ∧ FidxS_l0 s v x.1 x.2 = FidxS s v) (fun x => x.1) ?_ (((((s.length : Int))) - 0).toNat + 1, 0) ⟨Nat.lt_succ_self _, ⟨(by show 0 ≤ 0; first | trivial | omega | (simp only [List.length_append, List.length_cons, List.length_nil]; omega) | (simp only [List.length_set, List.length_append, List.length_cons, List.length_nil]; omega) | (simp only [W64_def]; omega) | (simp; omega) | simp), (by show (0 ≤ ((s.length : Int)) ∨ 0 = 0); first | trivial | omega | (simp only [List.length_append, List.length_cons, List.length_nil]; omega) | (simp only [List.length_set, List.length_append, List.length_cons, List.length_nil]; omega) | (simp only [W64_def]; omega) | (simp; omega) | simp)⟩, (by simp only [FidxS, cond_true, cond_false])⟩
  rintro ⟨n0, v8⟩ ⟨hn, hinv, hF⟩
  have hm0 : ((((s.length : Int))) - v8).toNat < n0 := hn; have hinv0 : 0 ≤ v8 ∧ (v8 ≤ ((s.length : Int)) ∨ v8 = 0) := hinv; have hF0 : FidxS_l0 s v n0 v8 = FidxS s v := hF; clear hn hinv hF
  cases n0 with
  | zero => exact absurd hm0 (Nat.not_lt_zero _)
  | succ n0 =>
    refine aw_seq ?_
    refine aw_region eqok [] [] [] [0, 1, 7, 8, 9] [] [] ⟨[(0, .av (.one (lst 1 (fun x => [.s x]) s))), (1, .av (.one (.s v))), (7, tI ((s.length : Int))), (8, tI v8), (9, tB (decide ((v8 : Int) < ((s.length : Int)))))], []⟩ .nil (by kernel_rfl) .nil ?_
    refine ath_n ?_
    refine aw_seq ?_
    refine aw_cond (decide ((v8 : Int) < ((s.length : Int)))) (by kernel_rfl) (fun h1 => ?_) (fun h1 => ?_)
    · have g1 := of_decide_eq_true h1
      refine aw_skip ?_
      refine ath_n ?_
      refine aw_seq ?_
      refine aw_block ?_
      refine aw_seq ?_
      refine aw_region eqok [] [] [] [0, 1, 5, 7, 8] [] [] ⟨[(0, .av (.one (lst 1 (fun x => [.s x]) s))), (1, .av (.one (.s v))), (5, tI v8), (7, tI ((s.length : Int))), (8, tI v8)], []⟩ .nil (by kernel_rfl) .nil ?_
      refine ath_n ?_
      refine aw_seq ?_
      refine aw_region eqok [] [] [] [0, 1, 5, 7, 8, 16] [] [0 ≤ (v8 : Int) ∧ (v8 : Int) < ((s.length : Nat) : Int)] ⟨[(0, .av (.one (lst 1 (fun x => [.s x]) s))), (1, .av (.one (.s v))), (5, tI v8), (7, tI ((s.length : Int))), (8, tI v8), (16, tB (widxS_0 v s v8))], []⟩ .nil (by kernel_rfl) (.cons (by first | decide | omega | exact idx_tmod (by first | omega | (simp only [W64_def]; omega)) (by omega) | (simp only [W64_def]; omega) | (constructor <;> omega) | (simp only [List.length_append, List.length_cons, List.length_nil]; omega) | (simp only [List.length_append, List.length_cons, List.length_nil, List.length_drop, List.length_take] at *; omega)) .nil) ?_
      refine ath_n ?_
      refine aw_cond (widxS_0 v s v8) (by kernel_rfl) (fun h2 => ?_) (fun h2 => ?_)
      · refine aw_seq ?_
        refine aw_region eqok [] [] [] [4] [] [] ⟨[(4, tI v8)], []⟩ .nil (by kernel_rfl) .nil ?_
        refine ath_n ?_
        refine aw_ret ?_
        refine abl_r ?_
        refine ath_r ?_
        refine ath_r ?_
        refine abl_r ?_
        refine ath_r ?_
        exact ⟨_, Cv.refl _, .inl rfl, .av (.one (.i v8)), by kernel_rfl, tve_eq (by rw [← hF0]; first | (simp only [FidxS_l0, h1, h2, cond_true, cond_false]; done) | (simp only [FidxS_l0, h1, h2, cond_true, cond_false]; rfl))⟩
      · refine aw_skip ?_
        refine abl_n ?_
        refine ath_n ?_
        refine aw_region eqok [] [] [] [0, 1, 7, 8] [] [] ⟨[(0, .av (.one (lst 1 (fun x => [.s x]) s))), (1, .av (.one (.s v))), (7, tI ((s.length : Int))), (8, tI (W64 (v8 + 1)))], []⟩ .nil (by kernel_rfl) .nil ?_
        (try rw [(show W64 (v8 + 1) = v8 + 1 from W64_id (by omega) (by first | omega | (simp only [List.length_drop, List.length_take] at *; omega)))])
        refine ath_n ?_
        refine ⟨(n0, v8 + 1), ⟨?_, ?_, (by rw [← hF0]; simp only [FidxS_l0, h1, h2, cond_true, cond_false])⟩, Nat.lt_succ_self _, cv_eq (by kernel_rfl)⟩
        · show ((((s.length : Int))) - (v8 + 1)).toNat < n0; omega
        · exact ⟨(by show 0 ≤ (v8 + 1); first | trivial | omega | (simp only [List.length_append, List.length_cons, List.length_nil]; omega) | (simp only [List.length_set, List.length_append, List.length_cons, List.length_nil]; omega) | (simp only [W64_def]; omega) | (simp; omega) | simp), (by show ((v8 + 1) ≤ ((s.length : Int)) ∨ (v8 + 1) = 0); first | trivial | omega | (simp only [List.length_append, List.length_cons, List.length_nil]; omega) | (simp only [List.length_set, List.length_append, List.length_cons, List.length_nil]; omega) | (simp only [W64_def]; omega) | (simp; omega) | simp)⟩
    · have g1 := of_decide_eq_false h1
      refine aw_exit ?_
      refine ath_e ?_
      refine ath_e ?_
      refine abl_hit ?_
      refine ath_n ?_
      refine aw_seq ?_
      refine aw_region eqok [] [] [] [4] [] [] ⟨[(4, tI ((-1)))], []⟩ .nil (by kernel_rfl) .nil ?_
      refine ath_n ?_
      refine aw_ret ?_
      exact ⟨_, Cv.refl _, .inl rfl, .av (.one (.i ((-1)))), by kernel_rfl, tve_eq (by rw [← hF0]; first | (simp only [FidxS_l0, h1, cond_true, cond_false]; done) | (simp only [FidxS_l0, h1, cond_true, cond_false]; rfl))⟩
theorem okidxS (s : (List ByteArray)) (v : ByteArray) (h0 : (s.length : Int) ≤ 9223372036854775807) : CallOk Try.prog (cidxS s v).1 (cidxS s v).2.1 (cidxS s v).2.2 := callOk_pure (fun _ _ => by kernel_rfl) fun _ => pidxS s v h0
def FconS (s : (List ByteArray)) (v : ByteArray) : Bool := decide ((0 : Int) ≤ (FidxS s v))
def cconS (s : (List ByteArray)) (v : ByteArray) : FuncId × List Av × Ef := (56, [.one (lst 1 (fun x => [.s x]) s), .one (.s v)], .val [] (.av (.one (.b (FconS s v)))))
set_option maxRecDepth 100000 in
theorem pconS (s : (List ByteArray)) (v : ByteArray) (h0 : (s.length : Int) ≤ 9223372036854775807) : Pure Try.prog 56 (cconS s v).2.1 (.av (.one (.b (FconS s v)))) := by
  refine pure_of_awF Try.func56 rfl (by kernel_rfl) (by kernel_rfl) fun W0 M0 => ?_
  refine aw_seq ?_
  refine aw_region eqok [] [] [] [0, 1] [] [] ⟨[(0, .av (.one (lst 1 (fun x => [.s x]) s))), (1, .av (.one (.s v)))], []⟩ .nil (by kernel_rfl) .nil ?_
  refine ath_n ?_
  refine aw_seq ?_
  refine aw_region eqok [] [] [(7, cidxS s v)] [4] [] [Same (cidxS s v).2.1] ⟨[(4, tB (decide ((0 : Int) ≤ (FidxS s v))))], []⟩ (.cons (okidxS s v (by first | assumption | decide | omega | (simp only [List.length_cons, List.length_nil, List.length_append]; omega))) .nil) (by kernel_rfl) (.cons rfl .nil) ?_
  refine ath_n ?_
  refine aw_ret ?_
  exact ⟨_, Cv.refl _, .inl rfl, .av (.one (.b (decide ((0 : Int) ≤ (FidxS s v))))), by kernel_rfl, tve_eq (by rfl)⟩
theorem okconS (s : (List ByteArray)) (v : ByteArray) (h0 : (s.length : Int) ≤ 9223372036854775807) : CallOk Try.prog (cconS s v).1 (cconS s v).2.1 (cconS s v).2.2 := callOk_pure (fun _ _ => by kernel_rfl) fun _ => pconS s v h0
/-- The lists of a board are not too long. -/
def ClsOk (l : List TClass) : Prop := (l.length : Int) ≤ 9223372036854775807 ∧ ∀ i, ((l.getD i default).Nets.length : Int) ≤ 9223372036854775807
def AskOk (q : TAsked) : Prop := ClsOk q.b.Classes ∧ (q.x.Shape.Edges.length : Int) ≤ 1000000
def wop31_0 (x : TClass) (c : TCond) (q : TAsked) : Bool := bif (x.Name.toList == c.Text.toList) then FconS x.Nets q.x.Net else false
def Fop31 (x : TClass) (c : TCond) (q : TAsked) : Bool := wop31_0 x c q
set_option maxRecDepth 100000 in
theorem pop31 (m : Nat) (n : Nat) (x : TClass) (c : TCond) (q : TAsked) (h0 : (x.Nets.length : Int) ≤ 9223372036854775807) : Pure Try.prog 55 [.agg (TClass.c x), .one (.eptr 8 1 (fun _ j => (((condC (LL (n))) c) : List Cl).getD j default) 0 0), .one (.eptr 25 1 (fun _ j => (((askedC (LL (m))) q) : List Cl).getD j default) 0 0)] (.av (.one (.b (Fop31 x c q)))) := by
  refine pure_of_awF Try.func55 rfl (by kernel_rfl) (by kernel_rfl) fun W0 M0 => ?_
  refine aw_seq ?_
  refine aw_region eqok [] [] [] [1, 2, 3] [3] [] ⟨[(1, .av (.one (.eptr 8 1 (fun _ j => (((condC (LL (n))) c) : List Cl).getD j default) 0 0))), (2, .av (.one (.eptr 25 1 (fun _ j => (((askedC (LL (m))) q) : List Cl).getD j default) 0 0))), (3, tP 3 0)], [(3, .cells (TClass.c x) 80)]⟩ .nil (by kernel_rfl) .nil ?_
  refine ath_n ?_
  refine aw_seq ?_
  refine aw_region eqok [] [] [(16, cconS x.Nets q.x.Net)] [4] [] [(((x.Name.toList == c.Text.toList)) = true) → (((x.Name.toList == c.Text.toList)) = true), (((x.Name.toList == c.Text.toList)) = true) → (((x.Name.toList == c.Text.toList)) = true), (((x.Name.toList == c.Text.toList)) = true) → (((x.Name.toList == c.Text.toList)) = true), (((x.Name.toList == c.Text.toList)) = true) → (((x.Name.toList == c.Text.toList)) = true), (((x.Name.toList == c.Text.toList)) = true) → (((x.Name.toList == c.Text.toList)) = true), (((x.Name.toList == c.Text.toList)) = true) → (Same (cconS x.Nets q.x.Net).2.1), ((x.Name.toList == c.Text.toList)) = true → (((x.Name.toList == c.Text.toList)) = true)] ⟨[(4, tB (wop31_0 x c q))], []⟩ (.cons (okconS x.Nets q.x.Net (by first | assumption | decide | omega | (simp only [List.length_cons, List.length_nil, List.length_append]; omega))) .nil) (by kernel_rfl) (.cons id (.cons id (.cons id (.cons id (.cons id (.cons (fun _ => rfl) (.cons id .nil))))))) ?_
  refine ath_n ?_
  refine aw_ret ?_
  exact ⟨_, Cv.refl _, .inl rfl, .av (.one (.b (wop31_0 x c q))), by kernel_rfl, tve_eq (by rfl)⟩
def wixCl_1 (xs : (List TClass)) (v8 : Int) (n : Nat) (c : TCond) (m : Nat) (q : TAsked) : FuncId × List Av × Ef := (55, [.agg (TClass.c (xs.getD v8.toNat default)), .one (.eptr 8 1 (fun _ j => (((condC (LL (n))) c) : List Cl).getD j default) 0 0), .one (.eptr 25 1 (fun _ j => (((askedC (LL (m))) q) : List Cl).getD j default) 0 0)], .val [] (tB (Fop31 (xs.getD v8.toNat default) c q)))
def FixCl_l0 (xs : (List TClass)) (c : TCond) (q : TAsked) : Nat → Int → Int
  | 0, _ => default
  | n0 + 1, v8 => bif decide ((v8 : Int) < ((xs.length : Int))) then (bif Fop31 (xs.getD v8.toNat default) c q then (v8) else ((FixCl_l0 xs c q n0) (v8 + 1))) else ((-1))
def FixCl (xs : (List TClass)) (c : TCond) (q : TAsked) : Int := FixCl_l0 xs c q (((((xs.length : Int))) - 0).toNat + 1) 0
set_option maxRecDepth 100000 in
theorem pixCl (m : Nat) (n : Nat) (xs : (List TClass)) (c : TCond) (q : TAsked) (hx : ClsOk xs) : Pure Try.prog 74 [.one (lst 2 TClass.c xs), .one (.clo 55 2 (listF [.eptr 8 1 (fun _ j => (((condC (LL (n))) c) : List Cl).getD j default) 0 0, .eptr 25 1 (fun _ j => (((askedC (LL (m))) q) : List Cl).getD j default) 0 0]))] (.av (.one (.i (FixCl xs c q)))) := by
  refine pure_of_awF Try.func74 rfl (by kernel_rfl) (by kernel_rfl) fun W0 M0 => ?_
  have hx1 := hx.1
  refine aw_seq ?_
  refine aw_region eqok [] [] [] [0, 1] [] [] ⟨[(0, .av (.one (lst 2 TClass.c xs))), (1, .av (.one (.clo 55 2 (listF [.eptr 8 1 (fun _ j => (((condC (LL (n))) c) : List Cl).getD j default) 0 0, .eptr 25 1 (fun _ j => (((askedC (LL (m))) q) : List Cl).getD j default) 0 0]))))], []⟩ .nil (by kernel_rfl) .nil ?_
  refine ath_n ?_
  refine aw_seq ?_
  refine aw_seq ?_
  refine aw_region eqok [] [] [] [0, 1, 7, 8] [] [] ⟨[(0, .av (.one (lst 2 TClass.c xs))), (1, .av (.one (.clo 55 2 (listF [.eptr 8 1 (fun _ j => (((condC (LL (n))) c) : List Cl).getD j default) 0 0, .eptr 25 1 (fun _ j => (((askedC (LL (m))) q) : List Cl).getD j default) 0 0])))), (7, tI ((xs.length : Int))), (8, tI 0)], []⟩ .nil (by kernel_rfl) .nil ?_
  refine ath_n ?_
  refine aw_block ?_
  refine aw_loopC (ι := Nat × Int) (fun x => ⟨[(0, .av (.one (lst 2 TClass.c xs))), (1, .av (.one (.clo 55 2 (listF [.eptr 8 1 (fun _ j => (((condC (LL (n))) c) : List Cl).getD j default) 0 0, .eptr 25 1 (fun _ j => (((askedC (LL (m))) q) : List Cl).getD j default) 0 0])))), (7, tI ((xs.length : Int))), (8, tI x.2)], []⟩) (fun x => ((((xs.length : Int))) - x.2).toNat < x.1 ∧ (0 ≤ x.2 ∧ (x.2 ≤ ((xs.length : Int)) ∨ x.2 = 0)) ∧ FixCl_l0 xs c q x.1 x.2 = FixCl xs c q) (fun x => x.1) ?_ (((((xs.length : Int))) - 0).toNat + 1, 0) ⟨Nat.lt_succ_self _, ⟨(by show 0 ≤ 0; first | trivial | omega | (simp only [List.length_append, List.length_cons, List.length_nil]; omega) | (simp only [List.length_set, List.length_append, List.length_cons, List.length_nil]; omega) | (simp only [W64_def]; omega) | (simp; omega) | simp), (by show (0 ≤ ((xs.length : Int)) ∨ 0 = 0); first | trivial | omega | (simp only [List.length_append, List.length_cons, List.length_nil]; omega) | (simp only [List.length_set, List.length_append, List.length_cons, List.length_nil]; omega) | (simp only [W64_def]; omega) | (simp; omega) | simp)⟩, (by simp only [FixCl, cond_true, cond_false])⟩
  rintro ⟨n0, v8⟩ ⟨hn, hinv, hF⟩
  have hm0 : ((((xs.length : Int))) - v8).toNat < n0 := hn; have hinv0 : 0 ≤ v8 ∧ (v8 ≤ ((xs.length : Int)) ∨ v8 = 0) := hinv; have hF0 : FixCl_l0 xs c q n0 v8 = FixCl xs c q := hF; clear hn hinv hF
  cases n0 with
  | zero => exact absurd hm0 (Nat.not_lt_zero _)
  | succ n0 =>
    refine aw_seq ?_
    refine aw_region eqok [] [] [] [0, 1, 7, 8, 9] [] [] ⟨[(0, .av (.one (lst 2 TClass.c xs))), (1, .av (.one (.clo 55 2 (listF [.eptr 8 1 (fun _ j => (((condC (LL (n))) c) : List Cl).getD j default) 0 0, .eptr 25 1 (fun _ j => (((askedC (LL (m))) q) : List Cl).getD j default) 0 0])))), (7, tI ((xs.length : Int))), (8, tI v8), (9, tB (decide ((v8 : Int) < ((xs.length : Int)))))], []⟩ .nil (by kernel_rfl) .nil ?_
    refine ath_n ?_
    refine aw_seq ?_
    refine aw_cond (decide ((v8 : Int) < ((xs.length : Int)))) (by kernel_rfl) (fun h1 => ?_) (fun h1 => ?_)
    · have g1 := of_decide_eq_true h1
      refine aw_skip ?_
      refine ath_n ?_
      refine aw_seq ?_
      refine aw_block ?_
      refine aw_seq ?_
      refine aw_region eqok [] [] [] [0, 1, 5, 7, 8] [] [] ⟨[(0, .av (.one (lst 2 TClass.c xs))), (1, .av (.one (.clo 55 2 (listF [.eptr 8 1 (fun _ j => (((condC (LL (n))) c) : List Cl).getD j default) 0 0, .eptr 25 1 (fun _ j => (((askedC (LL (m))) q) : List Cl).getD j default) 0 0])))), (5, tI v8), (7, tI ((xs.length : Int))), (8, tI v8)], []⟩ .nil (by kernel_rfl) .nil ?_
      refine ath_n ?_
      refine aw_seq ?_
      refine aw_region eqok [] [] [(16, (wixCl_1 xs v8 n c m q))] [0, 1, 5, 7, 8, 16] [] [0 ≤ (v8 : Int) ∧ (v8 : Int) < ((xs.length : Nat) : Int), Same (wixCl_1 xs v8 n c m q).2.1] ⟨[(0, .av (.one (lst 2 TClass.c xs))), (1, .av (.one (.clo 55 2 (listF [.eptr 8 1 (fun _ j => (((condC (LL (n))) c) : List Cl).getD j default) 0 0, .eptr 25 1 (fun _ j => (((askedC (LL (m))) q) : List Cl).getD j default) 0 0])))), (5, tI v8), (7, tI ((xs.length : Int))), (8, tI v8), (16, tB (Fop31 (xs.getD v8.toNat default) c q))], []⟩ (.cons (callOk_pure (fun _ _ => by kernel_rfl) fun _ => pop31 m n (xs.getD v8.toNat default) c q (by first | assumption | exact hx.2 _)) .nil) (by kernel_rfl) (.cons (by first | decide | omega | exact idx_tmod (by first | omega | (simp only [W64_def]; omega)) (by omega) | (simp only [W64_def]; omega) | (constructor <;> omega) | (simp only [List.length_append, List.length_cons, List.length_nil]; omega) | (simp only [List.length_append, List.length_cons, List.length_nil, List.length_drop, List.length_take] at *; omega)) (.cons rfl .nil)) ?_
      refine ath_n ?_
      refine aw_cond (Fop31 (xs.getD v8.toNat default) c q) (by kernel_rfl) (fun h2 => ?_) (fun h2 => ?_)
      · refine aw_seq ?_
        refine aw_region eqok [] [] [] [4] [] [] ⟨[(4, tI v8)], []⟩ .nil (by kernel_rfl) .nil ?_
        refine ath_n ?_
        refine aw_ret ?_
        refine abl_r ?_
        refine ath_r ?_
        refine ath_r ?_
        refine abl_r ?_
        refine ath_r ?_
        exact ⟨_, Cv.refl _, .inl rfl, .av (.one (.i v8)), by kernel_rfl, tve_eq (by rw [← hF0]; first | (simp only [FixCl_l0, h1, h2, cond_true, cond_false]; done) | (simp only [FixCl_l0, h1, h2, cond_true, cond_false]; rfl))⟩
      · refine aw_skip ?_
        refine abl_n ?_
        refine ath_n ?_
        refine aw_region eqok [] [] [] [0, 1, 7, 8] [] [] ⟨[(0, .av (.one (lst 2 TClass.c xs))), (1, .av (.one (.clo 55 2 (listF [.eptr 8 1 (fun _ j => (((condC (LL (n))) c) : List Cl).getD j default) 0 0, .eptr 25 1 (fun _ j => (((askedC (LL (m))) q) : List Cl).getD j default) 0 0])))), (7, tI ((xs.length : Int))), (8, tI (W64 (v8 + 1)))], []⟩ .nil (by kernel_rfl) .nil ?_
        (try rw [(show W64 (v8 + 1) = v8 + 1 from W64_id (by omega) (by first | omega | (simp only [List.length_drop, List.length_take] at *; omega)))])
        refine ath_n ?_
        refine ⟨(n0, v8 + 1), ⟨?_, ?_, (by rw [← hF0]; simp only [FixCl_l0, h1, h2, cond_true, cond_false])⟩, Nat.lt_succ_self _, cv_eq (by kernel_rfl)⟩
        · show ((((xs.length : Int))) - (v8 + 1)).toNat < n0; omega
        · exact ⟨(by show 0 ≤ (v8 + 1); first | trivial | omega | (simp only [List.length_append, List.length_cons, List.length_nil]; omega) | (simp only [List.length_set, List.length_append, List.length_cons, List.length_nil]; omega) | (simp only [W64_def]; omega) | (simp; omega) | simp), (by show ((v8 + 1) ≤ ((xs.length : Int)) ∨ (v8 + 1) = 0); first | trivial | omega | (simp only [List.length_append, List.length_cons, List.length_nil]; omega) | (simp only [List.length_set, List.length_append, List.length_cons, List.length_nil]; omega) | (simp only [W64_def]; omega) | (simp; omega) | simp)⟩
    · have g1 := of_decide_eq_false h1
      refine aw_exit ?_
      refine ath_e ?_
      refine ath_e ?_
      refine abl_hit ?_
      refine ath_n ?_
      refine aw_seq ?_
      refine aw_region eqok [] [] [] [4] [] [] ⟨[(4, tI ((-1)))], []⟩ .nil (by kernel_rfl) .nil ?_
      refine ath_n ?_
      refine aw_ret ?_
      exact ⟨_, Cv.refl _, .inl rfl, .av (.one (.i ((-1)))), by kernel_rfl, tve_eq (by rw [← hF0]; first | (simp only [FixCl_l0, h1, cond_true, cond_false]; done) | (simp only [FixCl_l0, h1, cond_true, cond_false]; rfl))⟩
def wcoCl_0 (xs : (List TClass)) (n : Nat) (c : TCond) (m : Nat) (q : TAsked) : FuncId × List Av × Ef := (74, [.one (lst 2 TClass.c xs), .one (.clo 55 2 (listF [.eptr 8 1 (fun _ j => (((condC (LL (n))) c) : List Cl).getD j default) 0 0, .eptr 25 1 (fun _ j => (((askedC (LL (m))) q) : List Cl).getD j default) 0 0]))], .val [] (tI (FixCl xs c q)))
def FcoCl (xs : (List TClass)) (c : TCond) (q : TAsked) : Bool := decide ((0 : Int) ≤ (FixCl xs c q))
set_option maxRecDepth 100000 in
theorem pcoCl (m : Nat) (n : Nat) (xs : (List TClass)) (c : TCond) (q : TAsked) (hx : ClsOk xs) : Pure Try.prog 54 [.one (lst 2 TClass.c xs), .one (.clo 55 2 (listF [.eptr 8 1 (fun _ j => (((condC (LL (n))) c) : List Cl).getD j default) 0 0, .eptr 25 1 (fun _ j => (((askedC (LL (m))) q) : List Cl).getD j default) 0 0]))] (.av (.one (.b (FcoCl xs c q)))) := by
  refine pure_of_awF Try.func54 rfl (by kernel_rfl) (by kernel_rfl) fun W0 M0 => ?_
  refine aw_seq ?_
  refine aw_region eqok [] [] [] [0, 1] [] [] ⟨[(0, .av (.one (lst 2 TClass.c xs))), (1, .av (.one (.clo 55 2 (listF [.eptr 8 1 (fun _ j => (((condC (LL (n))) c) : List Cl).getD j default) 0 0, .eptr 25 1 (fun _ j => (((askedC (LL (m))) q) : List Cl).getD j default) 0 0]))))], []⟩ .nil (by kernel_rfl) .nil ?_
  refine ath_n ?_
  refine aw_seq ?_
  refine aw_region eqok [] [] [(7, (wcoCl_0 xs n c m q))] [4] [] [Same (wcoCl_0 xs n c m q).2.1] ⟨[(4, tB (decide ((0 : Int) ≤ (FixCl xs c q))))], []⟩ (.cons (callOk_pure (fun _ _ => by kernel_rfl) fun _ => pixCl m n xs c q (by first | assumption | decide | omega | (simp only [List.length_cons, List.length_nil, List.length_append]; omega))) .nil) (by kernel_rfl) (.cons rfl .nil) ?_
  refine ath_n ?_
  refine aw_ret ?_
  exact ⟨_, Cv.refl _, .inl rfl, .av (.one (.b (decide ((0 : Int) ≤ (FixCl xs c q))))), by kernel_rfl, tve_eq (by rfl)⟩
def Fop1 (q : TAsked) (c : TCond) : Bool := true
set_option maxRecDepth 100000 in
theorem pop1 (m : Nat) (n : Nat) (q : TAsked) (c : TCond) (hq : AskOk q) : Pure Try.prog 51 [.agg ((askedC (LL (m))) q), .agg ((condC (LL (n))) c)] (.av (.one (.b (Fop1 q c)))) := by
  refine pure_of_awF Try.func51 rfl (by kernel_rfl) (by kernel_rfl) fun W0 M0 => ?_
  have hq1 := hq.1
  have hq2 := hq.2
  refine aw_seq ?_
  refine aw_region eqok [] [] [] [] [] [] ⟨[], []⟩ .nil (by kernel_rfl) .nil ?_
  refine ath_n ?_
  refine aw_seq ?_
  refine aw_region eqok [] [] [] [4] [] [] ⟨[(4, tB true)], []⟩ .nil (by kernel_rfl) .nil ?_
  refine ath_n ?_
  refine aw_ret ?_
  exact ⟨_, Cv.refl _, .inl rfl, .av (.one (.b true)), by kernel_rfl, tve_eq (by rfl)⟩
def Fop2 (q : TAsked) (c : TCond) : Bool := (q.x.Net.toList == c.Text.toList)
set_option maxRecDepth 100000 in
theorem pop2 (m : Nat) (n : Nat) (q : TAsked) (c : TCond) (hq : AskOk q) : Pure Try.prog 52 [.agg ((askedC (LL (m))) q), .agg ((condC (LL (n))) c)] (.av (.one (.b (Fop2 q c)))) := by
  refine pure_of_awF Try.func52 rfl (by kernel_rfl) (by kernel_rfl) fun W0 M0 => ?_
  have hq1 := hq.1
  have hq2 := hq.2
  refine aw_seq ?_
  refine aw_region eqok [] [] [] [2, 3] [2, 3] [] ⟨[(2, tP 2 0), (3, tP 3 0)], [(2, .cells ((askedC (LL (m))) q) 90), (3, .cells ((condC (LL (n))) c) 58)]⟩ .nil (by kernel_rfl) .nil ?_
  refine ath_n ?_
  refine aw_seq ?_
  refine aw_region eqok [] [] [] [4] [] [] ⟨[(4, tB ((q.x.Net.toList == c.Text.toList)))], []⟩ .nil (by kernel_rfl) .nil ?_
  refine ath_n ?_
  refine aw_ret ?_
  exact ⟨_, Cv.refl _, .inl rfl, .av (.one (.b ((q.x.Net.toList == c.Text.toList)))), by kernel_rfl, tve_eq (by rfl)⟩
def wop3_0 (q : TAsked) (n : Nat) (c : TCond) (m : Nat) : FuncId × List Av × Ef := (54, [.one (lst 2 TClass.c q.b.Classes), .one (.clo 55 2 (listF [.ptr 3 0, .ptr 2 0]))], rdI [3, 2] [.cells ((condC (LL (n))) c) 58, .cells ((askedC (LL (m))) q) 90] (tB (FcoCl q.b.Classes c q)))
def Fop3 (q : TAsked) (c : TCond) : Bool := FcoCl q.b.Classes c q
set_option maxRecDepth 100000 in
theorem pop3 (m : Nat) (n : Nat) (q : TAsked) (c : TCond) (hq : AskOk q) : Pure Try.prog 53 [.agg ((askedC (LL (m))) q), .agg ((condC (LL (n))) c)] (.av (.one (.b (Fop3 q c)))) := by
  refine pure_of_awF Try.func53 rfl (by kernel_rfl) (by kernel_rfl) fun W0 M0 => ?_
  have hq1 := hq.1
  have hq2 := hq.2
  refine aw_seq ?_
  refine aw_region eqok [] [] [] [2, 3] [2, 3] [] ⟨[(2, tP 2 0), (3, tP 3 0)], [(2, .cells ((askedC (LL (m))) q) 90), (3, .cells ((condC (LL (n))) c) 58)]⟩ .nil (by kernel_rfl) .nil ?_
  refine ath_n ?_
  refine aw_seq ?_
  refine aw_region eqok [] [] [(9, (wop3_0 q n c m))] [4] [] [Same (wop3_0 q n c m).2.1, SameBs [.cells ((condC (LL (n))) c) 58, .cells ((askedC (LL (m))) q) 90]] ⟨[(4, tB (FcoCl q.b.Classes c q))], []⟩ (.cons (callOk_rd (fun _ _ => by kernel_rfl) (by kernel_rfl) (by kernel_rfl) (pure_ce (pcoCl m n q.b.Classes c q (by first | assumption | decide | omega | (simp only [List.length_cons, List.length_nil, List.length_append]; omega))) (.cons (AvE.refl _) (.cons (.one (.clo 55 2 _ _ (tab_get (by kernel_rfl)))) .nil)))) .nil) (by kernel_rfl) (.cons rfl (.cons rfl .nil)) ?_
  refine ath_n ?_
  refine aw_ret ?_
  exact ⟨_, Cv.refl _, .inl rfl, .av (.one (.b (FcoCl q.b.Classes c q))), by kernel_rfl, tve_eq (by rfl)⟩
def Fop4 (q : TAsked) (c : TCond) : Bool := decide ((q.x.Kind : Int) = c.N)
set_option maxRecDepth 100000 in
theorem pop4 (m : Nat) (n : Nat) (q : TAsked) (c : TCond) (hq : AskOk q) : Pure Try.prog 57 [.agg ((askedC (LL (m))) q), .agg ((condC (LL (n))) c)] (.av (.one (.b (Fop4 q c)))) := by
  refine pure_of_awF Try.func57 rfl (by kernel_rfl) (by kernel_rfl) fun W0 M0 => ?_
  have hq1 := hq.1
  have hq2 := hq.2
  refine aw_seq ?_
  refine aw_region eqok [] [] [] [2, 3] [2, 3] [] ⟨[(2, tP 2 0), (3, tP 3 0)], [(2, .cells ((askedC (LL (m))) q) 90), (3, .cells ((condC (LL (n))) c) 58)]⟩ .nil (by kernel_rfl) .nil ?_
  refine ath_n ?_
  refine aw_seq ?_
  refine aw_region eqok [] [] [] [4] [] [] ⟨[(4, tB (decide ((q.x.Kind : Int) = c.N)))], []⟩ .nil (by kernel_rfl) .nil ?_
  refine ath_n ?_
  refine aw_ret ?_
  exact ⟨_, Cv.refl _, .inl rfl, .av (.one (.b (decide ((q.x.Kind : Int) = c.N)))), by kernel_rfl, tve_eq (by rfl)⟩
def Fop5 (q : TAsked) (c : TCond) : Bool := decide ((q.layer : Int) = c.N)
set_option maxRecDepth 100000 in
theorem pop5 (m : Nat) (n : Nat) (q : TAsked) (c : TCond) (hq : AskOk q) : Pure Try.prog 58 [.agg ((askedC (LL (m))) q), .agg ((condC (LL (n))) c)] (.av (.one (.b (Fop5 q c)))) := by
  refine pure_of_awF Try.func58 rfl (by kernel_rfl) (by kernel_rfl) fun W0 M0 => ?_
  have hq1 := hq.1
  have hq2 := hq.2
  refine aw_seq ?_
  refine aw_region eqok [] [] [] [2, 3] [2, 3] [] ⟨[(2, tP 2 0), (3, tP 3 0)], [(2, .cells ((askedC (LL (m))) q) 90), (3, .cells ((condC (LL (n))) c) 58)]⟩ .nil (by kernel_rfl) .nil ?_
  refine ath_n ?_
  refine aw_seq ?_
  refine aw_region eqok [] [] [] [4] [] [] ⟨[(4, tB (decide ((q.layer : Int) = c.N)))], []⟩ .nil (by kernel_rfl) .nil ?_
  refine ath_n ?_
  refine aw_ret ?_
  exact ⟨_, Cv.refl _, .inl rfl, .av (.one (.b (decide ((q.layer : Int) = c.N)))), by kernel_rfl, tve_eq (by rfl)⟩
def Fop6 (q : TAsked) (c : TCond) : Bool := bif decide ((q.x.Kind : Int) = 1) then decide ((q.x.Id : Int) = c.N) else false
set_option maxRecDepth 100000 in
theorem pop6 (m : Nat) (n : Nat) (q : TAsked) (c : TCond) (hq : AskOk q) : Pure Try.prog 59 [.agg ((askedC (LL (m))) q), .agg ((condC (LL (n))) c)] (.av (.one (.b (Fop6 q c)))) := by
  refine pure_of_awF Try.func59 rfl (by kernel_rfl) (by kernel_rfl) fun W0 M0 => ?_
  have hq1 := hq.1
  have hq2 := hq.2
  refine aw_seq ?_
  refine aw_region eqok [] [] [] [2, 3] [2, 3] [] ⟨[(2, tP 2 0), (3, tP 3 0)], [(2, .cells ((askedC (LL (m))) q) 90), (3, .cells ((condC (LL (n))) c) 58)]⟩ .nil (by kernel_rfl) .nil ?_
  refine ath_n ?_
  refine aw_seq ?_
  refine aw_region eqok [] [] [] [4] [] [((decide ((q.x.Kind : Int) = 1)) = true) → ((decide ((q.x.Kind : Int) = 1)) = true), ((decide ((q.x.Kind : Int) = 1)) = true) → ((decide ((q.x.Kind : Int) = 1)) = true), ((decide ((q.x.Kind : Int) = 1)) = true) → ((decide ((q.x.Kind : Int) = 1)) = true), ((decide ((q.x.Kind : Int) = 1)) = true) → ((decide ((q.x.Kind : Int) = 1)) = true), ((decide ((q.x.Kind : Int) = 1)) = true) → ((decide ((q.x.Kind : Int) = 1)) = true), (decide ((q.x.Kind : Int) = 1)) = true → ((decide ((q.x.Kind : Int) = 1)) = true)] ⟨[(4, tB (bif decide ((q.x.Kind : Int) = 1) then decide ((q.x.Id : Int) = c.N) else false))], []⟩ .nil (by kernel_rfl) (.cons id (.cons id (.cons id (.cons id (.cons id (.cons id .nil)))))) ?_
  refine ath_n ?_
  refine aw_ret ?_
  exact ⟨_, Cv.refl _, .inl rfl, .av (.one (.b (bif decide ((q.x.Kind : Int) = 1) then decide ((q.x.Id : Int) = c.N) else false))), by kernel_rfl, tve_eq (by rfl)⟩
def Fop7 (q : TAsked) (c : TCond) : Bool := bif bif bif decide (((min ((FBox q.x.Shape).X0) c.Box.X0) : Int) = c.Box.X0) then decide (((min ((FBox q.x.Shape).Y0) c.Box.Y0) : Int) = c.Box.Y0) else false then decide (((max ((FBox q.x.Shape).X1) c.Box.X1) : Int) = c.Box.X1) else false then decide (((max ((FBox q.x.Shape).Y1) c.Box.Y1) : Int) = c.Box.Y1) else false
set_option maxRecDepth 100000 in
theorem pop7 (m : Nat) (n : Nat) (q : TAsked) (c : TCond) (hq : AskOk q) : Pure Try.prog 60 [.agg ((askedC (LL (m))) q), .agg ((condC (LL (n))) c)] (.av (.one (.b (Fop7 q c)))) := by
  refine pure_of_awF Try.func60 rfl (by kernel_rfl) (by kernel_rfl) fun W0 M0 => ?_
  have hq1 := hq.1
  have hq2 := hq.2
  refine aw_seq ?_
  refine aw_region eqok [] [] [] [2, 3] [2, 3] [] ⟨[(2, tP 2 0), (3, tP 3 0)], [(2, .cells ((askedC (LL (m))) q) 90), (3, .cells ((condC (LL (n))) c) 58)]⟩ .nil (by kernel_rfl) .nil ?_
  refine ath_n ?_
  refine aw_seq ?_
  refine aw_region eqok [] [] [(9, cBox q.x.Shape)] [3, 5] [3, 5] [Same (cBox q.x.Shape).2.1] ⟨[(3, tP 3 0), (5, tP 5 0)], [(3, .cells ((condC (LL (n))) c) 58), (5, .cells (TRect.c (FBox q.x.Shape)) 55)]⟩ (.cons (okBox q.x.Shape (by first | assumption | decide | omega | (simp only [List.length_cons, List.length_nil, List.length_append]; omega))) .nil) (by kernel_rfl) (.cons rfl .nil) ?_
  refine ath_n ?_
  refine aw_seq ?_
  refine aw_region eqok [] [] [] [4] [] [((decide (((min ((FBox q.x.Shape).X0) c.Box.X0) : Int) = c.Box.X0)) = true) → ((decide (((min ((FBox q.x.Shape).X0) c.Box.X0) : Int) = c.Box.X0)) = true), ((decide (((min ((FBox q.x.Shape).X0) c.Box.X0) : Int) = c.Box.X0)) = true) → ((decide (((min ((FBox q.x.Shape).X0) c.Box.X0) : Int) = c.Box.X0)) = true), ((decide (((min ((FBox q.x.Shape).X0) c.Box.X0) : Int) = c.Box.X0)) = true) → ((decide (((min ((FBox q.x.Shape).X0) c.Box.X0) : Int) = c.Box.X0)) = true), ((decide (((min ((FBox q.x.Shape).X0) c.Box.X0) : Int) = c.Box.X0)) = true) → ((decide (((min ((FBox q.x.Shape).X0) c.Box.X0) : Int) = c.Box.X0)) = true), ((decide (((min ((FBox q.x.Shape).X0) c.Box.X0) : Int) = c.Box.X0)) = true) → ((decide (((min ((FBox q.x.Shape).X0) c.Box.X0) : Int) = c.Box.X0)) = true), ((decide (((min ((FBox q.x.Shape).X0) c.Box.X0) : Int) = c.Box.X0)) = true) → ((decide (((min ((FBox q.x.Shape).X0) c.Box.X0) : Int) = c.Box.X0)) = true), ((decide (((min ((FBox q.x.Shape).X0) c.Box.X0) : Int) = c.Box.X0)) = true) → ((decide (((min ((FBox q.x.Shape).X0) c.Box.X0) : Int) = c.Box.X0)) = true), ((decide (((min ((FBox q.x.Shape).X0) c.Box.X0) : Int) = c.Box.X0)) = true) → ((decide (((min ((FBox q.x.Shape).X0) c.Box.X0) : Int) = c.Box.X0)) = true), ((decide (((min ((FBox q.x.Shape).X0) c.Box.X0) : Int) = c.Box.X0)) = true) → ((decide (((min ((FBox q.x.Shape).X0) c.Box.X0) : Int) = c.Box.X0)) = true), (decide (((min ((FBox q.x.Shape).X0) c.Box.X0) : Int) = c.Box.X0)) = true → ((decide (((min ((FBox q.x.Shape).X0) c.Box.X0) : Int) = c.Box.X0)) = true), ((bif decide (((min ((FBox q.x.Shape).X0) c.Box.X0) : Int) = c.Box.X0) then decide (((min ((FBox q.x.Shape).Y0) c.Box.Y0) : Int) = c.Box.Y0) else false) = true) → ((bif decide (((min ((FBox q.x.Shape).X0) c.Box.X0) : Int) = c.Box.X0) then decide (((min ((FBox q.x.Shape).Y0) c.Box.Y0) : Int) = c.Box.Y0) else false) = true), ((bif decide (((min ((FBox q.x.Shape).X0) c.Box.X0) : Int) = c.Box.X0) then decide (((min ((FBox q.x.Shape).Y0) c.Box.Y0) : Int) = c.Box.Y0) else false) = true) → ((bif decide (((min ((FBox q.x.Shape).X0) c.Box.X0) : Int) = c.Box.X0) then decide (((min ((FBox q.x.Shape).Y0) c.Box.Y0) : Int) = c.Box.Y0) else false) = true), ((bif decide (((min ((FBox q.x.Shape).X0) c.Box.X0) : Int) = c.Box.X0) then decide (((min ((FBox q.x.Shape).Y0) c.Box.Y0) : Int) = c.Box.Y0) else false) = true) → ((bif decide (((min ((FBox q.x.Shape).X0) c.Box.X0) : Int) = c.Box.X0) then decide (((min ((FBox q.x.Shape).Y0) c.Box.Y0) : Int) = c.Box.Y0) else false) = true), ((bif decide (((min ((FBox q.x.Shape).X0) c.Box.X0) : Int) = c.Box.X0) then decide (((min ((FBox q.x.Shape).Y0) c.Box.Y0) : Int) = c.Box.Y0) else false) = true) → ((bif decide (((min ((FBox q.x.Shape).X0) c.Box.X0) : Int) = c.Box.X0) then decide (((min ((FBox q.x.Shape).Y0) c.Box.Y0) : Int) = c.Box.Y0) else false) = true), ((bif decide (((min ((FBox q.x.Shape).X0) c.Box.X0) : Int) = c.Box.X0) then decide (((min ((FBox q.x.Shape).Y0) c.Box.Y0) : Int) = c.Box.Y0) else false) = true) → ((bif decide (((min ((FBox q.x.Shape).X0) c.Box.X0) : Int) = c.Box.X0) then decide (((min ((FBox q.x.Shape).Y0) c.Box.Y0) : Int) = c.Box.Y0) else false) = true), ((bif decide (((min ((FBox q.x.Shape).X0) c.Box.X0) : Int) = c.Box.X0) then decide (((min ((FBox q.x.Shape).Y0) c.Box.Y0) : Int) = c.Box.Y0) else false) = true) → ((bif decide (((min ((FBox q.x.Shape).X0) c.Box.X0) : Int) = c.Box.X0) then decide (((min ((FBox q.x.Shape).Y0) c.Box.Y0) : Int) = c.Box.Y0) else false) = true), ((bif decide (((min ((FBox q.x.Shape).X0) c.Box.X0) : Int) = c.Box.X0) then decide (((min ((FBox q.x.Shape).Y0) c.Box.Y0) : Int) = c.Box.Y0) else false) = true) → ((bif decide (((min ((FBox q.x.Shape).X0) c.Box.X0) : Int) = c.Box.X0) then decide (((min ((FBox q.x.Shape).Y0) c.Box.Y0) : Int) = c.Box.Y0) else false) = true), ((bif decide (((min ((FBox q.x.Shape).X0) c.Box.X0) : Int) = c.Box.X0) then decide (((min ((FBox q.x.Shape).Y0) c.Box.Y0) : Int) = c.Box.Y0) else false) = true) → ((bif decide (((min ((FBox q.x.Shape).X0) c.Box.X0) : Int) = c.Box.X0) then decide (((min ((FBox q.x.Shape).Y0) c.Box.Y0) : Int) = c.Box.Y0) else false) = true), ((bif decide (((min ((FBox q.x.Shape).X0) c.Box.X0) : Int) = c.Box.X0) then decide (((min ((FBox q.x.Shape).Y0) c.Box.Y0) : Int) = c.Box.Y0) else false) = true) → ((bif decide (((min ((FBox q.x.Shape).X0) c.Box.X0) : Int) = c.Box.X0) then decide (((min ((FBox q.x.Shape).Y0) c.Box.Y0) : Int) = c.Box.Y0) else false) = true), (bif decide (((min ((FBox q.x.Shape).X0) c.Box.X0) : Int) = c.Box.X0) then decide (((min ((FBox q.x.Shape).Y0) c.Box.Y0) : Int) = c.Box.Y0) else false) = true → ((bif decide (((min ((FBox q.x.Shape).X0) c.Box.X0) : Int) = c.Box.X0) then decide (((min ((FBox q.x.Shape).Y0) c.Box.Y0) : Int) = c.Box.Y0) else false) = true), ((bif bif decide (((min ((FBox q.x.Shape).X0) c.Box.X0) : Int) = c.Box.X0) then decide (((min ((FBox q.x.Shape).Y0) c.Box.Y0) : Int) = c.Box.Y0) else false then decide (((max ((FBox q.x.Shape).X1) c.Box.X1) : Int) = c.Box.X1) else false) = true) → ((bif bif decide (((min ((FBox q.x.Shape).X0) c.Box.X0) : Int) = c.Box.X0) then decide (((min ((FBox q.x.Shape).Y0) c.Box.Y0) : Int) = c.Box.Y0) else false then decide (((max ((FBox q.x.Shape).X1) c.Box.X1) : Int) = c.Box.X1) else false) = true), ((bif bif decide (((min ((FBox q.x.Shape).X0) c.Box.X0) : Int) = c.Box.X0) then decide (((min ((FBox q.x.Shape).Y0) c.Box.Y0) : Int) = c.Box.Y0) else false then decide (((max ((FBox q.x.Shape).X1) c.Box.X1) : Int) = c.Box.X1) else false) = true) → ((bif bif decide (((min ((FBox q.x.Shape).X0) c.Box.X0) : Int) = c.Box.X0) then decide (((min ((FBox q.x.Shape).Y0) c.Box.Y0) : Int) = c.Box.Y0) else false then decide (((max ((FBox q.x.Shape).X1) c.Box.X1) : Int) = c.Box.X1) else false) = true), ((bif bif decide (((min ((FBox q.x.Shape).X0) c.Box.X0) : Int) = c.Box.X0) then decide (((min ((FBox q.x.Shape).Y0) c.Box.Y0) : Int) = c.Box.Y0) else false then decide (((max ((FBox q.x.Shape).X1) c.Box.X1) : Int) = c.Box.X1) else false) = true) → ((bif bif decide (((min ((FBox q.x.Shape).X0) c.Box.X0) : Int) = c.Box.X0) then decide (((min ((FBox q.x.Shape).Y0) c.Box.Y0) : Int) = c.Box.Y0) else false then decide (((max ((FBox q.x.Shape).X1) c.Box.X1) : Int) = c.Box.X1) else false) = true), ((bif bif decide (((min ((FBox q.x.Shape).X0) c.Box.X0) : Int) = c.Box.X0) then decide (((min ((FBox q.x.Shape).Y0) c.Box.Y0) : Int) = c.Box.Y0) else false then decide (((max ((FBox q.x.Shape).X1) c.Box.X1) : Int) = c.Box.X1) else false) = true) → ((bif bif decide (((min ((FBox q.x.Shape).X0) c.Box.X0) : Int) = c.Box.X0) then decide (((min ((FBox q.x.Shape).Y0) c.Box.Y0) : Int) = c.Box.Y0) else false then decide (((max ((FBox q.x.Shape).X1) c.Box.X1) : Int) = c.Box.X1) else false) = true), ((bif bif decide (((min ((FBox q.x.Shape).X0) c.Box.X0) : Int) = c.Box.X0) then decide (((min ((FBox q.x.Shape).Y0) c.Box.Y0) : Int) = c.Box.Y0) else false then decide (((max ((FBox q.x.Shape).X1) c.Box.X1) : Int) = c.Box.X1) else false) = true) → ((bif bif decide (((min ((FBox q.x.Shape).X0) c.Box.X0) : Int) = c.Box.X0) then decide (((min ((FBox q.x.Shape).Y0) c.Box.Y0) : Int) = c.Box.Y0) else false then decide (((max ((FBox q.x.Shape).X1) c.Box.X1) : Int) = c.Box.X1) else false) = true), ((bif bif decide (((min ((FBox q.x.Shape).X0) c.Box.X0) : Int) = c.Box.X0) then decide (((min ((FBox q.x.Shape).Y0) c.Box.Y0) : Int) = c.Box.Y0) else false then decide (((max ((FBox q.x.Shape).X1) c.Box.X1) : Int) = c.Box.X1) else false) = true) → ((bif bif decide (((min ((FBox q.x.Shape).X0) c.Box.X0) : Int) = c.Box.X0) then decide (((min ((FBox q.x.Shape).Y0) c.Box.Y0) : Int) = c.Box.Y0) else false then decide (((max ((FBox q.x.Shape).X1) c.Box.X1) : Int) = c.Box.X1) else false) = true), ((bif bif decide (((min ((FBox q.x.Shape).X0) c.Box.X0) : Int) = c.Box.X0) then decide (((min ((FBox q.x.Shape).Y0) c.Box.Y0) : Int) = c.Box.Y0) else false then decide (((max ((FBox q.x.Shape).X1) c.Box.X1) : Int) = c.Box.X1) else false) = true) → ((bif bif decide (((min ((FBox q.x.Shape).X0) c.Box.X0) : Int) = c.Box.X0) then decide (((min ((FBox q.x.Shape).Y0) c.Box.Y0) : Int) = c.Box.Y0) else false then decide (((max ((FBox q.x.Shape).X1) c.Box.X1) : Int) = c.Box.X1) else false) = true), ((bif bif decide (((min ((FBox q.x.Shape).X0) c.Box.X0) : Int) = c.Box.X0) then decide (((min ((FBox q.x.Shape).Y0) c.Box.Y0) : Int) = c.Box.Y0) else false then decide (((max ((FBox q.x.Shape).X1) c.Box.X1) : Int) = c.Box.X1) else false) = true) → ((bif bif decide (((min ((FBox q.x.Shape).X0) c.Box.X0) : Int) = c.Box.X0) then decide (((min ((FBox q.x.Shape).Y0) c.Box.Y0) : Int) = c.Box.Y0) else false then decide (((max ((FBox q.x.Shape).X1) c.Box.X1) : Int) = c.Box.X1) else false) = true), ((bif bif decide (((min ((FBox q.x.Shape).X0) c.Box.X0) : Int) = c.Box.X0) then decide (((min ((FBox q.x.Shape).Y0) c.Box.Y0) : Int) = c.Box.Y0) else false then decide (((max ((FBox q.x.Shape).X1) c.Box.X1) : Int) = c.Box.X1) else false) = true) → ((bif bif decide (((min ((FBox q.x.Shape).X0) c.Box.X0) : Int) = c.Box.X0) then decide (((min ((FBox q.x.Shape).Y0) c.Box.Y0) : Int) = c.Box.Y0) else false then decide (((max ((FBox q.x.Shape).X1) c.Box.X1) : Int) = c.Box.X1) else false) = true), (bif bif decide (((min ((FBox q.x.Shape).X0) c.Box.X0) : Int) = c.Box.X0) then decide (((min ((FBox q.x.Shape).Y0) c.Box.Y0) : Int) = c.Box.Y0) else false then decide (((max ((FBox q.x.Shape).X1) c.Box.X1) : Int) = c.Box.X1) else false) = true → ((bif bif decide (((min ((FBox q.x.Shape).X0) c.Box.X0) : Int) = c.Box.X0) then decide (((min ((FBox q.x.Shape).Y0) c.Box.Y0) : Int) = c.Box.Y0) else false then decide (((max ((FBox q.x.Shape).X1) c.Box.X1) : Int) = c.Box.X1) else false) = true)] ⟨[(4, tB (bif bif bif decide (((min ((FBox q.x.Shape).X0) c.Box.X0) : Int) = c.Box.X0) then decide (((min ((FBox q.x.Shape).Y0) c.Box.Y0) : Int) = c.Box.Y0) else false then decide (((max ((FBox q.x.Shape).X1) c.Box.X1) : Int) = c.Box.X1) else false then decide (((max ((FBox q.x.Shape).Y1) c.Box.Y1) : Int) = c.Box.Y1) else false))], []⟩ .nil (by kernel_rfl) (.cons id (.cons id (.cons id (.cons id (.cons id (.cons id (.cons id (.cons id (.cons id (.cons id (.cons id (.cons id (.cons id (.cons id (.cons id (.cons id (.cons id (.cons id (.cons id (.cons id (.cons id (.cons id (.cons id (.cons id (.cons id (.cons id (.cons id (.cons id (.cons id (.cons id .nil)))))))))))))))))))))))))))))) ?_
  refine ath_n ?_
  refine aw_ret ?_
  exact ⟨_, Cv.refl _, .inl rfl, .av (.one (.b (bif bif bif decide (((min ((FBox q.x.Shape).X0) c.Box.X0) : Int) = c.Box.X0) then decide (((min ((FBox q.x.Shape).Y0) c.Box.Y0) : Int) = c.Box.Y0) else false then decide (((max ((FBox q.x.Shape).X1) c.Box.X1) : Int) = c.Box.X1) else false then decide (((max ((FBox q.x.Shape).Y1) c.Box.Y1) : Int) = c.Box.Y1) else false))), by kernel_rfl, tve_eq (by rfl)⟩
end Go.Proofs.Ytoojlpcimogehaa
