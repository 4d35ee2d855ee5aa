/-
  No statement is proved in this text. It holds what functions return.
-/
import Derived.Test.YtoojlpcimogehaaProg
import Derived.Test.YtoojlpcimogehaaK21b
namespace Go.Proofs.Ytoojlpcimogehaa
open Go.RowKit
set_option linter.unusedVariables false
set_option linter.unusedSimpArgs false
/-- The lists in a condition are not too long, so many levels deep. -/
def CondOk : Nat → TCond → Prop
  | 0, _ => True
  | n + 1, c => (c.L.length : Int) ≤ 9223372036854775807 ∧ ∀ i, CondOk n (c.L.getD i default)
def LsOk (n : Nat) (l : List TCond) : Prop := (l.length : Int) ≤ 9223372036854775807 ∧ ∀ i, CondOk n (l.getD i default)
theorem condOk_default : ∀ n, CondOk n default
  | 0 => trivial
  | n + 1 => ⟨by show ((([] : List TCond).length : Int)) ≤ _; simp, fun i => condOk_default n⟩
def Fev1 (K : TAsked → TCond → Bool) (x : TCond) (q : TAsked) : Bool := K q x
set_option maxRecDepth 100000 in
theorem pev1 (m : Nat) (n : Nat) (K : TAsked → TCond → Bool) (x : TCond) (q : TAsked) (hK : ∀ (q : TAsked) (c : TCond), AskOk q → CondOk n c → Pure Try.prog 35 [.one opsMap, .agg ((askedC (LL (m))) q), .agg ((condC (LL (n))) c)] (.av (.one (.b (K q c))))) (hq : AskOk q) (hc : CondOk n x) : Pure Try.prog 64 [.agg ((condC (LL (n))) x), .one (.eptr 1 1 (fun _ j => ([opsMap] : List Cl).getD j default) 0 0), .one (.eptr 25 1 (fun _ j => (((askedC (LL (m))) q) : List Cl).getD j default) 0 0)] (.av (.one (.b (Fev1 K x q)))) := by
  refine pure_of_awF Try.func64 rfl (by kernel_rfl) (by kernel_rfl) fun W0 M0 => ?_
  refine aw_seq ?_
  refine aw_region eqok [] [] [] [1, 2, 3] [3] [] ⟨[(1, .av (.one (.eptr 1 1 (fun _ j => ([opsMap] : List Cl).getD j default) 0 0))), (2, .av (.one (.eptr 25 1 (fun _ j => (((askedC (LL (m))) q) : List Cl).getD j default) 0 0))), (3, tP 3 0)], [(3, .cells ((condC (LL (n))) x) 58)]⟩ .nil (by kernel_rfl) .nil ?_
  refine ath_n ?_
  refine aw_seq ?_
  refine aw_region eqok [] [] [(8, (35, [.one (opsMap), .agg ((askedC (LL (m))) q), .agg ((condC (LL (n))) x)], .val [] (tB (K q x))))] [4] [] [Same [.one (opsMap), .agg ((askedC (LL (m))) q), .agg ((condC (LL (n))) x)]] ⟨[(4, tB (K q x))], []⟩ (.cons (callOk_pure (fun _ _ => by kernel_rfl) fun _ => hK q x (by assumption) (by first | assumption | exact hxs.2 _)) .nil) (by kernel_rfl) (.cons rfl .nil) ?_
  refine ath_n ?_
  refine aw_ret ?_
  exact ⟨_, Cv.refl _, .inl rfl, .av (.one (.b (K q x))), by kernel_rfl, tve_eq (by rfl)⟩
def wev2_0 (n : Nat) (x : TCond) (m : Nat) (q : TAsked) (K : TAsked → TCond → Bool) : FuncId × List Av × Ef := (64, [.agg ((condC (LL (n))) x), .one (.eptr 1 1 (fun _ j => ([opsMap] : List Cl).getD j default) 0 0), .one (.eptr 25 1 (fun _ j => (((askedC (LL (m))) q) : List Cl).getD j default) 0 0)], .val [] (tB (Fev1 K x q)))
def Fev2 (K : TAsked → TCond → Bool) (x : TCond) (q : TAsked) : Bool := !(Fev1 K x q)
set_option maxRecDepth 100000 in
theorem pev2 (m : Nat) (n : Nat) (K : TAsked → TCond → Bool) (x : TCond) (q : TAsked) (hK : ∀ (q : TAsked) (c : TCond), AskOk q → CondOk n c → Pure Try.prog 35 [.one opsMap, .agg ((askedC (LL (m))) q), .agg ((condC (LL (n))) c)] (.av (.one (.b (K q c))))) (hq : AskOk q) (hc : CondOk n x) : Pure Try.prog 66 [.agg ((condC (LL (n))) x), .one (.eptr 1 1 (fun _ j => ([.clo 64 2 (listF [.eptr 1 1 (fun _ j => ([opsMap] : List Cl).getD j default) 0 0, .eptr 25 1 (fun _ j => (((askedC (LL (m))) q) : List Cl).getD j default) 0 0])] : List Cl).getD j default) 0 0)] (.av (.one (.b (Fev2 K x q)))) := by
  refine pure_of_awF Try.func66 rfl (by kernel_rfl) (by kernel_rfl) fun W0 M0 => ?_
  refine aw_seq ?_
  refine aw_region eqok [] [] [] [1, 2] [2] [] ⟨[(1, .av (.one (.eptr 1 1 (fun _ j => ([.clo 64 2 (listF [.eptr 1 1 (fun _ j => ([opsMap] : List Cl).getD j default) 0 0, .eptr 25 1 (fun _ j => (((askedC (LL (m))) q) : List Cl).getD j default) 0 0])] : List Cl).getD j default) 0 0))), (2, tP 2 0)], [(2, .cells ((condC (LL (n))) x) 58)]⟩ .nil (by kernel_rfl) .nil ?_
  refine ath_n ?_
  refine aw_seq ?_
  refine aw_region eqok [] [] [(6, (wev2_0 n x m q K))] [3] [] [Same (wev2_0 n x m q K).2.1] ⟨[(3, tB (!(Fev1 K x q)))], []⟩ (.cons (callOk_pure (fun _ _ => by kernel_rfl) fun _ => pev1 m n K x q (by assumption) (by assumption) (by first | assumption | exact hxs.2 _)) .nil) (by kernel_rfl) (.cons rfl .nil) ?_
  refine ath_n ?_
  refine aw_ret ?_
  exact ⟨_, Cv.refl _, .inl rfl, .av (.one (.b (!(Fev1 K x q)))), by kernel_rfl, tve_eq (by rfl)⟩
def wixEa_1 (n : Nat) (xs : (List TCond)) (v8 : Int) (m : Nat) (q : TAsked) (K : TAsked → TCond → Bool) : FuncId × List Av × Ef := (64, [.agg ((condC (LL (n))) (xs.getD v8.toNat default)), .one (.eptr 1 1 (fun _ j => ([opsMap] : List Cl).getD j default) 0 0), .one (.eptr 25 1 (fun _ j => (((askedC (LL (m))) q) : List Cl).getD j default) 0 0)], .val [] (tB (Fev1 K (xs.getD v8.toNat default) q)))
def FixEa_l0 (K : TAsked → TCond → Bool) (xs : (List TCond)) (q : TAsked) : Nat → Int → Int
  | 0, _ => default
  | n0 + 1, v8 => bif decide ((v8 : Int) < ((xs.length : Int))) then (bif Fev1 K (xs.getD v8.toNat default) q then (v8) else ((FixEa_l0 K xs q n0) (v8 + 1))) else ((-1))
def FixEa (K : TAsked → TCond → Bool) (xs : (List TCond)) (q : TAsked) : Int := FixEa_l0 K xs q (((((xs.length : Int))) - 0).toNat + 1) 0
set_option maxRecDepth 100000 in
theorem pixEa (m : Nat) (n : Nat) (K : TAsked → TCond → Bool) (xs : (List TCond)) (q : TAsked) (hK : ∀ (q : TAsked) (c : TCond), AskOk q → CondOk n c → Pure Try.prog 35 [.one opsMap, .agg ((askedC (LL (m))) q), .agg ((condC (LL (n))) c)] (.av (.one (.b (K q c))))) (hq : AskOk q) (hxs : LsOk n xs) : Pure Try.prog 77 [.one (lst 8 (condC (LL (n))) xs), .one (.clo 64 2 (listF [.eptr 1 1 (fun _ j => ([opsMap] : List Cl).getD j default) 0 0, .eptr 25 1 (fun _ j => (((askedC (LL (m))) q) : List Cl).getD j default) 0 0]))] (.av (.one (.i (FixEa K xs q)))) := by
  refine pure_of_awF Try.func77 rfl (by kernel_rfl) (by kernel_rfl) fun W0 M0 => ?_
  have hl := hxs.1
  refine aw_seq ?_
  refine aw_region eqok [] [] [] [0, 1] [] [] ⟨[(0, .av (.one (lst 8 (condC (LL (n))) xs))), (1, .av (.one (.clo 64 2 (listF [.eptr 1 1 (fun _ j => ([opsMap] : List Cl).getD j default) 0 0, .eptr 25 1 (fun _ j => (((askedC (LL (m))) q) : List Cl).getD j default) 0 0]))))], []⟩ .nil (by kernel_rfl) .nil ?_
  refine ath_n ?_
  refine aw_seq ?_
  refine aw_seq ?_
  refine aw_region eqok [] [] [] [0, 1, 7, 8] [] [] ⟨[(0, .av (.one (lst 8 (condC (LL (n))) xs))), (1, .av (.one (.clo 64 2 (listF [.eptr 1 1 (fun _ j => ([opsMap] : List Cl).getD j default) 0 0, .eptr 25 1 (fun _ j => (((askedC (LL (m))) q) : List Cl).getD j default) 0 0])))), (7, tI ((xs.length : Int))), (8, tI 0)], []⟩ .nil (by kernel_rfl) .nil ?_
  refine ath_n ?_
  refine aw_block ?_
  refine aw_loopC (ι := Nat × Int) (fun x => ⟨[(0, .av (.one (lst 8 (condC (LL (n))) xs))), (1, .av (.one (.clo 64 2 (listF [.eptr 1 1 (fun _ j => ([opsMap] : List Cl).getD j default) 0 0, .eptr 25 1 (fun _ j => (((askedC (LL (m))) q) : List Cl).getD j default) 0 0])))), (7, tI ((xs.length : Int))), (8, tI x.2)], []⟩) (fun x => ((((xs.length : Int))) - x.2).toNat < x.1 ∧ (0 ≤ x.2 ∧ (x.2 ≤ ((xs.length : Int)) ∨ x.2 = 0)) ∧ FixEa_l0 K xs q x.1 x.2 = FixEa K xs q) (fun x => x.1) ?_ (((((xs.length : Int))) - 0).toNat + 1, 0) ⟨Nat.lt_succ_self _, ⟨(by show 0 ≤ 0; first | trivial | omega | (simp only [List.length_append, List.length_cons, List.length_nil]; omega) | (simp only [List.length_set, List.length_append, List.length_cons, List.length_nil]; omega) | (simp only [W64_def]; omega) | (simp; omega) | simp), (by show (0 ≤ ((xs.length : Int)) ∨ 0 = 0); first | trivial | omega | (simp only [List.length_append, List.length_cons, List.length_nil]; omega) | (simp only [List.length_set, List.length_append, List.length_cons, List.length_nil]; omega) | (simp only [W64_def]; omega) | (simp; omega) | simp)⟩, (by simp only [FixEa, cond_true, cond_false])⟩
  rintro ⟨n0, v8⟩ ⟨hn, hinv, hF⟩
  have hm0 : ((((xs.length : Int))) - v8).toNat < n0 := hn; have hinv0 : 0 ≤ v8 ∧ (v8 ≤ ((xs.length : Int)) ∨ v8 = 0) := hinv; have hF0 : FixEa_l0 K xs q n0 v8 = FixEa K xs q := hF; clear hn hinv hF
  cases n0 with
  | zero => exact absurd hm0 (Nat.not_lt_zero _)
  | succ n0 =>
    refine aw_seq ?_
    refine aw_region eqok [] [] [] [0, 1, 7, 8, 9] [] [] ⟨[(0, .av (.one (lst 8 (condC (LL (n))) xs))), (1, .av (.one (.clo 64 2 (listF [.eptr 1 1 (fun _ j => ([opsMap] : List Cl).getD j default) 0 0, .eptr 25 1 (fun _ j => (((askedC (LL (m))) q) : List Cl).getD j default) 0 0])))), (7, tI ((xs.length : Int))), (8, tI v8), (9, tB (decide ((v8 : Int) < ((xs.length : Int)))))], []⟩ .nil (by kernel_rfl) .nil ?_
    refine ath_n ?_
    refine aw_seq ?_
    refine aw_cond (decide ((v8 : Int) < ((xs.length : Int)))) (by kernel_rfl) (fun h1 => ?_) (fun h1 => ?_)
    · have g1 := of_decide_eq_true h1
      refine aw_skip ?_
      refine ath_n ?_
      refine aw_seq ?_
      refine aw_block ?_
      refine aw_seq ?_
      refine aw_region eqok [] [] [] [0, 1, 5, 7, 8] [] [] ⟨[(0, .av (.one (lst 8 (condC (LL (n))) xs))), (1, .av (.one (.clo 64 2 (listF [.eptr 1 1 (fun _ j => ([opsMap] : List Cl).getD j default) 0 0, .eptr 25 1 (fun _ j => (((askedC (LL (m))) q) : List Cl).getD j default) 0 0])))), (5, tI v8), (7, tI ((xs.length : Int))), (8, tI v8)], []⟩ .nil (by kernel_rfl) .nil ?_
      refine ath_n ?_
      refine aw_seq ?_
      refine aw_region eqok [] [] [(16, (wixEa_1 n xs v8 m q K))] [0, 1, 5, 7, 8, 16] [] [0 ≤ (v8 : Int) ∧ (v8 : Int) < ((xs.length : Nat) : Int), Same (wixEa_1 n xs v8 m q K).2.1] ⟨[(0, .av (.one (lst 8 (condC (LL (n))) xs))), (1, .av (.one (.clo 64 2 (listF [.eptr 1 1 (fun _ j => ([opsMap] : List Cl).getD j default) 0 0, .eptr 25 1 (fun _ j => (((askedC (LL (m))) q) : List Cl).getD j default) 0 0])))), (5, tI v8), (7, tI ((xs.length : Int))), (8, tI v8), (16, tB (Fev1 K (xs.getD v8.toNat default) q))], []⟩ (.cons (callOk_pure (fun _ _ => by kernel_rfl) fun _ => pev1 m n K (xs.getD v8.toNat default) q (by assumption) (by assumption) (by first | assumption | exact hxs.2 _)) .nil) (by kernel_rfl) (.cons (by first | decide | omega | exact idx_tmod (by first | omega | (simp only [W64_def]; omega)) (by omega) | (simp only [W64_def]; omega) | (constructor <;> omega) | (simp only [List.length_append, List.length_cons, List.length_nil]; omega) | (simp only [List.length_append, List.length_cons, List.length_nil, List.length_drop, List.length_take] at *; omega)) (.cons rfl .nil)) ?_
      refine ath_n ?_
      refine aw_cond (Fev1 K (xs.getD v8.toNat default) q) (by kernel_rfl) (fun h2 => ?_) (fun h2 => ?_)
      · refine aw_seq ?_
        refine aw_region eqok [] [] [] [4] [] [] ⟨[(4, tI v8)], []⟩ .nil (by kernel_rfl) .nil ?_
        refine ath_n ?_
        refine aw_ret ?_
        refine abl_r ?_
        refine ath_r ?_
        refine ath_r ?_
        refine abl_r ?_
        refine ath_r ?_
        exact ⟨_, Cv.refl _, .inl rfl, .av (.one (.i v8)), by kernel_rfl, tve_eq (by rw [← hF0]; first | (simp only [FixEa_l0, h1, h2, cond_true, cond_false]; done) | (simp only [FixEa_l0, h1, h2, cond_true, cond_false]; rfl))⟩
      · refine aw_skip ?_
        refine abl_n ?_
        refine ath_n ?_
        refine aw_region eqok [] [] [] [0, 1, 7, 8] [] [] ⟨[(0, .av (.one (lst 8 (condC (LL (n))) xs))), (1, .av (.one (.clo 64 2 (listF [.eptr 1 1 (fun _ j => ([opsMap] : List Cl).getD j default) 0 0, .eptr 25 1 (fun _ j => (((askedC (LL (m))) q) : List Cl).getD j default) 0 0])))), (7, tI ((xs.length : Int))), (8, tI (W64 (v8 + 1)))], []⟩ .nil (by kernel_rfl) .nil ?_
        (try rw [(show W64 (v8 + 1) = v8 + 1 from W64_id (by omega) (by first | omega | (simp only [List.length_drop, List.length_take] at *; omega)))])
        refine ath_n ?_
        refine ⟨(n0, v8 + 1), ⟨?_, ?_, (by rw [← hF0]; simp only [FixEa_l0, h1, h2, cond_true, cond_false])⟩, Nat.lt_succ_self _, cv_eq (by kernel_rfl)⟩
        · show ((((xs.length : Int))) - (v8 + 1)).toNat < n0; omega
        · exact ⟨(by show 0 ≤ (v8 + 1); first | trivial | omega | (simp only [List.length_append, List.length_cons, List.length_nil]; omega) | (simp only [List.length_set, List.length_append, List.length_cons, List.length_nil]; omega) | (simp only [W64_def]; omega) | (simp; omega) | simp), (by show ((v8 + 1) ≤ ((xs.length : Int)) ∨ (v8 + 1) = 0); first | trivial | omega | (simp only [List.length_append, List.length_cons, List.length_nil]; omega) | (simp only [List.length_set, List.length_append, List.length_cons, List.length_nil]; omega) | (simp only [W64_def]; omega) | (simp; omega) | simp)⟩
    · have g1 := of_decide_eq_false h1
      refine aw_exit ?_
      refine ath_e ?_
      refine ath_e ?_
      refine abl_hit ?_
      refine ath_n ?_
      refine aw_seq ?_
      refine aw_region eqok [] [] [] [4] [] [] ⟨[(4, tI ((-1)))], []⟩ .nil (by kernel_rfl) .nil ?_
      refine ath_n ?_
      refine aw_ret ?_
      exact ⟨_, Cv.refl _, .inl rfl, .av (.one (.i ((-1)))), by kernel_rfl, tve_eq (by rw [← hF0]; first | (simp only [FixEa_l0, h1, cond_true, cond_false]; done) | (simp only [FixEa_l0, h1, cond_true, cond_false]; rfl))⟩
def wcoEa_0 (n : Nat) (xs : (List TCond)) (m : Nat) (q : TAsked) (K : TAsked → TCond → Bool) : FuncId × List Av × Ef := (77, [.one (lst 8 (condC (LL (n))) xs), .one (.clo 64 2 (listF [.eptr 1 1 (fun _ j => ([opsMap] : List Cl).getD j default) 0 0, .eptr 25 1 (fun _ j => (((askedC (LL (m))) q) : List Cl).getD j default) 0 0]))], .val [] (tI (FixEa K xs q)))
def FcoEa (K : TAsked → TCond → Bool) (xs : (List TCond)) (q : TAsked) : Bool := decide ((0 : Int) ≤ (FixEa K xs q))
set_option maxRecDepth 100000 in
theorem pcoEa (m : Nat) (n : Nat) (K : TAsked → TCond → Bool) (xs : (List TCond)) (q : TAsked) (hK : ∀ (q : TAsked) (c : TCond), AskOk q → CondOk n c → Pure Try.prog 35 [.one opsMap, .agg ((askedC (LL (m))) q), .agg ((condC (LL (n))) c)] (.av (.one (.b (K q c))))) (hq : AskOk q) (hxs : LsOk n xs) : Pure Try.prog 65 [.one (lst 8 (condC (LL (n))) xs), .one (.clo 64 2 (listF [.eptr 1 1 (fun _ j => ([opsMap] : List Cl).getD j default) 0 0, .eptr 25 1 (fun _ j => (((askedC (LL (m))) q) : List Cl).getD j default) 0 0]))] (.av (.one (.b (FcoEa K xs q)))) := by
  refine pure_of_awF Try.func65 rfl (by kernel_rfl) (by kernel_rfl) fun W0 M0 => ?_
  have hl := hxs.1
  refine aw_seq ?_
  refine aw_region eqok [] [] [] [0, 1] [] [] ⟨[(0, .av (.one (lst 8 (condC (LL (n))) xs))), (1, .av (.one (.clo 64 2 (listF [.eptr 1 1 (fun _ j => ([opsMap] : List Cl).getD j default) 0 0, .eptr 25 1 (fun _ j => (((askedC (LL (m))) q) : List Cl).getD j default) 0 0]))))], []⟩ .nil (by kernel_rfl) .nil ?_
  refine ath_n ?_
  refine aw_seq ?_
  refine aw_region eqok [] [] [(7, (wcoEa_0 n xs m q K))] [4] [] [Same (wcoEa_0 n xs m q K).2.1] ⟨[(4, tB (decide ((0 : Int) ≤ (FixEa K xs q))))], []⟩ (.cons (callOk_pure (fun _ _ => by kernel_rfl) fun _ => pixEa m n K xs q (by assumption) (by assumption) (by assumption)) .nil) (by kernel_rfl) (.cons rfl .nil) ?_
  refine ath_n ?_
  refine aw_ret ?_
  exact ⟨_, Cv.refl _, .inl rfl, .av (.one (.b (decide ((0 : Int) ≤ (FixEa K xs q))))), by kernel_rfl, tve_eq (by rfl)⟩
def wixEb_1 (n : Nat) (xs : (List TCond)) (v8 : Int) (m : Nat) (q : TAsked) (K : TAsked → TCond → Bool) : FuncId × List Av × Ef := (66, [.agg ((condC (LL (n))) (xs.getD v8.toNat default)), .one (.eptr 1 1 (fun _ j => ([.clo 64 2 (listF [.eptr 1 1 (fun _ j => ([opsMap] : List Cl).getD j default) 0 0, .eptr 25 1 (fun _ j => (((askedC (LL (m))) q) : List Cl).getD j default) 0 0])] : List Cl).getD j default) 0 0)], .val [] (tB (Fev2 K (xs.getD v8.toNat default) q)))
def FixEb_l0 (K : TAsked → TCond → Bool) (xs : (List TCond)) (q : TAsked) : Nat → Int → Int
  | 0, _ => default
  | n0 + 1, v8 => bif decide ((v8 : Int) < ((xs.length : Int))) then (bif Fev2 K (xs.getD v8.toNat default) q then (v8) else ((FixEb_l0 K xs q n0) (v8 + 1))) else ((-1))
def FixEb (K : TAsked → TCond → Bool) (xs : (List TCond)) (q : TAsked) : Int := FixEb_l0 K xs q (((((xs.length : Int))) - 0).toNat + 1) 0
set_option maxRecDepth 100000 in
theorem pixEb (m : Nat) (n : Nat) (K : TAsked → TCond → Bool) (xs : (List TCond)) (q : TAsked) (hK : ∀ (q : TAsked) (c : TCond), AskOk q → CondOk n c → Pure Try.prog 35 [.one opsMap, .agg ((askedC (LL (m))) q), .agg ((condC (LL (n))) c)] (.av (.one (.b (K q c))))) (hq : AskOk q) (hxs : LsOk n xs) : Pure Try.prog 77 [.one (lst 8 (condC (LL (n))) xs), .one (.clo 66 1 (listF [.eptr 1 1 (fun _ j => ([.clo 64 2 (listF [.eptr 1 1 (fun _ j => ([opsMap] : List Cl).getD j default) 0 0, .eptr 25 1 (fun _ j => (((askedC (LL (m))) q) : List Cl).getD j default) 0 0])] : List Cl).getD j default) 0 0]))] (.av (.one (.i (FixEb K xs q)))) := by
  refine pure_of_awF Try.func77 rfl (by kernel_rfl) (by kernel_rfl) fun W0 M0 => ?_
  have hl := hxs.1
  refine aw_seq ?_
  refine aw_region eqok [] [] [] [0, 1] [] [] ⟨[(0, .av (.one (lst 8 (condC (LL (n))) xs))), (1, .av (.one (.clo 66 1 (listF [.eptr 1 1 (fun _ j => ([.clo 64 2 (listF [.eptr 1 1 (fun _ j => ([opsMap] : List Cl).getD j default) 0 0, .eptr 25 1 (fun _ j => (((askedC (LL (m))) q) : List Cl).getD j default) 0 0])] : List Cl).getD j default) 0 0]))))], []⟩ .nil (by kernel_rfl) .nil ?_
  refine ath_n ?_
  refine aw_seq ?_
  refine aw_seq ?_
  refine aw_region eqok [] [] [] [0, 1, 7, 8] [] [] ⟨[(0, .av (.one (lst 8 (condC (LL (n))) xs))), (1, .av (.one (.clo 66 1 (listF [.eptr 1 1 (fun _ j => ([.clo 64 2 (listF [.eptr 1 1 (fun _ j => ([opsMap] : List Cl).getD j default) 0 0, .eptr 25 1 (fun _ j => (((askedC (LL (m))) q) : List Cl).getD j default) 0 0])] : List Cl).getD j default) 0 0])))), (7, tI ((xs.length : Int))), (8, tI 0)], []⟩ .nil (by kernel_rfl) .nil ?_
  refine ath_n ?_
  refine aw_block ?_
  refine aw_loopC (ι := Nat × Int) (fun x => ⟨[(0, .av (.one (lst 8 (condC (LL (n))) xs))), (1, .av (.one (.clo 66 1 (listF [.eptr 1 1 (fun _ j => ([.clo 64 2 (listF [.eptr 1 1 (fun _ j => ([opsMap] : List Cl).getD j default) 0 0, .eptr 25 1 (fun _ j => (((askedC (LL (m))) q) : List Cl).getD j default) 0 0])] : List Cl).getD j default) 0 0])))), (7, tI ((xs.length : Int))), (8, tI x.2)], []⟩) (fun x => ((((xs.length : Int))) - x.2).toNat < x.1 ∧ (0 ≤ x.2 ∧ (x.2 ≤ ((xs.length : Int)) ∨ x.2 = 0)) ∧ FixEb_l0 K xs q x.1 x.2 = FixEb K xs q) (fun x => x.1) ?_ (((((xs.length : Int))) - 0).toNat + 1, 0) ⟨Nat.lt_succ_self _, ⟨(by show 0 ≤ 0; first | trivial | omega | (simp only [List.length_append, List.length_cons, List.length_nil]; omega) | (simp only [List.length_set, List.length_append, List.length_cons, List.length_nil]; omega) | (simp only [W64_def]; omega) | (simp; omega) | simp), (by show (0 ≤ ((xs.length : Int)) ∨ 0 = 0); first | trivial | omega | (simp only [List.length_append, List.length_cons, List.length_nil]; omega) | (simp only [List.length_set, List.length_append, List.length_cons, List.length_nil]; omega) | (simp only [W64_def]; omega) | (simp; omega) | simp)⟩, (by simp only [FixEb, cond_true, cond_false])⟩
  rintro ⟨n0, v8⟩ ⟨hn, hinv, hF⟩
  have hm0 : ((((xs.length : Int))) - v8).toNat < n0 := hn; have hinv0 : 0 ≤ v8 ∧ (v8 ≤ ((xs.length : Int)) ∨ v8 = 0) := hinv; have hF0 : FixEb_l0 K xs q n0 v8 = FixEb K xs q := hF; clear hn hinv hF
  cases n0 with
  | zero => exact absurd hm0 (Nat.not_lt_zero _)
  | succ n0 =>
    refine aw_seq ?_
    refine aw_region eqok [] [] [] [0, 1, 7, 8, 9] [] [] ⟨[(0, .av (.one (lst 8 (condC (LL (n))) xs))), (1, .av (.one (.clo 66 1 (listF [.eptr 1 1 (fun _ j => ([.clo 64 2 (listF [.eptr 1 1 (fun _ j => ([opsMap] : List Cl).getD j default) 0 0, .eptr 25 1 (fun _ j => (((askedC (LL (m))) q) : List Cl).getD j default) 0 0])] : List Cl).getD j default) 0 0])))), (7, tI ((xs.length : Int))), (8, tI v8), (9, tB (decide ((v8 : Int) < ((xs.length : Int)))))], []⟩ .nil (by kernel_rfl) .nil ?_
    refine ath_n ?_
    refine aw_seq ?_
    refine aw_cond (decide ((v8 : Int) < ((xs.length : Int)))) (by kernel_rfl) (fun h1 => ?_) (fun h1 => ?_)
    · have g1 := of_decide_eq_true h1
      refine aw_skip ?_
      refine ath_n ?_
      refine aw_seq ?_
      refine aw_block ?_
      refine aw_seq ?_
      refine aw_region eqok [] [] [] [0, 1, 5, 7, 8] [] [] ⟨[(0, .av (.one (lst 8 (condC (LL (n))) xs))), (1, .av (.one (.clo 66 1 (listF [.eptr 1 1 (fun _ j => ([.clo 64 2 (listF [.eptr 1 1 (fun _ j => ([opsMap] : List Cl).getD j default) 0 0, .eptr 25 1 (fun _ j => (((askedC (LL (m))) q) : List Cl).getD j default) 0 0])] : List Cl).getD j default) 0 0])))), (5, tI v8), (7, tI ((xs.length : Int))), (8, tI v8)], []⟩ .nil (by kernel_rfl) .nil ?_
      refine ath_n ?_
      refine aw_seq ?_
      refine aw_region eqok [] [] [(16, (wixEb_1 n xs v8 m q K))] [0, 1, 5, 7, 8, 16] [] [0 ≤ (v8 : Int) ∧ (v8 : Int) < ((xs.length : Nat) : Int), Same (wixEb_1 n xs v8 m q K).2.1] ⟨[(0, .av (.one (lst 8 (condC (LL (n))) xs))), (1, .av (.one (.clo 66 1 (listF [.eptr 1 1 (fun _ j => ([.clo 64 2 (listF [.eptr 1 1 (fun _ j => ([opsMap] : List Cl).getD j default) 0 0, .eptr 25 1 (fun _ j => (((askedC (LL (m))) q) : List Cl).getD j default) 0 0])] : List Cl).getD j default) 0 0])))), (5, tI v8), (7, tI ((xs.length : Int))), (8, tI v8), (16, tB (Fev2 K (xs.getD v8.toNat default) q))], []⟩ (.cons (callOk_pure (fun _ _ => by kernel_rfl) fun _ => pev2 m n K (xs.getD v8.toNat default) q (by assumption) (by assumption) (by first | assumption | exact hxs.2 _)) .nil) (by kernel_rfl) (.cons (by first | decide | omega | exact idx_tmod (by first | omega | (simp only [W64_def]; omega)) (by omega) | (simp only [W64_def]; omega) | (constructor <;> omega) | (simp only [List.length_append, List.length_cons, List.length_nil]; omega) | (simp only [List.length_append, List.length_cons, List.length_nil, List.length_drop, List.length_take] at *; omega)) (.cons rfl .nil)) ?_
      refine ath_n ?_
      refine aw_cond (Fev2 K (xs.getD v8.toNat default) q) (by kernel_rfl) (fun h2 => ?_) (fun h2 => ?_)
      · refine aw_seq ?_
        refine aw_region eqok [] [] [] [4] [] [] ⟨[(4, tI v8)], []⟩ .nil (by kernel_rfl) .nil ?_
        refine ath_n ?_
        refine aw_ret ?_
        refine abl_r ?_
        refine ath_r ?_
        refine ath_r ?_
        refine abl_r ?_
        refine ath_r ?_
        exact ⟨_, Cv.refl _, .inl rfl, .av (.one (.i v8)), by kernel_rfl, tve_eq (by rw [← hF0]; first | (simp only [FixEb_l0, h1, h2, cond_true, cond_false]; done) | (simp only [FixEb_l0, h1, h2, cond_true, cond_false]; rfl))⟩
      · refine aw_skip ?_
        refine abl_n ?_
        refine ath_n ?_
        refine aw_region eqok [] [] [] [0, 1, 7, 8] [] [] ⟨[(0, .av (.one (lst 8 (condC (LL (n))) xs))), (1, .av (.one (.clo 66 1 (listF [.eptr 1 1 (fun _ j => ([.clo 64 2 (listF [.eptr 1 1 (fun _ j => ([opsMap] : List Cl).getD j default) 0 0, .eptr 25 1 (fun _ j => (((askedC (LL (m))) q) : List Cl).getD j default) 0 0])] : List Cl).getD j default) 0 0])))), (7, tI ((xs.length : Int))), (8, tI (W64 (v8 + 1)))], []⟩ .nil (by kernel_rfl) .nil ?_
        (try rw [(show W64 (v8 + 1) = v8 + 1 from W64_id (by omega) (by first | omega | (simp only [List.length_drop, List.length_take] at *; omega)))])
        refine ath_n ?_
        refine ⟨(n0, v8 + 1), ⟨?_, ?_, (by rw [← hF0]; simp only [FixEb_l0, h1, h2, cond_true, cond_false])⟩, Nat.lt_succ_self _, cv_eq (by kernel_rfl)⟩
        · show ((((xs.length : Int))) - (v8 + 1)).toNat < n0; omega
        · exact ⟨(by show 0 ≤ (v8 + 1); first | trivial | omega | (simp only [List.length_append, List.length_cons, List.length_nil]; omega) | (simp only [List.length_set, List.length_append, List.length_cons, List.length_nil]; omega) | (simp only [W64_def]; omega) | (simp; omega) | simp), (by show ((v8 + 1) ≤ ((xs.length : Int)) ∨ (v8 + 1) = 0); first | trivial | omega | (simp only [List.length_append, List.length_cons, List.length_nil]; omega) | (simp only [List.length_set, List.length_append, List.length_cons, List.length_nil]; omega) | (simp only [W64_def]; omega) | (simp; omega) | simp)⟩
    · have g1 := of_decide_eq_false h1
      refine aw_exit ?_
      refine ath_e ?_
      refine ath_e ?_
      refine abl_hit ?_
      refine ath_n ?_
      refine aw_seq ?_
      refine aw_region eqok [] [] [] [4] [] [] ⟨[(4, tI ((-1)))], []⟩ .nil (by kernel_rfl) .nil ?_
      refine ath_n ?_
      refine aw_ret ?_
      exact ⟨_, Cv.refl _, .inl rfl, .av (.one (.i ((-1)))), by kernel_rfl, tve_eq (by rw [← hF0]; first | (simp only [FixEb_l0, h1, cond_true, cond_false]; done) | (simp only [FixEb_l0, h1, cond_true, cond_false]; rfl))⟩
def wcoEb_0 (n : Nat) (xs : (List TCond)) (m : Nat) (q : TAsked) (K : TAsked → TCond → Bool) : FuncId × List Av × Ef := (77, [.one (lst 8 (condC (LL (n))) xs), .one (.clo 66 1 (listF [.eptr 1 1 (fun _ j => ([.clo 64 2 (listF [.eptr 1 1 (fun _ j => ([opsMap] : List Cl).getD j default) 0 0, .eptr 25 1 (fun _ j => (((askedC (LL (m))) q) : List Cl).getD j default) 0 0])] : List Cl).getD j default) 0 0]))], .val [] (tI (FixEb K xs q)))
def FcoEb (K : TAsked → TCond → Bool) (xs : (List TCond)) (q : TAsked) : Bool := decide ((0 : Int) ≤ (FixEb K xs q))
set_option maxRecDepth 100000 in
theorem pcoEb (m : Nat) (n : Nat) (K : TAsked → TCond → Bool) (xs : (List TCond)) (q : TAsked) (hK : ∀ (q : TAsked) (c : TCond), AskOk q → CondOk n c → Pure Try.prog 35 [.one opsMap, .agg ((askedC (LL (m))) q), .agg ((condC (LL (n))) c)] (.av (.one (.b (K q c))))) (hq : AskOk q) (hxs : LsOk n xs) : Pure Try.prog 65 [.one (lst 8 (condC (LL (n))) xs), .one (.clo 66 1 (listF [.eptr 1 1 (fun _ j => ([.clo 64 2 (listF [.eptr 1 1 (fun _ j => ([opsMap] : List Cl).getD j default) 0 0, .eptr 25 1 (fun _ j => (((askedC (LL (m))) q) : List Cl).getD j default) 0 0])] : List Cl).getD j default) 0 0]))] (.av (.one (.b (FcoEb K xs q)))) := by
  refine pure_of_awF Try.func65 rfl (by kernel_rfl) (by kernel_rfl) fun W0 M0 => ?_
  have hl := hxs.1
  refine aw_seq ?_
  refine aw_region eqok [] [] [] [0, 1] [] [] ⟨[(0, .av (.one (lst 8 (condC (LL (n))) xs))), (1, .av (.one (.clo 66 1 (listF [.eptr 1 1 (fun _ j => ([.clo 64 2 (listF [.eptr 1 1 (fun _ j => ([opsMap] : List Cl).getD j default) 0 0, .eptr 25 1 (fun _ j => (((askedC (LL (m))) q) : List Cl).getD j default) 0 0])] : List Cl).getD j default) 0 0]))))], []⟩ .nil (by kernel_rfl) .nil ?_
  refine ath_n ?_
  refine aw_seq ?_
  refine aw_region eqok [] [] [(7, (wcoEb_0 n xs m q K))] [4] [] [Same (wcoEb_0 n xs m q K).2.1] ⟨[(4, tB (decide ((0 : Int) ≤ (FixEb K xs q))))], []⟩ (.cons (callOk_pure (fun _ _ => by kernel_rfl) fun _ => pixEb m n K xs q (by assumption) (by assumption) (by assumption)) .nil) (by kernel_rfl) (.cons rfl .nil) ?_
  refine ath_n ?_
  refine aw_ret ?_
  exact ⟨_, Cv.refl _, .inl rfl, .av (.one (.b (decide ((0 : Int) ≤ (FixEb K xs q))))), by kernel_rfl, tve_eq (by rfl)⟩
def wevS1_0 (m : Nat) (q : TAsked) (a0 : ByteArray) (a1 : Int) (a2 : TRect) (n : Nat) (a3 : (List TCond)) : FuncId × List Av × Ef := (51, [.agg ((askedC (LL (m))) q), .agg [.i 1, .s a0, .i a1, .i a2.X0, .i a2.Y0, .i a2.X1, .i a2.Y1, lst 8 (condC (LL (n))) a3]], .val [] (tB (Fop1 q (TCond.mk 1 a0 a1 a2 a3))))
def FevS1 (K : TAsked → TCond → Bool) (q : TAsked) (a0 : ByteArray) (a1 : Int) (a2 : TRect) (a3 : (List TCond)) : Bool := Fop1 q (TCond.mk 1 a0 a1 a2 a3)
set_option maxRecDepth 100000 in
theorem pevS1 (m : Nat) (n : Nat) (K : TAsked → TCond → Bool) (q : TAsked) (a0 : ByteArray) (a1 : Int) (a2 : TRect) (a3 : (List TCond)) (hK : ∀ (q : TAsked) (c : TCond), AskOk q → CondOk n c → Pure Try.prog 35 [.one opsMap, .agg ((askedC (LL (m))) q), .agg ((condC (LL (n))) c)] (.av (.one (.b (K q c))))) (hq : AskOk q) (hxs : LsOk n a3) : Pure Try.prog 35 [.one (opsMap), .agg ((askedC (LL (m))) q), .agg [.i 1, .s a0, .i a1, .i a2.X0, .i a2.Y0, .i a2.X1, .i a2.Y1, lst 8 (condC (LL (n))) a3]] (.av (.one (.b (FevS1 K q a0 a1 a2 a3)))) := by
  refine pure_of_awF Try.func35 rfl (by kernel_rfl) (by kernel_rfl) fun W0 M0 => ?_
  have hl := hxs.1
  refine aw_seq ?_
  refine aw_region eqok [] [] [] [3, 4, 5] [3, 4, 5] [] ⟨[(3, tP 3 0), (4, tP 4 0), (5, tP 5 0)], [(3, .cells [opsMap] 87), (4, .cells ((askedC (LL (m))) q) 90), (5, .cells [.i 1, .s a0, .i a1, .i a2.X0, .i a2.Y0, .i a2.X1, .i a2.Y1, lst 8 (condC (LL (n))) a3] 58)]⟩ .nil (by kernel_rfl) .nil ?_
  refine ath_n ?_
  refine aw_seq ?_
  refine aw_region eqok [] [] [] [3, 4, 5, 7] [3, 4, 5, 7] [] ⟨[(3, tP 3 0), (4, tP 4 0), (5, tP 5 0), (7, tP 7 0)], [(3, .cells [opsMap] 87), (4, .cells ((askedC (LL (m))) q) 90), (5, .cells [.i 1, .s a0, .i a1, .i a2.X0, .i a2.Y0, .i a2.X1, .i a2.Y1, lst 8 (condC (LL (n))) a3] 58), (7, .cells [.clo 64 2 (listF [.ptr 3 0, .ptr 4 0])] 119)]⟩ .nil (by kernel_rfl) .nil ?_
  refine ath_n ?_
  refine aw_seq ?_
  refine aw_seq ?_
  refine aw_region eqok [] [] [] [3, 4, 5, 7, 12] [3, 4, 5, 7] [] ⟨[(3, tP 3 0), (4, tP 4 0), (5, tP 5 0), (7, tP 7 0), (12, tI 1)], [(3, .cells [opsMap] 87), (4, .cells ((askedC (LL (m))) q) 90), (5, .cells [.i 1, .s a0, .i a1, .i a2.X0, .i a2.Y0, .i a2.X1, .i a2.Y1, lst 8 (condC (LL (n))) a3] 58), (7, .cells [.clo 64 2 (listF [.ptr 3 0, .ptr 4 0])] 119)]⟩ .nil (by kernel_rfl) .nil ?_
  refine ath_n ?_
  refine aw_block ?_
  refine aw_seq ?_
  refine aw_region eqok [] [] [] [3, 4, 5, 7, 12, 13] [3, 4, 5, 7] [] ⟨[(3, tP 3 0), (4, tP 4 0), (5, tP 5 0), (7, tP 7 0), (12, tI 1), (13, tB false)], [(3, .cells [opsMap] 87), (4, .cells ((askedC (LL (m))) q) 90), (5, .cells [.i 1, .s a0, .i a1, .i a2.X0, .i a2.Y0, .i a2.X1, .i a2.Y1, lst 8 (condC (LL (n))) a3] 58), (7, .cells [.clo 64 2 (listF [.ptr 3 0, .ptr 4 0])] 119)]⟩ .nil (by kernel_rfl) .nil ?_
  refine ath_n ?_
  refine aw_cond_f (by kernel_rfl) ?_
  refine aw_seq ?_
  refine aw_region eqok [] [] [] [3, 4, 5, 7, 12, 28] [3, 4, 5, 7] [] ⟨[(3, tP 3 0), (4, tP 4 0), (5, tP 5 0), (7, tP 7 0), (12, tI 1), (28, tB false)], [(3, .cells [opsMap] 87), (4, .cells ((askedC (LL (m))) q) 90), (5, .cells [.i 1, .s a0, .i a1, .i a2.X0, .i a2.Y0, .i a2.X1, .i a2.Y1, lst 8 (condC (LL (n))) a3] 58), (7, .cells [.clo 64 2 (listF [.ptr 3 0, .ptr 4 0])] 119)]⟩ .nil (by kernel_rfl) .nil ?_
  refine ath_n ?_
  refine aw_cond_f (by kernel_rfl) ?_
  refine aw_seq ?_
  refine aw_region eqok [] [] [] [3, 4, 5, 7, 34] [3, 4, 5, 7] [] ⟨[(3, tP 3 0), (4, tP 4 0), (5, tP 5 0), (7, tP 7 0), (34, tB false)], [(3, .cells [opsMap] 87), (4, .cells ((askedC (LL (m))) q) 90), (5, .cells [.i 1, .s a0, .i a1, .i a2.X0, .i a2.Y0, .i a2.X1, .i a2.Y1, lst 8 (condC (LL (n))) a3] 58), (7, .cells [.clo 64 2 (listF [.ptr 3 0, .ptr 4 0])] 119)]⟩ .nil (by kernel_rfl) .nil ?_
  refine ath_n ?_
  refine aw_cond_f (by kernel_rfl) ?_
  refine aw_skip ?_
  refine abl_n ?_
  refine ath_n ?_
  refine aw_seq ?_
  refine aw_region eqok [] [(45, (true, 0))] [] [4, 5, 8, 9] [4, 5, 8] [LookOk (.int .i64) 7 opsK (.int .i64 1) true 0] ⟨[(4, tP 4 0), (5, tP 5 0), (8, tP 8 0), (9, tB true)], [(4, .cells ((askedC (LL (m))) q) 90), (5, .cells [.i 1, .s a0, .i a1, .i a2.X0, .i a2.Y0, .i a2.X1, .i a2.Y1, lst 8 (condC (LL (n))) a3] 58), (8, .cells [.clo 51 0 (fun _ => default)] 114)]⟩ .nil (by kernel_rfl) (.cons (ops_at 0 (by decide) (by rfl)) .nil) ?_
  refine ath_n ?_
  refine aw_seq ?_
  refine aw_region eqok [] [] [(54, (wevS1_0 m q a0 a1 a2 n a3))] [6] [] [((true) = true) → ((true) = true), ((true) = true) → ((true) = true), ((true) = true) → ((true) = true), ((true) = true) → ((true) = true), ((true) = true) → (Same (wevS1_0 m q a0 a1 a2 n a3).2.1), (true) = true → ((true) = true)] ⟨[(6, tB (Fop1 q (TCond.mk 1 a0 a1 a2 a3)))], []⟩ (.cons (callOk_pure (fun _ _ => by kernel_rfl) fun _ => pop1 m (n + 1) q (TCond.mk 1 a0 a1 a2 a3) (by first | assumption | decide | omega | (simp only [List.length_cons, List.length_nil, List.length_append]; omega))) .nil) (by kernel_rfl) (.cons id (.cons id (.cons id (.cons id (.cons (fun _ => rfl) (.cons id .nil)))))) ?_
  refine ath_n ?_
  refine aw_ret ?_
  exact ⟨_, Cv.refl _, .inl rfl, .av (.one (.b (Fop1 q (TCond.mk 1 a0 a1 a2 a3)))), by kernel_rfl, tve_eq (by rfl)⟩
def wevS2_0 (m : Nat) (q : TAsked) (a0 : ByteArray) (a1 : Int) (a2 : TRect) (n : Nat) (a3 : (List TCond)) : FuncId × List Av × Ef := (52, [.agg ((askedC (LL (m))) q), .agg [.i 2, .s a0, .i a1, .i a2.X0, .i a2.Y0, .i a2.X1, .i a2.Y1, lst 8 (condC (LL (n))) a3]], .val [] (tB (Fop2 q (TCond.mk 2 a0 a1 a2 a3))))
def FevS2 (K : TAsked → TCond → Bool) (q : TAsked) (a0 : ByteArray) (a1 : Int) (a2 : TRect) (a3 : (List TCond)) : Bool := Fop2 q (TCond.mk 2 a0 a1 a2 a3)
set_option maxRecDepth 100000 in
theorem pevS2 (m : Nat) (n : Nat) (K : TAsked → TCond → Bool) (q : TAsked) (a0 : ByteArray) (a1 : Int) (a2 : TRect) (a3 : (List TCond)) (hK : ∀ (q : TAsked) (c : TCond), AskOk q → CondOk n c → Pure Try.prog 35 [.one opsMap, .agg ((askedC (LL (m))) q), .agg ((condC (LL (n))) c)] (.av (.one (.b (K q c))))) (hq : AskOk q) (hxs : LsOk n a3) : Pure Try.prog 35 [.one (opsMap), .agg ((askedC (LL (m))) q), .agg [.i 2, .s a0, .i a1, .i a2.X0, .i a2.Y0, .i a2.X1, .i a2.Y1, lst 8 (condC (LL (n))) a3]] (.av (.one (.b (FevS2 K q a0 a1 a2 a3)))) := by
  refine pure_of_awF Try.func35 rfl (by kernel_rfl) (by kernel_rfl) fun W0 M0 => ?_
  have hl := hxs.1
  refine aw_seq ?_
  refine aw_region eqok [] [] [] [3, 4, 5] [3, 4, 5] [] ⟨[(3, tP 3 0), (4, tP 4 0), (5, tP 5 0)], [(3, .cells [opsMap] 87), (4, .cells ((askedC (LL (m))) q) 90), (5, .cells [.i 2, .s a0, .i a1, .i a2.X0, .i a2.Y0, .i a2.X1, .i a2.Y1, lst 8 (condC (LL (n))) a3] 58)]⟩ .nil (by kernel_rfl) .nil ?_
  refine ath_n ?_
  refine aw_seq ?_
  refine aw_region eqok [] [] [] [3, 4, 5, 7] [3, 4, 5, 7] [] ⟨[(3, tP 3 0), (4, tP 4 0), (5, tP 5 0), (7, tP 7 0)], [(3, .cells [opsMap] 87), (4, .cells ((askedC (LL (m))) q) 90), (5, .cells [.i 2, .s a0, .i a1, .i a2.X0, .i a2.Y0, .i a2.X1, .i a2.Y1, lst 8 (condC (LL (n))) a3] 58), (7, .cells [.clo 64 2 (listF [.ptr 3 0, .ptr 4 0])] 119)]⟩ .nil (by kernel_rfl) .nil ?_
  refine ath_n ?_
  refine aw_seq ?_
  refine aw_seq ?_
  refine aw_region eqok [] [] [] [3, 4, 5, 7, 12] [3, 4, 5, 7] [] ⟨[(3, tP 3 0), (4, tP 4 0), (5, tP 5 0), (7, tP 7 0), (12, tI 2)], [(3, .cells [opsMap] 87), (4, .cells ((askedC (LL (m))) q) 90), (5, .cells [.i 2, .s a0, .i a1, .i a2.X0, .i a2.Y0, .i a2.X1, .i a2.Y1, lst 8 (condC (LL (n))) a3] 58), (7, .cells [.clo 64 2 (listF [.ptr 3 0, .ptr 4 0])] 119)]⟩ .nil (by kernel_rfl) .nil ?_
  refine ath_n ?_
  refine aw_block ?_
  refine aw_seq ?_
  refine aw_region eqok [] [] [] [3, 4, 5, 7, 12, 13] [3, 4, 5, 7] [] ⟨[(3, tP 3 0), (4, tP 4 0), (5, tP 5 0), (7, tP 7 0), (12, tI 2), (13, tB false)], [(3, .cells [opsMap] 87), (4, .cells ((askedC (LL (m))) q) 90), (5, .cells [.i 2, .s a0, .i a1, .i a2.X0, .i a2.Y0, .i a2.X1, .i a2.Y1, lst 8 (condC (LL (n))) a3] 58), (7, .cells [.clo 64 2 (listF [.ptr 3 0, .ptr 4 0])] 119)]⟩ .nil (by kernel_rfl) .nil ?_
  refine ath_n ?_
  refine aw_cond_f (by kernel_rfl) ?_
  refine aw_seq ?_
  refine aw_region eqok [] [] [] [3, 4, 5, 7, 12, 28] [3, 4, 5, 7] [] ⟨[(3, tP 3 0), (4, tP 4 0), (5, tP 5 0), (7, tP 7 0), (12, tI 2), (28, tB false)], [(3, .cells [opsMap] 87), (4, .cells ((askedC (LL (m))) q) 90), (5, .cells [.i 2, .s a0, .i a1, .i a2.X0, .i a2.Y0, .i a2.X1, .i a2.Y1, lst 8 (condC (LL (n))) a3] 58), (7, .cells [.clo 64 2 (listF [.ptr 3 0, .ptr 4 0])] 119)]⟩ .nil (by kernel_rfl) .nil ?_
  refine ath_n ?_
  refine aw_cond_f (by kernel_rfl) ?_
  refine aw_seq ?_
  refine aw_region eqok [] [] [] [3, 4, 5, 7, 34] [3, 4, 5, 7] [] ⟨[(3, tP 3 0), (4, tP 4 0), (5, tP 5 0), (7, tP 7 0), (34, tB false)], [(3, .cells [opsMap] 87), (4, .cells ((askedC (LL (m))) q) 90), (5, .cells [.i 2, .s a0, .i a1, .i a2.X0, .i a2.Y0, .i a2.X1, .i a2.Y1, lst 8 (condC (LL (n))) a3] 58), (7, .cells [.clo 64 2 (listF [.ptr 3 0, .ptr 4 0])] 119)]⟩ .nil (by kernel_rfl) .nil ?_
  refine ath_n ?_
  refine aw_cond_f (by kernel_rfl) ?_
  refine aw_skip ?_
  refine abl_n ?_
  refine ath_n ?_
  refine aw_seq ?_
  refine aw_region eqok [] [(45, (true, 1))] [] [4, 5, 8, 9] [4, 5, 8] [LookOk (.int .i64) 7 opsK (.int .i64 2) true 1] ⟨[(4, tP 4 0), (5, tP 5 0), (8, tP 8 0), (9, tB true)], [(4, .cells ((askedC (LL (m))) q) 90), (5, .cells [.i 2, .s a0, .i a1, .i a2.X0, .i a2.Y0, .i a2.X1, .i a2.Y1, lst 8 (condC (LL (n))) a3] 58), (8, .cells [.clo 52 0 (fun _ => default)] 114)]⟩ .nil (by kernel_rfl) (.cons (ops_at 1 (by decide) (by rfl)) .nil) ?_
  refine ath_n ?_
  refine aw_seq ?_
  refine aw_region eqok [] [] [(54, (wevS2_0 m q a0 a1 a2 n a3))] [6] [] [((true) = true) → ((true) = true), ((true) = true) → ((true) = true), ((true) = true) → ((true) = true), ((true) = true) → ((true) = true), ((true) = true) → (Same (wevS2_0 m q a0 a1 a2 n a3).2.1), (true) = true → ((true) = true)] ⟨[(6, tB (Fop2 q (TCond.mk 2 a0 a1 a2 a3)))], []⟩ (.cons (callOk_pure (fun _ _ => by kernel_rfl) fun _ => pop2 m (n + 1) q (TCond.mk 2 a0 a1 a2 a3) (by first | assumption | decide | omega | (simp only [List.length_cons, List.length_nil, List.length_append]; omega))) .nil) (by kernel_rfl) (.cons id (.cons id (.cons id (.cons id (.cons (fun _ => rfl) (.cons id .nil)))))) ?_
  refine ath_n ?_
  refine aw_ret ?_
  exact ⟨_, Cv.refl _, .inl rfl, .av (.one (.b (Fop2 q (TCond.mk 2 a0 a1 a2 a3)))), by kernel_rfl, tve_eq (by rfl)⟩
def wevS3_0 (m : Nat) (q : TAsked) (a0 : ByteArray) (a1 : Int) (a2 : TRect) (n : Nat) (a3 : (List TCond)) : FuncId × List Av × Ef := (53, [.agg ((askedC (LL (m))) q), .agg [.i 3, .s a0, .i a1, .i a2.X0, .i a2.Y0, .i a2.X1, .i a2.Y1, lst 8 (condC (LL (n))) a3]], .val [] (tB (Fop3 q (TCond.mk 3 a0 a1 a2 a3))))
def FevS3 (K : TAsked → TCond → Bool) (q : TAsked) (a0 : ByteArray) (a1 : Int) (a2 : TRect) (a3 : (List TCond)) : Bool := Fop3 q (TCond.mk 3 a0 a1 a2 a3)
set_option maxRecDepth 100000 in
theorem pevS3 (m : Nat) (n : Nat) (K : TAsked → TCond → Bool) (q : TAsked) (a0 : ByteArray) (a1 : Int) (a2 : TRect) (a3 : (List TCond)) (hK : ∀ (q : TAsked) (c : TCond), AskOk q → CondOk n c → Pure Try.prog 35 [.one opsMap, .agg ((askedC (LL (m))) q), .agg ((condC (LL (n))) c)] (.av (.one (.b (K q c))))) (hq : AskOk q) (hxs : LsOk n a3) : Pure Try.prog 35 [.one (opsMap), .agg ((askedC (LL (m))) q), .agg [.i 3, .s a0, .i a1, .i a2.X0, .i a2.Y0, .i a2.X1, .i a2.Y1, lst 8 (condC (LL (n))) a3]] (.av (.one (.b (FevS3 K q a0 a1 a2 a3)))) := by
  refine pure_of_awF Try.func35 rfl (by kernel_rfl) (by kernel_rfl) fun W0 M0 => ?_
  have hl := hxs.1
  refine aw_seq ?_
  refine aw_region eqok [] [] [] [3, 4, 5] [3, 4, 5] [] ⟨[(3, tP 3 0), (4, tP 4 0), (5, tP 5 0)], [(3, .cells [opsMap] 87), (4, .cells ((askedC (LL (m))) q) 90), (5, .cells [.i 3, .s a0, .i a1, .i a2.X0, .i a2.Y0, .i a2.X1, .i a2.Y1, lst 8 (condC (LL (n))) a3] 58)]⟩ .nil (by kernel_rfl) .nil ?_
  refine ath_n ?_
  refine aw_seq ?_
  refine aw_region eqok [] [] [] [3, 4, 5, 7] [3, 4, 5, 7] [] ⟨[(3, tP 3 0), (4, tP 4 0), (5, tP 5 0), (7, tP 7 0)], [(3, .cells [opsMap] 87), (4, .cells ((askedC (LL (m))) q) 90), (5, .cells [.i 3, .s a0, .i a1, .i a2.X0, .i a2.Y0, .i a2.X1, .i a2.Y1, lst 8 (condC (LL (n))) a3] 58), (7, .cells [.clo 64 2 (listF [.ptr 3 0, .ptr 4 0])] 119)]⟩ .nil (by kernel_rfl) .nil ?_
  refine ath_n ?_
  refine aw_seq ?_
  refine aw_seq ?_
  refine aw_region eqok [] [] [] [3, 4, 5, 7, 12] [3, 4, 5, 7] [] ⟨[(3, tP 3 0), (4, tP 4 0), (5, tP 5 0), (7, tP 7 0), (12, tI 3)], [(3, .cells [opsMap] 87), (4, .cells ((askedC (LL (m))) q) 90), (5, .cells [.i 3, .s a0, .i a1, .i a2.X0, .i a2.Y0, .i a2.X1, .i a2.Y1, lst 8 (condC (LL (n))) a3] 58), (7, .cells [.clo 64 2 (listF [.ptr 3 0, .ptr 4 0])] 119)]⟩ .nil (by kernel_rfl) .nil ?_
  refine ath_n ?_
  refine aw_block ?_
  refine aw_seq ?_
  refine aw_region eqok [] [] [] [3, 4, 5, 7, 12, 13] [3, 4, 5, 7] [] ⟨[(3, tP 3 0), (4, tP 4 0), (5, tP 5 0), (7, tP 7 0), (12, tI 3), (13, tB false)], [(3, .cells [opsMap] 87), (4, .cells ((askedC (LL (m))) q) 90), (5, .cells [.i 3, .s a0, .i a1, .i a2.X0, .i a2.Y0, .i a2.X1, .i a2.Y1, lst 8 (condC (LL (n))) a3] 58), (7, .cells [.clo 64 2 (listF [.ptr 3 0, .ptr 4 0])] 119)]⟩ .nil (by kernel_rfl) .nil ?_
  refine ath_n ?_
  refine aw_cond_f (by kernel_rfl) ?_
  refine aw_seq ?_
  refine aw_region eqok [] [] [] [3, 4, 5, 7, 12, 28] [3, 4, 5, 7] [] ⟨[(3, tP 3 0), (4, tP 4 0), (5, tP 5 0), (7, tP 7 0), (12, tI 3), (28, tB false)], [(3, .cells [opsMap] 87), (4, .cells ((askedC (LL (m))) q) 90), (5, .cells [.i 3, .s a0, .i a1, .i a2.X0, .i a2.Y0, .i a2.X1, .i a2.Y1, lst 8 (condC (LL (n))) a3] 58), (7, .cells [.clo 64 2 (listF [.ptr 3 0, .ptr 4 0])] 119)]⟩ .nil (by kernel_rfl) .nil ?_
  refine ath_n ?_
  refine aw_cond_f (by kernel_rfl) ?_
  refine aw_seq ?_
  refine aw_region eqok [] [] [] [3, 4, 5, 7, 34] [3, 4, 5, 7] [] ⟨[(3, tP 3 0), (4, tP 4 0), (5, tP 5 0), (7, tP 7 0), (34, tB false)], [(3, .cells [opsMap] 87), (4, .cells ((askedC (LL (m))) q) 90), (5, .cells [.i 3, .s a0, .i a1, .i a2.X0, .i a2.Y0, .i a2.X1, .i a2.Y1, lst 8 (condC (LL (n))) a3] 58), (7, .cells [.clo 64 2 (listF [.ptr 3 0, .ptr 4 0])] 119)]⟩ .nil (by kernel_rfl) .nil ?_
  refine ath_n ?_
  refine aw_cond_f (by kernel_rfl) ?_
  refine aw_skip ?_
  refine abl_n ?_
  refine ath_n ?_
  refine aw_seq ?_
  refine aw_region eqok [] [(45, (true, 2))] [] [4, 5, 8, 9] [4, 5, 8] [LookOk (.int .i64) 7 opsK (.int .i64 3) true 2] ⟨[(4, tP 4 0), (5, tP 5 0), (8, tP 8 0), (9, tB true)], [(4, .cells ((askedC (LL (m))) q) 90), (5, .cells [.i 3, .s a0, .i a1, .i a2.X0, .i a2.Y0, .i a2.X1, .i a2.Y1, lst 8 (condC (LL (n))) a3] 58), (8, .cells [.clo 53 0 (fun _ => default)] 114)]⟩ .nil (by kernel_rfl) (.cons (ops_at 2 (by decide) (by rfl)) .nil) ?_
  refine ath_n ?_
  refine aw_seq ?_
  refine aw_region eqok [] [] [(54, (wevS3_0 m q a0 a1 a2 n a3))] [6] [] [((true) = true) → ((true) = true), ((true) = true) → ((true) = true), ((true) = true) → ((true) = true), ((true) = true) → ((true) = true), ((true) = true) → (Same (wevS3_0 m q a0 a1 a2 n a3).2.1), (true) = true → ((true) = true)] ⟨[(6, tB (Fop3 q (TCond.mk 3 a0 a1 a2 a3)))], []⟩ (.cons (callOk_pure (fun _ _ => by kernel_rfl) fun _ => pop3 m (n + 1) q (TCond.mk 3 a0 a1 a2 a3) (by first | assumption | decide | omega | (simp only [List.length_cons, List.length_nil, List.length_append]; omega))) .nil) (by kernel_rfl) (.cons id (.cons id (.cons id (.cons id (.cons (fun _ => rfl) (.cons id .nil)))))) ?_
  refine ath_n ?_
  refine aw_ret ?_
  exact ⟨_, Cv.refl _, .inl rfl, .av (.one (.b (Fop3 q (TCond.mk 3 a0 a1 a2 a3)))), by kernel_rfl, tve_eq (by rfl)⟩
def wevS4_0 (m : Nat) (q : TAsked) (a0 : ByteArray) (a1 : Int) (a2 : TRect) (n : Nat) (a3 : (List TCond)) : FuncId × List Av × Ef := (57, [.agg ((askedC (LL (m))) q), .agg [.i 4, .s a0, .i a1, .i a2.X0, .i a2.Y0, .i a2.X1, .i a2.Y1, lst 8 (condC (LL (n))) a3]], .val [] (tB (Fop4 q (TCond.mk 4 a0 a1 a2 a3))))
def FevS4 (K : TAsked → TCond → Bool) (q : TAsked) (a0 : ByteArray) (a1 : Int) (a2 : TRect) (a3 : (List TCond)) : Bool := Fop4 q (TCond.mk 4 a0 a1 a2 a3)
set_option maxRecDepth 100000 in
theorem pevS4 (m : Nat) (n : Nat) (K : TAsked → TCond → Bool) (q : TAsked) (a0 : ByteArray) (a1 : Int) (a2 : TRect) (a3 : (List TCond)) (hK : ∀ (q : TAsked) (c : TCond), AskOk q → CondOk n c → Pure Try.prog 35 [.one opsMap, .agg ((askedC (LL (m))) q), .agg ((condC (LL (n))) c)] (.av (.one (.b (K q c))))) (hq : AskOk q) (hxs : LsOk n a3) : Pure Try.prog 35 [.one (opsMap), .agg ((askedC (LL (m))) q), .agg [.i 4, .s a0, .i a1, .i a2.X0, .i a2.Y0, .i a2.X1, .i a2.Y1, lst 8 (condC (LL (n))) a3]] (.av (.one (.b (FevS4 K q a0 a1 a2 a3)))) := by
  refine pure_of_awF Try.func35 rfl (by kernel_rfl) (by kernel_rfl) fun W0 M0 => ?_
  have hl := hxs.1
  refine aw_seq ?_
  refine aw_region eqok [] [] [] [3, 4, 5] [3, 4, 5] [] ⟨[(3, tP 3 0), (4, tP 4 0), (5, tP 5 0)], [(3, .cells [opsMap] 87), (4, .cells ((askedC (LL (m))) q) 90), (5, .cells [.i 4, .s a0, .i a1, .i a2.X0, .i a2.Y0, .i a2.X1, .i a2.Y1, lst 8 (condC (LL (n))) a3] 58)]⟩ .nil (by kernel_rfl) .nil ?_
  refine ath_n ?_
  refine aw_seq ?_
  refine aw_region eqok [] [] [] [3, 4, 5, 7] [3, 4, 5, 7] [] ⟨[(3, tP 3 0), (4, tP 4 0), (5, tP 5 0), (7, tP 7 0)], [(3, .cells [opsMap] 87), (4, .cells ((askedC (LL (m))) q) 90), (5, .cells [.i 4, .s a0, .i a1, .i a2.X0, .i a2.Y0, .i a2.X1, .i a2.Y1, lst 8 (condC (LL (n))) a3] 58), (7, .cells [.clo 64 2 (listF [.ptr 3 0, .ptr 4 0])] 119)]⟩ .nil (by kernel_rfl) .nil ?_
  refine ath_n ?_
  refine aw_seq ?_
  refine aw_seq ?_
  refine aw_region eqok [] [] [] [3, 4, 5, 7, 12] [3, 4, 5, 7] [] ⟨[(3, tP 3 0), (4, tP 4 0), (5, tP 5 0), (7, tP 7 0), (12, tI 4)], [(3, .cells [opsMap] 87), (4, .cells ((askedC (LL (m))) q) 90), (5, .cells [.i 4, .s a0, .i a1, .i a2.X0, .i a2.Y0, .i a2.X1, .i a2.Y1, lst 8 (condC (LL (n))) a3] 58), (7, .cells [.clo 64 2 (listF [.ptr 3 0, .ptr 4 0])] 119)]⟩ .nil (by kernel_rfl) .nil ?_
  refine ath_n ?_
  refine aw_block ?_
  refine aw_seq ?_
  refine aw_region eqok [] [] [] [3, 4, 5, 7, 12, 13] [3, 4, 5, 7] [] ⟨[(3, tP 3 0), (4, tP 4 0), (5, tP 5 0), (7, tP 7 0), (12, tI 4), (13, tB false)], [(3, .cells [opsMap] 87), (4, .cells ((askedC (LL (m))) q) 90), (5, .cells [.i 4, .s a0, .i a1, .i a2.X0, .i a2.Y0, .i a2.X1, .i a2.Y1, lst 8 (condC (LL (n))) a3] 58), (7, .cells [.clo 64 2 (listF [.ptr 3 0, .ptr 4 0])] 119)]⟩ .nil (by kernel_rfl) .nil ?_
  refine ath_n ?_
  refine aw_cond_f (by kernel_rfl) ?_
  refine aw_seq ?_
  refine aw_region eqok [] [] [] [3, 4, 5, 7, 12, 28] [3, 4, 5, 7] [] ⟨[(3, tP 3 0), (4, tP 4 0), (5, tP 5 0), (7, tP 7 0), (12, tI 4), (28, tB false)], [(3, .cells [opsMap] 87), (4, .cells ((askedC (LL (m))) q) 90), (5, .cells [.i 4, .s a0, .i a1, .i a2.X0, .i a2.Y0, .i a2.X1, .i a2.Y1, lst 8 (condC (LL (n))) a3] 58), (7, .cells [.clo 64 2 (listF [.ptr 3 0, .ptr 4 0])] 119)]⟩ .nil (by kernel_rfl) .nil ?_
  refine ath_n ?_
  refine aw_cond_f (by kernel_rfl) ?_
  refine aw_seq ?_
  refine aw_region eqok [] [] [] [3, 4, 5, 7, 34] [3, 4, 5, 7] [] ⟨[(3, tP 3 0), (4, tP 4 0), (5, tP 5 0), (7, tP 7 0), (34, tB false)], [(3, .cells [opsMap] 87), (4, .cells ((askedC (LL (m))) q) 90), (5, .cells [.i 4, .s a0, .i a1, .i a2.X0, .i a2.Y0, .i a2.X1, .i a2.Y1, lst 8 (condC (LL (n))) a3] 58), (7, .cells [.clo 64 2 (listF [.ptr 3 0, .ptr 4 0])] 119)]⟩ .nil (by kernel_rfl) .nil ?_
  refine ath_n ?_
  refine aw_cond_f (by kernel_rfl) ?_
  refine aw_skip ?_
  refine abl_n ?_
  refine ath_n ?_
  refine aw_seq ?_
  refine aw_region eqok [] [(45, (true, 3))] [] [4, 5, 8, 9] [4, 5, 8] [LookOk (.int .i64) 7 opsK (.int .i64 4) true 3] ⟨[(4, tP 4 0), (5, tP 5 0), (8, tP 8 0), (9, tB true)], [(4, .cells ((askedC (LL (m))) q) 90), (5, .cells [.i 4, .s a0, .i a1, .i a2.X0, .i a2.Y0, .i a2.X1, .i a2.Y1, lst 8 (condC (LL (n))) a3] 58), (8, .cells [.clo 57 0 (fun _ => default)] 114)]⟩ .nil (by kernel_rfl) (.cons (ops_at 3 (by decide) (by rfl)) .nil) ?_
  refine ath_n ?_
  refine aw_seq ?_
  refine aw_region eqok [] [] [(54, (wevS4_0 m q a0 a1 a2 n a3))] [6] [] [((true) = true) → ((true) = true), ((true) = true) → ((true) = true), ((true) = true) → ((true) = true), ((true) = true) → ((true) = true), ((true) = true) → (Same (wevS4_0 m q a0 a1 a2 n a3).2.1), (true) = true → ((true) = true)] ⟨[(6, tB (Fop4 q (TCond.mk 4 a0 a1 a2 a3)))], []⟩ (.cons (callOk_pure (fun _ _ => by kernel_rfl) fun _ => pop4 m (n + 1) q (TCond.mk 4 a0 a1 a2 a3) (by first | assumption | decide | omega | (simp only [List.length_cons, List.length_nil, List.length_append]; omega))) .nil) (by kernel_rfl) (.cons id (.cons id (.cons id (.cons id (.cons (fun _ => rfl) (.cons id .nil)))))) ?_
  refine ath_n ?_
  refine aw_ret ?_
  exact ⟨_, Cv.refl _, .inl rfl, .av (.one (.b (Fop4 q (TCond.mk 4 a0 a1 a2 a3)))), by kernel_rfl, tve_eq (by rfl)⟩
def wevS5_0 (m : Nat) (q : TAsked) (a0 : ByteArray) (a1 : Int) (a2 : TRect) (n : Nat) (a3 : (List TCond)) : FuncId × List Av × Ef := (58, [.agg ((askedC (LL (m))) q), .agg [.i 5, .s a0, .i a1, .i a2.X0, .i a2.Y0, .i a2.X1, .i a2.Y1, lst 8 (condC (LL (n))) a3]], .val [] (tB (Fop5 q (TCond.mk 5 a0 a1 a2 a3))))
def FevS5 (K : TAsked → TCond → Bool) (q : TAsked) (a0 : ByteArray) (a1 : Int) (a2 : TRect) (a3 : (List TCond)) : Bool := Fop5 q (TCond.mk 5 a0 a1 a2 a3)
set_option maxRecDepth 100000 in
theorem pevS5 (m : Nat) (n : Nat) (K : TAsked → TCond → Bool) (q : TAsked) (a0 : ByteArray) (a1 : Int) (a2 : TRect) (a3 : (List TCond)) (hK : ∀ (q : TAsked) (c : TCond), AskOk q → CondOk n c → Pure Try.prog 35 [.one opsMap, .agg ((askedC (LL (m))) q), .agg ((condC (LL (n))) c)] (.av (.one (.b (K q c))))) (hq : AskOk q) (hxs : LsOk n a3) : Pure Try.prog 35 [.one (opsMap), .agg ((askedC (LL (m))) q), .agg [.i 5, .s a0, .i a1, .i a2.X0, .i a2.Y0, .i a2.X1, .i a2.Y1, lst 8 (condC (LL (n))) a3]] (.av (.one (.b (FevS5 K q a0 a1 a2 a3)))) := by
  refine pure_of_awF Try.func35 rfl (by kernel_rfl) (by kernel_rfl) fun W0 M0 => ?_
  have hl := hxs.1
  refine aw_seq ?_
  refine aw_region eqok [] [] [] [3, 4, 5] [3, 4, 5] [] ⟨[(3, tP 3 0), (4, tP 4 0), (5, tP 5 0)], [(3, .cells [opsMap] 87), (4, .cells ((askedC (LL (m))) q) 90), (5, .cells [.i 5, .s a0, .i a1, .i a2.X0, .i a2.Y0, .i a2.X1, .i a2.Y1, lst 8 (condC (LL (n))) a3] 58)]⟩ .nil (by kernel_rfl) .nil ?_
  refine ath_n ?_
  refine aw_seq ?_
  refine aw_region eqok [] [] [] [3, 4, 5, 7] [3, 4, 5, 7] [] ⟨[(3, tP 3 0), (4, tP 4 0), (5, tP 5 0), (7, tP 7 0)], [(3, .cells [opsMap] 87), (4, .cells ((askedC (LL (m))) q) 90), (5, .cells [.i 5, .s a0, .i a1, .i a2.X0, .i a2.Y0, .i a2.X1, .i a2.Y1, lst 8 (condC (LL (n))) a3] 58), (7, .cells [.clo 64 2 (listF [.ptr 3 0, .ptr 4 0])] 119)]⟩ .nil (by kernel_rfl) .nil ?_
  refine ath_n ?_
  refine aw_seq ?_
  refine aw_seq ?_
  refine aw_region eqok [] [] [] [3, 4, 5, 7, 12] [3, 4, 5, 7] [] ⟨[(3, tP 3 0), (4, tP 4 0), (5, tP 5 0), (7, tP 7 0), (12, tI 5)], [(3, .cells [opsMap] 87), (4, .cells ((askedC (LL (m))) q) 90), (5, .cells [.i 5, .s a0, .i a1, .i a2.X0, .i a2.Y0, .i a2.X1, .i a2.Y1, lst 8 (condC (LL (n))) a3] 58), (7, .cells [.clo 64 2 (listF [.ptr 3 0, .ptr 4 0])] 119)]⟩ .nil (by kernel_rfl) .nil ?_
  refine ath_n ?_
  refine aw_block ?_
  refine aw_seq ?_
  refine aw_region eqok [] [] [] [3, 4, 5, 7, 12, 13] [3, 4, 5, 7] [] ⟨[(3, tP 3 0), (4, tP 4 0), (5, tP 5 0), (7, tP 7 0), (12, tI 5), (13, tB false)], [(3, .cells [opsMap] 87), (4, .cells ((askedC (LL (m))) q) 90), (5, .cells [.i 5, .s a0, .i a1, .i a2.X0, .i a2.Y0, .i a2.X1, .i a2.Y1, lst 8 (condC (LL (n))) a3] 58), (7, .cells [.clo 64 2 (listF [.ptr 3 0, .ptr 4 0])] 119)]⟩ .nil (by kernel_rfl) .nil ?_
  refine ath_n ?_
  refine aw_cond_f (by kernel_rfl) ?_
  refine aw_seq ?_
  refine aw_region eqok [] [] [] [3, 4, 5, 7, 12, 28] [3, 4, 5, 7] [] ⟨[(3, tP 3 0), (4, tP 4 0), (5, tP 5 0), (7, tP 7 0), (12, tI 5), (28, tB false)], [(3, .cells [opsMap] 87), (4, .cells ((askedC (LL (m))) q) 90), (5, .cells [.i 5, .s a0, .i a1, .i a2.X0, .i a2.Y0, .i a2.X1, .i a2.Y1, lst 8 (condC (LL (n))) a3] 58), (7, .cells [.clo 64 2 (listF [.ptr 3 0, .ptr 4 0])] 119)]⟩ .nil (by kernel_rfl) .nil ?_
  refine ath_n ?_
  refine aw_cond_f (by kernel_rfl) ?_
  refine aw_seq ?_
  refine aw_region eqok [] [] [] [3, 4, 5, 7, 34] [3, 4, 5, 7] [] ⟨[(3, tP 3 0), (4, tP 4 0), (5, tP 5 0), (7, tP 7 0), (34, tB false)], [(3, .cells [opsMap] 87), (4, .cells ((askedC (LL (m))) q) 90), (5, .cells [.i 5, .s a0, .i a1, .i a2.X0, .i a2.Y0, .i a2.X1, .i a2.Y1, lst 8 (condC (LL (n))) a3] 58), (7, .cells [.clo 64 2 (listF [.ptr 3 0, .ptr 4 0])] 119)]⟩ .nil (by kernel_rfl) .nil ?_
  refine ath_n ?_
  refine aw_cond_f (by kernel_rfl) ?_
  refine aw_skip ?_
  refine abl_n ?_
  refine ath_n ?_
  refine aw_seq ?_
  refine aw_region eqok [] [(45, (true, 4))] [] [4, 5, 8, 9] [4, 5, 8] [LookOk (.int .i64) 7 opsK (.int .i64 5) true 4] ⟨[(4, tP 4 0), (5, tP 5 0), (8, tP 8 0), (9, tB true)], [(4, .cells ((askedC (LL (m))) q) 90), (5, .cells [.i 5, .s a0, .i a1, .i a2.X0, .i a2.Y0, .i a2.X1, .i a2.Y1, lst 8 (condC (LL (n))) a3] 58), (8, .cells [.clo 58 0 (fun _ => default)] 114)]⟩ .nil (by kernel_rfl) (.cons (ops_at 4 (by decide) (by rfl)) .nil) ?_
  refine ath_n ?_
  refine aw_seq ?_
  refine aw_region eqok [] [] [(54, (wevS5_0 m q a0 a1 a2 n a3))] [6] [] [((true) = true) → ((true) = true), ((true) = true) → ((true) = true), ((true) = true) → ((true) = true), ((true) = true) → ((true) = true), ((true) = true) → (Same (wevS5_0 m q a0 a1 a2 n a3).2.1), (true) = true → ((true) = true)] ⟨[(6, tB (Fop5 q (TCond.mk 5 a0 a1 a2 a3)))], []⟩ (.cons (callOk_pure (fun _ _ => by kernel_rfl) fun _ => pop5 m (n + 1) q (TCond.mk 5 a0 a1 a2 a3) (by first | assumption | decide | omega | (simp only [List.length_cons, List.length_nil, List.length_append]; omega))) .nil) (by kernel_rfl) (.cons id (.cons id (.cons id (.cons id (.cons (fun _ => rfl) (.cons id .nil)))))) ?_
  refine ath_n ?_
  refine aw_ret ?_
  exact ⟨_, Cv.refl _, .inl rfl, .av (.one (.b (Fop5 q (TCond.mk 5 a0 a1 a2 a3)))), by kernel_rfl, tve_eq (by rfl)⟩
def wevS6_0 (m : Nat) (q : TAsked) (a0 : ByteArray) (a1 : Int) (a2 : TRect) (n : Nat) (a3 : (List TCond)) : FuncId × List Av × Ef := (59, [.agg ((askedC (LL (m))) q), .agg [.i 6, .s a0, .i a1, .i a2.X0, .i a2.Y0, .i a2.X1, .i a2.Y1, lst 8 (condC (LL (n))) a3]], .val [] (tB (Fop6 q (TCond.mk 6 a0 a1 a2 a3))))
def FevS6 (K : TAsked → TCond → Bool) (q : TAsked) (a0 : ByteArray) (a1 : Int) (a2 : TRect) (a3 : (List TCond)) : Bool := Fop6 q (TCond.mk 6 a0 a1 a2 a3)
set_option maxRecDepth 100000 in
theorem pevS6 (m : Nat) (n : Nat) (K : TAsked → TCond → Bool) (q : TAsked) (a0 : ByteArray) (a1 : Int) (a2 : TRect) (a3 : (List TCond)) (hK : ∀ (q : TAsked) (c : TCond), AskOk q → CondOk n c → Pure Try.prog 35 [.one opsMap, .agg ((askedC (LL (m))) q), .agg ((condC (LL (n))) c)] (.av (.one (.b (K q c))))) (hq : AskOk q) (hxs : LsOk n a3) : Pure Try.prog 35 [.one (opsMap), .agg ((askedC (LL (m))) q), .agg [.i 6, .s a0, .i a1, .i a2.X0, .i a2.Y0, .i a2.X1, .i a2.Y1, lst 8 (condC (LL (n))) a3]] (.av (.one (.b (FevS6 K q a0 a1 a2 a3)))) := by
  refine pure_of_awF Try.func35 rfl (by kernel_rfl) (by kernel_rfl) fun W0 M0 => ?_
  have hl := hxs.1
  refine aw_seq ?_
  refine aw_region eqok [] [] [] [3, 4, 5] [3, 4, 5] [] ⟨[(3, tP 3 0), (4, tP 4 0), (5, tP 5 0)], [(3, .cells [opsMap] 87), (4, .cells ((askedC (LL (m))) q) 90), (5, .cells [.i 6, .s a0, .i a1, .i a2.X0, .i a2.Y0, .i a2.X1, .i a2.Y1, lst 8 (condC (LL (n))) a3] 58)]⟩ .nil (by kernel_rfl) .nil ?_
  refine ath_n ?_
  refine aw_seq ?_
  refine aw_region eqok [] [] [] [3, 4, 5, 7] [3, 4, 5, 7] [] ⟨[(3, tP 3 0), (4, tP 4 0), (5, tP 5 0), (7, tP 7 0)], [(3, .cells [opsMap] 87), (4, .cells ((askedC (LL (m))) q) 90), (5, .cells [.i 6, .s a0, .i a1, .i a2.X0, .i a2.Y0, .i a2.X1, .i a2.Y1, lst 8 (condC (LL (n))) a3] 58), (7, .cells [.clo 64 2 (listF [.ptr 3 0, .ptr 4 0])] 119)]⟩ .nil (by kernel_rfl) .nil ?_
  refine ath_n ?_
  refine aw_seq ?_
  refine aw_seq ?_
  refine aw_region eqok [] [] [] [3, 4, 5, 7, 12] [3, 4, 5, 7] [] ⟨[(3, tP 3 0), (4, tP 4 0), (5, tP 5 0), (7, tP 7 0), (12, tI 6)], [(3, .cells [opsMap] 87), (4, .cells ((askedC (LL (m))) q) 90), (5, .cells [.i 6, .s a0, .i a1, .i a2.X0, .i a2.Y0, .i a2.X1, .i a2.Y1, lst 8 (condC (LL (n))) a3] 58), (7, .cells [.clo 64 2 (listF [.ptr 3 0, .ptr 4 0])] 119)]⟩ .nil (by kernel_rfl) .nil ?_
  refine ath_n ?_
  refine aw_block ?_
  refine aw_seq ?_
  refine aw_region eqok [] [] [] [3, 4, 5, 7, 12, 13] [3, 4, 5, 7] [] ⟨[(3, tP 3 0), (4, tP 4 0), (5, tP 5 0), (7, tP 7 0), (12, tI 6), (13, tB false)], [(3, .cells [opsMap] 87), (4, .cells ((askedC (LL (m))) q) 90), (5, .cells [.i 6, .s a0, .i a1, .i a2.X0, .i a2.Y0, .i a2.X1, .i a2.Y1, lst 8 (condC (LL (n))) a3] 58), (7, .cells [.clo 64 2 (listF [.ptr 3 0, .ptr 4 0])] 119)]⟩ .nil (by kernel_rfl) .nil ?_
  refine ath_n ?_
  refine aw_cond_f (by kernel_rfl) ?_
  refine aw_seq ?_
  refine aw_region eqok [] [] [] [3, 4, 5, 7, 12, 28] [3, 4, 5, 7] [] ⟨[(3, tP 3 0), (4, tP 4 0), (5, tP 5 0), (7, tP 7 0), (12, tI 6), (28, tB false)], [(3, .cells [opsMap] 87), (4, .cells ((askedC (LL (m))) q) 90), (5, .cells [.i 6, .s a0, .i a1, .i a2.X0, .i a2.Y0, .i a2.X1, .i a2.Y1, lst 8 (condC (LL (n))) a3] 58), (7, .cells [.clo 64 2 (listF [.ptr 3 0, .ptr 4 0])] 119)]⟩ .nil (by kernel_rfl) .nil ?_
  refine ath_n ?_
  refine aw_cond_f (by kernel_rfl) ?_
  refine aw_seq ?_
  refine aw_region eqok [] [] [] [3, 4, 5, 7, 34] [3, 4, 5, 7] [] ⟨[(3, tP 3 0), (4, tP 4 0), (5, tP 5 0), (7, tP 7 0), (34, tB false)], [(3, .cells [opsMap] 87), (4, .cells ((askedC (LL (m))) q) 90), (5, .cells [.i 6, .s a0, .i a1, .i a2.X0, .i a2.Y0, .i a2.X1, .i a2.Y1, lst 8 (condC (LL (n))) a3] 58), (7, .cells [.clo 64 2 (listF [.ptr 3 0, .ptr 4 0])] 119)]⟩ .nil (by kernel_rfl) .nil ?_
  refine ath_n ?_
  refine aw_cond_f (by kernel_rfl) ?_
  refine aw_skip ?_
  refine abl_n ?_
  refine ath_n ?_
  refine aw_seq ?_
  refine aw_region eqok [] [(45, (true, 5))] [] [4, 5, 8, 9] [4, 5, 8] [LookOk (.int .i64) 7 opsK (.int .i64 6) true 5] ⟨[(4, tP 4 0), (5, tP 5 0), (8, tP 8 0), (9, tB true)], [(4, .cells ((askedC (LL (m))) q) 90), (5, .cells [.i 6, .s a0, .i a1, .i a2.X0, .i a2.Y0, .i a2.X1, .i a2.Y1, lst 8 (condC (LL (n))) a3] 58), (8, .cells [.clo 59 0 (fun _ => default)] 114)]⟩ .nil (by kernel_rfl) (.cons (ops_at 5 (by decide) (by rfl)) .nil) ?_
  refine ath_n ?_
  refine aw_seq ?_
  refine aw_region eqok [] [] [(54, (wevS6_0 m q a0 a1 a2 n a3))] [6] [] [((true) = true) → ((true) = true), ((true) = true) → ((true) = true), ((true) = true) → ((true) = true), ((true) = true) → ((true) = true), ((true) = true) → (Same (wevS6_0 m q a0 a1 a2 n a3).2.1), (true) = true → ((true) = true)] ⟨[(6, tB (Fop6 q (TCond.mk 6 a0 a1 a2 a3)))], []⟩ (.cons (callOk_pure (fun _ _ => by kernel_rfl) fun _ => pop6 m (n + 1) q (TCond.mk 6 a0 a1 a2 a3) (by first | assumption | decide | omega | (simp only [List.length_cons, List.length_nil, List.length_append]; omega))) .nil) (by kernel_rfl) (.cons id (.cons id (.cons id (.cons id (.cons (fun _ => rfl) (.cons id .nil)))))) ?_
  refine ath_n ?_
  refine aw_ret ?_
  exact ⟨_, Cv.refl _, .inl rfl, .av (.one (.b (Fop6 q (TCond.mk 6 a0 a1 a2 a3)))), by kernel_rfl, tve_eq (by rfl)⟩
def wevS7_0 (m : Nat) (q : TAsked) (a0 : ByteArray) (a1 : Int) (a2 : TRect) (n : Nat) (a3 : (List TCond)) : FuncId × List Av × Ef := (60, [.agg ((askedC (LL (m))) q), .agg [.i 7, .s a0, .i a1, .i a2.X0, .i a2.Y0, .i a2.X1, .i a2.Y1, lst 8 (condC (LL (n))) a3]], .val [] (tB (Fop7 q (TCond.mk 7 a0 a1 a2 a3))))
def FevS7 (K : TAsked → TCond → Bool) (q : TAsked) (a0 : ByteArray) (a1 : Int) (a2 : TRect) (a3 : (List TCond)) : Bool := Fop7 q (TCond.mk 7 a0 a1 a2 a3)
set_option maxRecDepth 100000 in
theorem pevS7 (m : Nat) (n : Nat) (K : TAsked → TCond → Bool) (q : TAsked) (a0 : ByteArray) (a1 : Int) (a2 : TRect) (a3 : (List TCond)) (hK : ∀ (q : TAsked) (c : TCond), AskOk q → CondOk n c → Pure Try.prog 35 [.one opsMap, .agg ((askedC (LL (m))) q), .agg ((condC (LL (n))) c)] (.av (.one (.b (K q c))))) (hq : AskOk q) (hxs : LsOk n a3) : Pure Try.prog 35 [.one (opsMap), .agg ((askedC (LL (m))) q), .agg [.i 7, .s a0, .i a1, .i a2.X0, .i a2.Y0, .i a2.X1, .i a2.Y1, lst 8 (condC (LL (n))) a3]] (.av (.one (.b (FevS7 K q a0 a1 a2 a3)))) := by
  refine pure_of_awF Try.func35 rfl (by kernel_rfl) (by kernel_rfl) fun W0 M0 => ?_
  have hl := hxs.1
  refine aw_seq ?_
  refine aw_region eqok [] [] [] [3, 4, 5] [3, 4, 5] [] ⟨[(3, tP 3 0), (4, tP 4 0), (5, tP 5 0)], [(3, .cells [opsMap] 87), (4, .cells ((askedC (LL (m))) q) 90), (5, .cells [.i 7, .s a0, .i a1, .i a2.X0, .i a2.Y0, .i a2.X1, .i a2.Y1, lst 8 (condC (LL (n))) a3] 58)]⟩ .nil (by kernel_rfl) .nil ?_
  refine ath_n ?_
  refine aw_seq ?_
  refine aw_region eqok [] [] [] [3, 4, 5, 7] [3, 4, 5, 7] [] ⟨[(3, tP 3 0), (4, tP 4 0), (5, tP 5 0), (7, tP 7 0)], [(3, .cells [opsMap] 87), (4, .cells ((askedC (LL (m))) q) 90), (5, .cells [.i 7, .s a0, .i a1, .i a2.X0, .i a2.Y0, .i a2.X1, .i a2.Y1, lst 8 (condC (LL (n))) a3] 58), (7, .cells [.clo 64 2 (listF [.ptr 3 0, .ptr 4 0])] 119)]⟩ .nil (by kernel_rfl) .nil ?_
  refine ath_n ?_
  refine aw_seq ?_
  refine aw_seq ?_
  refine aw_region eqok [] [] [] [3, 4, 5, 7, 12] [3, 4, 5, 7] [] ⟨[(3, tP 3 0), (4, tP 4 0), (5, tP 5 0), (7, tP 7 0), (12, tI 7)], [(3, .cells [opsMap] 87), (4, .cells ((askedC (LL (m))) q) 90), (5, .cells [.i 7, .s a0, .i a1, .i a2.X0, .i a2.Y0, .i a2.X1, .i a2.Y1, lst 8 (condC (LL (n))) a3] 58), (7, .cells [.clo 64 2 (listF [.ptr 3 0, .ptr 4 0])] 119)]⟩ .nil (by kernel_rfl) .nil ?_
  refine ath_n ?_
  refine aw_block ?_
  refine aw_seq ?_
  refine aw_region eqok [] [] [] [3, 4, 5, 7, 12, 13] [3, 4, 5, 7] [] ⟨[(3, tP 3 0), (4, tP 4 0), (5, tP 5 0), (7, tP 7 0), (12, tI 7), (13, tB false)], [(3, .cells [opsMap] 87), (4, .cells ((askedC (LL (m))) q) 90), (5, .cells [.i 7, .s a0, .i a1, .i a2.X0, .i a2.Y0, .i a2.X1, .i a2.Y1, lst 8 (condC (LL (n))) a3] 58), (7, .cells [.clo 64 2 (listF [.ptr 3 0, .ptr 4 0])] 119)]⟩ .nil (by kernel_rfl) .nil ?_
  refine ath_n ?_
  refine aw_cond_f (by kernel_rfl) ?_
  refine aw_seq ?_
  refine aw_region eqok [] [] [] [3, 4, 5, 7, 12, 28] [3, 4, 5, 7] [] ⟨[(3, tP 3 0), (4, tP 4 0), (5, tP 5 0), (7, tP 7 0), (12, tI 7), (28, tB false)], [(3, .cells [opsMap] 87), (4, .cells ((askedC (LL (m))) q) 90), (5, .cells [.i 7, .s a0, .i a1, .i a2.X0, .i a2.Y0, .i a2.X1, .i a2.Y1, lst 8 (condC (LL (n))) a3] 58), (7, .cells [.clo 64 2 (listF [.ptr 3 0, .ptr 4 0])] 119)]⟩ .nil (by kernel_rfl) .nil ?_
  refine ath_n ?_
  refine aw_cond_f (by kernel_rfl) ?_
  refine aw_seq ?_
  refine aw_region eqok [] [] [] [3, 4, 5, 7, 34] [3, 4, 5, 7] [] ⟨[(3, tP 3 0), (4, tP 4 0), (5, tP 5 0), (7, tP 7 0), (34, tB false)], [(3, .cells [opsMap] 87), (4, .cells ((askedC (LL (m))) q) 90), (5, .cells [.i 7, .s a0, .i a1, .i a2.X0, .i a2.Y0, .i a2.X1, .i a2.Y1, lst 8 (condC (LL (n))) a3] 58), (7, .cells [.clo 64 2 (listF [.ptr 3 0, .ptr 4 0])] 119)]⟩ .nil (by kernel_rfl) .nil ?_
  refine ath_n ?_
  refine aw_cond_f (by kernel_rfl) ?_
  refine aw_skip ?_
  refine abl_n ?_
  refine ath_n ?_
  refine aw_seq ?_
  refine aw_region eqok [] [(45, (true, 6))] [] [4, 5, 8, 9] [4, 5, 8] [LookOk (.int .i64) 7 opsK (.int .i64 7) true 6] ⟨[(4, tP 4 0), (5, tP 5 0), (8, tP 8 0), (9, tB true)], [(4, .cells ((askedC (LL (m))) q) 90), (5, .cells [.i 7, .s a0, .i a1, .i a2.X0, .i a2.Y0, .i a2.X1, .i a2.Y1, lst 8 (condC (LL (n))) a3] 58), (8, .cells [.clo 60 0 (fun _ => default)] 114)]⟩ .nil (by kernel_rfl) (.cons (ops_at 6 (by decide) (by rfl)) .nil) ?_
  refine ath_n ?_
  refine aw_seq ?_
  refine aw_region eqok [] [] [(54, (wevS7_0 m q a0 a1 a2 n a3))] [6] [] [((true) = true) → ((true) = true), ((true) = true) → ((true) = true), ((true) = true) → ((true) = true), ((true) = true) → ((true) = true), ((true) = true) → (Same (wevS7_0 m q a0 a1 a2 n a3).2.1), (true) = true → ((true) = true)] ⟨[(6, tB (Fop7 q (TCond.mk 7 a0 a1 a2 a3)))], []⟩ (.cons (callOk_pure (fun _ _ => by kernel_rfl) fun _ => pop7 m (n + 1) q (TCond.mk 7 a0 a1 a2 a3) (by first | assumption | decide | omega | (simp only [List.length_cons, List.length_nil, List.length_append]; omega))) .nil) (by kernel_rfl) (.cons id (.cons id (.cons id (.cons id (.cons (fun _ => rfl) (.cons id .nil)))))) ?_
  refine ath_n ?_
  refine aw_ret ?_
  exact ⟨_, Cv.refl _, .inl rfl, .av (.one (.b (Fop7 q (TCond.mk 7 a0 a1 a2 a3)))), by kernel_rfl, tve_eq (by rfl)⟩
def wevS8_0 (n : Nat) (a3 : (List TCond)) (m : Nat) (q : TAsked) (K : TAsked → TCond → Bool) : FuncId × List Av × Ef := (64, [.agg ((condC (LL (n))) (a3.getD 0 default)), .one (.ptr 3 0), .one (.ptr 4 0)], rdI [3, 4] [.cells [opsMap] 87, .cells ((askedC (LL (m))) q) 90] (tB (Fev1 K (a3.getD 0 default) q)))
def FevS8 (K : TAsked → TCond → Bool) (q : TAsked) (a0 : ByteArray) (a1 : Int) (a2 : TRect) (a3 : (List TCond)) : Bool := bif decide ((((a3.length : Int)) : Int) = 1) then !(Fev1 K (a3.getD 0 default) q) else false
set_option maxRecDepth 100000 in
theorem pevS8 (m : Nat) (n : Nat) (K : TAsked → TCond → Bool) (q : TAsked) (a0 : ByteArray) (a1 : Int) (a2 : TRect) (a3 : (List TCond)) (hK : ∀ (q : TAsked) (c : TCond), AskOk q → CondOk n c → Pure Try.prog 35 [.one opsMap, .agg ((askedC (LL (m))) q), .agg ((condC (LL (n))) c)] (.av (.one (.b (K q c))))) (hq : AskOk q) (hxs : LsOk n a3) : Pure Try.prog 35 [.one (opsMap), .agg ((askedC (LL (m))) q), .agg [.i 8, .s a0, .i a1, .i a2.X0, .i a2.Y0, .i a2.X1, .i a2.Y1, lst 8 (condC (LL (n))) a3]] (.av (.one (.b (FevS8 K q a0 a1 a2 a3)))) := by
  refine pure_of_awF Try.func35 rfl (by kernel_rfl) (by kernel_rfl) fun W0 M0 => ?_
  have hl := hxs.1
  refine aw_seq ?_
  refine aw_region eqok [] [] [] [3, 4, 5] [3, 4, 5] [] ⟨[(3, tP 3 0), (4, tP 4 0), (5, tP 5 0)], [(3, .cells [opsMap] 87), (4, .cells ((askedC (LL (m))) q) 90), (5, .cells [.i 8, .s a0, .i a1, .i a2.X0, .i a2.Y0, .i a2.X1, .i a2.Y1, lst 8 (condC (LL (n))) a3] 58)]⟩ .nil (by kernel_rfl) .nil ?_
  refine ath_n ?_
  refine aw_seq ?_
  refine aw_region eqok [] [] [] [3, 4, 5, 7] [3, 4, 5, 7] [] ⟨[(3, tP 3 0), (4, tP 4 0), (5, tP 5 0), (7, tP 7 0)], [(3, .cells [opsMap] 87), (4, .cells ((askedC (LL (m))) q) 90), (5, .cells [.i 8, .s a0, .i a1, .i a2.X0, .i a2.Y0, .i a2.X1, .i a2.Y1, lst 8 (condC (LL (n))) a3] 58), (7, .cells [.clo 64 2 (listF [.ptr 3 0, .ptr 4 0])] 119)]⟩ .nil (by kernel_rfl) .nil ?_
  refine ath_n ?_
  refine aw_seq ?_
  refine aw_seq ?_
  refine aw_region eqok [] [] [] [3, 4, 5, 7, 12] [3, 4, 5, 7] [] ⟨[(3, tP 3 0), (4, tP 4 0), (5, tP 5 0), (7, tP 7 0), (12, tI 8)], [(3, .cells [opsMap] 87), (4, .cells ((askedC (LL (m))) q) 90), (5, .cells [.i 8, .s a0, .i a1, .i a2.X0, .i a2.Y0, .i a2.X1, .i a2.Y1, lst 8 (condC (LL (n))) a3] 58), (7, .cells [.clo 64 2 (listF [.ptr 3 0, .ptr 4 0])] 119)]⟩ .nil (by kernel_rfl) .nil ?_
  refine ath_n ?_
  refine aw_block ?_
  refine aw_seq ?_
  refine aw_region eqok [] [] [] [3, 4, 5, 7, 12, 13] [3, 4, 5, 7] [] ⟨[(3, tP 3 0), (4, tP 4 0), (5, tP 5 0), (7, tP 7 0), (12, tI 8), (13, tB true)], [(3, .cells [opsMap] 87), (4, .cells ((askedC (LL (m))) q) 90), (5, .cells [.i 8, .s a0, .i a1, .i a2.X0, .i a2.Y0, .i a2.X1, .i a2.Y1, lst 8 (condC (LL (n))) a3] 58), (7, .cells [.clo 64 2 (listF [.ptr 3 0, .ptr 4 0])] 119)]⟩ .nil (by kernel_rfl) .nil ?_
  refine ath_n ?_
  refine aw_cond_t (by kernel_rfl) ?_
  refine aw_seq ?_
  refine aw_draw mixed eqok [] [] [(25, (wevS8_0 n a3 m q K))] [6] [] [((decide ((((a3.length : Int)) : Int) = 1)) = true) → ((decide ((((a3.length : Int)) : Int) = 1)) = true), ((decide ((((a3.length : Int)) : Int) = 1)) = true) → ((decide ((((a3.length : Int)) : Int) = 1)) = true), ((decide ((((a3.length : Int)) : Int) = 1)) = true) → (0 ≤ (0 : Int) ∧ (0 : Int) < ((a3.length : Nat) : Int)), ((decide ((((a3.length : Int)) : Int) = 1)) = true) → ((decide ((((a3.length : Int)) : Int) = 1)) = true), ((decide ((((a3.length : Int)) : Int) = 1)) = true) → ((decide ((((a3.length : Int)) : Int) = 1)) = true), ((decide ((((a3.length : Int)) : Int) = 1)) = true) → ((decide ((((a3.length : Int)) : Int) = 1)) = true), ((decide ((((a3.length : Int)) : Int) = 1)) = true) → (Same (wevS8_0 n a3 m q K).2.1), ((decide ((((a3.length : Int)) : Int) = 1)) = true) → (SameBs [.cells [opsMap] 87, .cells ((askedC (LL (m))) q) 90]), ((decide ((((a3.length : Int)) : Int) = 1)) = true) → ((decide ((((a3.length : Int)) : Int) = 1)) = true), (decide ((((a3.length : Int)) : Int) = 1)) = true → ((decide ((((a3.length : Int)) : Int) = 1)) = true)] ⟨[(6, tB (bif decide ((((a3.length : Int)) : Int) = 1) then !(Fev1 K (a3.getD 0 default) q) else false))], []⟩ (.cons (callOk_rd (fun _ _ => by kernel_rfl) (by kernel_rfl) (by kernel_rfl) (pure_ce (pev1 m n K (a3.getD 0 default) q (by assumption) (by assumption) (by first | assumption | exact hxs.2 _)) (.cons (AvE.refl _) (.cons (AvE.refl _) (.cons (AvE.refl _) .nil))))) .nil) (by kernel_rfl) (by kernel_rfl) (.cons id (.cons id (.cons (fun hG => by first | exact (by first | decide | omega | exact idx_tmod (by first | omega | (simp only [W64_def]; omega)) (by omega) | (simp only [W64_def]; omega) | (constructor <;> omega) | (simp only [List.length_append, List.length_cons, List.length_nil]; omega) | (simp only [List.length_append, List.length_cons, List.length_nil, List.length_drop, List.length_take] at *; omega)) | (simp only [decide_eq_true_eq, decide_eq_false_iff_not, Bool.not_eq_true, Bool.and_eq_true] at hG <;> omega) | (simp at hG <;> omega)) (.cons id (.cons id (.cons id (.cons (fun _ => rfl) (.cons (fun _ => rfl) (.cons id (.cons id .nil)))))))))) ?_
  refine ath_n ?_
  refine aw_ret ?_
  refine abl_r ?_
  refine ath_r ?_
  exact ⟨_, Cv.refl _, .inl rfl, .av (.one (.b (bif decide ((((a3.length : Int)) : Int) = 1) then !(Fev1 K (a3.getD 0 default) q) else false))), by kernel_rfl, tve_eq (by rfl)⟩
def wevS9_0 (n : Nat) (a3 : (List TCond)) (m : Nat) (q : TAsked) (K : TAsked → TCond → Bool) : FuncId × List Av × Ef := (65, [.one (lst 8 (condC (LL (n))) a3), .one (.clo 66 1 (listF [.ptr 7 0]))], rdI [7] [.cells [.clo 64 2 (listF [.eptr 1 1 (fun _ j => ([opsMap] : List Cl).getD j default) 0 0, .eptr 25 1 (fun _ j => (((askedC (LL (m))) q) : List Cl).getD j default) 0 0])] 119] (tB (FcoEb K a3 q)))
def FevS9 (K : TAsked → TCond → Bool) (q : TAsked) (a0 : ByteArray) (a1 : Int) (a2 : TRect) (a3 : (List TCond)) : Bool := !(FcoEb K a3 q)
set_option maxRecDepth 100000 in
theorem pevS9 (m : Nat) (n : Nat) (K : TAsked → TCond → Bool) (q : TAsked) (a0 : ByteArray) (a1 : Int) (a2 : TRect) (a3 : (List TCond)) (hK : ∀ (q : TAsked) (c : TCond), AskOk q → CondOk n c → Pure Try.prog 35 [.one opsMap, .agg ((askedC (LL (m))) q), .agg ((condC (LL (n))) c)] (.av (.one (.b (K q c))))) (hq : AskOk q) (hxs : LsOk n a3) : Pure Try.prog 35 [.one (opsMap), .agg ((askedC (LL (m))) q), .agg [.i 9, .s a0, .i a1, .i a2.X0, .i a2.Y0, .i a2.X1, .i a2.Y1, lst 8 (condC (LL (n))) a3]] (.av (.one (.b (FevS9 K q a0 a1 a2 a3)))) := by
  refine pure_of_awF Try.func35 rfl (by kernel_rfl) (by kernel_rfl) fun W0 M0 => ?_
  have hl := hxs.1
  refine aw_seq ?_
  refine aw_region eqok [] [] [] [3, 4, 5] [3, 4, 5] [] ⟨[(3, tP 3 0), (4, tP 4 0), (5, tP 5 0)], [(3, .cells [opsMap] 87), (4, .cells ((askedC (LL (m))) q) 90), (5, .cells [.i 9, .s a0, .i a1, .i a2.X0, .i a2.Y0, .i a2.X1, .i a2.Y1, lst 8 (condC (LL (n))) a3] 58)]⟩ .nil (by kernel_rfl) .nil ?_
  refine ath_n ?_
  refine aw_seq ?_
  refine aw_region eqok [] [] [] [3, 4, 5, 7] [3, 4, 5, 7] [] ⟨[(3, tP 3 0), (4, tP 4 0), (5, tP 5 0), (7, tP 7 0)], [(3, .cells [opsMap] 87), (4, .cells ((askedC (LL (m))) q) 90), (5, .cells [.i 9, .s a0, .i a1, .i a2.X0, .i a2.Y0, .i a2.X1, .i a2.Y1, lst 8 (condC (LL (n))) a3] 58), (7, .cells [.clo 64 2 (listF [.ptr 3 0, .ptr 4 0])] 119)]⟩ .nil (by kernel_rfl) .nil ?_
  refine ath_n ?_
  refine aw_seq ?_
  refine aw_seq ?_
  refine aw_region eqok [] [] [] [3, 4, 5, 7, 12] [3, 4, 5, 7] [] ⟨[(3, tP 3 0), (4, tP 4 0), (5, tP 5 0), (7, tP 7 0), (12, tI 9)], [(3, .cells [opsMap] 87), (4, .cells ((askedC (LL (m))) q) 90), (5, .cells [.i 9, .s a0, .i a1, .i a2.X0, .i a2.Y0, .i a2.X1, .i a2.Y1, lst 8 (condC (LL (n))) a3] 58), (7, .cells [.clo 64 2 (listF [.ptr 3 0, .ptr 4 0])] 119)]⟩ .nil (by kernel_rfl) .nil ?_
  refine ath_n ?_
  refine aw_block ?_
  refine aw_seq ?_
  refine aw_region eqok [] [] [] [3, 4, 5, 7, 12, 13] [3, 4, 5, 7] [] ⟨[(3, tP 3 0), (4, tP 4 0), (5, tP 5 0), (7, tP 7 0), (12, tI 9), (13, tB false)], [(3, .cells [opsMap] 87), (4, .cells ((askedC (LL (m))) q) 90), (5, .cells [.i 9, .s a0, .i a1, .i a2.X0, .i a2.Y0, .i a2.X1, .i a2.Y1, lst 8 (condC (LL (n))) a3] 58), (7, .cells [.clo 64 2 (listF [.ptr 3 0, .ptr 4 0])] 119)]⟩ .nil (by kernel_rfl) .nil ?_
  refine ath_n ?_
  refine aw_cond_f (by kernel_rfl) ?_
  refine aw_seq ?_
  refine aw_region eqok [] [] [] [3, 4, 5, 7, 12, 28] [3, 4, 5, 7] [] ⟨[(3, tP 3 0), (4, tP 4 0), (5, tP 5 0), (7, tP 7 0), (12, tI 9), (28, tB false)], [(3, .cells [opsMap] 87), (4, .cells ((askedC (LL (m))) q) 90), (5, .cells [.i 9, .s a0, .i a1, .i a2.X0, .i a2.Y0, .i a2.X1, .i a2.Y1, lst 8 (condC (LL (n))) a3] 58), (7, .cells [.clo 64 2 (listF [.ptr 3 0, .ptr 4 0])] 119)]⟩ .nil (by kernel_rfl) .nil ?_
  refine ath_n ?_
  refine aw_cond_f (by kernel_rfl) ?_
  refine aw_seq ?_
  refine aw_region eqok [] [] [] [3, 4, 5, 7, 34] [3, 4, 5, 7] [] ⟨[(3, tP 3 0), (4, tP 4 0), (5, tP 5 0), (7, tP 7 0), (34, tB true)], [(3, .cells [opsMap] 87), (4, .cells ((askedC (LL (m))) q) 90), (5, .cells [.i 9, .s a0, .i a1, .i a2.X0, .i a2.Y0, .i a2.X1, .i a2.Y1, lst 8 (condC (LL (n))) a3] 58), (7, .cells [.clo 64 2 (listF [.ptr 3 0, .ptr 4 0])] 119)]⟩ .nil (by kernel_rfl) .nil ?_
  refine ath_n ?_
  refine aw_cond_t (by kernel_rfl) ?_
  refine aw_seq ?_
  refine aw_cv (Cv.trans (cv_fix (⟨[(3, .av (.one (.eptr 1 1 (fun _ j => ([opsMap] : List Cl).getD j default) 0 0))), (4, tP 4 0), (5, tP 5 0), (7, tP 7 0), (34, tB true)], [(4, .cells ((askedC (LL (m))) q) 90), (5, .cells [.i 9, .s a0, .i a1, .i a2.X0, .i a2.Y0, .i a2.X1, .i a2.Y1, lst 8 (condC (LL (n))) a3] 58), (7, .cells [.clo 64 2 (listF [.eptr 1 1 (fun _ j => ([opsMap] : List Cl).getD j default) 0 0, .ptr 4 0])] 119)]⟩) 3 [opsMap] 87 (K := none) (fun k x h => by cases h) (by kernel_rfl) (by kernel_rfl) (by kernel_rfl) (by kernel_rfl)) (Cv.refl _)) ?_
  refine aw_cv (Cv.trans (cv_fix (⟨[(3, .av (.one (.eptr 1 1 (fun _ j => ([opsMap] : List Cl).getD j default) 0 0))), (4, .av (.one (.eptr 25 1 (fun _ j => (((askedC (LL (m))) q) : List Cl).getD j default) 0 0))), (5, tP 5 0), (7, tP 7 0), (34, tB true)], [(5, .cells [.i 9, .s a0, .i a1, .i a2.X0, .i a2.Y0, .i a2.X1, .i a2.Y1, lst 8 (condC (LL (n))) a3] 58), (7, .cells [.clo 64 2 (listF [.eptr 1 1 (fun _ j => ([opsMap] : List Cl).getD j default) 0 0, .eptr 25 1 (fun _ j => (((askedC (LL (m))) q) : List Cl).getD j default) 0 0])] 119)]⟩) 4 ((askedC (LL (m))) q) 90 (K := none) (fun k x h => by cases h) (by kernel_rfl) (by kernel_rfl) (by kernel_rfl) (by kernel_rfl)) (Cv.refl _)) ?_
  refine aw_region eqok [] [] [(39, (wevS9_0 n a3 m q K))] [6] [] [Same (wevS9_0 n a3 m q K).2.1, SameBs [.cells [.clo 64 2 (listF [.eptr 1 1 (fun _ j => ([opsMap] : List Cl).getD j default) 0 0, .eptr 25 1 (fun _ j => (((askedC (LL (m))) q) : List Cl).getD j default) 0 0])] 119]] ⟨[(6, tB (!(FcoEb K a3 q)))], []⟩ (.cons (callOk_rd (fun _ _ => by kernel_rfl) (by kernel_rfl) (by kernel_rfl) (pure_ce (pcoEb m n K a3 q (by assumption) (by assumption) (by assumption)) (.cons (AvE.refl _) (.cons (.one (.clo 66 1 _ _ (tab_get (by kernel_rfl)))) .nil)))) .nil) (by kernel_rfl) (.cons rfl (.cons rfl .nil)) ?_
  refine ath_n ?_
  refine aw_ret ?_
  refine abl_r ?_
  refine ath_r ?_
  exact ⟨_, Cv.refl _, .inl rfl, .av (.one (.b (!(FcoEb K a3 q)))), by kernel_rfl, tve_eq (by rfl)⟩
def wevS10_0 (n : Nat) (a3 : (List TCond)) (m : Nat) (q : TAsked) (K : TAsked → TCond → Bool) : FuncId × List Av × Ef := (65, [.one (lst 8 (condC (LL (n))) a3), .one (.clo 64 2 (listF [.ptr 3 0, .ptr 4 0]))], rdI [3, 4] [.cells [opsMap] 87, .cells ((askedC (LL (m))) q) 90] (tB (FcoEa K a3 q)))
def FevS10 (K : TAsked → TCond → Bool) (q : TAsked) (a0 : ByteArray) (a1 : Int) (a2 : TRect) (a3 : (List TCond)) : Bool := FcoEa K a3 q
set_option maxRecDepth 100000 in
theorem pevS10 (m : Nat) (n : Nat) (K : TAsked → TCond → Bool) (q : TAsked) (a0 : ByteArray) (a1 : Int) (a2 : TRect) (a3 : (List TCond)) (hK : ∀ (q : TAsked) (c : TCond), AskOk q → CondOk n c → Pure Try.prog 35 [.one opsMap, .agg ((askedC (LL (m))) q), .agg ((condC (LL (n))) c)] (.av (.one (.b (K q c))))) (hq : AskOk q) (hxs : LsOk n a3) : Pure Try.prog 35 [.one (opsMap), .agg ((askedC (LL (m))) q), .agg [.i 10, .s a0, .i a1, .i a2.X0, .i a2.Y0, .i a2.X1, .i a2.Y1, lst 8 (condC (LL (n))) a3]] (.av (.one (.b (FevS10 K q a0 a1 a2 a3)))) := by
  refine pure_of_awF Try.func35 rfl (by kernel_rfl) (by kernel_rfl) fun W0 M0 => ?_
  have hl := hxs.1
  refine aw_seq ?_
  refine aw_region eqok [] [] [] [3, 4, 5] [3, 4, 5] [] ⟨[(3, tP 3 0), (4, tP 4 0), (5, tP 5 0)], [(3, .cells [opsMap] 87), (4, .cells ((askedC (LL (m))) q) 90), (5, .cells [.i 10, .s a0, .i a1, .i a2.X0, .i a2.Y0, .i a2.X1, .i a2.Y1, lst 8 (condC (LL (n))) a3] 58)]⟩ .nil (by kernel_rfl) .nil ?_
  refine ath_n ?_
  refine aw_seq ?_
  refine aw_region eqok [] [] [] [3, 4, 5, 7] [3, 4, 5, 7] [] ⟨[(3, tP 3 0), (4, tP 4 0), (5, tP 5 0), (7, tP 7 0)], [(3, .cells [opsMap] 87), (4, .cells ((askedC (LL (m))) q) 90), (5, .cells [.i 10, .s a0, .i a1, .i a2.X0, .i a2.Y0, .i a2.X1, .i a2.Y1, lst 8 (condC (LL (n))) a3] 58), (7, .cells [.clo 64 2 (listF [.ptr 3 0, .ptr 4 0])] 119)]⟩ .nil (by kernel_rfl) .nil ?_
  refine ath_n ?_
  refine aw_seq ?_
  refine aw_seq ?_
  refine aw_region eqok [] [] [] [3, 4, 5, 7, 12] [3, 4, 5, 7] [] ⟨[(3, tP 3 0), (4, tP 4 0), (5, tP 5 0), (7, tP 7 0), (12, tI 10)], [(3, .cells [opsMap] 87), (4, .cells ((askedC (LL (m))) q) 90), (5, .cells [.i 10, .s a0, .i a1, .i a2.X0, .i a2.Y0, .i a2.X1, .i a2.Y1, lst 8 (condC (LL (n))) a3] 58), (7, .cells [.clo 64 2 (listF [.ptr 3 0, .ptr 4 0])] 119)]⟩ .nil (by kernel_rfl) .nil ?_
  refine ath_n ?_
  refine aw_block ?_
  refine aw_seq ?_
  refine aw_region eqok [] [] [] [3, 4, 5, 7, 12, 13] [3, 4, 5, 7] [] ⟨[(3, tP 3 0), (4, tP 4 0), (5, tP 5 0), (7, tP 7 0), (12, tI 10), (13, tB false)], [(3, .cells [opsMap] 87), (4, .cells ((askedC (LL (m))) q) 90), (5, .cells [.i 10, .s a0, .i a1, .i a2.X0, .i a2.Y0, .i a2.X1, .i a2.Y1, lst 8 (condC (LL (n))) a3] 58), (7, .cells [.clo 64 2 (listF [.ptr 3 0, .ptr 4 0])] 119)]⟩ .nil (by kernel_rfl) .nil ?_
  refine ath_n ?_
  refine aw_cond_f (by kernel_rfl) ?_
  refine aw_seq ?_
  refine aw_region eqok [] [] [] [3, 4, 5, 7, 12, 28] [3, 4, 5, 7] [] ⟨[(3, tP 3 0), (4, tP 4 0), (5, tP 5 0), (7, tP 7 0), (12, tI 10), (28, tB true)], [(3, .cells [opsMap] 87), (4, .cells ((askedC (LL (m))) q) 90), (5, .cells [.i 10, .s a0, .i a1, .i a2.X0, .i a2.Y0, .i a2.X1, .i a2.Y1, lst 8 (condC (LL (n))) a3] 58), (7, .cells [.clo 64 2 (listF [.ptr 3 0, .ptr 4 0])] 119)]⟩ .nil (by kernel_rfl) .nil ?_
  refine ath_n ?_
  refine aw_cond_t (by kernel_rfl) ?_
  refine aw_seq ?_
  refine aw_region eqok [] [] [(33, (wevS10_0 n a3 m q K))] [6] [] [Same (wevS10_0 n a3 m q K).2.1, SameBs [.cells [opsMap] 87, .cells ((askedC (LL (m))) q) 90]] ⟨[(6, tB (FcoEa K a3 q))], []⟩ (.cons (callOk_rd (fun _ _ => by kernel_rfl) (by kernel_rfl) (by kernel_rfl) (pure_ce (pcoEa m n K a3 q (by assumption) (by assumption) (by assumption)) (.cons (AvE.refl _) (.cons (.one (.clo 64 2 _ _ (tab_get (by kernel_rfl)))) .nil)))) .nil) (by kernel_rfl) (.cons rfl (.cons rfl .nil)) ?_
  refine ath_n ?_
  refine aw_ret ?_
  refine abl_r ?_
  refine ath_r ?_
  exact ⟨_, Cv.refl _, .inl rfl, .av (.one (.b (FcoEa K a3 q))), by kernel_rfl, tve_eq (by rfl)⟩
def FevSN (K : TAsked → TCond → Bool) (q : TAsked) (c : TCond) : Bool := false
set_option maxRecDepth 100000 in
theorem pevSN (m : Nat) (n : Nat) (K : TAsked → TCond → Bool) (q : TAsked) (c : TCond) (hK : ∀ (q : TAsked) (c : TCond), AskOk q → CondOk n c → Pure Try.prog 35 [.one opsMap, .agg ((askedC (LL (m))) q), .agg ((condC (LL (n))) c)] (.av (.one (.b (K q c))))) (hq : AskOk q) (k : c.Op < 1 ∨ 10 < c.Op) : Pure Try.prog 35 [.one (opsMap), .agg ((askedC (LL (m))) q), .agg ((condC (LL (n + 1))) c)] (.av (.one (.b (FevSN K q c)))) := by
  refine pure_of_awF Try.func35 rfl (by kernel_rfl) (by kernel_rfl) fun W0 M0 => ?_
  refine aw_seq ?_
  refine aw_region eqok [] [] [] [3, 4, 5] [3, 4, 5] [] ⟨[(3, tP 3 0), (4, tP 4 0), (5, tP 5 0)], [(3, .cells [opsMap] 87), (4, .cells ((askedC (LL (m))) q) 90), (5, .cells ((condC (LL (n + 1))) c) 58)]⟩ .nil (by kernel_rfl) .nil ?_
  refine ath_n ?_
  refine aw_seq ?_
  refine aw_region eqok [] [] [] [3, 4, 5, 7] [3, 4, 5, 7] [] ⟨[(3, tP 3 0), (4, tP 4 0), (5, tP 5 0), (7, tP 7 0)], [(3, .cells [opsMap] 87), (4, .cells ((askedC (LL (m))) q) 90), (5, .cells ((condC (LL (n + 1))) c) 58), (7, .cells [.clo 64 2 (listF [.ptr 3 0, .ptr 4 0])] 119)]⟩ .nil (by kernel_rfl) .nil ?_
  refine ath_n ?_
  refine aw_seq ?_
  refine aw_seq ?_
  refine aw_region eqok [] [] [] [3, 4, 5, 7, 12] [3, 4, 5, 7] [] ⟨[(3, tP 3 0), (4, tP 4 0), (5, tP 5 0), (7, tP 7 0), (12, tI c.Op)], [(3, .cells [opsMap] 87), (4, .cells ((askedC (LL (m))) q) 90), (5, .cells ((condC (LL (n + 1))) c) 58), (7, .cells [.clo 64 2 (listF [.ptr 3 0, .ptr 4 0])] 119)]⟩ .nil (by kernel_rfl) .nil ?_
  refine ath_n ?_
  refine aw_block ?_
  refine aw_seq ?_
  refine aw_region eqok [] [] [] [3, 4, 5, 7, 12, 13] [3, 4, 5, 7] [] ⟨[(3, tP 3 0), (4, tP 4 0), (5, tP 5 0), (7, tP 7 0), (12, tI c.Op), (13, tB (decide ((c.Op : Int) = 8)))], [(3, .cells [opsMap] 87), (4, .cells ((askedC (LL (m))) q) 90), (5, .cells ((condC (LL (n + 1))) c) 58), (7, .cells [.clo 64 2 (listF [.ptr 3 0, .ptr 4 0])] 119)]⟩ .nil (by kernel_rfl) .nil ?_
  refine ath_n ?_
  refine aw_cond (decide ((c.Op : Int) = 8)) (by kernel_rfl) (fun h => absurd ((decide_eq_false (show ¬ c.Op = 8 by omega)).symm.trans h) (by decide)) (fun _ => ?_)
  refine aw_seq ?_
  refine aw_region eqok [] [] [] [3, 4, 5, 7, 12, 28] [3, 4, 5, 7] [] ⟨[(3, tP 3 0), (4, tP 4 0), (5, tP 5 0), (7, tP 7 0), (12, tI c.Op), (28, tB (decide ((c.Op : Int) = 10)))], [(3, .cells [opsMap] 87), (4, .cells ((askedC (LL (m))) q) 90), (5, .cells ((condC (LL (n + 1))) c) 58), (7, .cells [.clo 64 2 (listF [.ptr 3 0, .ptr 4 0])] 119)]⟩ .nil (by kernel_rfl) .nil ?_
  refine ath_n ?_
  refine aw_cond (decide ((c.Op : Int) = 10)) (by kernel_rfl) (fun h => absurd ((decide_eq_false (show ¬ c.Op = 10 by omega)).symm.trans h) (by decide)) (fun _ => ?_)
  refine aw_seq ?_
  refine aw_region eqok [] [] [] [3, 4, 5, 7, 34] [3, 4, 5, 7] [] ⟨[(3, tP 3 0), (4, tP 4 0), (5, tP 5 0), (7, tP 7 0), (34, tB (decide ((c.Op : Int) = 9)))], [(3, .cells [opsMap] 87), (4, .cells ((askedC (LL (m))) q) 90), (5, .cells ((condC (LL (n + 1))) c) 58), (7, .cells [.clo 64 2 (listF [.ptr 3 0, .ptr 4 0])] 119)]⟩ .nil (by kernel_rfl) .nil ?_
  refine ath_n ?_
  refine aw_cond (decide ((c.Op : Int) = 9)) (by kernel_rfl) (fun h => absurd ((decide_eq_false (show ¬ c.Op = 9 by omega)).symm.trans h) (by decide)) (fun _ => ?_)
  refine aw_skip ?_
  refine abl_n ?_
  refine ath_n ?_
  refine aw_seq ?_
  refine aw_region eqok [] [(45, (false, 0))] [] [4, 5, 8, 9] [4, 5, 8] [LookOk (.int .i64) 7 opsK (.int .i64 c.Op) false 0] ⟨[(4, tP 4 0), (5, tP 5 0), (8, tP 8 0), (9, tB false)], [(4, .cells ((askedC (LL (m))) q) 90), (5, .cells ((condC (LL (n + 1))) c) 58), (8, .cells [.val .nilFunc] 114)]⟩ .nil (by kernel_rfl) (.cons (ops_no (by omega)) .nil) ?_
  refine ath_n ?_
  refine aw_seq ?_
  refine aw_region eqok [] [] [] [6] [] [((false) = true) → ((false) = true), ¬ ((false) = true), (false) = true → ((false) = true)] ⟨[(6, tB false)], []⟩ .nil (by kernel_rfl) (.cons id (.cons (by simp) (.cons id .nil))) ?_
  refine ath_n ?_
  refine aw_ret ?_
  exact ⟨_, Cv.refl _, .inl rfl, .av (.one (.b false)), by kernel_rfl, tve_eq (by rfl)⟩
def FevS (K : TAsked → TCond → Bool) (q : TAsked) (c : TCond) : Bool := if c.Op = 1 then FevS1 K q c.Text c.N c.Box c.L else if c.Op = 2 then FevS2 K q c.Text c.N c.Box c.L else if c.Op = 3 then FevS3 K q c.Text c.N c.Box c.L else if c.Op = 4 then FevS4 K q c.Text c.N c.Box c.L else if c.Op = 5 then FevS5 K q c.Text c.N c.Box c.L else if c.Op = 6 then FevS6 K q c.Text c.N c.Box c.L else if c.Op = 7 then FevS7 K q c.Text c.N c.Box c.L else if c.Op = 8 then FevS8 K q c.Text c.N c.Box c.L else if c.Op = 9 then FevS9 K q c.Text c.N c.Box c.L else if c.Op = 10 then FevS10 K q c.Text c.N c.Box c.L else FevSN K q c
theorem pevS (m n : Nat) (K : TAsked → TCond → Bool) (hK : ∀ (q : TAsked) (c : TCond), AskOk q → CondOk n c → Pure Try.prog 35 [.one opsMap, .agg ((askedC (LL (m))) q), .agg ((condC (LL (n))) c)] (.av (.one (.b (K q c))))) (q : TAsked) (c : TCond) (hq : AskOk q) (hc : CondOk (n + 1) c) : Pure Try.prog 35 [.one opsMap, .agg ((askedC (LL (m))) q), .agg ((condC (LL (n + 1))) c)] (.av (.one (.b (FevS K q c)))) := by
  by_cases k : c.Op = 1
  · have hF : FevS K q c = FevS1 K q c.Text c.N c.Box c.L := by unfold FevS; rw [if_pos k]
    rw [hF]; clear hF; obtain ⟨o, a0, a1, a2, a3⟩ := c; have k : o = 1 := k; subst k; exact pevS1 m n K q a0 a1 a2 a3 hK hq hc
  by_cases k : c.Op = 2
  · have hF : FevS K q c = FevS2 K q c.Text c.N c.Box c.L := by unfold FevS; rw [if_neg (show ¬ c.Op = 1 by omega)]; rw [if_pos k]
    rw [hF]; clear hF; obtain ⟨o, a0, a1, a2, a3⟩ := c; have k : o = 2 := k; subst k; exact pevS2 m n K q a0 a1 a2 a3 hK hq hc
  by_cases k : c.Op = 3
  · have hF : FevS K q c = FevS3 K q c.Text c.N c.Box c.L := by unfold FevS; rw [if_neg (show ¬ c.Op = 1 by omega)]; rw [if_neg (show ¬ c.Op = 2 by omega)]; rw [if_pos k]
    rw [hF]; clear hF; obtain ⟨o, a0, a1, a2, a3⟩ := c; have k : o = 3 := k; subst k; exact pevS3 m n K q a0 a1 a2 a3 hK hq hc
  by_cases k : c.Op = 4
  · have hF : FevS K q c = FevS4 K q c.Text c.N c.Box c.L := by unfold FevS; rw [if_neg (show ¬ c.Op = 1 by omega)]; rw [if_neg (show ¬ c.Op = 2 by omega)]; rw [if_neg (show ¬ c.Op = 3 by omega)]; rw [if_pos k]
    rw [hF]; clear hF; obtain ⟨o, a0, a1, a2, a3⟩ := c; have k : o = 4 := k; subst k; exact pevS4 m n K q a0 a1 a2 a3 hK hq hc
  by_cases k : c.Op = 5
  · have hF : FevS K q c = FevS5 K q c.Text c.N c.Box c.L := by unfold FevS; rw [if_neg (show ¬ c.Op = 1 by omega)]; rw [if_neg (show ¬ c.Op = 2 by omega)]; rw [if_neg (show ¬ c.Op = 3 by omega)]; rw [if_neg (show ¬ c.Op = 4 by omega)]; rw [if_pos k]
    rw [hF]; clear hF; obtain ⟨o, a0, a1, a2, a3⟩ := c; have k : o = 5 := k; subst k; exact pevS5 m n K q a0 a1 a2 a3 hK hq hc
  by_cases k : c.Op = 6
  · have hF : FevS K q c = FevS6 K q c.Text c.N c.Box c.L := by unfold FevS; rw [if_neg (show ¬ c.Op = 1 by omega)]; rw [if_neg (show ¬ c.Op = 2 by omega)]; rw [if_neg (show ¬ c.Op = 3 by omega)]; rw [if_neg (show ¬ c.Op = 4 by omega)]; rw [if_neg (show ¬ c.Op = 5 by omega)]; rw [if_pos k]
    rw [hF]; clear hF; obtain ⟨o, a0, a1, a2, a3⟩ := c; have k : o = 6 := k; subst k; exact pevS6 m n K q a0 a1 a2 a3 hK hq hc
  by_cases k : c.Op = 7
  · have hF : FevS K q c = FevS7 K q c.Text c.N c.Box c.L := by unfold FevS; rw [if_neg (show ¬ c.Op = 1 by omega)]; rw [if_neg (show ¬ c.Op = 2 by omega)]; rw [if_neg (show ¬ c.Op = 3 by omega)]; rw [if_neg (show ¬ c.Op = 4 by omega)]; rw [if_neg (show ¬ c.Op = 5 by omega)]; rw [if_neg (show ¬ c.Op = 6 by omega)]; rw [if_pos k]
    rw [hF]; clear hF; obtain ⟨o, a0, a1, a2, a3⟩ := c; have k : o = 7 := k; subst k; exact pevS7 m n K q a0 a1 a2 a3 hK hq hc
  by_cases k : c.Op = 8
  · have hF : FevS K q c = FevS8 K q c.Text c.N c.Box c.L := by unfold FevS; rw [if_neg (show ¬ c.Op = 1 by omega)]; rw [if_neg (show ¬ c.Op = 2 by omega)]; rw [if_neg (show ¬ c.Op = 3 by omega)]; rw [if_neg (show ¬ c.Op = 4 by omega)]; rw [if_neg (show ¬ c.Op = 5 by omega)]; rw [if_neg (show ¬ c.Op = 6 by omega)]; rw [if_neg (show ¬ c.Op = 7 by omega)]; rw [if_pos k]
    rw [hF]; clear hF; obtain ⟨o, a0, a1, a2, a3⟩ := c; have k : o = 8 := k; subst k; exact pevS8 m n K q a0 a1 a2 a3 hK hq hc
  by_cases k : c.Op = 9
  · have hF : FevS K q c = FevS9 K q c.Text c.N c.Box c.L := by unfold FevS; rw [if_neg (show ¬ c.Op = 1 by omega)]; rw [if_neg (show ¬ c.Op = 2 by omega)]; rw [if_neg (show ¬ c.Op = 3 by omega)]; rw [if_neg (show ¬ c.Op = 4 by omega)]; rw [if_neg (show ¬ c.Op = 5 by omega)]; rw [if_neg (show ¬ c.Op = 6 by omega)]; rw [if_neg (show ¬ c.Op = 7 by omega)]; rw [if_neg (show ¬ c.Op = 8 by omega)]; rw [if_pos k]
    rw [hF]; clear hF; obtain ⟨o, a0, a1, a2, a3⟩ := c; have k : o = 9 := k; subst k; exact pevS9 m n K q a0 a1 a2 a3 hK hq hc
  by_cases k : c.Op = 10
  · have hF : FevS K q c = FevS10 K q c.Text c.N c.Box c.L := by unfold FevS; rw [if_neg (show ¬ c.Op = 1 by omega)]; rw [if_neg (show ¬ c.Op = 2 by omega)]; rw [if_neg (show ¬ c.Op = 3 by omega)]; rw [if_neg (show ¬ c.Op = 4 by omega)]; rw [if_neg (show ¬ c.Op = 5 by omega)]; rw [if_neg (show ¬ c.Op = 6 by omega)]; rw [if_neg (show ¬ c.Op = 7 by omega)]; rw [if_neg (show ¬ c.Op = 8 by omega)]; rw [if_neg (show ¬ c.Op = 9 by omega)]; rw [if_pos k]
    rw [hF]; clear hF; obtain ⟨o, a0, a1, a2, a3⟩ := c; have k : o = 10 := k; subst k; exact pevS10 m n K q a0 a1 a2 a3 hK hq hc
  have hN : c.Op < 1 ∨ 10 < c.Op := by omega
  have hF : FevS K q c = FevSN K q c := by unfold FevS; try rw [if_neg (show ¬ c.Op = 1 by omega)]; try rw [if_neg (show ¬ c.Op = 2 by omega)]; try rw [if_neg (show ¬ c.Op = 3 by omega)]; try rw [if_neg (show ¬ c.Op = 4 by omega)]; try rw [if_neg (show ¬ c.Op = 5 by omega)]; try rw [if_neg (show ¬ c.Op = 6 by omega)]; try rw [if_neg (show ¬ c.Op = 7 by omega)]; try rw [if_neg (show ¬ c.Op = 8 by omega)]; try rw [if_neg (show ¬ c.Op = 9 by omega)]; try rw [if_neg (show ¬ c.Op = 10 by omega)]
  rw [hF]; exact pevSN m n K q c hK hq hN
def FixZa (q : TAsked) : Int := (-1)
set_option maxRecDepth 100000 in
theorem pixZa (m : Nat) (q : TAsked) (hq : AskOk q) : Pure Try.prog 77 [.one (.list false 8 0 (fun _ _ => default)), .one (.clo 64 2 (listF [.eptr 1 1 (fun _ j => ([opsMap] : List Cl).getD j default) 0 0, .eptr 25 1 (fun _ j => (((askedC (LL (m))) q) : List Cl).getD j default) 0 0]))] (.av (.one (.i (FixZa q)))) := by
  refine pure_of_awF Try.func77 rfl (by kernel_rfl) (by kernel_rfl) fun W0 M0 => ?_
  refine aw_seq ?_
  refine aw_region eqok [] [] [] [0, 1] [] [] ⟨[(0, .av (.one (.list false 8 0 (fun _ _ => default)))), (1, .av (.one (.clo 64 2 (listF [.eptr 1 1 (fun _ j => ([opsMap] : List Cl).getD j default) 0 0, .eptr 25 1 (fun _ j => (((askedC (LL (m))) q) : List Cl).getD j default) 0 0]))))], []⟩ .nil (by kernel_rfl) .nil ?_
  refine ath_n ?_
  refine aw_seq ?_
  refine aw_seq ?_
  refine aw_region eqok [] [] [] [0, 1, 7, 8] [] [] ⟨[(0, .av (.one (.list false 8 0 (fun _ _ => default)))), (1, .av (.one (.clo 64 2 (listF [.eptr 1 1 (fun _ j => ([opsMap] : List Cl).getD j default) 0 0, .eptr 25 1 (fun _ j => (((askedC (LL (m))) q) : List Cl).getD j default) 0 0])))), (7, tI 0), (8, tI 0)], []⟩ .nil (by kernel_rfl) .nil ?_
  refine ath_n ?_
  refine aw_block ?_
  refine aw_unroll 1 ?_
  refine aw_round ?_
  refine aw_seq ?_
  refine aw_region eqok [] [] [] [0, 1, 7, 8, 9] [] [] ⟨[(0, .av (.one (.list false 8 0 (fun _ _ => default)))), (1, .av (.one (.clo 64 2 (listF [.eptr 1 1 (fun _ j => ([opsMap] : List Cl).getD j default) 0 0, .eptr 25 1 (fun _ j => (((askedC (LL (m))) q) : List Cl).getD j default) 0 0])))), (7, tI 0), (8, tI 0), (9, tB false)], []⟩ .nil (by kernel_rfl) .nil ?_
  refine ath_n ?_
  refine aw_seq ?_
  refine aw_cond_f (by kernel_rfl) ?_
  refine aw_exit ?_
  refine ath_e ?_
  refine ath_e ?_
  refine abl_hit ?_
  refine ath_n ?_
  refine aw_seq ?_
  refine aw_region eqok [] [] [] [4] [] [] ⟨[(4, tI ((-1)))], []⟩ .nil (by kernel_rfl) .nil ?_
  refine ath_n ?_
  refine aw_ret ?_
  exact ⟨_, Cv.refl _, .inl rfl, .av (.one (.i ((-1)))), by kernel_rfl, tve_eq (by rfl)⟩
def wcoZa_0 (m : Nat) (q : TAsked) : FuncId × List Av × Ef := (77, [.one (.list false 8 0 (fun _ _ => default)), .one (.clo 64 2 (listF [.eptr 1 1 (fun _ j => ([opsMap] : List Cl).getD j default) 0 0, .eptr 25 1 (fun _ j => (((askedC (LL (m))) q) : List Cl).getD j default) 0 0]))], .val [] (tI (FixZa q)))
def FcoZa (q : TAsked) : Bool := decide ((0 : Int) ≤ (FixZa q))
set_option maxRecDepth 100000 in
theorem pcoZa (m : Nat) (q : TAsked) (hq : AskOk q) : Pure Try.prog 65 [.one (.list false 8 0 (fun _ _ => default)), .one (.clo 64 2 (listF [.eptr 1 1 (fun _ j => ([opsMap] : List Cl).getD j default) 0 0, .eptr 25 1 (fun _ j => (((askedC (LL (m))) q) : List Cl).getD j default) 0 0]))] (.av (.one (.b (FcoZa q)))) := by
  refine pure_of_awF Try.func65 rfl (by kernel_rfl) (by kernel_rfl) fun W0 M0 => ?_
  refine aw_seq ?_
  refine aw_region eqok [] [] [] [0, 1] [] [] ⟨[(0, .av (.one (.list false 8 0 (fun _ _ => default)))), (1, .av (.one (.clo 64 2 (listF [.eptr 1 1 (fun _ j => ([opsMap] : List Cl).getD j default) 0 0, .eptr 25 1 (fun _ j => (((askedC (LL (m))) q) : List Cl).getD j default) 0 0]))))], []⟩ .nil (by kernel_rfl) .nil ?_
  refine ath_n ?_
  refine aw_seq ?_
  refine aw_region eqok [] [] [(7, (wcoZa_0 m q))] [4] [] [Same (wcoZa_0 m q).2.1] ⟨[(4, tB (decide ((0 : Int) ≤ (FixZa q))))], []⟩ (.cons (callOk_pure (fun _ _ => by kernel_rfl) fun _ => pixZa m q (by first | assumption | decide | omega | (simp only [List.length_cons, List.length_nil, List.length_append]; omega))) .nil) (by kernel_rfl) (.cons rfl .nil) ?_
  refine ath_n ?_
  refine aw_ret ?_
  exact ⟨_, Cv.refl _, .inl rfl, .av (.one (.b (decide ((0 : Int) ≤ (FixZa q))))), by kernel_rfl, tve_eq (by rfl)⟩
def FixZb (q : TAsked) : Int := (-1)
set_option maxRecDepth 100000 in
theorem pixZb (m : Nat) (q : TAsked) (hq : AskOk q) : Pure Try.prog 77 [.one (.list false 8 0 (fun _ _ => default)), .one (.clo 66 1 (listF [.eptr 1 1 (fun _ j => ([.clo 64 2 (listF [.eptr 1 1 (fun _ j => ([opsMap] : List Cl).getD j default) 0 0, .eptr 25 1 (fun _ j => (((askedC (LL (m))) q) : List Cl).getD j default) 0 0])] : List Cl).getD j default) 0 0]))] (.av (.one (.i (FixZb q)))) := by
  refine pure_of_awF Try.func77 rfl (by kernel_rfl) (by kernel_rfl) fun W0 M0 => ?_
  refine aw_seq ?_
  refine aw_region eqok [] [] [] [0, 1] [] [] ⟨[(0, .av (.one (.list false 8 0 (fun _ _ => default)))), (1, .av (.one (.clo 66 1 (listF [.eptr 1 1 (fun _ j => ([.clo 64 2 (listF [.eptr 1 1 (fun _ j => ([opsMap] : List Cl).getD j default) 0 0, .eptr 25 1 (fun _ j => (((askedC (LL (m))) q) : List Cl).getD j default) 0 0])] : List Cl).getD j default) 0 0]))))], []⟩ .nil (by kernel_rfl) .nil ?_
  refine ath_n ?_
  refine aw_seq ?_
  refine aw_seq ?_
  refine aw_region eqok [] [] [] [0, 1, 7, 8] [] [] ⟨[(0, .av (.one (.list false 8 0 (fun _ _ => default)))), (1, .av (.one (.clo 66 1 (listF [.eptr 1 1 (fun _ j => ([.clo 64 2 (listF [.eptr 1 1 (fun _ j => ([opsMap] : List Cl).getD j default) 0 0, .eptr 25 1 (fun _ j => (((askedC (LL (m))) q) : List Cl).getD j default) 0 0])] : List Cl).getD j default) 0 0])))), (7, tI 0), (8, tI 0)], []⟩ .nil (by kernel_rfl) .nil ?_
  refine ath_n ?_
  refine aw_block ?_
  refine aw_unroll 1 ?_
  refine aw_round ?_
  refine aw_seq ?_
  refine aw_region eqok [] [] [] [0, 1, 7, 8, 9] [] [] ⟨[(0, .av (.one (.list false 8 0 (fun _ _ => default)))), (1, .av (.one (.clo 66 1 (listF [.eptr 1 1 (fun _ j => ([.clo 64 2 (listF [.eptr 1 1 (fun _ j => ([opsMap] : List Cl).getD j default) 0 0, .eptr 25 1 (fun _ j => (((askedC (LL (m))) q) : List Cl).getD j default) 0 0])] : List Cl).getD j default) 0 0])))), (7, tI 0), (8, tI 0), (9, tB false)], []⟩ .nil (by kernel_rfl) .nil ?_
  refine ath_n ?_
  refine aw_seq ?_
  refine aw_cond_f (by kernel_rfl) ?_
  refine aw_exit ?_
  refine ath_e ?_
  refine ath_e ?_
  refine abl_hit ?_
  refine ath_n ?_
  refine aw_seq ?_
  refine aw_region eqok [] [] [] [4] [] [] ⟨[(4, tI ((-1)))], []⟩ .nil (by kernel_rfl) .nil ?_
  refine ath_n ?_
  refine aw_ret ?_
  exact ⟨_, Cv.refl _, .inl rfl, .av (.one (.i ((-1)))), by kernel_rfl, tve_eq (by rfl)⟩
def wcoZb_0 (m : Nat) (q : TAsked) : FuncId × List Av × Ef := (77, [.one (.list false 8 0 (fun _ _ => default)), .one (.clo 66 1 (listF [.eptr 1 1 (fun _ j => ([.clo 64 2 (listF [.eptr 1 1 (fun _ j => ([opsMap] : List Cl).getD j default) 0 0, .eptr 25 1 (fun _ j => (((askedC (LL (m))) q) : List Cl).getD j default) 0 0])] : List Cl).getD j default) 0 0]))], .val [] (tI (FixZb q)))
def FcoZb (q : TAsked) : Bool := decide ((0 : Int) ≤ (FixZb q))
set_option maxRecDepth 100000 in
theorem pcoZb (m : Nat) (q : TAsked) (hq : AskOk q) : Pure Try.prog 65 [.one (.list false 8 0 (fun _ _ => default)), .one (.clo 66 1 (listF [.eptr 1 1 (fun _ j => ([.clo 64 2 (listF [.eptr 1 1 (fun _ j => ([opsMap] : List Cl).getD j default) 0 0, .eptr 25 1 (fun _ j => (((askedC (LL (m))) q) : List Cl).getD j default) 0 0])] : List Cl).getD j default) 0 0]))] (.av (.one (.b (FcoZb q)))) := by
  refine pure_of_awF Try.func65 rfl (by kernel_rfl) (by kernel_rfl) fun W0 M0 => ?_
  refine aw_seq ?_
  refine aw_region eqok [] [] [] [0, 1] [] [] ⟨[(0, .av (.one (.list false 8 0 (fun _ _ => default)))), (1, .av (.one (.clo 66 1 (listF [.eptr 1 1 (fun _ j => ([.clo 64 2 (listF [.eptr 1 1 (fun _ j => ([opsMap] : List Cl).getD j default) 0 0, .eptr 25 1 (fun _ j => (((askedC (LL (m))) q) : List Cl).getD j default) 0 0])] : List Cl).getD j default) 0 0]))))], []⟩ .nil (by kernel_rfl) .nil ?_
  refine ath_n ?_
  refine aw_seq ?_
  refine aw_region eqok [] [] [(7, (wcoZb_0 m q))] [4] [] [Same (wcoZb_0 m q).2.1] ⟨[(4, tB (decide ((0 : Int) ≤ (FixZb q))))], []⟩ (.cons (callOk_pure (fun _ _ => by kernel_rfl) fun _ => pixZb m q (by first | assumption | decide | omega | (simp only [List.length_cons, List.length_nil, List.length_append]; omega))) .nil) (by kernel_rfl) (.cons rfl .nil) ?_
  refine ath_n ?_
  refine aw_ret ?_
  exact ⟨_, Cv.refl _, .inl rfl, .av (.one (.b (decide ((0 : Int) ≤ (FixZb q))))), by kernel_rfl, tve_eq (by rfl)⟩
def wevZ1_0 (m : Nat) (q : TAsked) (a0 : ByteArray) (a1 : Int) (a2 : TRect) : FuncId × List Av × Ef := (51, [.agg ((askedC (LL (m))) q), .agg [.i 1, .s a0, .i a1, .i a2.X0, .i a2.Y0, .i a2.X1, .i a2.Y1, .list false 8 0 (fun _ _ => default)]], .val [] (tB (Fop1 q (TCond.mk 1 a0 a1 a2 (([] : List TCond))))))
def wevZ1_1 (q : TAsked) (a0 : ByteArray) (a1 : Int) (a2 : TRect) : Bool := Fop1 q (TCond.mk 1 a0 a1 a2 (([] : List TCond)))
def FevZ1 (q : TAsked) (a0 : ByteArray) (a1 : Int) (a2 : TRect) (a3 : (List TCond)) : Bool := wevZ1_1 q a0 a1 a2
set_option maxRecDepth 100000 in
theorem pevZ1 (m : Nat) (q : TAsked) (a0 : ByteArray) (a1 : Int) (a2 : TRect) (a3 : (List TCond)) (hq : AskOk q) : Pure Try.prog 35 [.one (opsMap), .agg ((askedC (LL (m))) q), .agg [.i 1, .s a0, .i a1, .i a2.X0, .i a2.Y0, .i a2.X1, .i a2.Y1, .list false 8 0 (fun _ _ => default)]] (.av (.one (.b (FevZ1 q a0 a1 a2 a3)))) := by
  refine pure_of_awF Try.func35 rfl (by kernel_rfl) (by kernel_rfl) fun W0 M0 => ?_
  refine aw_seq ?_
  refine aw_region eqok [] [] [] [3, 4, 5] [3, 4, 5] [] ⟨[(3, tP 3 0), (4, tP 4 0), (5, tP 5 0)], [(3, .cells [opsMap] 87), (4, .cells ((askedC (LL (m))) q) 90), (5, .cells [.i 1, .s a0, .i a1, .i a2.X0, .i a2.Y0, .i a2.X1, .i a2.Y1, .list false 8 0 (fun _ _ => default)] 58)]⟩ .nil (by kernel_rfl) .nil ?_
  refine ath_n ?_
  refine aw_seq ?_
  refine aw_region eqok [] [] [] [3, 4, 5, 7] [3, 4, 5, 7] [] ⟨[(3, tP 3 0), (4, tP 4 0), (5, tP 5 0), (7, tP 7 0)], [(3, .cells [opsMap] 87), (4, .cells ((askedC (LL (m))) q) 90), (5, .cells [.i 1, .s a0, .i a1, .i a2.X0, .i a2.Y0, .i a2.X1, .i a2.Y1, .list false 8 0 (fun _ _ => default)] 58), (7, .cells [.clo 64 2 (listF [.ptr 3 0, .ptr 4 0])] 119)]⟩ .nil (by kernel_rfl) .nil ?_
  refine ath_n ?_
  refine aw_seq ?_
  refine aw_seq ?_
  refine aw_region eqok [] [] [] [3, 4, 5, 7, 12] [3, 4, 5, 7] [] ⟨[(3, tP 3 0), (4, tP 4 0), (5, tP 5 0), (7, tP 7 0), (12, tI 1)], [(3, .cells [opsMap] 87), (4, .cells ((askedC (LL (m))) q) 90), (5, .cells [.i 1, .s a0, .i a1, .i a2.X0, .i a2.Y0, .i a2.X1, .i a2.Y1, .list false 8 0 (fun _ _ => default)] 58), (7, .cells [.clo 64 2 (listF [.ptr 3 0, .ptr 4 0])] 119)]⟩ .nil (by kernel_rfl) .nil ?_
  refine ath_n ?_
  refine aw_block ?_
  refine aw_seq ?_
  refine aw_region eqok [] [] [] [3, 4, 5, 7, 12, 13] [3, 4, 5, 7] [] ⟨[(3, tP 3 0), (4, tP 4 0), (5, tP 5 0), (7, tP 7 0), (12, tI 1), (13, tB false)], [(3, .cells [opsMap] 87), (4, .cells ((askedC (LL (m))) q) 90), (5, .cells [.i 1, .s a0, .i a1, .i a2.X0, .i a2.Y0, .i a2.X1, .i a2.Y1, .list false 8 0 (fun _ _ => default)] 58), (7, .cells [.clo 64 2 (listF [.ptr 3 0, .ptr 4 0])] 119)]⟩ .nil (by kernel_rfl) .nil ?_
  refine ath_n ?_
  refine aw_cond_f (by kernel_rfl) ?_
  refine aw_seq ?_
  refine aw_region eqok [] [] [] [3, 4, 5, 7, 12, 28] [3, 4, 5, 7] [] ⟨[(3, tP 3 0), (4, tP 4 0), (5, tP 5 0), (7, tP 7 0), (12, tI 1), (28, tB false)], [(3, .cells [opsMap] 87), (4, .cells ((askedC (LL (m))) q) 90), (5, .cells [.i 1, .s a0, .i a1, .i a2.X0, .i a2.Y0, .i a2.X1, .i a2.Y1, .list false 8 0 (fun _ _ => default)] 58), (7, .cells [.clo 64 2 (listF [.ptr 3 0, .ptr 4 0])] 119)]⟩ .nil (by kernel_rfl) .nil ?_
  refine ath_n ?_
  refine aw_cond_f (by kernel_rfl) ?_
  refine aw_seq ?_
  refine aw_region eqok [] [] [] [3, 4, 5, 7, 34] [3, 4, 5, 7] [] ⟨[(3, tP 3 0), (4, tP 4 0), (5, tP 5 0), (7, tP 7 0), (34, tB false)], [(3, .cells [opsMap] 87), (4, .cells ((askedC (LL (m))) q) 90), (5, .cells [.i 1, .s a0, .i a1, .i a2.X0, .i a2.Y0, .i a2.X1, .i a2.Y1, .list false 8 0 (fun _ _ => default)] 58), (7, .cells [.clo 64 2 (listF [.ptr 3 0, .ptr 4 0])] 119)]⟩ .nil (by kernel_rfl) .nil ?_
  refine ath_n ?_
  refine aw_cond_f (by kernel_rfl) ?_
  refine aw_skip ?_
  refine abl_n ?_
  refine ath_n ?_
  refine aw_seq ?_
  refine aw_region eqok [] [(45, (true, 0))] [] [4, 5, 8, 9] [4, 5, 8] [LookOk (.int .i64) 7 opsK (.int .i64 1) true 0] ⟨[(4, tP 4 0), (5, tP 5 0), (8, tP 8 0), (9, tB true)], [(4, .cells ((askedC (LL (m))) q) 90), (5, .cells [.i 1, .s a0, .i a1, .i a2.X0, .i a2.Y0, .i a2.X1, .i a2.Y1, .list false 8 0 (fun _ _ => default)] 58), (8, .cells [.clo 51 0 (fun _ => default)] 114)]⟩ .nil (by kernel_rfl) (.cons (ops_at 0 (by decide) (by rfl)) .nil) ?_
  refine ath_n ?_
  refine aw_seq ?_
  refine aw_region eqok [] [] [(54, (wevZ1_0 m q a0 a1 a2))] [6] [] [((true) = true) → ((true) = true), ((true) = true) → ((true) = true), ((true) = true) → ((true) = true), ((true) = true) → ((true) = true), ((true) = true) → (Same (wevZ1_0 m q a0 a1 a2).2.1), (true) = true → ((true) = true)] ⟨[(6, tB (wevZ1_1 q a0 a1 a2))], []⟩ (.cons (callOk_ce (callOk_pure (fun _ _ => by kernel_rfl) fun _ => pop1 m 3 q (TCond.mk 1 a0 a1 a2 (([] : List TCond))) (by first | assumption | decide | omega | (simp only [List.length_cons, List.length_nil, List.length_append]; omega))) (.cons (AvE.refl _) (.cons (.agg (.cons (.refl _) (.cons (.refl _) (.cons (.refl _) (.cons (.refl _) (.cons (.refl _) (.cons (.refl _) (.cons (.refl _) (.cons (cle_told false (told_lit (c := (condC (LL (2)))) (xs := (([] : List TCond) : List TCond)) rfl (by kernel_rfl))) .nil))))))))) .nil))) .nil) (by kernel_rfl) (.cons id (.cons id (.cons id (.cons id (.cons (fun _ => rfl) (.cons id .nil)))))) ?_
  refine ath_n ?_
  refine aw_ret ?_
  exact ⟨_, Cv.refl _, .inl rfl, .av (.one (.b (wevZ1_1 q a0 a1 a2))), by kernel_rfl, tve_eq (by rfl)⟩
def wevZ2_0 (m : Nat) (q : TAsked) (a0 : ByteArray) (a1 : Int) (a2 : TRect) : FuncId × List Av × Ef := (52, [.agg ((askedC (LL (m))) q), .agg [.i 2, .s a0, .i a1, .i a2.X0, .i a2.Y0, .i a2.X1, .i a2.Y1, .list false 8 0 (fun _ _ => default)]], .val [] (tB (Fop2 q (TCond.mk 2 a0 a1 a2 (([] : List TCond))))))
def wevZ2_1 (q : TAsked) (a0 : ByteArray) (a1 : Int) (a2 : TRect) : Bool := Fop2 q (TCond.mk 2 a0 a1 a2 (([] : List TCond)))
def FevZ2 (q : TAsked) (a0 : ByteArray) (a1 : Int) (a2 : TRect) (a3 : (List TCond)) : Bool := wevZ2_1 q a0 a1 a2
set_option maxRecDepth 100000 in
theorem pevZ2 (m : Nat) (q : TAsked) (a0 : ByteArray) (a1 : Int) (a2 : TRect) (a3 : (List TCond)) (hq : AskOk q) : Pure Try.prog 35 [.one (opsMap), .agg ((askedC (LL (m))) q), .agg [.i 2, .s a0, .i a1, .i a2.X0, .i a2.Y0, .i a2.X1, .i a2.Y1, .list false 8 0 (fun _ _ => default)]] (.av (.one (.b (FevZ2 q a0 a1 a2 a3)))) := by
  refine pure_of_awF Try.func35 rfl (by kernel_rfl) (by kernel_rfl) fun W0 M0 => ?_
  refine aw_seq ?_
  refine aw_region eqok [] [] [] [3, 4, 5] [3, 4, 5] [] ⟨[(3, tP 3 0), (4, tP 4 0), (5, tP 5 0)], [(3, .cells [opsMap] 87), (4, .cells ((askedC (LL (m))) q) 90), (5, .cells [.i 2, .s a0, .i a1, .i a2.X0, .i a2.Y0, .i a2.X1, .i a2.Y1, .list false 8 0 (fun _ _ => default)] 58)]⟩ .nil (by kernel_rfl) .nil ?_
  refine ath_n ?_
  refine aw_seq ?_
  refine aw_region eqok [] [] [] [3, 4, 5, 7] [3, 4, 5, 7] [] ⟨[(3, tP 3 0), (4, tP 4 0), (5, tP 5 0), (7, tP 7 0)], [(3, .cells [opsMap] 87), (4, .cells ((askedC (LL (m))) q) 90), (5, .cells [.i 2, .s a0, .i a1, .i a2.X0, .i a2.Y0, .i a2.X1, .i a2.Y1, .list false 8 0 (fun _ _ => default)] 58), (7, .cells [.clo 64 2 (listF [.ptr 3 0, .ptr 4 0])] 119)]⟩ .nil (by kernel_rfl) .nil ?_
  refine ath_n ?_
  refine aw_seq ?_
  refine aw_seq ?_
  refine aw_region eqok [] [] [] [3, 4, 5, 7, 12] [3, 4, 5, 7] [] ⟨[(3, tP 3 0), (4, tP 4 0), (5, tP 5 0), (7, tP 7 0), (12, tI 2)], [(3, .cells [opsMap] 87), (4, .cells ((askedC (LL (m))) q) 90), (5, .cells [.i 2, .s a0, .i a1, .i a2.X0, .i a2.Y0, .i a2.X1, .i a2.Y1, .list false 8 0 (fun _ _ => default)] 58), (7, .cells [.clo 64 2 (listF [.ptr 3 0, .ptr 4 0])] 119)]⟩ .nil (by kernel_rfl) .nil ?_
  refine ath_n ?_
  refine aw_block ?_
  refine aw_seq ?_
  refine aw_region eqok [] [] [] [3, 4, 5, 7, 12, 13] [3, 4, 5, 7] [] ⟨[(3, tP 3 0), (4, tP 4 0), (5, tP 5 0), (7, tP 7 0), (12, tI 2), (13, tB false)], [(3, .cells [opsMap] 87), (4, .cells ((askedC (LL (m))) q) 90), (5, .cells [.i 2, .s a0, .i a1, .i a2.X0, .i a2.Y0, .i a2.X1, .i a2.Y1, .list false 8 0 (fun _ _ => default)] 58), (7, .cells [.clo 64 2 (listF [.ptr 3 0, .ptr 4 0])] 119)]⟩ .nil (by kernel_rfl) .nil ?_
  refine ath_n ?_
  refine aw_cond_f (by kernel_rfl) ?_
  refine aw_seq ?_
  refine aw_region eqok [] [] [] [3, 4, 5, 7, 12, 28] [3, 4, 5, 7] [] ⟨[(3, tP 3 0), (4, tP 4 0), (5, tP 5 0), (7, tP 7 0), (12, tI 2), (28, tB false)], [(3, .cells [opsMap] 87), (4, .cells ((askedC (LL (m))) q) 90), (5, .cells [.i 2, .s a0, .i a1, .i a2.X0, .i a2.Y0, .i a2.X1, .i a2.Y1, .list false 8 0 (fun _ _ => default)] 58), (7, .cells [.clo 64 2 (listF [.ptr 3 0, .ptr 4 0])] 119)]⟩ .nil (by kernel_rfl) .nil ?_
  refine ath_n ?_
  refine aw_cond_f (by kernel_rfl) ?_
  refine aw_seq ?_
  refine aw_region eqok [] [] [] [3, 4, 5, 7, 34] [3, 4, 5, 7] [] ⟨[(3, tP 3 0), (4, tP 4 0), (5, tP 5 0), (7, tP 7 0), (34, tB false)], [(3, .cells [opsMap] 87), (4, .cells ((askedC (LL (m))) q) 90), (5, .cells [.i 2, .s a0, .i a1, .i a2.X0, .i a2.Y0, .i a2.X1, .i a2.Y1, .list false 8 0 (fun _ _ => default)] 58), (7, .cells [.clo 64 2 (listF [.ptr 3 0, .ptr 4 0])] 119)]⟩ .nil (by kernel_rfl) .nil ?_
  refine ath_n ?_
  refine aw_cond_f (by kernel_rfl) ?_
  refine aw_skip ?_
  refine abl_n ?_
  refine ath_n ?_
  refine aw_seq ?_
  refine aw_region eqok [] [(45, (true, 1))] [] [4, 5, 8, 9] [4, 5, 8] [LookOk (.int .i64) 7 opsK (.int .i64 2) true 1] ⟨[(4, tP 4 0), (5, tP 5 0), (8, tP 8 0), (9, tB true)], [(4, .cells ((askedC (LL (m))) q) 90), (5, .cells [.i 2, .s a0, .i a1, .i a2.X0, .i a2.Y0, .i a2.X1, .i a2.Y1, .list false 8 0 (fun _ _ => default)] 58), (8, .cells [.clo 52 0 (fun _ => default)] 114)]⟩ .nil (by kernel_rfl) (.cons (ops_at 1 (by decide) (by rfl)) .nil) ?_
  refine ath_n ?_
  refine aw_seq ?_
  refine aw_region eqok [] [] [(54, (wevZ2_0 m q a0 a1 a2))] [6] [] [((true) = true) → ((true) = true), ((true) = true) → ((true) = true), ((true) = true) → ((true) = true), ((true) = true) → ((true) = true), ((true) = true) → (Same (wevZ2_0 m q a0 a1 a2).2.1), (true) = true → ((true) = true)] ⟨[(6, tB (wevZ2_1 q a0 a1 a2))], []⟩ (.cons (callOk_ce (callOk_pure (fun _ _ => by kernel_rfl) fun _ => pop2 m 3 q (TCond.mk 2 a0 a1 a2 (([] : List TCond))) (by first | assumption | decide | omega | (simp only [List.length_cons, List.length_nil, List.length_append]; omega))) (.cons (AvE.refl _) (.cons (.agg (.cons (.refl _) (.cons (.refl _) (.cons (.refl _) (.cons (.refl _) (.cons (.refl _) (.cons (.refl _) (.cons (.refl _) (.cons (cle_told false (told_lit (c := (condC (LL (2)))) (xs := (([] : List TCond) : List TCond)) rfl (by kernel_rfl))) .nil))))))))) .nil))) .nil) (by kernel_rfl) (.cons id (.cons id (.cons id (.cons id (.cons (fun _ => rfl) (.cons id .nil)))))) ?_
  refine ath_n ?_
  refine aw_ret ?_
  exact ⟨_, Cv.refl _, .inl rfl, .av (.one (.b (wevZ2_1 q a0 a1 a2))), by kernel_rfl, tve_eq (by rfl)⟩
def wevZ3_0 (m : Nat) (q : TAsked) (a0 : ByteArray) (a1 : Int) (a2 : TRect) : FuncId × List Av × Ef := (53, [.agg ((askedC (LL (m))) q), .agg [.i 3, .s a0, .i a1, .i a2.X0, .i a2.Y0, .i a2.X1, .i a2.Y1, .list false 8 0 (fun _ _ => default)]], .val [] (tB (Fop3 q (TCond.mk 3 a0 a1 a2 (([] : List TCond))))))
def wevZ3_1 (q : TAsked) (a0 : ByteArray) (a1 : Int) (a2 : TRect) : Bool := Fop3 q (TCond.mk 3 a0 a1 a2 (([] : List TCond)))
def FevZ3 (q : TAsked) (a0 : ByteArray) (a1 : Int) (a2 : TRect) (a3 : (List TCond)) : Bool := wevZ3_1 q a0 a1 a2
set_option maxRecDepth 100000 in
theorem pevZ3 (m : Nat) (q : TAsked) (a0 : ByteArray) (a1 : Int) (a2 : TRect) (a3 : (List TCond)) (hq : AskOk q) : Pure Try.prog 35 [.one (opsMap), .agg ((askedC (LL (m))) q), .agg [.i 3, .s a0, .i a1, .i a2.X0, .i a2.Y0, .i a2.X1, .i a2.Y1, .list false 8 0 (fun _ _ => default)]] (.av (.one (.b (FevZ3 q a0 a1 a2 a3)))) := by
  refine pure_of_awF Try.func35 rfl (by kernel_rfl) (by kernel_rfl) fun W0 M0 => ?_
  refine aw_seq ?_
  refine aw_region eqok [] [] [] [3, 4, 5] [3, 4, 5] [] ⟨[(3, tP 3 0), (4, tP 4 0), (5, tP 5 0)], [(3, .cells [opsMap] 87), (4, .cells ((askedC (LL (m))) q) 90), (5, .cells [.i 3, .s a0, .i a1, .i a2.X0, .i a2.Y0, .i a2.X1, .i a2.Y1, .list false 8 0 (fun _ _ => default)] 58)]⟩ .nil (by kernel_rfl) .nil ?_
  refine ath_n ?_
  refine aw_seq ?_
  refine aw_region eqok [] [] [] [3, 4, 5, 7] [3, 4, 5, 7] [] ⟨[(3, tP 3 0), (4, tP 4 0), (5, tP 5 0), (7, tP 7 0)], [(3, .cells [opsMap] 87), (4, .cells ((askedC (LL (m))) q) 90), (5, .cells [.i 3, .s a0, .i a1, .i a2.X0, .i a2.Y0, .i a2.X1, .i a2.Y1, .list false 8 0 (fun _ _ => default)] 58), (7, .cells [.clo 64 2 (listF [.ptr 3 0, .ptr 4 0])] 119)]⟩ .nil (by kernel_rfl) .nil ?_
  refine ath_n ?_
  refine aw_seq ?_
  refine aw_seq ?_
  refine aw_region eqok [] [] [] [3, 4, 5, 7, 12] [3, 4, 5, 7] [] ⟨[(3, tP 3 0), (4, tP 4 0), (5, tP 5 0), (7, tP 7 0), (12, tI 3)], [(3, .cells [opsMap] 87), (4, .cells ((askedC (LL (m))) q) 90), (5, .cells [.i 3, .s a0, .i a1, .i a2.X0, .i a2.Y0, .i a2.X1, .i a2.Y1, .list false 8 0 (fun _ _ => default)] 58), (7, .cells [.clo 64 2 (listF [.ptr 3 0, .ptr 4 0])] 119)]⟩ .nil (by kernel_rfl) .nil ?_
  refine ath_n ?_
  refine aw_block ?_
  refine aw_seq ?_
  refine aw_region eqok [] [] [] [3, 4, 5, 7, 12, 13] [3, 4, 5, 7] [] ⟨[(3, tP 3 0), (4, tP 4 0), (5, tP 5 0), (7, tP 7 0), (12, tI 3), (13, tB false)], [(3, .cells [opsMap] 87), (4, .cells ((askedC (LL (m))) q) 90), (5, .cells [.i 3, .s a0, .i a1, .i a2.X0, .i a2.Y0, .i a2.X1, .i a2.Y1, .list false 8 0 (fun _ _ => default)] 58), (7, .cells [.clo 64 2 (listF [.ptr 3 0, .ptr 4 0])] 119)]⟩ .nil (by kernel_rfl) .nil ?_
  refine ath_n ?_
  refine aw_cond_f (by kernel_rfl) ?_
  refine aw_seq ?_
  refine aw_region eqok [] [] [] [3, 4, 5, 7, 12, 28] [3, 4, 5, 7] [] ⟨[(3, tP 3 0), (4, tP 4 0), (5, tP 5 0), (7, tP 7 0), (12, tI 3), (28, tB false)], [(3, .cells [opsMap] 87), (4, .cells ((askedC (LL (m))) q) 90), (5, .cells [.i 3, .s a0, .i a1, .i a2.X0, .i a2.Y0, .i a2.X1, .i a2.Y1, .list false 8 0 (fun _ _ => default)] 58), (7, .cells [.clo 64 2 (listF [.ptr 3 0, .ptr 4 0])] 119)]⟩ .nil (by kernel_rfl) .nil ?_
  refine ath_n ?_
  refine aw_cond_f (by kernel_rfl) ?_
  refine aw_seq ?_
  refine aw_region eqok [] [] [] [3, 4, 5, 7, 34] [3, 4, 5, 7] [] ⟨[(3, tP 3 0), (4, tP 4 0), (5, tP 5 0), (7, tP 7 0), (34, tB false)], [(3, .cells [opsMap] 87), (4, .cells ((askedC (LL (m))) q) 90), (5, .cells [.i 3, .s a0, .i a1, .i a2.X0, .i a2.Y0, .i a2.X1, .i a2.Y1, .list false 8 0 (fun _ _ => default)] 58), (7, .cells [.clo 64 2 (listF [.ptr 3 0, .ptr 4 0])] 119)]⟩ .nil (by kernel_rfl) .nil ?_
  refine ath_n ?_
  refine aw_cond_f (by kernel_rfl) ?_
  refine aw_skip ?_
  refine abl_n ?_
  refine ath_n ?_
  refine aw_seq ?_
  refine aw_region eqok [] [(45, (true, 2))] [] [4, 5, 8, 9] [4, 5, 8] [LookOk (.int .i64) 7 opsK (.int .i64 3) true 2] ⟨[(4, tP 4 0), (5, tP 5 0), (8, tP 8 0), (9, tB true)], [(4, .cells ((askedC (LL (m))) q) 90), (5, .cells [.i 3, .s a0, .i a1, .i a2.X0, .i a2.Y0, .i a2.X1, .i a2.Y1, .list false 8 0 (fun _ _ => default)] 58), (8, .cells [.clo 53 0 (fun _ => default)] 114)]⟩ .nil (by kernel_rfl) (.cons (ops_at 2 (by decide) (by rfl)) .nil) ?_
  refine ath_n ?_
  refine aw_seq ?_
  refine aw_region eqok [] [] [(54, (wevZ3_0 m q a0 a1 a2))] [6] [] [((true) = true) → ((true) = true), ((true) = true) → ((true) = true), ((true) = true) → ((true) = true), ((true) = true) → ((true) = true), ((true) = true) → (Same (wevZ3_0 m q a0 a1 a2).2.1), (true) = true → ((true) = true)] ⟨[(6, tB (wevZ3_1 q a0 a1 a2))], []⟩ (.cons (callOk_ce (callOk_pure (fun _ _ => by kernel_rfl) fun _ => pop3 m 3 q (TCond.mk 3 a0 a1 a2 (([] : List TCond))) (by first | assumption | decide | omega | (simp only [List.length_cons, List.length_nil, List.length_append]; omega))) (.cons (AvE.refl _) (.cons (.agg (.cons (.refl _) (.cons (.refl _) (.cons (.refl _) (.cons (.refl _) (.cons (.refl _) (.cons (.refl _) (.cons (.refl _) (.cons (cle_told false (told_lit (c := (condC (LL (2)))) (xs := (([] : List TCond) : List TCond)) rfl (by kernel_rfl))) .nil))))))))) .nil))) .nil) (by kernel_rfl) (.cons id (.cons id (.cons id (.cons id (.cons (fun _ => rfl) (.cons id .nil)))))) ?_
  refine ath_n ?_
  refine aw_ret ?_
  exact ⟨_, Cv.refl _, .inl rfl, .av (.one (.b (wevZ3_1 q a0 a1 a2))), by kernel_rfl, tve_eq (by rfl)⟩
def wevZ4_0 (m : Nat) (q : TAsked) (a0 : ByteArray) (a1 : Int) (a2 : TRect) : FuncId × List Av × Ef := (57, [.agg ((askedC (LL (m))) q), .agg [.i 4, .s a0, .i a1, .i a2.X0, .i a2.Y0, .i a2.X1, .i a2.Y1, .list false 8 0 (fun _ _ => default)]], .val [] (tB (Fop4 q (TCond.mk 4 a0 a1 a2 (([] : List TCond))))))
def wevZ4_1 (q : TAsked) (a0 : ByteArray) (a1 : Int) (a2 : TRect) : Bool := Fop4 q (TCond.mk 4 a0 a1 a2 (([] : List TCond)))
def FevZ4 (q : TAsked) (a0 : ByteArray) (a1 : Int) (a2 : TRect) (a3 : (List TCond)) : Bool := wevZ4_1 q a0 a1 a2
set_option maxRecDepth 100000 in
theorem pevZ4 (m : Nat) (q : TAsked) (a0 : ByteArray) (a1 : Int) (a2 : TRect) (a3 : (List TCond)) (hq : AskOk q) : Pure Try.prog 35 [.one (opsMap), .agg ((askedC (LL (m))) q), .agg [.i 4, .s a0, .i a1, .i a2.X0, .i a2.Y0, .i a2.X1, .i a2.Y1, .list false 8 0 (fun _ _ => default)]] (.av (.one (.b (FevZ4 q a0 a1 a2 a3)))) := by
  refine pure_of_awF Try.func35 rfl (by kernel_rfl) (by kernel_rfl) fun W0 M0 => ?_
  refine aw_seq ?_
  refine aw_region eqok [] [] [] [3, 4, 5] [3, 4, 5] [] ⟨[(3, tP 3 0), (4, tP 4 0), (5, tP 5 0)], [(3, .cells [opsMap] 87), (4, .cells ((askedC (LL (m))) q) 90), (5, .cells [.i 4, .s a0, .i a1, .i a2.X0, .i a2.Y0, .i a2.X1, .i a2.Y1, .list false 8 0 (fun _ _ => default)] 58)]⟩ .nil (by kernel_rfl) .nil ?_
  refine ath_n ?_
  refine aw_seq ?_
  refine aw_region eqok [] [] [] [3, 4, 5, 7] [3, 4, 5, 7] [] ⟨[(3, tP 3 0), (4, tP 4 0), (5, tP 5 0), (7, tP 7 0)], [(3, .cells [opsMap] 87), (4, .cells ((askedC (LL (m))) q) 90), (5, .cells [.i 4, .s a0, .i a1, .i a2.X0, .i a2.Y0, .i a2.X1, .i a2.Y1, .list false 8 0 (fun _ _ => default)] 58), (7, .cells [.clo 64 2 (listF [.ptr 3 0, .ptr 4 0])] 119)]⟩ .nil (by kernel_rfl) .nil ?_
  refine ath_n ?_
  refine aw_seq ?_
  refine aw_seq ?_
  refine aw_region eqok [] [] [] [3, 4, 5, 7, 12] [3, 4, 5, 7] [] ⟨[(3, tP 3 0), (4, tP 4 0), (5, tP 5 0), (7, tP 7 0), (12, tI 4)], [(3, .cells [opsMap] 87), (4, .cells ((askedC (LL (m))) q) 90), (5, .cells [.i 4, .s a0, .i a1, .i a2.X0, .i a2.Y0, .i a2.X1, .i a2.Y1, .list false 8 0 (fun _ _ => default)] 58), (7, .cells [.clo 64 2 (listF [.ptr 3 0, .ptr 4 0])] 119)]⟩ .nil (by kernel_rfl) .nil ?_
  refine ath_n ?_
  refine aw_block ?_
  refine aw_seq ?_
  refine aw_region eqok [] [] [] [3, 4, 5, 7, 12, 13] [3, 4, 5, 7] [] ⟨[(3, tP 3 0), (4, tP 4 0), (5, tP 5 0), (7, tP 7 0), (12, tI 4), (13, tB false)], [(3, .cells [opsMap] 87), (4, .cells ((askedC (LL (m))) q) 90), (5, .cells [.i 4, .s a0, .i a1, .i a2.X0, .i a2.Y0, .i a2.X1, .i a2.Y1, .list false 8 0 (fun _ _ => default)] 58), (7, .cells [.clo 64 2 (listF [.ptr 3 0, .ptr 4 0])] 119)]⟩ .nil (by kernel_rfl) .nil ?_
  refine ath_n ?_
  refine aw_cond_f (by kernel_rfl) ?_
  refine aw_seq ?_
  refine aw_region eqok [] [] [] [3, 4, 5, 7, 12, 28] [3, 4, 5, 7] [] ⟨[(3, tP 3 0), (4, tP 4 0), (5, tP 5 0), (7, tP 7 0), (12, tI 4), (28, tB false)], [(3, .cells [opsMap] 87), (4, .cells ((askedC (LL (m))) q) 90), (5, .cells [.i 4, .s a0, .i a1, .i a2.X0, .i a2.Y0, .i a2.X1, .i a2.Y1, .list false 8 0 (fun _ _ => default)] 58), (7, .cells [.clo 64 2 (listF [.ptr 3 0, .ptr 4 0])] 119)]⟩ .nil (by kernel_rfl) .nil ?_
  refine ath_n ?_
  refine aw_cond_f (by kernel_rfl) ?_
  refine aw_seq ?_
  refine aw_region eqok [] [] [] [3, 4, 5, 7, 34] [3, 4, 5, 7] [] ⟨[(3, tP 3 0), (4, tP 4 0), (5, tP 5 0), (7, tP 7 0), (34, tB false)], [(3, .cells [opsMap] 87), (4, .cells ((askedC (LL (m))) q) 90), (5, .cells [.i 4, .s a0, .i a1, .i a2.X0, .i a2.Y0, .i a2.X1, .i a2.Y1, .list false 8 0 (fun _ _ => default)] 58), (7, .cells [.clo 64 2 (listF [.ptr 3 0, .ptr 4 0])] 119)]⟩ .nil (by kernel_rfl) .nil ?_
  refine ath_n ?_
  refine aw_cond_f (by kernel_rfl) ?_
  refine aw_skip ?_
  refine abl_n ?_
  refine ath_n ?_
  refine aw_seq ?_
  refine aw_region eqok [] [(45, (true, 3))] [] [4, 5, 8, 9] [4, 5, 8] [LookOk (.int .i64) 7 opsK (.int .i64 4) true 3] ⟨[(4, tP 4 0), (5, tP 5 0), (8, tP 8 0), (9, tB true)], [(4, .cells ((askedC (LL (m))) q) 90), (5, .cells [.i 4, .s a0, .i a1, .i a2.X0, .i a2.Y0, .i a2.X1, .i a2.Y1, .list false 8 0 (fun _ _ => default)] 58), (8, .cells [.clo 57 0 (fun _ => default)] 114)]⟩ .nil (by kernel_rfl) (.cons (ops_at 3 (by decide) (by rfl)) .nil) ?_
  refine ath_n ?_
  refine aw_seq ?_
  refine aw_region eqok [] [] [(54, (wevZ4_0 m q a0 a1 a2))] [6] [] [((true) = true) → ((true) = true), ((true) = true) → ((true) = true), ((true) = true) → ((true) = true), ((true) = true) → ((true) = true), ((true) = true) → (Same (wevZ4_0 m q a0 a1 a2).2.1), (true) = true → ((true) = true)] ⟨[(6, tB (wevZ4_1 q a0 a1 a2))], []⟩ (.cons (callOk_ce (callOk_pure (fun _ _ => by kernel_rfl) fun _ => pop4 m 3 q (TCond.mk 4 a0 a1 a2 (([] : List TCond))) (by first | assumption | decide | omega | (simp only [List.length_cons, List.length_nil, List.length_append]; omega))) (.cons (AvE.refl _) (.cons (.agg (.cons (.refl _) (.cons (.refl _) (.cons (.refl _) (.cons (.refl _) (.cons (.refl _) (.cons (.refl _) (.cons (.refl _) (.cons (cle_told false (told_lit (c := (condC (LL (2)))) (xs := (([] : List TCond) : List TCond)) rfl (by kernel_rfl))) .nil))))))))) .nil))) .nil) (by kernel_rfl) (.cons id (.cons id (.cons id (.cons id (.cons (fun _ => rfl) (.cons id .nil)))))) ?_
  refine ath_n ?_
  refine aw_ret ?_
  exact ⟨_, Cv.refl _, .inl rfl, .av (.one (.b (wevZ4_1 q a0 a1 a2))), by kernel_rfl, tve_eq (by rfl)⟩
def wevZ5_0 (m : Nat) (q : TAsked) (a0 : ByteArray) (a1 : Int) (a2 : TRect) : FuncId × List Av × Ef := (58, [.agg ((askedC (LL (m))) q), .agg [.i 5, .s a0, .i a1, .i a2.X0, .i a2.Y0, .i a2.X1, .i a2.Y1, .list false 8 0 (fun _ _ => default)]], .val [] (tB (Fop5 q (TCond.mk 5 a0 a1 a2 (([] : List TCond))))))
def wevZ5_1 (q : TAsked) (a0 : ByteArray) (a1 : Int) (a2 : TRect) : Bool := Fop5 q (TCond.mk 5 a0 a1 a2 (([] : List TCond)))
def FevZ5 (q : TAsked) (a0 : ByteArray) (a1 : Int) (a2 : TRect) (a3 : (List TCond)) : Bool := wevZ5_1 q a0 a1 a2
set_option maxRecDepth 100000 in
theorem pevZ5 (m : Nat) (q : TAsked) (a0 : ByteArray) (a1 : Int) (a2 : TRect) (a3 : (List TCond)) (hq : AskOk q) : Pure Try.prog 35 [.one (opsMap), .agg ((askedC (LL (m))) q), .agg [.i 5, .s a0, .i a1, .i a2.X0, .i a2.Y0, .i a2.X1, .i a2.Y1, .list false 8 0 (fun _ _ => default)]] (.av (.one (.b (FevZ5 q a0 a1 a2 a3)))) := by
  refine pure_of_awF Try.func35 rfl (by kernel_rfl) (by kernel_rfl) fun W0 M0 => ?_
  refine aw_seq ?_
  refine aw_region eqok [] [] [] [3, 4, 5] [3, 4, 5] [] ⟨[(3, tP 3 0), (4, tP 4 0), (5, tP 5 0)], [(3, .cells [opsMap] 87), (4, .cells ((askedC (LL (m))) q) 90), (5, .cells [.i 5, .s a0, .i a1, .i a2.X0, .i a2.Y0, .i a2.X1, .i a2.Y1, .list false 8 0 (fun _ _ => default)] 58)]⟩ .nil (by kernel_rfl) .nil ?_
  refine ath_n ?_
  refine aw_seq ?_
  refine aw_region eqok [] [] [] [3, 4, 5, 7] [3, 4, 5, 7] [] ⟨[(3, tP 3 0), (4, tP 4 0), (5, tP 5 0), (7, tP 7 0)], [(3, .cells [opsMap] 87), (4, .cells ((askedC (LL (m))) q) 90), (5, .cells [.i 5, .s a0, .i a1, .i a2.X0, .i a2.Y0, .i a2.X1, .i a2.Y1, .list false 8 0 (fun _ _ => default)] 58), (7, .cells [.clo 64 2 (listF [.ptr 3 0, .ptr 4 0])] 119)]⟩ .nil (by kernel_rfl) .nil ?_
  refine ath_n ?_
  refine aw_seq ?_
  refine aw_seq ?_
  refine aw_region eqok [] [] [] [3, 4, 5, 7, 12] [3, 4, 5, 7] [] ⟨[(3, tP 3 0), (4, tP 4 0), (5, tP 5 0), (7, tP 7 0), (12, tI 5)], [(3, .cells [opsMap] 87), (4, .cells ((askedC (LL (m))) q) 90), (5, .cells [.i 5, .s a0, .i a1, .i a2.X0, .i a2.Y0, .i a2.X1, .i a2.Y1, .list false 8 0 (fun _ _ => default)] 58), (7, .cells [.clo 64 2 (listF [.ptr 3 0, .ptr 4 0])] 119)]⟩ .nil (by kernel_rfl) .nil ?_
  refine ath_n ?_
  refine aw_block ?_
  refine aw_seq ?_
  refine aw_region eqok [] [] [] [3, 4, 5, 7, 12, 13] [3, 4, 5, 7] [] ⟨[(3, tP 3 0), (4, tP 4 0), (5, tP 5 0), (7, tP 7 0), (12, tI 5), (13, tB false)], [(3, .cells [opsMap] 87), (4, .cells ((askedC (LL (m))) q) 90), (5, .cells [.i 5, .s a0, .i a1, .i a2.X0, .i a2.Y0, .i a2.X1, .i a2.Y1, .list false 8 0 (fun _ _ => default)] 58), (7, .cells [.clo 64 2 (listF [.ptr 3 0, .ptr 4 0])] 119)]⟩ .nil (by kernel_rfl) .nil ?_
  refine ath_n ?_
  refine aw_cond_f (by kernel_rfl) ?_
  refine aw_seq ?_
  refine aw_region eqok [] [] [] [3, 4, 5, 7, 12, 28] [3, 4, 5, 7] [] ⟨[(3, tP 3 0), (4, tP 4 0), (5, tP 5 0), (7, tP 7 0), (12, tI 5), (28, tB false)], [(3, .cells [opsMap] 87), (4, .cells ((askedC (LL (m))) q) 90), (5, .cells [.i 5, .s a0, .i a1, .i a2.X0, .i a2.Y0, .i a2.X1, .i a2.Y1, .list false 8 0 (fun _ _ => default)] 58), (7, .cells [.clo 64 2 (listF [.ptr 3 0, .ptr 4 0])] 119)]⟩ .nil (by kernel_rfl) .nil ?_
  refine ath_n ?_
  refine aw_cond_f (by kernel_rfl) ?_
  refine aw_seq ?_
  refine aw_region eqok [] [] [] [3, 4, 5, 7, 34] [3, 4, 5, 7] [] ⟨[(3, tP 3 0), (4, tP 4 0), (5, tP 5 0), (7, tP 7 0), (34, tB false)], [(3, .cells [opsMap] 87), (4, .cells ((askedC (LL (m))) q) 90), (5, .cells [.i 5, .s a0, .i a1, .i a2.X0, .i a2.Y0, .i a2.X1, .i a2.Y1, .list false 8 0 (fun _ _ => default)] 58), (7, .cells [.clo 64 2 (listF [.ptr 3 0, .ptr 4 0])] 119)]⟩ .nil (by kernel_rfl) .nil ?_
  refine ath_n ?_
  refine aw_cond_f (by kernel_rfl) ?_
  refine aw_skip ?_
  refine abl_n ?_
  refine ath_n ?_
  refine aw_seq ?_
  refine aw_region eqok [] [(45, (true, 4))] [] [4, 5, 8, 9] [4, 5, 8] [LookOk (.int .i64) 7 opsK (.int .i64 5) true 4] ⟨[(4, tP 4 0), (5, tP 5 0), (8, tP 8 0), (9, tB true)], [(4, .cells ((askedC (LL (m))) q) 90), (5, .cells [.i 5, .s a0, .i a1, .i a2.X0, .i a2.Y0, .i a2.X1, .i a2.Y1, .list false 8 0 (fun _ _ => default)] 58), (8, .cells [.clo 58 0 (fun _ => default)] 114)]⟩ .nil (by kernel_rfl) (.cons (ops_at 4 (by decide) (by rfl)) .nil) ?_
  refine ath_n ?_
  refine aw_seq ?_
  refine aw_region eqok [] [] [(54, (wevZ5_0 m q a0 a1 a2))] [6] [] [((true) = true) → ((true) = true), ((true) = true) → ((true) = true), ((true) = true) → ((true) = true), ((true) = true) → ((true) = true), ((true) = true) → (Same (wevZ5_0 m q a0 a1 a2).2.1), (true) = true → ((true) = true)] ⟨[(6, tB (wevZ5_1 q a0 a1 a2))], []⟩ (.cons (callOk_ce (callOk_pure (fun _ _ => by kernel_rfl) fun _ => pop5 m 3 q (TCond.mk 5 a0 a1 a2 (([] : List TCond))) (by first | assumption | decide | omega | (simp only [List.length_cons, List.length_nil, List.length_append]; omega))) (.cons (AvE.refl _) (.cons (.agg (.cons (.refl _) (.cons (.refl _) (.cons (.refl _) (.cons (.refl _) (.cons (.refl _) (.cons (.refl _) (.cons (.refl _) (.cons (cle_told false (told_lit (c := (condC (LL (2)))) (xs := (([] : List TCond) : List TCond)) rfl (by kernel_rfl))) .nil))))))))) .nil))) .nil) (by kernel_rfl) (.cons id (.cons id (.cons id (.cons id (.cons (fun _ => rfl) (.cons id .nil)))))) ?_
  refine ath_n ?_
  refine aw_ret ?_
  exact ⟨_, Cv.refl _, .inl rfl, .av (.one (.b (wevZ5_1 q a0 a1 a2))), by kernel_rfl, tve_eq (by rfl)⟩
def wevZ6_0 (m : Nat) (q : TAsked) (a0 : ByteArray) (a1 : Int) (a2 : TRect) : FuncId × List Av × Ef := (59, [.agg ((askedC (LL (m))) q), .agg [.i 6, .s a0, .i a1, .i a2.X0, .i a2.Y0, .i a2.X1, .i a2.Y1, .list false 8 0 (fun _ _ => default)]], .val [] (tB (Fop6 q (TCond.mk 6 a0 a1 a2 (([] : List TCond))))))
def wevZ6_1 (q : TAsked) (a0 : ByteArray) (a1 : Int) (a2 : TRect) : Bool := Fop6 q (TCond.mk 6 a0 a1 a2 (([] : List TCond)))
def FevZ6 (q : TAsked) (a0 : ByteArray) (a1 : Int) (a2 : TRect) (a3 : (List TCond)) : Bool := wevZ6_1 q a0 a1 a2
set_option maxRecDepth 100000 in
theorem pevZ6 (m : Nat) (q : TAsked) (a0 : ByteArray) (a1 : Int) (a2 : TRect) (a3 : (List TCond)) (hq : AskOk q) : Pure Try.prog 35 [.one (opsMap), .agg ((askedC (LL (m))) q), .agg [.i 6, .s a0, .i a1, .i a2.X0, .i a2.Y0, .i a2.X1, .i a2.Y1, .list false 8 0 (fun _ _ => default)]] (.av (.one (.b (FevZ6 q a0 a1 a2 a3)))) := by
  refine pure_of_awF Try.func35 rfl (by kernel_rfl) (by kernel_rfl) fun W0 M0 => ?_
  refine aw_seq ?_
  refine aw_region eqok [] [] [] [3, 4, 5] [3, 4, 5] [] ⟨[(3, tP 3 0), (4, tP 4 0), (5, tP 5 0)], [(3, .cells [opsMap] 87), (4, .cells ((askedC (LL (m))) q) 90), (5, .cells [.i 6, .s a0, .i a1, .i a2.X0, .i a2.Y0, .i a2.X1, .i a2.Y1, .list false 8 0 (fun _ _ => default)] 58)]⟩ .nil (by kernel_rfl) .nil ?_
  refine ath_n ?_
  refine aw_seq ?_
  refine aw_region eqok [] [] [] [3, 4, 5, 7] [3, 4, 5, 7] [] ⟨[(3, tP 3 0), (4, tP 4 0), (5, tP 5 0), (7, tP 7 0)], [(3, .cells [opsMap] 87), (4, .cells ((askedC (LL (m))) q) 90), (5, .cells [.i 6, .s a0, .i a1, .i a2.X0, .i a2.Y0, .i a2.X1, .i a2.Y1, .list false 8 0 (fun _ _ => default)] 58), (7, .cells [.clo 64 2 (listF [.ptr 3 0, .ptr 4 0])] 119)]⟩ .nil (by kernel_rfl) .nil ?_
  refine ath_n ?_
  refine aw_seq ?_
  refine aw_seq ?_
  refine aw_region eqok [] [] [] [3, 4, 5, 7, 12] [3, 4, 5, 7] [] ⟨[(3, tP 3 0), (4, tP 4 0), (5, tP 5 0), (7, tP 7 0), (12, tI 6)], [(3, .cells [opsMap] 87), (4, .cells ((askedC (LL (m))) q) 90), (5, .cells [.i 6, .s a0, .i a1, .i a2.X0, .i a2.Y0, .i a2.X1, .i a2.Y1, .list false 8 0 (fun _ _ => default)] 58), (7, .cells [.clo 64 2 (listF [.ptr 3 0, .ptr 4 0])] 119)]⟩ .nil (by kernel_rfl) .nil ?_
  refine ath_n ?_
  refine aw_block ?_
  refine aw_seq ?_
  refine aw_region eqok [] [] [] [3, 4, 5, 7, 12, 13] [3, 4, 5, 7] [] ⟨[(3, tP 3 0), (4, tP 4 0), (5, tP 5 0), (7, tP 7 0), (12, tI 6), (13, tB false)], [(3, .cells [opsMap] 87), (4, .cells ((askedC (LL (m))) q) 90), (5, .cells [.i 6, .s a0, .i a1, .i a2.X0, .i a2.Y0, .i a2.X1, .i a2.Y1, .list false 8 0 (fun _ _ => default)] 58), (7, .cells [.clo 64 2 (listF [.ptr 3 0, .ptr 4 0])] 119)]⟩ .nil (by kernel_rfl) .nil ?_
  refine ath_n ?_
  refine aw_cond_f (by kernel_rfl) ?_
  refine aw_seq ?_
  refine aw_region eqok [] [] [] [3, 4, 5, 7, 12, 28] [3, 4, 5, 7] [] ⟨[(3, tP 3 0), (4, tP 4 0), (5, tP 5 0), (7, tP 7 0), (12, tI 6), (28, tB false)], [(3, .cells [opsMap] 87), (4, .cells ((askedC (LL (m))) q) 90), (5, .cells [.i 6, .s a0, .i a1, .i a2.X0, .i a2.Y0, .i a2.X1, .i a2.Y1, .list false 8 0 (fun _ _ => default)] 58), (7, .cells [.clo 64 2 (listF [.ptr 3 0, .ptr 4 0])] 119)]⟩ .nil (by kernel_rfl) .nil ?_
  refine ath_n ?_
  refine aw_cond_f (by kernel_rfl) ?_
  refine aw_seq ?_
  refine aw_region eqok [] [] [] [3, 4, 5, 7, 34] [3, 4, 5, 7] [] ⟨[(3, tP 3 0), (4, tP 4 0), (5, tP 5 0), (7, tP 7 0), (34, tB false)], [(3, .cells [opsMap] 87), (4, .cells ((askedC (LL (m))) q) 90), (5, .cells [.i 6, .s a0, .i a1, .i a2.X0, .i a2.Y0, .i a2.X1, .i a2.Y1, .list false 8 0 (fun _ _ => default)] 58), (7, .cells [.clo 64 2 (listF [.ptr 3 0, .ptr 4 0])] 119)]⟩ .nil (by kernel_rfl) .nil ?_
  refine ath_n ?_
  refine aw_cond_f (by kernel_rfl) ?_
  refine aw_skip ?_
  refine abl_n ?_
  refine ath_n ?_
  refine aw_seq ?_
  refine aw_region eqok [] [(45, (true, 5))] [] [4, 5, 8, 9] [4, 5, 8] [LookOk (.int .i64) 7 opsK (.int .i64 6) true 5] ⟨[(4, tP 4 0), (5, tP 5 0), (8, tP 8 0), (9, tB true)], [(4, .cells ((askedC (LL (m))) q) 90), (5, .cells [.i 6, .s a0, .i a1, .i a2.X0, .i a2.Y0, .i a2.X1, .i a2.Y1, .list false 8 0 (fun _ _ => default)] 58), (8, .cells [.clo 59 0 (fun _ => default)] 114)]⟩ .nil (by kernel_rfl) (.cons (ops_at 5 (by decide) (by rfl)) .nil) ?_
  refine ath_n ?_
  refine aw_seq ?_
  refine aw_region eqok [] [] [(54, (wevZ6_0 m q a0 a1 a2))] [6] [] [((true) = true) → ((true) = true), ((true) = true) → ((true) = true), ((true) = true) → ((true) = true), ((true) = true) → ((true) = true), ((true) = true) → (Same (wevZ6_0 m q a0 a1 a2).2.1), (true) = true → ((true) = true)] ⟨[(6, tB (wevZ6_1 q a0 a1 a2))], []⟩ (.cons (callOk_ce (callOk_pure (fun _ _ => by kernel_rfl) fun _ => pop6 m 3 q (TCond.mk 6 a0 a1 a2 (([] : List TCond))) (by first | assumption | decide | omega | (simp only [List.length_cons, List.length_nil, List.length_append]; omega))) (.cons (AvE.refl _) (.cons (.agg (.cons (.refl _) (.cons (.refl _) (.cons (.refl _) (.cons (.refl _) (.cons (.refl _) (.cons (.refl _) (.cons (.refl _) (.cons (cle_told false (told_lit (c := (condC (LL (2)))) (xs := (([] : List TCond) : List TCond)) rfl (by kernel_rfl))) .nil))))))))) .nil))) .nil) (by kernel_rfl) (.cons id (.cons id (.cons id (.cons id (.cons (fun _ => rfl) (.cons id .nil)))))) ?_
  refine ath_n ?_
  refine aw_ret ?_
  exact ⟨_, Cv.refl _, .inl rfl, .av (.one (.b (wevZ6_1 q a0 a1 a2))), by kernel_rfl, tve_eq (by rfl)⟩
def wevZ7_0 (m : Nat) (q : TAsked) (a0 : ByteArray) (a1 : Int) (a2 : TRect) : FuncId × List Av × Ef := (60, [.agg ((askedC (LL (m))) q), .agg [.i 7, .s a0, .i a1, .i a2.X0, .i a2.Y0, .i a2.X1, .i a2.Y1, .list false 8 0 (fun _ _ => default)]], .val [] (tB (Fop7 q (TCond.mk 7 a0 a1 a2 (([] : List TCond))))))
def wevZ7_1 (q : TAsked) (a0 : ByteArray) (a1 : Int) (a2 : TRect) : Bool := Fop7 q (TCond.mk 7 a0 a1 a2 (([] : List TCond)))
def FevZ7 (q : TAsked) (a0 : ByteArray) (a1 : Int) (a2 : TRect) (a3 : (List TCond)) : Bool := wevZ7_1 q a0 a1 a2
set_option maxRecDepth 100000 in
theorem pevZ7 (m : Nat) (q : TAsked) (a0 : ByteArray) (a1 : Int) (a2 : TRect) (a3 : (List TCond)) (hq : AskOk q) : Pure Try.prog 35 [.one (opsMap), .agg ((askedC (LL (m))) q), .agg [.i 7, .s a0, .i a1, .i a2.X0, .i a2.Y0, .i a2.X1, .i a2.Y1, .list false 8 0 (fun _ _ => default)]] (.av (.one (.b (FevZ7 q a0 a1 a2 a3)))) := by
  refine pure_of_awF Try.func35 rfl (by kernel_rfl) (by kernel_rfl) fun W0 M0 => ?_
  refine aw_seq ?_
  refine aw_region eqok [] [] [] [3, 4, 5] [3, 4, 5] [] ⟨[(3, tP 3 0), (4, tP 4 0), (5, tP 5 0)], [(3, .cells [opsMap] 87), (4, .cells ((askedC (LL (m))) q) 90), (5, .cells [.i 7, .s a0, .i a1, .i a2.X0, .i a2.Y0, .i a2.X1, .i a2.Y1, .list false 8 0 (fun _ _ => default)] 58)]⟩ .nil (by kernel_rfl) .nil ?_
  refine ath_n ?_
  refine aw_seq ?_
  refine aw_region eqok [] [] [] [3, 4, 5, 7] [3, 4, 5, 7] [] ⟨[(3, tP 3 0), (4, tP 4 0), (5, tP 5 0), (7, tP 7 0)], [(3, .cells [opsMap] 87), (4, .cells ((askedC (LL (m))) q) 90), (5, .cells [.i 7, .s a0, .i a1, .i a2.X0, .i a2.Y0, .i a2.X1, .i a2.Y1, .list false 8 0 (fun _ _ => default)] 58), (7, .cells [.clo 64 2 (listF [.ptr 3 0, .ptr 4 0])] 119)]⟩ .nil (by kernel_rfl) .nil ?_
  refine ath_n ?_
  refine aw_seq ?_
  refine aw_seq ?_
  refine aw_region eqok [] [] [] [3, 4, 5, 7, 12] [3, 4, 5, 7] [] ⟨[(3, tP 3 0), (4, tP 4 0), (5, tP 5 0), (7, tP 7 0), (12, tI 7)], [(3, .cells [opsMap] 87), (4, .cells ((askedC (LL (m))) q) 90), (5, .cells [.i 7, .s a0, .i a1, .i a2.X0, .i a2.Y0, .i a2.X1, .i a2.Y1, .list false 8 0 (fun _ _ => default)] 58), (7, .cells [.clo 64 2 (listF [.ptr 3 0, .ptr 4 0])] 119)]⟩ .nil (by kernel_rfl) .nil ?_
  refine ath_n ?_
  refine aw_block ?_
  refine aw_seq ?_
  refine aw_region eqok [] [] [] [3, 4, 5, 7, 12, 13] [3, 4, 5, 7] [] ⟨[(3, tP 3 0), (4, tP 4 0), (5, tP 5 0), (7, tP 7 0), (12, tI 7), (13, tB false)], [(3, .cells [opsMap] 87), (4, .cells ((askedC (LL (m))) q) 90), (5, .cells [.i 7, .s a0, .i a1, .i a2.X0, .i a2.Y0, .i a2.X1, .i a2.Y1, .list false 8 0 (fun _ _ => default)] 58), (7, .cells [.clo 64 2 (listF [.ptr 3 0, .ptr 4 0])] 119)]⟩ .nil (by kernel_rfl) .nil ?_
  refine ath_n ?_
  refine aw_cond_f (by kernel_rfl) ?_
  refine aw_seq ?_
  refine aw_region eqok [] [] [] [3, 4, 5, 7, 12, 28] [3, 4, 5, 7] [] ⟨[(3, tP 3 0), (4, tP 4 0), (5, tP 5 0), (7, tP 7 0), (12, tI 7), (28, tB false)], [(3, .cells [opsMap] 87), (4, .cells ((askedC (LL (m))) q) 90), (5, .cells [.i 7, .s a0, .i a1, .i a2.X0, .i a2.Y0, .i a2.X1, .i a2.Y1, .list false 8 0 (fun _ _ => default)] 58), (7, .cells [.clo 64 2 (listF [.ptr 3 0, .ptr 4 0])] 119)]⟩ .nil (by kernel_rfl) .nil ?_
  refine ath_n ?_
  refine aw_cond_f (by kernel_rfl) ?_
  refine aw_seq ?_
  refine aw_region eqok [] [] [] [3, 4, 5, 7, 34] [3, 4, 5, 7] [] ⟨[(3, tP 3 0), (4, tP 4 0), (5, tP 5 0), (7, tP 7 0), (34, tB false)], [(3, .cells [opsMap] 87), (4, .cells ((askedC (LL (m))) q) 90), (5, .cells [.i 7, .s a0, .i a1, .i a2.X0, .i a2.Y0, .i a2.X1, .i a2.Y1, .list false 8 0 (fun _ _ => default)] 58), (7, .cells [.clo 64 2 (listF [.ptr 3 0, .ptr 4 0])] 119)]⟩ .nil (by kernel_rfl) .nil ?_
  refine ath_n ?_
  refine aw_cond_f (by kernel_rfl) ?_
  refine aw_skip ?_
  refine abl_n ?_
  refine ath_n ?_
  refine aw_seq ?_
  refine aw_region eqok [] [(45, (true, 6))] [] [4, 5, 8, 9] [4, 5, 8] [LookOk (.int .i64) 7 opsK (.int .i64 7) true 6] ⟨[(4, tP 4 0), (5, tP 5 0), (8, tP 8 0), (9, tB true)], [(4, .cells ((askedC (LL (m))) q) 90), (5, .cells [.i 7, .s a0, .i a1, .i a2.X0, .i a2.Y0, .i a2.X1, .i a2.Y1, .list false 8 0 (fun _ _ => default)] 58), (8, .cells [.clo 60 0 (fun _ => default)] 114)]⟩ .nil (by kernel_rfl) (.cons (ops_at 6 (by decide) (by rfl)) .nil) ?_
  refine ath_n ?_
  refine aw_seq ?_
  refine aw_region eqok [] [] [(54, (wevZ7_0 m q a0 a1 a2))] [6] [] [((true) = true) → ((true) = true), ((true) = true) → ((true) = true), ((true) = true) → ((true) = true), ((true) = true) → ((true) = true), ((true) = true) → (Same (wevZ7_0 m q a0 a1 a2).2.1), (true) = true → ((true) = true)] ⟨[(6, tB (wevZ7_1 q a0 a1 a2))], []⟩ (.cons (callOk_ce (callOk_pure (fun _ _ => by kernel_rfl) fun _ => pop7 m 3 q (TCond.mk 7 a0 a1 a2 (([] : List TCond))) (by first | assumption | decide | omega | (simp only [List.length_cons, List.length_nil, List.length_append]; omega))) (.cons (AvE.refl _) (.cons (.agg (.cons (.refl _) (.cons (.refl _) (.cons (.refl _) (.cons (.refl _) (.cons (.refl _) (.cons (.refl _) (.cons (.refl _) (.cons (cle_told false (told_lit (c := (condC (LL (2)))) (xs := (([] : List TCond) : List TCond)) rfl (by kernel_rfl))) .nil))))))))) .nil))) .nil) (by kernel_rfl) (.cons id (.cons id (.cons id (.cons id (.cons (fun _ => rfl) (.cons id .nil)))))) ?_
  refine ath_n ?_
  refine aw_ret ?_
  exact ⟨_, Cv.refl _, .inl rfl, .av (.one (.b (wevZ7_1 q a0 a1 a2))), by kernel_rfl, tve_eq (by rfl)⟩
def FevZ8 (q : TAsked) (a0 : ByteArray) (a1 : Int) (a2 : TRect) (a3 : (List TCond)) : Bool := false
set_option maxRecDepth 100000 in
theorem pevZ8 (m : Nat) (q : TAsked) (a0 : ByteArray) (a1 : Int) (a2 : TRect) (a3 : (List TCond)) (hq : AskOk q) : Pure Try.prog 35 [.one (opsMap), .agg ((askedC (LL (m))) q), .agg [.i 8, .s a0, .i a1, .i a2.X0, .i a2.Y0, .i a2.X1, .i a2.Y1, .list false 8 0 (fun _ _ => default)]] (.av (.one (.b (FevZ8 q a0 a1 a2 a3)))) := by
  refine pure_of_awF Try.func35 rfl (by kernel_rfl) (by kernel_rfl) fun W0 M0 => ?_
  refine aw_seq ?_
  refine aw_region eqok [] [] [] [3, 4, 5] [3, 4, 5] [] ⟨[(3, tP 3 0), (4, tP 4 0), (5, tP 5 0)], [(3, .cells [opsMap] 87), (4, .cells ((askedC (LL (m))) q) 90), (5, .cells [.i 8, .s a0, .i a1, .i a2.X0, .i a2.Y0, .i a2.X1, .i a2.Y1, .list false 8 0 (fun _ _ => default)] 58)]⟩ .nil (by kernel_rfl) .nil ?_
  refine ath_n ?_
  refine aw_seq ?_
  refine aw_region eqok [] [] [] [3, 4, 5, 7] [3, 4, 5, 7] [] ⟨[(3, tP 3 0), (4, tP 4 0), (5, tP 5 0), (7, tP 7 0)], [(3, .cells [opsMap] 87), (4, .cells ((askedC (LL (m))) q) 90), (5, .cells [.i 8, .s a0, .i a1, .i a2.X0, .i a2.Y0, .i a2.X1, .i a2.Y1, .list false 8 0 (fun _ _ => default)] 58), (7, .cells [.clo 64 2 (listF [.ptr 3 0, .ptr 4 0])] 119)]⟩ .nil (by kernel_rfl) .nil ?_
  refine ath_n ?_
  refine aw_seq ?_
  refine aw_seq ?_
  refine aw_region eqok [] [] [] [3, 4, 5, 7, 12] [3, 4, 5, 7] [] ⟨[(3, tP 3 0), (4, tP 4 0), (5, tP 5 0), (7, tP 7 0), (12, tI 8)], [(3, .cells [opsMap] 87), (4, .cells ((askedC (LL (m))) q) 90), (5, .cells [.i 8, .s a0, .i a1, .i a2.X0, .i a2.Y0, .i a2.X1, .i a2.Y1, .list false 8 0 (fun _ _ => default)] 58), (7, .cells [.clo 64 2 (listF [.ptr 3 0, .ptr 4 0])] 119)]⟩ .nil (by kernel_rfl) .nil ?_
  refine ath_n ?_
  refine aw_block ?_
  refine aw_seq ?_
  refine aw_region eqok [] [] [] [3, 4, 5, 7, 12, 13] [3, 4, 5, 7] [] ⟨[(3, tP 3 0), (4, tP 4 0), (5, tP 5 0), (7, tP 7 0), (12, tI 8), (13, tB true)], [(3, .cells [opsMap] 87), (4, .cells ((askedC (LL (m))) q) 90), (5, .cells [.i 8, .s a0, .i a1, .i a2.X0, .i a2.Y0, .i a2.X1, .i a2.Y1, .list false 8 0 (fun _ _ => default)] 58), (7, .cells [.clo 64 2 (listF [.ptr 3 0, .ptr 4 0])] 119)]⟩ .nil (by kernel_rfl) .nil ?_
  refine ath_n ?_
  refine aw_cond_t (by kernel_rfl) ?_
  refine aw_seq ?_
  refine aw_draw mixed eqok [] [] [] [6] [] [((false) = true) → ((false) = true), ((false) = true) → ((false) = true), ((false) = true) → (0 ≤ (0 : Int) ∧ (0 : Int) < ((0 : Nat) : Int)), ((false) = true) → ((false) = true), ¬ ((false) = true), ((false) = true) → ((false) = true), (false) = true → ((false) = true)] ⟨[(6, tB false)], []⟩ .nil (by kernel_rfl) (by kernel_rfl) (.cons id (.cons id (.cons (fun hG => by first | exact (by first | decide | omega | exact idx_tmod (by first | omega | (simp only [W64_def]; omega)) (by omega) | (simp only [W64_def]; omega) | (constructor <;> omega) | (simp only [List.length_append, List.length_cons, List.length_nil]; omega) | (simp only [List.length_append, List.length_cons, List.length_nil, List.length_drop, List.length_take] at *; omega)) | (simp only [decide_eq_true_eq, decide_eq_false_iff_not, Bool.not_eq_true, Bool.and_eq_true] at hG <;> omega) | (simp at hG <;> omega)) (.cons id (.cons (by simp) (.cons id (.cons id .nil))))))) ?_
  refine ath_n ?_
  refine aw_ret ?_
  refine abl_r ?_
  refine ath_r ?_
  exact ⟨_, Cv.refl _, .inl rfl, .av (.one (.b false)), by kernel_rfl, tve_eq (by rfl)⟩
def wevZ9_0 (m : Nat) (q : TAsked) : FuncId × List Av × Ef := (65, [.one (.list false 8 0 (fun _ _ => default)), .one (.clo 66 1 (listF [.ptr 7 0]))], rdI [7] [.cells [.clo 64 2 (listF [.eptr 1 1 (fun _ j => ([opsMap] : List Cl).getD j default) 0 0, .eptr 25 1 (fun _ j => (((askedC (LL (m))) q) : List Cl).getD j default) 0 0])] 119] (tB (FcoZb q)))
def FevZ9 (q : TAsked) (a0 : ByteArray) (a1 : Int) (a2 : TRect) (a3 : (List TCond)) : Bool := !(FcoZb q)
set_option maxRecDepth 100000 in
theorem pevZ9 (m : Nat) (q : TAsked) (a0 : ByteArray) (a1 : Int) (a2 : TRect) (a3 : (List TCond)) (hq : AskOk q) : Pure Try.prog 35 [.one (opsMap), .agg ((askedC (LL (m))) q), .agg [.i 9, .s a0, .i a1, .i a2.X0, .i a2.Y0, .i a2.X1, .i a2.Y1, .list false 8 0 (fun _ _ => default)]] (.av (.one (.b (FevZ9 q a0 a1 a2 a3)))) := by
  refine pure_of_awF Try.func35 rfl (by kernel_rfl) (by kernel_rfl) fun W0 M0 => ?_
  refine aw_seq ?_
  refine aw_region eqok [] [] [] [3, 4, 5] [3, 4, 5] [] ⟨[(3, tP 3 0), (4, tP 4 0), (5, tP 5 0)], [(3, .cells [opsMap] 87), (4, .cells ((askedC (LL (m))) q) 90), (5, .cells [.i 9, .s a0, .i a1, .i a2.X0, .i a2.Y0, .i a2.X1, .i a2.Y1, .list false 8 0 (fun _ _ => default)] 58)]⟩ .nil (by kernel_rfl) .nil ?_
  refine ath_n ?_
  refine aw_seq ?_
  refine aw_region eqok [] [] [] [3, 4, 5, 7] [3, 4, 5, 7] [] ⟨[(3, tP 3 0), (4, tP 4 0), (5, tP 5 0), (7, tP 7 0)], [(3, .cells [opsMap] 87), (4, .cells ((askedC (LL (m))) q) 90), (5, .cells [.i 9, .s a0, .i a1, .i a2.X0, .i a2.Y0, .i a2.X1, .i a2.Y1, .list false 8 0 (fun _ _ => default)] 58), (7, .cells [.clo 64 2 (listF [.ptr 3 0, .ptr 4 0])] 119)]⟩ .nil (by kernel_rfl) .nil ?_
  refine ath_n ?_
  refine aw_seq ?_
  refine aw_seq ?_
  refine aw_region eqok [] [] [] [3, 4, 5, 7, 12] [3, 4, 5, 7] [] ⟨[(3, tP 3 0), (4, tP 4 0), (5, tP 5 0), (7, tP 7 0), (12, tI 9)], [(3, .cells [opsMap] 87), (4, .cells ((askedC (LL (m))) q) 90), (5, .cells [.i 9, .s a0, .i a1, .i a2.X0, .i a2.Y0, .i a2.X1, .i a2.Y1, .list false 8 0 (fun _ _ => default)] 58), (7, .cells [.clo 64 2 (listF [.ptr 3 0, .ptr 4 0])] 119)]⟩ .nil (by kernel_rfl) .nil ?_
  refine ath_n ?_
  refine aw_block ?_
  refine aw_seq ?_
  refine aw_region eqok [] [] [] [3, 4, 5, 7, 12, 13] [3, 4, 5, 7] [] ⟨[(3, tP 3 0), (4, tP 4 0), (5, tP 5 0), (7, tP 7 0), (12, tI 9), (13, tB false)], [(3, .cells [opsMap] 87), (4, .cells ((askedC (LL (m))) q) 90), (5, .cells [.i 9, .s a0, .i a1, .i a2.X0, .i a2.Y0, .i a2.X1, .i a2.Y1, .list false 8 0 (fun _ _ => default)] 58), (7, .cells [.clo 64 2 (listF [.ptr 3 0, .ptr 4 0])] 119)]⟩ .nil (by kernel_rfl) .nil ?_
  refine ath_n ?_
  refine aw_cond_f (by kernel_rfl) ?_
  refine aw_seq ?_
  refine aw_region eqok [] [] [] [3, 4, 5, 7, 12, 28] [3, 4, 5, 7] [] ⟨[(3, tP 3 0), (4, tP 4 0), (5, tP 5 0), (7, tP 7 0), (12, tI 9), (28, tB false)], [(3, .cells [opsMap] 87), (4, .cells ((askedC (LL (m))) q) 90), (5, .cells [.i 9, .s a0, .i a1, .i a2.X0, .i a2.Y0, .i a2.X1, .i a2.Y1, .list false 8 0 (fun _ _ => default)] 58), (7, .cells [.clo 64 2 (listF [.ptr 3 0, .ptr 4 0])] 119)]⟩ .nil (by kernel_rfl) .nil ?_
  refine ath_n ?_
  refine aw_cond_f (by kernel_rfl) ?_
  refine aw_seq ?_
  refine aw_region eqok [] [] [] [3, 4, 5, 7, 34] [3, 4, 5, 7] [] ⟨[(3, tP 3 0), (4, tP 4 0), (5, tP 5 0), (7, tP 7 0), (34, tB true)], [(3, .cells [opsMap] 87), (4, .cells ((askedC (LL (m))) q) 90), (5, .cells [.i 9, .s a0, .i a1, .i a2.X0, .i a2.Y0, .i a2.X1, .i a2.Y1, .list false 8 0 (fun _ _ => default)] 58), (7, .cells [.clo 64 2 (listF [.ptr 3 0, .ptr 4 0])] 119)]⟩ .nil (by kernel_rfl) .nil ?_
  refine ath_n ?_
  refine aw_cond_t (by kernel_rfl) ?_
  refine aw_seq ?_
  refine aw_cv (Cv.trans (cv_fix (⟨[(3, .av (.one (.eptr 1 1 (fun _ j => ([opsMap] : List Cl).getD j default) 0 0))), (4, tP 4 0), (5, tP 5 0), (7, tP 7 0), (34, tB true)], [(4, .cells ((askedC (LL (m))) q) 90), (5, .cells [.i 9, .s a0, .i a1, .i a2.X0, .i a2.Y0, .i a2.X1, .i a2.Y1, .list false 8 0 (fun _ _ => default)] 58), (7, .cells [.clo 64 2 (listF [.eptr 1 1 (fun _ j => ([opsMap] : List Cl).getD j default) 0 0, .ptr 4 0])] 119)]⟩) 3 [opsMap] 87 (K := none) (fun k x h => by cases h) (by kernel_rfl) (by kernel_rfl) (by kernel_rfl) (by kernel_rfl)) (Cv.refl _)) ?_
  refine aw_cv (Cv.trans (cv_fix (⟨[(3, .av (.one (.eptr 1 1 (fun _ j => ([opsMap] : List Cl).getD j default) 0 0))), (4, .av (.one (.eptr 25 1 (fun _ j => (((askedC (LL (m))) q) : List Cl).getD j default) 0 0))), (5, tP 5 0), (7, tP 7 0), (34, tB true)], [(5, .cells [.i 9, .s a0, .i a1, .i a2.X0, .i a2.Y0, .i a2.X1, .i a2.Y1, .list false 8 0 (fun _ _ => default)] 58), (7, .cells [.clo 64 2 (listF [.eptr 1 1 (fun _ j => ([opsMap] : List Cl).getD j default) 0 0, .eptr 25 1 (fun _ j => (((askedC (LL (m))) q) : List Cl).getD j default) 0 0])] 119)]⟩) 4 ((askedC (LL (m))) q) 90 (K := none) (fun k x h => by cases h) (by kernel_rfl) (by kernel_rfl) (by kernel_rfl) (by kernel_rfl)) (Cv.refl _)) ?_
  refine aw_region eqok [] [] [(39, (wevZ9_0 m q))] [6] [] [Same (wevZ9_0 m q).2.1, SameBs [.cells [.clo 64 2 (listF [.eptr 1 1 (fun _ j => ([opsMap] : List Cl).getD j default) 0 0, .eptr 25 1 (fun _ j => (((askedC (LL (m))) q) : List Cl).getD j default) 0 0])] 119]] ⟨[(6, tB (!(FcoZb q)))], []⟩ (.cons (callOk_rd (fun _ _ => by kernel_rfl) (by kernel_rfl) (by kernel_rfl) (pure_ce (pcoZb m q (by first | assumption | decide | omega | (simp only [List.length_cons, List.length_nil, List.length_append]; omega))) (.cons (AvE.refl _) (.cons (.one (.clo 66 1 _ _ (tab_get (by kernel_rfl)))) .nil)))) .nil) (by kernel_rfl) (.cons rfl (.cons rfl .nil)) ?_
  refine ath_n ?_
  refine aw_ret ?_
  refine abl_r ?_
  refine ath_r ?_
  exact ⟨_, Cv.refl _, .inl rfl, .av (.one (.b (!(FcoZb q)))), by kernel_rfl, tve_eq (by rfl)⟩
def wevZ10_0 (m : Nat) (q : TAsked) : FuncId × List Av × Ef := (65, [.one (.list false 8 0 (fun _ _ => default)), .one (.clo 64 2 (listF [.ptr 3 0, .ptr 4 0]))], rdI [3, 4] [.cells [opsMap] 87, .cells ((askedC (LL (m))) q) 90] (tB (FcoZa q)))
def FevZ10 (q : TAsked) (a0 : ByteArray) (a1 : Int) (a2 : TRect) (a3 : (List TCond)) : Bool := FcoZa q
set_option maxRecDepth 100000 in
theorem pevZ10 (m : Nat) (q : TAsked) (a0 : ByteArray) (a1 : Int) (a2 : TRect) (a3 : (List TCond)) (hq : AskOk q) : Pure Try.prog 35 [.one (opsMap), .agg ((askedC (LL (m))) q), .agg [.i 10, .s a0, .i a1, .i a2.X0, .i a2.Y0, .i a2.X1, .i a2.Y1, .list false 8 0 (fun _ _ => default)]] (.av (.one (.b (FevZ10 q a0 a1 a2 a3)))) := by
  refine pure_of_awF Try.func35 rfl (by kernel_rfl) (by kernel_rfl) fun W0 M0 => ?_
  refine aw_seq ?_
  refine aw_region eqok [] [] [] [3, 4, 5] [3, 4, 5] [] ⟨[(3, tP 3 0), (4, tP 4 0), (5, tP 5 0)], [(3, .cells [opsMap] 87), (4, .cells ((askedC (LL (m))) q) 90), (5, .cells [.i 10, .s a0, .i a1, .i a2.X0, .i a2.Y0, .i a2.X1, .i a2.Y1, .list false 8 0 (fun _ _ => default)] 58)]⟩ .nil (by kernel_rfl) .nil ?_
  refine ath_n ?_
  refine aw_seq ?_
  refine aw_region eqok [] [] [] [3, 4, 5, 7] [3, 4, 5, 7] [] ⟨[(3, tP 3 0), (4, tP 4 0), (5, tP 5 0), (7, tP 7 0)], [(3, .cells [opsMap] 87), (4, .cells ((askedC (LL (m))) q) 90), (5, .cells [.i 10, .s a0, .i a1, .i a2.X0, .i a2.Y0, .i a2.X1, .i a2.Y1, .list false 8 0 (fun _ _ => default)] 58), (7, .cells [.clo 64 2 (listF [.ptr 3 0, .ptr 4 0])] 119)]⟩ .nil (by kernel_rfl) .nil ?_
  refine ath_n ?_
  refine aw_seq ?_
  refine aw_seq ?_
  refine aw_region eqok [] [] [] [3, 4, 5, 7, 12] [3, 4, 5, 7] [] ⟨[(3, tP 3 0), (4, tP 4 0), (5, tP 5 0), (7, tP 7 0), (12, tI 10)], [(3, .cells [opsMap] 87), (4, .cells ((askedC (LL (m))) q) 90), (5, .cells [.i 10, .s a0, .i a1, .i a2.X0, .i a2.Y0, .i a2.X1, .i a2.Y1, .list false 8 0 (fun _ _ => default)] 58), (7, .cells [.clo 64 2 (listF [.ptr 3 0, .ptr 4 0])] 119)]⟩ .nil (by kernel_rfl) .nil ?_
  refine ath_n ?_
  refine aw_block ?_
  refine aw_seq ?_
  refine aw_region eqok [] [] [] [3, 4, 5, 7, 12, 13] [3, 4, 5, 7] [] ⟨[(3, tP 3 0), (4, tP 4 0), (5, tP 5 0), (7, tP 7 0), (12, tI 10), (13, tB false)], [(3, .cells [opsMap] 87), (4, .cells ((askedC (LL (m))) q) 90), (5, .cells [.i 10, .s a0, .i a1, .i a2.X0, .i a2.Y0, .i a2.X1, .i a2.Y1, .list false 8 0 (fun _ _ => default)] 58), (7, .cells [.clo 64 2 (listF [.ptr 3 0, .ptr 4 0])] 119)]⟩ .nil (by kernel_rfl) .nil ?_
  refine ath_n ?_
  refine aw_cond_f (by kernel_rfl) ?_
  refine aw_seq ?_
  refine aw_region eqok [] [] [] [3, 4, 5, 7, 12, 28] [3, 4, 5, 7] [] ⟨[(3, tP 3 0), (4, tP 4 0), (5, tP 5 0), (7, tP 7 0), (12, tI 10), (28, tB true)], [(3, .cells [opsMap] 87), (4, .cells ((askedC (LL (m))) q) 90), (5, .cells [.i 10, .s a0, .i a1, .i a2.X0, .i a2.Y0, .i a2.X1, .i a2.Y1, .list false 8 0 (fun _ _ => default)] 58), (7, .cells [.clo 64 2 (listF [.ptr 3 0, .ptr 4 0])] 119)]⟩ .nil (by kernel_rfl) .nil ?_
  refine ath_n ?_
  refine aw_cond_t (by kernel_rfl) ?_
  refine aw_seq ?_
  refine aw_region eqok [] [] [(33, (wevZ10_0 m q))] [6] [] [Same (wevZ10_0 m q).2.1, SameBs [.cells [opsMap] 87, .cells ((askedC (LL (m))) q) 90]] ⟨[(6, tB (FcoZa q))], []⟩ (.cons (callOk_rd (fun _ _ => by kernel_rfl) (by kernel_rfl) (by kernel_rfl) (pure_ce (pcoZa m q (by first | assumption | decide | omega | (simp only [List.length_cons, List.length_nil, List.length_append]; omega))) (.cons (AvE.refl _) (.cons (.one (.clo 64 2 _ _ (tab_get (by kernel_rfl)))) .nil)))) .nil) (by kernel_rfl) (.cons rfl (.cons rfl .nil)) ?_
  refine ath_n ?_
  refine aw_ret ?_
  refine abl_r ?_
  refine ath_r ?_
  exact ⟨_, Cv.refl _, .inl rfl, .av (.one (.b (FcoZa q))), by kernel_rfl, tve_eq (by rfl)⟩
def FevZN (q : TAsked) (c : TCond) : Bool := false
set_option maxRecDepth 100000 in
theorem pevZN (m : Nat) (q : TAsked) (c : TCond) (hq : AskOk q) (k : c.Op < 1 ∨ 10 < c.Op) : Pure Try.prog 35 [.one (opsMap), .agg ((askedC (LL (m))) q), .agg ((condC (LL (0))) c)] (.av (.one (.b (FevZN q c)))) := by
  refine pure_of_awF Try.func35 rfl (by kernel_rfl) (by kernel_rfl) fun W0 M0 => ?_
  refine aw_seq ?_
  refine aw_region eqok [] [] [] [3, 4, 5] [3, 4, 5] [] ⟨[(3, tP 3 0), (4, tP 4 0), (5, tP 5 0)], [(3, .cells [opsMap] 87), (4, .cells ((askedC (LL (m))) q) 90), (5, .cells ((condC (LL (0))) c) 58)]⟩ .nil (by kernel_rfl) .nil ?_
  refine ath_n ?_
  refine aw_seq ?_
  refine aw_region eqok [] [] [] [3, 4, 5, 7] [3, 4, 5, 7] [] ⟨[(3, tP 3 0), (4, tP 4 0), (5, tP 5 0), (7, tP 7 0)], [(3, .cells [opsMap] 87), (4, .cells ((askedC (LL (m))) q) 90), (5, .cells ((condC (LL (0))) c) 58), (7, .cells [.clo 64 2 (listF [.ptr 3 0, .ptr 4 0])] 119)]⟩ .nil (by kernel_rfl) .nil ?_
  refine ath_n ?_
  refine aw_seq ?_
  refine aw_seq ?_
  refine aw_region eqok [] [] [] [3, 4, 5, 7, 12] [3, 4, 5, 7] [] ⟨[(3, tP 3 0), (4, tP 4 0), (5, tP 5 0), (7, tP 7 0), (12, tI c.Op)], [(3, .cells [opsMap] 87), (4, .cells ((askedC (LL (m))) q) 90), (5, .cells ((condC (LL (0))) c) 58), (7, .cells [.clo 64 2 (listF [.ptr 3 0, .ptr 4 0])] 119)]⟩ .nil (by kernel_rfl) .nil ?_
  refine ath_n ?_
  refine aw_block ?_
  refine aw_seq ?_
  refine aw_region eqok [] [] [] [3, 4, 5, 7, 12, 13] [3, 4, 5, 7] [] ⟨[(3, tP 3 0), (4, tP 4 0), (5, tP 5 0), (7, tP 7 0), (12, tI c.Op), (13, tB (decide ((c.Op : Int) = 8)))], [(3, .cells [opsMap] 87), (4, .cells ((askedC (LL (m))) q) 90), (5, .cells ((condC (LL (0))) c) 58), (7, .cells [.clo 64 2 (listF [.ptr 3 0, .ptr 4 0])] 119)]⟩ .nil (by kernel_rfl) .nil ?_
  refine ath_n ?_
  refine aw_cond (decide ((c.Op : Int) = 8)) (by kernel_rfl) (fun h => absurd ((decide_eq_false (show ¬ c.Op = 8 by omega)).symm.trans h) (by decide)) (fun _ => ?_)
  refine aw_seq ?_
  refine aw_region eqok [] [] [] [3, 4, 5, 7, 12, 28] [3, 4, 5, 7] [] ⟨[(3, tP 3 0), (4, tP 4 0), (5, tP 5 0), (7, tP 7 0), (12, tI c.Op), (28, tB (decide ((c.Op : Int) = 10)))], [(3, .cells [opsMap] 87), (4, .cells ((askedC (LL (m))) q) 90), (5, .cells ((condC (LL (0))) c) 58), (7, .cells [.clo 64 2 (listF [.ptr 3 0, .ptr 4 0])] 119)]⟩ .nil (by kernel_rfl) .nil ?_
  refine ath_n ?_
  refine aw_cond (decide ((c.Op : Int) = 10)) (by kernel_rfl) (fun h => absurd ((decide_eq_false (show ¬ c.Op = 10 by omega)).symm.trans h) (by decide)) (fun _ => ?_)
  refine aw_seq ?_
  refine aw_region eqok [] [] [] [3, 4, 5, 7, 34] [3, 4, 5, 7] [] ⟨[(3, tP 3 0), (4, tP 4 0), (5, tP 5 0), (7, tP 7 0), (34, tB (decide ((c.Op : Int) = 9)))], [(3, .cells [opsMap] 87), (4, .cells ((askedC (LL (m))) q) 90), (5, .cells ((condC (LL (0))) c) 58), (7, .cells [.clo 64 2 (listF [.ptr 3 0, .ptr 4 0])] 119)]⟩ .nil (by kernel_rfl) .nil ?_
  refine ath_n ?_
  refine aw_cond (decide ((c.Op : Int) = 9)) (by kernel_rfl) (fun h => absurd ((decide_eq_false (show ¬ c.Op = 9 by omega)).symm.trans h) (by decide)) (fun _ => ?_)
  refine aw_skip ?_
  refine abl_n ?_
  refine ath_n ?_
  refine aw_seq ?_
  refine aw_region eqok [] [(45, (false, 0))] [] [4, 5, 8, 9] [4, 5, 8] [LookOk (.int .i64) 7 opsK (.int .i64 c.Op) false 0] ⟨[(4, tP 4 0), (5, tP 5 0), (8, tP 8 0), (9, tB false)], [(4, .cells ((askedC (LL (m))) q) 90), (5, .cells ((condC (LL (0))) c) 58), (8, .cells [.val .nilFunc] 114)]⟩ .nil (by kernel_rfl) (.cons (ops_no (by omega)) .nil) ?_
  refine ath_n ?_
  refine aw_seq ?_
  refine aw_region eqok [] [] [] [6] [] [((false) = true) → ((false) = true), ¬ ((false) = true), (false) = true → ((false) = true)] ⟨[(6, tB false)], []⟩ .nil (by kernel_rfl) (.cons id (.cons (by simp) (.cons id .nil))) ?_
  refine ath_n ?_
  refine aw_ret ?_
  exact ⟨_, Cv.refl _, .inl rfl, .av (.one (.b false)), by kernel_rfl, tve_eq (by rfl)⟩
def FevZ  (q : TAsked) (c : TCond) : Bool := if c.Op = 1 then FevZ1  q c.Text c.N c.Box c.L else if c.Op = 2 then FevZ2  q c.Text c.N c.Box c.L else if c.Op = 3 then FevZ3  q c.Text c.N c.Box c.L else if c.Op = 4 then FevZ4  q c.Text c.N c.Box c.L else if c.Op = 5 then FevZ5  q c.Text c.N c.Box c.L else if c.Op = 6 then FevZ6  q c.Text c.N c.Box c.L else if c.Op = 7 then FevZ7  q c.Text c.N c.Box c.L else if c.Op = 8 then FevZ8  q c.Text c.N c.Box c.L else if c.Op = 9 then FevZ9  q c.Text c.N c.Box c.L else if c.Op = 10 then FevZ10  q c.Text c.N c.Box c.L else FevZN  q c
theorem pevZ (m : Nat) (q : TAsked) (c : TCond) (hq : AskOk q) : Pure Try.prog 35 [.one opsMap, .agg ((askedC (LL (m))) q), .agg ((condC (LL (0))) c)] (.av (.one (.b (FevZ  q c)))) := by
  by_cases k : c.Op = 1
  · have hF : FevZ  q c = FevZ1  q c.Text c.N c.Box c.L := by unfold FevZ; rw [if_pos k]
    rw [hF]; clear hF; obtain ⟨o, a0, a1, a2, a3⟩ := c; have k : o = 1 := k; subst k; exact pevZ1 m q a0 a1 a2 a3 hq
  by_cases k : c.Op = 2
  · have hF : FevZ  q c = FevZ2  q c.Text c.N c.Box c.L := by unfold FevZ; rw [if_neg (show ¬ c.Op = 1 by omega)]; rw [if_pos k]
    rw [hF]; clear hF; obtain ⟨o, a0, a1, a2, a3⟩ := c; have k : o = 2 := k; subst k; exact pevZ2 m q a0 a1 a2 a3 hq
  by_cases k : c.Op = 3
  · have hF : FevZ  q c = FevZ3  q c.Text c.N c.Box c.L := by unfold FevZ; rw [if_neg (show ¬ c.Op = 1 by omega)]; rw [if_neg (show ¬ c.Op = 2 by omega)]; rw [if_pos k]
    rw [hF]; clear hF; obtain ⟨o, a0, a1, a2, a3⟩ := c; have k : o = 3 := k; subst k; exact pevZ3 m q a0 a1 a2 a3 hq
  by_cases k : c.Op = 4
  · have hF : FevZ  q c = FevZ4  q c.Text c.N c.Box c.L := by unfold FevZ; rw [if_neg (show ¬ c.Op = 1 by omega)]; rw [if_neg (show ¬ c.Op = 2 by omega)]; rw [if_neg (show ¬ c.Op = 3 by omega)]; rw [if_pos k]
    rw [hF]; clear hF; obtain ⟨o, a0, a1, a2, a3⟩ := c; have k : o = 4 := k; subst k; exact pevZ4 m q a0 a1 a2 a3 hq
  by_cases k : c.Op = 5
  · have hF : FevZ  q c = FevZ5  q c.Text c.N c.Box c.L := by unfold FevZ; rw [if_neg (show ¬ c.Op = 1 by omega)]; rw [if_neg (show ¬ c.Op = 2 by omega)]; rw [if_neg (show ¬ c.Op = 3 by omega)]; rw [if_neg (show ¬ c.Op = 4 by omega)]; rw [if_pos k]
    rw [hF]; clear hF; obtain ⟨o, a0, a1, a2, a3⟩ := c; have k : o = 5 := k; subst k; exact pevZ5 m q a0 a1 a2 a3 hq
  by_cases k : c.Op = 6
  · have hF : FevZ  q c = FevZ6  q c.Text c.N c.Box c.L := by unfold FevZ; rw [if_neg (show ¬ c.Op = 1 by omega)]; rw [if_neg (show ¬ c.Op = 2 by omega)]; rw [if_neg (show ¬ c.Op = 3 by omega)]; rw [if_neg (show ¬ c.Op = 4 by omega)]; rw [if_neg (show ¬ c.Op = 5 by omega)]; rw [if_pos k]
    rw [hF]; clear hF; obtain ⟨o, a0, a1, a2, a3⟩ := c; have k : o = 6 := k; subst k; exact pevZ6 m q a0 a1 a2 a3 hq
  by_cases k : c.Op = 7
  · have hF : FevZ  q c = FevZ7  q c.Text c.N c.Box c.L := by unfold FevZ; rw [if_neg (show ¬ c.Op = 1 by omega)]; rw [if_neg (show ¬ c.Op = 2 by omega)]; rw [if_neg (show ¬ c.Op = 3 by omega)]; rw [if_neg (show ¬ c.Op = 4 by omega)]; rw [if_neg (show ¬ c.Op = 5 by omega)]; rw [if_neg (show ¬ c.Op = 6 by omega)]; rw [if_pos k]
    rw [hF]; clear hF; obtain ⟨o, a0, a1, a2, a3⟩ := c; have k : o = 7 := k; subst k; exact pevZ7 m q a0 a1 a2 a3 hq
  by_cases k : c.Op = 8
  · have hF : FevZ  q c = FevZ8  q c.Text c.N c.Box c.L := by unfold FevZ; rw [if_neg (show ¬ c.Op = 1 by omega)]; rw [if_neg (show ¬ c.Op = 2 by omega)]; rw [if_neg (show ¬ c.Op = 3 by omega)]; rw [if_neg (show ¬ c.Op = 4 by omega)]; rw [if_neg (show ¬ c.Op = 5 by omega)]; rw [if_neg (show ¬ c.Op = 6 by omega)]; rw [if_neg (show ¬ c.Op = 7 by omega)]; rw [if_pos k]
    rw [hF]; clear hF; obtain ⟨o, a0, a1, a2, a3⟩ := c; have k : o = 8 := k; subst k; exact pevZ8 m q a0 a1 a2 a3 hq
  by_cases k : c.Op = 9
  · have hF : FevZ  q c = FevZ9  q c.Text c.N c.Box c.L := by unfold FevZ; rw [if_neg (show ¬ c.Op = 1 by omega)]; rw [if_neg (show ¬ c.Op = 2 by omega)]; rw [if_neg (show ¬ c.Op = 3 by omega)]; rw [if_neg (show ¬ c.Op = 4 by omega)]; rw [if_neg (show ¬ c.Op = 5 by omega)]; rw [if_neg (show ¬ c.Op = 6 by omega)]; rw [if_neg (show ¬ c.Op = 7 by omega)]; rw [if_neg (show ¬ c.Op = 8 by omega)]; rw [if_pos k]
    rw [hF]; clear hF; obtain ⟨o, a0, a1, a2, a3⟩ := c; have k : o = 9 := k; subst k; exact pevZ9 m q a0 a1 a2 a3 hq
  by_cases k : c.Op = 10
  · have hF : FevZ  q c = FevZ10  q c.Text c.N c.Box c.L := by unfold FevZ; rw [if_neg (show ¬ c.Op = 1 by omega)]; rw [if_neg (show ¬ c.Op = 2 by omega)]; rw [if_neg (show ¬ c.Op = 3 by omega)]; rw [if_neg (show ¬ c.Op = 4 by omega)]; rw [if_neg (show ¬ c.Op = 5 by omega)]; rw [if_neg (show ¬ c.Op = 6 by omega)]; rw [if_neg (show ¬ c.Op = 7 by omega)]; rw [if_neg (show ¬ c.Op = 8 by omega)]; rw [if_neg (show ¬ c.Op = 9 by omega)]; rw [if_pos k]
    rw [hF]; clear hF; obtain ⟨o, a0, a1, a2, a3⟩ := c; have k : o = 10 := k; subst k; exact pevZ10 m q a0 a1 a2 a3 hq
  have hN : c.Op < 1 ∨ 10 < c.Op := by omega
  have hF : FevZ  q c = FevZN  q c := by unfold FevZ; try rw [if_neg (show ¬ c.Op = 1 by omega)]; try rw [if_neg (show ¬ c.Op = 2 by omega)]; try rw [if_neg (show ¬ c.Op = 3 by omega)]; try rw [if_neg (show ¬ c.Op = 4 by omega)]; try rw [if_neg (show ¬ c.Op = 5 by omega)]; try rw [if_neg (show ¬ c.Op = 6 by omega)]; try rw [if_neg (show ¬ c.Op = 7 by omega)]; try rw [if_neg (show ¬ c.Op = 8 by omega)]; try rw [if_neg (show ¬ c.Op = 9 by omega)]; try rw [if_neg (show ¬ c.Op = 10 by omega)]
  rw [hF]; exact pevZN m q c hq hN
def Feval : Nat → TAsked → TCond → Bool
  | 0, q, c => FevZ q c
  | n + 1, q, c => FevS (Feval n) q c
theorem pEval (m : Nat) : ∀ (n : Nat) (q : TAsked) (c : TCond), AskOk q → CondOk n c → Pure Try.prog 35 [.one opsMap, .agg ((askedC (LL (m))) q), .agg ((condC (LL (n))) c)] (.av (.one (.b (Feval n q c))))
  | 0, q, c, hq, _ => pevZ m q c hq
  | n + 1, q, c, hq, hc => pevS m n (Feval n) (fun q c hq hc => pEval m n q c hq hc) q c hq hc
def BoxOk (b : TBoard) (it : TItem) : Prop := ClsOk b.Classes ∧ (it.Shape.Edges.length : Int) ≤ 1000000
end Go.Proofs.Ytoojlpcimogehaa
