/-
  No statement is proved in this text. It holds what functions return.
-/
import Derived.Test.YtoojlpcimogehaaProg
import Derived.Test.YtoojlpcimogehaaK21k
namespace Go.Proofs.Ytoojlpcimogehaa
open Go.RowKit
set_option linter.unusedVariables false
set_option linter.unusedSimpArgs false
theorem and_dec3 {p q r : Prop} [Decidable p] [Decidable q] [Decidable r] (h : (bif bif decide p then decide q else false then decide r else false) = true) : p ∧ q ∧ r := by
  by_cases hp : p <;> by_cases hq : q <;> by_cases hr : r <;> simp_all
def CondD : Nat → TCond → Prop
  | 0, _ => False
  | n + 1, c => (c.L.length : Int) ≤ 9223372036854775807 ∧ ∀ i, i < c.L.length → CondD n (c.L.getD i default)
def wcutS_1 (n : Nat) (c : TCond) (k : Int) (deep : Int) (r : Nat) (K : TCond → Int → TCond) : FuncId × List Av × Ef := (21, [.agg ((condC (LL (n))) (c.L.getD k.toNat default)), .one (.i (W64 (deep - 1)))], .val [] (.av (.agg ((condC (LL (r))) (K (c.L.getD k.toNat default) (W64 (deep - 1)))))))
def wcutS_2 (K : TCond → Int → TCond) (c : TCond) (k : Int) (deep : Int) : TCond := K (c.L.getD k.toNat default) (W64 (deep - 1))
def FcutS_l0 (K : TCond → Int → TCond) (c : TCond) (deep : Int) : Nat → List TCond → Int → TCond
  | 0, _, _ => default
  | n0 + 1, l, k => bif bif bif decide ((k : Int) < ((c.L.length : Int))) then decide ((k : Int) < 4) else false then decide ((0 : Int) < deep) else false then ((FcutS_l0 K c deep n0) (l ++ [wcutS_2 K c k deep]) (k + 1)) else (TCond.mk c.Op c.Text c.N c.Box l)
def FcutS (K : TCond → Int → TCond) (c : TCond) (deep : Int) : TCond := FcutS_l0 K c deep (((4 : Int) - 0).toNat + 1) (([] : List TCond)) 0
set_option maxRecDepth 100000 in
theorem pcutS (n : Nat) (r : Nat) (K : TCond → Int → TCond) (c : TCond) (deep : Int) (hK : ∀ (c : TCond) (deep : Int), CondD n c → (0 ≤ deep ∧ deep < (r : Int)) → Pure Try.prog 21 [.agg ((condC (LL (n))) c), .one (.i deep)] (.av (.agg ((condC (LL (r))) (K c deep))))) (hc : CondD (n + 1) c) (hd : 0 ≤ deep ∧ deep < (r : Int) + 1 ∧ (r : Int) ≤ 1000) : Pure Try.prog 21 [.agg ((condC (LL (n + 1))) c), .one (.i deep)] (.av (.agg ((condC (LL (r + 1))) (FcutS K c deep)))) := by
  refine pure_of_awF Try.func21 rfl (by kernel_rfl) (by kernel_rfl) fun W0 M0 => ?_
  have hl := hc.1
  refine aw_seq ?_
  refine aw_region eqok [] [] [] [1, 2, 4] [2, 4] [] ⟨[(1, tI deep), (2, tP 2 0), (4, tP 4 0)], [(2, .cells ((condC (LL (n + 1))) c) 58), (4, .cells [.i 0, .s (⟨#[]⟩), .i 0, .i 0, .i 0, .i 0, .i 0, .val (.slice none 0 0)] 58)]⟩ .nil (by kernel_rfl) .nil ?_
  refine ath_n ?_
  refine aw_seq ?_
  refine aw_region eqok [] [] [] [1, 2, 4, 5] [2, 4] [] ⟨[(1, tI deep), (2, tP 2 0), (4, tP 4 0), (5, .av (.one (.val (.slice none 0 0))))], [(2, .cells ((condC (LL (n + 1))) c) 58), (4, .cells [.i 0, .s (⟨#[]⟩), .i 0, .i 0, .i 0, .i 0, .i 0, .val (.slice none 0 0)] 58)]⟩ .nil (by kernel_rfl) .nil ?_
  refine ath_n ?_
  refine aw_seq ?_
  refine aw_seq ?_
  refine aw_region eqok [] [] [] [1, 2, 4, 5, 6] [2, 4] [] ⟨[(1, tI deep), (2, tP 2 0), (4, tP 4 0), (5, .av (.one (.val (.slice none 0 0)))), (6, tI 0)], [(2, .cells ((condC (LL (n + 1))) c) 58), (4, .cells [.i 0, .s (⟨#[]⟩), .i 0, .i 0, .i 0, .i 0, .i 0, .val (.slice none 0 0)] 58)]⟩ .nil (by kernel_rfl) .nil ?_
  refine ath_n ?_
  refine aw_block ?_
  refine aw_cv (Cv.trans (cv_ghost (⟨[(1, tI deep), (2, tP 2 0), (4, tP 4 0), (5, .av (.one (.own 100000 8 0))), (6, tI 0)], [(100000, .row 8 0 (fun _ _ => default) 58), (2, .cells ((condC (LL (n + 1))) c) 58), (4, .cells [.i 0, .s (⟨#[]⟩), .i 0, .i 0, .i 0, .i 0, .i 0, .val (.slice none 0 0)] 58)]⟩) 100000 8 (fun _ _ => default) 58 [(5, [0])] [] (K := none) (fun k x h => by cases h) rfl (by kernel_rfl) (by kernel_rfl)) (Cv.trans (cv_ce (⟨[(1, tI deep), (2, tP 2 0), (4, tP 4 0), (5, .av (.one (.own 100000 8 ((([] : List TCond)).length)))), (6, tI 0)], [(100000, .row 8 ((([] : List TCond)).length) (rowF (condC (LL (r))) (([] : List TCond))) 58), (2, .cells ((condC (LL (n + 1))) c) 58), (4, .cells [.i 0, .s (⟨#[]⟩), .i 0, .i 0, .i 0, .i 0, .i 0, .val (.slice none 0 0)] 58)]⟩) (.cons ⟨rfl, .refl _⟩ (.cons ⟨rfl, .refl _⟩ (.cons ⟨rfl, .refl _⟩ (.cons ⟨rfl, .av (.one (.own _ _ (by first | (simp; done) | (simp; omega))))⟩ (.cons ⟨rfl, .refl _⟩ .nil))))) (.cons ⟨rfl, bke_told 58 (told_nil 8 (fun _ _ => default) (condC (LL (r))))⟩ (.cons ⟨rfl, .refl _⟩ (.cons ⟨rfl, .refl _⟩ .nil)))) (Cv.trans (cv_keep [1, 2, 4, 5, 6] [2, 4, 100000] (⟨[(1, tI deep), (2, tP 2 0), (4, tP 4 0), (5, .av (.one (.own 100000 8 ((([] : List TCond)).length)))), (6, tI 0)], [(2, .cells ((condC (LL (n + 1))) c) 58), (4, .cells [.i 0, .s (⟨#[]⟩), .i 0, .i 0, .i 0, .i 0, .i 0, .val (.slice none 0 0)] 58), (100000, .row 8 ((([] : List TCond)).length) (rowF (condC (LL (r))) (([] : List TCond))) 58)]⟩) (by kernel_rfl)) (Cv.refl _)))) ?_
  refine aw_loopC (ι := Nat × List TCond × Int) (fun x => ⟨[(1, tI deep), (2, tP 2 0), (4, tP 4 0), (5, .av (.one (.own 100000 8 x.2.1.length))), (6, tI x.2.2)], [(2, .cells ((condC (LL (n + 1))) c) 58), (4, .cells [.i 0, .s (⟨#[]⟩), .i 0, .i 0, .i 0, .i 0, .i 0, .val (.slice none 0 0)] 58), (100000, .row 8 x.2.1.length (rowF (condC (LL (r))) x.2.1) 58)]⟩) (fun x => ((4 : Int) - x.2.2).toNat < x.1 ∧ (0 ≤ x.2.2 ∧ (x.2.1.length : Int) ≤ x.2.2 ∧ x.2.2 ≤ 4 ∧ 0 ≤ x.2.2) ∧ FcutS_l0 K c deep x.1 x.2.1 x.2.2 = FcutS K c deep) (fun x => x.1) ?_ (((4 : Int) - 0).toNat + 1, ([] : List TCond), 0) ⟨Nat.lt_succ_self _, ⟨(by show 0 ≤ 0; first | trivial | omega | (simp only [List.length_append, List.length_cons, List.length_nil]; omega) | (simp only [List.length_set, List.length_append, List.length_cons, List.length_nil]; omega) | (simp only [W64_def]; omega) | (simp; omega) | simp), (by show ((([] : List TCond)).length : Int) ≤ 0; first | trivial | omega | (simp only [List.length_append, List.length_cons, List.length_nil]; omega) | (simp only [List.length_set, List.length_append, List.length_cons, List.length_nil]; omega) | (simp only [W64_def]; omega) | (simp; omega) | simp), (by show 0 ≤ 4; first | trivial | omega | (simp only [List.length_append, List.length_cons, List.length_nil]; omega) | (simp only [List.length_set, List.length_append, List.length_cons, List.length_nil]; omega) | (simp only [W64_def]; omega) | (simp; omega) | simp), (by show 0 ≤ 0; first | trivial | omega | (simp only [List.length_append, List.length_cons, List.length_nil]; omega) | (simp only [List.length_set, List.length_append, List.length_cons, List.length_nil]; omega) | (simp only [W64_def]; omega) | (simp; omega) | simp)⟩, (by simp only [FcutS, cond_true, cond_false])⟩
  rintro ⟨n0, l, k⟩ ⟨hn, hinv, hF⟩
  have hm0 : ((4 : Int) - k).toNat < n0 := hn; have hinv0 : 0 ≤ k ∧ (l.length : Int) ≤ k ∧ k ≤ 4 ∧ 0 ≤ k := hinv; have hF0 : FcutS_l0 K c deep n0 l k = FcutS K c deep := hF; clear hn hinv hF
  cases n0 with
  | zero => exact absurd hm0 (Nat.not_lt_zero _)
  | succ n0 =>
    refine aw_seq ?_
    refine aw_seq ?_
    refine aw_region eqok [] [] [] [1, 2, 4, 5, 6, 19] [2, 4, 100000] [((decide ((k : Int) < ((c.L.length : Int)))) = true) → ((decide ((k : Int) < ((c.L.length : Int)))) = true), (decide ((k : Int) < ((c.L.length : Int)))) = true → ((decide ((k : Int) < ((c.L.length : Int)))) = true), ((bif decide ((k : Int) < ((c.L.length : Int))) then decide ((k : Int) < 4) else false) = true) → ((bif decide ((k : Int) < ((c.L.length : Int))) then decide ((k : Int) < 4) else false) = true), (bif decide ((k : Int) < ((c.L.length : Int))) then decide ((k : Int) < 4) else false) = true → ((bif decide ((k : Int) < ((c.L.length : Int))) then decide ((k : Int) < 4) else false) = true)] ⟨[(1, tI deep), (2, tP 2 0), (4, tP 4 0), (5, .av (.one (.own 100000 8 l.length))), (6, tI k), (19, tB (bif bif decide ((k : Int) < ((c.L.length : Int))) then decide ((k : Int) < 4) else false then decide ((0 : Int) < deep) else false))], [(2, .cells ((condC (LL (n + 1))) c) 58), (4, .cells [.i 0, .s (⟨#[]⟩), .i 0, .i 0, .i 0, .i 0, .i 0, .val (.slice none 0 0)] 58), (100000, .row 8 l.length (rowF (condC (LL (r))) l) 58)]⟩ .nil (by kernel_rfl) (.cons id (.cons id (.cons id (.cons id .nil)))) ?_
    refine ath_n ?_
    refine aw_cond (bif bif decide ((k : Int) < ((c.L.length : Int))) then decide ((k : Int) < 4) else false then decide ((0 : Int) < deep) else false) (by kernel_rfl) (fun h1 => ?_) (fun h1 => ?_)
    · have g1 := and_dec3 h1
      refine aw_skip ?_
      refine ath_n ?_
      refine aw_seq ?_
      refine aw_block ?_
      refine aw_region eqok [] [] [(30, (wcutS_1 n c k deep r K))] [1, 2, 4, 5, 6] [2, 4, 32] [0 ≤ (k : Int) ∧ (k : Int) < ((c.L.length : Nat) : Int), Same (wcutS_1 n c k deep r K).2.1, l.length = l.length, l.length + 1 ≤ maxLen, (l.length + 1) * 88 ≤ 140737488355328] ⟨[(1, tI deep), (2, tP 2 0), (4, tP 4 0), (5, .av (.one (.own 32 8 (l.length + 1)))), (6, tI k)], [(2, .cells ((condC (LL (n + 1))) c) 58), (4, .cells [.i 0, .s (⟨#[]⟩), .i 0, .i 0, .i 0, .i 0, .i 0, .val (.slice none 0 0)] 58), (32, .row 8 (l.length + 1) (fun i j => if i < l.length then (rowF (condC (LL (r))) l) i j else (colsC 8 1 [.i ((wcutS_2 K c k deep).Op), .s ((wcutS_2 K c k deep).Text), .i ((wcutS_2 K c k deep).N), .i (((wcutS_2 K c k deep).Box).X0), .i (((wcutS_2 K c k deep).Box).Y0), .i (((wcutS_2 K c k deep).Box).X1), .i (((wcutS_2 K c k deep).Box).Y1), LL (r) ((wcutS_2 K c k deep).L)]) (i - l.length) j) 58)]⟩ (.cons (callOk_pure (fun _ _ => by kernel_rfl) fun _ => hK (c.L.getD k.toNat default) (W64 (deep - 1)) (hc.2 _ (by omega)) (by rw [show W64 (deep - 1) = deep - 1 from W64_id (by omega) (by omega)]; omega)) .nil) (by kernel_rfl) (.cons (by first | exact in_next _ _ _ (by decide) (by decide) (by decide) | decide | omega) (.cons rfl (.cons rfl (.cons (by first | (unfold maxLen; omega) | (unfold maxLen; simp only [List.length_append, List.length_cons, List.length_nil]; omega) | first | omega | (simp only [List.length_append, List.length_cons, List.length_nil]; omega)) (.cons (by first | (unfold maxLen; omega) | (unfold maxLen; simp only [List.length_append, List.length_cons, List.length_nil]; omega) | first | omega | (simp only [List.length_append, List.length_cons, List.length_nil]; omega)) .nil))))) ?_
      refine abl_n ?_
      refine ath_n ?_
      refine aw_cv (Cv.trans (cv_ce (⟨[(1, tI deep), (2, tP 2 0), (4, tP 4 0), (5, .av (.one (.own 32 8 ((l ++ [wcutS_2 K c k deep]).length)))), (6, tI k)], [(2, .cells ((condC (LL (n + 1))) c) 58), (4, .cells [.i 0, .s (⟨#[]⟩), .i 0, .i 0, .i 0, .i 0, .i 0, .val (.slice none 0 0)] 58), (32, .row 8 ((l ++ [wcutS_2 K c k deep]).length) (rowF (condC (LL (r))) (l ++ [wcutS_2 K c k deep])) 58)]⟩) (.cons ⟨rfl, .refl _⟩ (.cons ⟨rfl, .refl _⟩ (.cons ⟨rfl, .refl _⟩ (.cons ⟨rfl, .av (.one (.own _ _ (by first | (simp; done) | (simp; omega))))⟩ (.cons ⟨rfl, .refl _⟩ .nil))))) (.cons ⟨rfl, .refl _⟩ (.cons ⟨rfl, .refl _⟩ (.cons ⟨rfl, bke_told 58 (told_app (told_rfl 8 (condC (LL (r))) l) (told_lit (c := (condC (LL (r)))) (xs := ([wcutS_2 K c k deep] : List TCond)) rfl (by kernel_rfl)))⟩ .nil)))) (Cv.refl _)) ?_
      refine aw_region eqok [] [] [] [1, 2, 4, 5, 6] [2, 4, 32] [] ⟨[(1, tI deep), (2, tP 2 0), (4, tP 4 0), (5, .av (.one (.own 32 8 ((l ++ [wcutS_2 K c k deep]).length)))), (6, tI (W64 (k + 1)))], [(2, .cells ((condC (LL (n + 1))) c) 58), (4, .cells [.i 0, .s (⟨#[]⟩), .i 0, .i 0, .i 0, .i 0, .i 0, .val (.slice none 0 0)] 58), (32, .row 8 ((l ++ [wcutS_2 K c k deep]).length) (rowF (condC (LL (r))) (l ++ [wcutS_2 K c k deep])) 58)]⟩ .nil (by kernel_rfl) .nil ?_
      (try rw [(show W64 (k + 1) = k + 1 from W64_id (by omega) (by omega))])
      refine ath_n ?_
      refine ⟨(n0, l ++ [wcutS_2 K c k deep], k + 1), ⟨?_, ?_, (by rw [← hF0]; simp only [FcutS_l0, h1, cond_true, cond_false])⟩, Nat.lt_succ_self _, Cv.trans (cv_ren (⟨[(1, tI deep), (2, tP 2 0), (4, tP 4 0), (5, .av (.one (.own 100000 8 ((l ++ [wcutS_2 K c k deep]).length)))), (6, tI (k + 1))], [(2, .cells ((condC (LL (n + 1))) c) 58), (4, .cells [.i 0, .s (⟨#[]⟩), .i 0, .i 0, .i 0, .i 0, .i 0, .val (.slice none 0 0)] 58), (100000, .row 8 ((l ++ [wcutS_2 K c k deep]).length) (rowF (condC (LL (r))) (l ++ [wcutS_2 K c k deep])) 58)]⟩) 32 100000 (K := none) (fun k x h => by cases h) rfl rfl (by kernel_rfl) (by kernel_rfl)) (cv_eq (by kernel_rfl))⟩
      · show ((4 : Int) - (k + 1)).toNat < n0; omega
      · exact ⟨(by show 0 ≤ (k + 1); first | trivial | omega | (simp only [List.length_append, List.length_cons, List.length_nil]; omega) | (simp only [List.length_set, List.length_append, List.length_cons, List.length_nil]; omega) | (simp only [W64_def]; omega) | (simp; omega) | simp), (by show ((l ++ [wcutS_2 K c k deep]).length : Int) ≤ (k + 1); first | trivial | omega | (simp only [List.length_append, List.length_cons, List.length_nil]; omega) | (simp only [List.length_set, List.length_append, List.length_cons, List.length_nil]; omega) | (simp only [W64_def]; omega) | (simp; omega) | simp), (by show (k + 1) ≤ 4; first | trivial | omega | (simp only [List.length_append, List.length_cons, List.length_nil]; omega) | (simp only [List.length_set, List.length_append, List.length_cons, List.length_nil]; omega) | (simp only [W64_def]; omega) | (simp; omega) | simp), (by show 0 ≤ (k + 1); first | trivial | omega | (simp only [List.length_append, List.length_cons, List.length_nil]; omega) | (simp only [List.length_set, List.length_append, List.length_cons, List.length_nil]; omega) | (simp only [W64_def]; omega) | (simp; omega) | simp)⟩
    · refine aw_exit ?_
      refine ath_e ?_
      refine ath_e ?_
      refine abl_hit ?_
      refine ath_n ?_
      refine aw_seq ?_
      refine aw_region eqok [] [] [] [2, 4] [2, 4, 100000] [] ⟨[(2, tP 2 0), (4, tP 4 0)], [(2, .cells [.i c.Op, .s c.Text, .i c.N, .i c.Box.X0, .i c.Box.Y0, .i c.Box.X1, .i c.Box.Y1, .own 100000 8 l.length] 58), (4, .cells [.i 0, .s (⟨#[]⟩), .i 0, .i 0, .i 0, .i 0, .i 0, .val (.slice none 0 0)] 58), (100000, .row 8 l.length (rowF (condC (LL (r))) l) 58)]⟩ .nil (by kernel_rfl) .nil ?_
      refine ath_n ?_
      refine aw_seq ?_
      refine aw_region eqok [] [] [] [4] [4, 100000] [] ⟨[(4, tP 4 0)], [(4, .cells [.i c.Op, .s c.Text, .i c.N, .i c.Box.X0, .i c.Box.Y0, .i c.Box.X1, .i c.Box.Y1, .own 100000 8 l.length] 58), (100000, .row 8 l.length (rowF (condC (LL (r))) l) 58)]⟩ .nil (by kernel_rfl) .nil ?_
      refine ath_n ?_
      refine aw_ret ?_
      exact ⟨_, Cv.trans (cv_fz (⟨[(4, tP 4 0)], [(4, .cells [.i c.Op, .s c.Text, .i c.N, .i c.Box.X0, .i c.Box.Y0, .i c.Box.X1, .i c.Box.Y1, lst 8 (condC (LL (r))) l] 58)]⟩) 100000 8 l.length (rowF (condC (LL (r))) l) 58 (K := none) (fun k x h => by cases h) (by kernel_rfl) (by kernel_rfl) (.cons ⟨rfl, rfl⟩ .nil) (by kernel_rfl)) (Cv.refl _), .inl rfl, .av (.agg [.i c.Op, .s c.Text, .i c.N, .i c.Box.X0, .i c.Box.Y0, .i c.Box.X1, .i c.Box.Y1, lst 8 (condC (LL (r))) l]), by kernel_rfl, tve_eq (by rw [← hF0]; first | (simp only [FcutS_l0, h1, cond_true, cond_false]; done) | (simp only [FcutS_l0, h1, cond_true, cond_false]; rfl))⟩
def Fcut : Nat → TCond → Int → TCond
  | 0, c, _ => c
  | r + 1, c, deep => FcutS (Fcut r) c deep
theorem pcut : ∀ (r n : Nat) (c : TCond) (deep : Int), CondD n c → (0 ≤ deep ∧ deep < (r : Int)) → (r : Int) ≤ 1000 → Pure Try.prog 21 [.agg ((condC (LL (n))) c), .one (.i deep)] (.av (.agg ((condC (LL (r))) (Fcut r c deep)))) := by
  intro r
  induction r with
  | zero => intro n c deep _ hd; omega
  | succ r ih =>
      intro n c deep hc hd hr
      cases n with
      | zero => exact hc.elim
      | succ n => exact pcutS n r (Fcut r) c deep (fun c deep hc hd => ih n c deep hc hd (by omega)) hc ⟨by omega, by omega, by omega⟩
theorem bifC1 {n : Nat} {c : Bool} {x y : TCond} (h1 : CondOk n x) (h2 : CondOk n y) : CondOk n (bif c then x else y) := by cases c <;> assumption
theorem cutS_l (r : Nat) (K : TCond → Int → TCond) (hK : ∀ c deep, CondOk r (K c deep)) (c : TCond) (deep : Int) : ∀ (m : Nat) (l : List TCond) (k : Int), (∀ j, CondOk r (l.getD j default)) → (l.length : Int) + m ≤ 1000000 → CondOk (r + 1) (FcutS_l0 K c deep m l k) := by
  intro m
  induction m with
  | zero => intro l k _ _; exact condOk_default (r + 1)
  | succ m ih =>
      intro l k hl hm
      unfold FcutS_l0
      refine bifC1 ?_ ?_
      · exact ih _ _ (lsOk_app hl (hK _ _)) (by simp only [List.length_append, List.length_cons, List.length_nil]; omega)
      · exact condOk_list (by omega) hl
theorem cut_ok : ∀ (r : Nat) (c : TCond) (deep : Int), CondOk r (Fcut r c deep)
  | 0, _, _ => trivial
  | r + 1, c, deep => cutS_l r (Fcut r) (cut_ok r) c deep (((4 : Int) - 0).toNat + 1) [] 0 (fun j => by simpa using condOk_default r) (by simp)
def wjHolds_0 (b : TBoard) (m : Nat) (it : TItem) (layer : Int) (n : Nat) (c : TCond) : FuncId × List Av × Ef := (35, [.one (opsMap), .agg [.i b.Layers, .i b.Outline.Kind, lst 7 TEdge.c b.Outline.Edges, .i b.Outline.R, lst 7 TPlaced.c b.Parts, lst 2 TNet.c b.Nets, lst 6 TTrack.c b.Tracks, lst 8 TVia.c b.Vias, lst 8 TPour.c b.Pours, lst 5 TKeep.c b.Keeps, lst 4 TSlot.c b.Slots, lst 2 TClass.c b.Classes, lst 20 (ruleC (LL (m))) b.Rules, lst 3 TWaiver.c b.Waivers, lst 3 TMatch.c b.Matches, .i it.Id, .s it.Pad, .i it.Kind, .s it.Net, .i it.From, .i it.To, .i it.Shape.Kind, lst 7 TEdge.c it.Shape.Edges, .i it.Shape.R, .i layer], .agg ((condC (LL (n))) c)], .val [] (tB (Feval n (TAsked.mk b it layer) c)))
def FjHolds (n : Nat) (b : TBoard) (c : TCond) (it : TItem) (layer : Int) : Bool := Feval n (TAsked.mk b it layer) c
set_option maxRecDepth 100000 in
theorem pjHolds (m : Nat) (n : Nat) (b : TBoard) (c : TCond) (it : TItem) (layer : Int) (hb : BoxOk b it) (hc : CondOk n c) : Pure Try.prog 22 [.agg ((boardC (LL (m))) b), .agg ((condC (LL (n))) c), .agg (TItem.c it), .one (.i layer)] (.av (.one (.b (FjHolds n b c it layer)))) := by
  refine pure_of_awF Try.func22 rfl (by kernel_rfl) (by kernel_rfl) fun W0 M0 => ?_
  have hp : AskOk ⟨b, it, layer⟩ := hb
  refine aw_seq ?_
  refine aw_region eqok [] [] [] [3, 4, 5, 6] [4, 5, 6] [] ⟨[(3, tI layer), (4, tP 4 0), (5, tP 5 0), (6, tP 6 0)], [(4, .cells ((boardC (LL (m))) b) 41), (5, .cells ((condC (LL (n))) c) 58), (6, .cells (TItem.c it) 44)]⟩ .nil (by kernel_rfl) .nil ?_
  refine ath_n ?_
  refine aw_seq ?_
  refine aw_draw mixed eqok [] [] [(9, (32, [], .val [] (.av (.one opsMap)))), (15, (wjHolds_0 b m it layer n c))] [8] [] [Same [], Same (wjHolds_0 b m it layer n c).2.1] ⟨[(8, tB (Feval n (TAsked.mk b it layer) c))], []⟩ (.cons (callOk_pure (fun _ _ => by kernel_rfl) fun _ => pOps) (.cons (callOk_pure (fun _ _ => by kernel_rfl) fun _ => pEval m n (TAsked.mk b it layer) c (by assumption) (by first | assumption | exact condOk_default _ | exact (hr.2.2 _).1 | exact (hr.2.2 _).2)) .nil)) (by kernel_rfl) (by kernel_rfl) (.cons rfl (.cons rfl .nil)) ?_
  refine ath_n ?_
  refine aw_ret ?_
  exact ⟨_, Cv.refl _, .inl rfl, .av (.one (.b (Feval n (TAsked.mk b it layer) c))), by kernel_rfl, tve_eq (by rfl)⟩
end Go.Proofs.Ytoojlpcimogehaa
