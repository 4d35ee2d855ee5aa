/-
  Proved: the statement of LengthTurns; the parts before it hold what its proof needs.
-/
import Derived.Test.YtgmhnkoifdpemaaLengthTurnsQd
namespace Go.Proofs.Ytgmhnkoifdpemaa
set_option maxRecDepth 100000
open Go.RowKit
set_option linter.unusedVariables false
set_option linter.unusedSimpArgs false
theorem tmod_1000 (x : Int) : -1000 < Int.tmod x 1000 ∧ Int.tmod x 1000 < 1000 := by
  rcases Int.lt_or_le x 0 with h | h
  · have b := Int.emod_nonneg (-x) (show (1000 : Int) ≠ 0 by omega)
    have b2 := Int.emod_lt_of_pos (-x) (show (0 : Int) < 1000 by omega)
    rw [show x.tmod 1000 = -((-x) % 1000) by rw [← Int.tmod_eq_emod_of_nonneg (by omega), Int.neg_tmod, Int.neg_neg]]
    omega
  · rw [Int.tmod_eq_emod_of_nonneg h]
    omega
theorem A64_mod (t : Int) : A64 t 3 = t % 4 := by
  unfold A64
  have h3 : (BitVec.ofInt 64 3).toNat = 2 ^ 2 - 1 := by decide
  rw [BitVec.toNat_and, h3, Nat.and_two_pow_sub_one_eq_mod, BitVec.toNat_ofInt, IntKind.wrap_i64]
  omega
theorem turns5_mod (t : Int) : Fref05Turns t = t % 4 := by
  unfold Fref05Turns
  rcases Int.lt_or_le t 0 with h | h
  · have b1 := Int.emod_nonneg (-t) (show (4 : Int) ≠ 0 by omega)
    rw [show t.tmod 4 = -((-t) % 4) by rw [← Int.tmod_eq_emod_of_nonneg (by omega), Int.neg_tmod, Int.neg_neg]]
    rw [W64_id (by omega) (by omega), Int.tmod_eq_emod_of_nonneg (by omega)]
    omega
  · rw [Int.tmod_eq_emod_of_nonneg h, W64_id (by omega) (by omega), Int.tmod_eq_emod_of_nonneg (by omega)]
    omega
def flip (m : Bool) (x : Int) : Int := if m = true then -x else x
def mvp (t : Int) (m : Bool) (a p : TPoint) : TPoint :=
  if t = 0 then ⟨flip m p.X + a.X, p.Y + a.Y⟩ else if t = 1 then ⟨-p.Y + a.X, flip m p.X + a.Y⟩ else if t = 2 then ⟨-flip m p.X + a.X, -p.Y + a.Y⟩ else ⟨p.Y + a.X, -flip m p.X + a.Y⟩
def Sm (p : TPoint) : Prop := (-100000 ≤ p.X ∧ p.X ≤ 100000) ∧ -100000 ≤ p.Y ∧ p.Y ≤ 100000
theorem flip_b (m : Bool) (x : Int) (h : -100000 ≤ x ∧ x ≤ 100000) : -100000 ≤ flip m x ∧ flip m x ≤ 100000 := by
  unfold flip
  split <;> omega
theorem flip_w (m : Bool) (x : Int) (h : -100000 ≤ x ∧ x ≤ 100000) : (bif m then W64 (0 - x) else x) = flip m x := by
  unfold flip
  rw [W64_id (by omega) (by omega)]
  cases m
  · rfl
  · show 0 - x = -x
    omega
theorem apply_mvp (m : TMotion) (p : TPoint) (hp : Sm p) (ha : Sm m.At) : FvecApply m p = mvp (m.Turn % 4) m.Mirror m.At p := by
  have ht : FvecTurns m = m.Turn % 4 := A64_mod m.Turn
  unfold FvecApply mvp
  unfold Sm at hp ha
  rw [flip_w m.Mirror p.X hp.1]
  have hf := flip_b m.Mirror p.X hp.1
  generalize flip m.Mirror p.X = x at *
  have h4 : m.Turn % 4 = 0 ∨ m.Turn % 4 = 1 ∨ m.Turn % 4 = 2 ∨ m.Turn % 4 = 3 := by omega
  rcases h4 with h | h | h | h <;> rw [h] at ht ⊢ <;> rw [ht]
  · show FvecApply_l0 m p 1 ⟨x, p.Y⟩ 0 = _
    simp only [FvecApply_l0, ht, Int.reduceLT, decide_false, cond_false, FvecAdd, if_true, TPoint.mk.injEq, W64_def]
    omega
  · show FvecApply_l0 m p 2 ⟨x, p.Y⟩ 0 = _
    simp only [FvecApply_l0, ht, Int.reduceLT, Int.reduceAdd, decide_true, cond_true, decide_false, cond_false, FvecAdd, Int.reduceEq, if_true, if_false, TPoint.mk.injEq, W64_def]
    omega
  · show FvecApply_l0 m p 3 ⟨x, p.Y⟩ 0 = _
    simp only [FvecApply_l0, ht, Int.reduceLT, Int.reduceAdd, decide_true, cond_true, decide_false, cond_false, FvecAdd, Int.reduceEq, if_true, if_false, TPoint.mk.injEq, W64_def]
    omega
  · show FvecApply_l0 m p 4 ⟨x, p.Y⟩ 0 = _
    simp only [FvecApply_l0, ht, Int.reduceLT, Int.reduceAdd, decide_true, cond_true, decide_false, cond_false, FvecAdd, Int.reduceEq, if_false, TPoint.mk.injEq, W64_def]
    omega
theorem apply5_mvp (m : TMotion) (p : TPoint) (hp : Sm p) (ha : Sm m.At) : Fref05Apply m p = mvp (m.Turn % 4) m.Mirror m.At p := by
  unfold Fref05Apply wref05Apply_0 Fref05mirrored Fref05turned mvp
  rw [turns5_mod]
  unfold Sm at hp ha
  rw [flip_w m.Mirror p.X hp.1]
  have hf := flip_b m.Mirror p.X hp.1
  generalize flip m.Mirror p.X = x at *
  have h4 : m.Turn % 4 = 0 ∨ m.Turn % 4 = 1 ∨ m.Turn % 4 = 2 ∨ m.Turn % 4 = 3 := by omega
  rcases h4 with h | h | h | h <;> rw [h] <;>
    simp only [decide_true, cond_true, decide_false, cond_false, Fref05Add, Int.reduceEq, if_true, if_false, TPoint.mk.injEq, W64_def] <;> omega
def MoveM (e : TEdge) (t : Int) (m : Bool) (a : TPoint) : TEdge := ⟨if m = true then (if e.Kind = 2 then 3 else if e.Kind = 3 then 2 else e.Kind) else e.Kind, mvp t m a e.A, mvp t m a e.B, if e.Kind = 1 then e.C else mvp t m a e.C⟩
theorem sm_edge {e : TEdge} (h : Small e) : Sm e.A ∧ Sm e.B ∧ Sm e.C := by
  unfold Small at h
  unfold Sm
  omega
theorem move_eq (e : TEdge) (m : TMotion) (h : OkE e) (hs : Small e) (ha : Sm m.At) : FMove e m = MoveM e (m.Turn % 4) m.Mirror m.At := by
  have hk := ok_kind h
  obtain ⟨s1, s2, s3⟩ := sm_edge hs
  have e1 := apply_mvp m e.A s1 ha
  have e2 := apply_mvp m e.B s2 ha
  have e3 := apply_mvp m e.C s3 ha
  obtain ⟨k, a0, a1, a2⟩ := e
  simp only at hk e1 e2 e3
  unfold FMove MoveM
  rcases hk with rfl | rfl | rfl
  · simp only [if_true, FMove1, e1, e2]
    cases m.Mirror <;> rfl
  · simp only [Int.reduceEq, if_false, if_true, FMove2, e1, e2, e3]
    cases m.Mirror <;> rfl
  · simp only [Int.reduceEq, if_false, if_true, FMove3, e1, e2, e3]
    cases m.Mirror <;> rfl
theorem small_rp {p : TPoint} (h : Sm p) : RP p := by
  unfold Sm at h
  unfold RP C27
  omega
theorem mvp_sm {t : Int} {m : Bool} {a p : TPoint} (hp : (-50000 ≤ p.X ∧ p.X ≤ 50000) ∧ -50000 ≤ p.Y ∧ p.Y ≤ 50000) (ha : (-1000 ≤ a.X ∧ a.X ≤ 1000) ∧ -1000 ≤ a.Y ∧ a.Y ≤ 1000) : Sm (mvp t m a p) := by
  unfold mvp Sm flip
  cases m <;> (repeat' split) <;> simp_all <;> omega
structure Mat where
  a : Int
  b : Int
  c : Int
  d : Int
def Mat.ok (M : Mat) (s : Int) : Prop := (M.a = 0 ∧ M.d = 0 ∧ (M.b = 1 ∨ M.b = -1) ∧ M.c = -s * M.b) ∨ (M.b = 0 ∧ M.c = 0 ∧ (M.a = 1 ∨ M.a = -1) ∧ M.d = s * M.a)
def Mat.ap (M : Mat) (o p : TPoint) : TPoint := ⟨M.a * p.X + M.b * p.Y + o.X, M.c * p.X + M.d * p.Y + o.Y⟩
theorem mvp_mat (t : Int) (m : Bool) (a : TPoint) : ∃ M : Mat, M.ok (if m = true then -1 else 1) ∧ ∀ p, mvp t m a p = M.ap a p := by
  unfold mvp flip
  by_cases h0 : t = 0
  · cases m
    · exact ⟨⟨1, 0, 0, 1⟩, .inr (by simp), fun p => by simp [h0, Mat.ap]⟩
    · exact ⟨⟨-1, 0, 0, 1⟩, .inr (by simp), fun p => by simp [h0, Mat.ap]⟩
  by_cases h1 : t = 1
  · cases m
    · exact ⟨⟨0, -1, 1, 0⟩, .inl (by simp), fun p => by simp [h1, Mat.ap]⟩
    · exact ⟨⟨0, -1, -1, 0⟩, .inl (by simp), fun p => by simp [h1, Mat.ap]⟩
  by_cases h2 : t = 2
  · cases m
    · exact ⟨⟨-1, 0, 0, -1⟩, .inr (by simp), fun p => by simp [h2, Mat.ap]⟩
    · exact ⟨⟨1, 0, 0, -1⟩, .inr (by simp), fun p => by simp [h2, Mat.ap]⟩
  · cases m
    · exact ⟨⟨0, 1, -1, 0⟩, .inl (by simp), fun p => by simp [h0, h1, h2, Mat.ap]⟩
    · exact ⟨⟨0, 1, 1, 0⟩, .inl (by simp), fun p => by simp [h0, h1, h2, Mat.ap]⟩
theorem mat_d2 {M : Mat} {s : Int} (h : M.ok s) (hs : s = 1 ∨ s = -1) (o p q : TPoint) : d2 (M.ap o p) (M.ap o q) = d2 p q := by
  unfold d2 Mat.ap
  obtain ⟨a, b, c, d⟩ := M
  unfold Mat.ok at h
  simp only at *
  rcases h with ⟨rfl, rfl, hb, rfl⟩ | ⟨rfl, rfl, hb, rfl⟩ <;> rcases hb with rfl | rfl <;> rcases hs with rfl | rfl <;> grind
theorem mot_rad {M : Mat} {s : Int} (h : M.ok s) (hs : s = 1 ∨ s = -1) (o a c : TPoint) : max ((M.ap o a).X - (M.ap o c).X) (-((M.ap o a).X - (M.ap o c).X)) + max ((M.ap o a).Y - (M.ap o c).Y) (-((M.ap o a).Y - (M.ap o c).Y)) = max (a.X - c.X) (-(a.X - c.X)) + max (a.Y - c.Y) (-(a.Y - c.Y)) := by
  unfold Mat.ap
  obtain ⟨ma, b, mc, d⟩ := M
  unfold Mat.ok at h
  simp only at *
  rcases h with ⟨rfl, rfl, hb, rfl⟩ | ⟨rfl, rfl, hb, rfl⟩ <;> rcases hb with rfl | rfl <;> rcases hs with rfl | rfl <;> simp only [Int.mul_one, Int.one_mul, Int.zero_mul, Int.mul_neg, Int.neg_mul, Int.neg_neg, Int.add_zero, Int.zero_add] <;> omega
theorem mot_ok {e : TEdge} {t : Int} {m : Bool} {o : TPoint} (h : OkE e) (hs : Small e) (ha : (-1000 ≤ o.X ∧ o.X ≤ 1000) ∧ -1000 ≤ o.Y ∧ o.Y ≤ 1000) : OkE (MoveM e t m o) := by
  have hs' := hs
  unfold Small at hs'
  refine ⟨⟨small_rp (mvp_sm (by omega) ha), small_rp (mvp_sm (by omega) ha), ?_⟩, ?_⟩
  · show RP (if e.Kind = 1 then e.C else mvp t m o e.C)
    split
    · exact h.1.2.2
    · exact small_rp (mvp_sm (by omega) ha)
  · obtain ⟨M, hM, hmv⟩ := mvp_mat t m o
    have h2 := h.2
    unfold Form MoveM at *
    simp only [hmv]
    obtain ⟨a, b, c, d⟩ := M
    obtain ⟨k, a0, a1, a2⟩ := e
    unfold Mat.ok at hM
    rcases h2 with ⟨hk, h3, h4⟩ | ⟨hk, h3, h4, h5⟩ | ⟨hk, h3, h4, h5⟩
    · simp only at hk
      subst hk
      left
      cases m <;> simp_all
    · simp only at hk
      subst hk
      have h6 := odd_cases h3
      simp only at h4 h5 h6
      cases m
      · right; left
        simp only [QL, Odd, Mat.ap] at *
        rcases hM with ⟨rfl, rfl, hb, rfl⟩ | ⟨rfl, rfl, hb, rfl⟩ <;> rcases hb with rfl | rfl <;> simp <;> omega
      · right; right
        simp only [QR, Odd, Mat.ap] at *
        rcases hM with ⟨rfl, rfl, hb, rfl⟩ | ⟨rfl, rfl, hb, rfl⟩ <;> rcases hb with rfl | rfl <;> simp <;> omega
    · simp only at hk
      subst hk
      have h6 := odd_cases h3
      simp only at h4 h5 h6
      cases m
      · right; right
        simp only [QR, Odd, Mat.ap] at *
        rcases hM with ⟨rfl, rfl, hb, rfl⟩ | ⟨rfl, rfl, hb, rfl⟩ <;> rcases hb with rfl | rfl <;> simp <;> omega
      · right; left
        simp only [QL, Odd, Mat.ap] at *
        rcases hM with ⟨rfl, rfl, hb, rfl⟩ | ⟨rfl, rfl, hb, rfl⟩ <;> rcases hb with rfl | rfl <;> simp <;> omega
end Go.Proofs.Ytgmhnkoifdpemaa
namespace Go.Proofs.Ytgmhnkoifdpemaa
set_option maxRecDepth 100000
open Go.RowKit
set_option linter.unusedVariables false
set_option linter.unusedSimpArgs false
theorem pt_sm {p : TPoint} (h : PT 1000 p) : Sm p := by unfold PT at h; unfold Sm; omega
theorem z_sm : Sm ⟨0, 0⟩ := by unfold Sm; simp only; omega
theorem ap0 {p : TPoint} (h : PT 1000 p) : Fref05Apply ⟨⟨0, 0⟩, 0, false⟩ p = p := by
  rw [apply5_mvp _ _ (pt_sm h) z_sm]; simp [mvp, flip]
theorem ap1 {p : TPoint} (h : PT 1000 p) : Fref05Apply ⟨⟨0, 0⟩, 1, false⟩ p = ⟨-p.Y, p.X⟩ := by
  rw [apply5_mvp _ _ (pt_sm h) z_sm]; simp [mvp, flip]
theorem ap2 {p : TPoint} (h : PT 1000 p) : Fref05Apply ⟨⟨0, 0⟩, 2, false⟩ p = ⟨-p.X, -p.Y⟩ := by
  rw [apply5_mvp _ _ (pt_sm h) z_sm]; simp [mvp, flip]
theorem ap3 {p : TPoint} (h : PT 1000 p) : Fref05Apply ⟨⟨0, 0⟩, 3, false⟩ p = ⟨p.Y, -p.X⟩ := by
  rw [apply5_mvp _ _ (pt_sm h) z_sm]; simp [mvp, flip]
theorem pt_mono {b c : Int} {p : TPoint} (h : PT b p) (hc : b ≤ c) : PT c p := by unfold PT at *; omega
theorem aa0 {a d : TPoint} (ha : PT 500 a) (hd : PT 400 d) : Fref05Add a (Fref05Apply ⟨⟨0, 0⟩, 0, false⟩ d) = ⟨a.X + d.X, a.Y + d.Y⟩ := by
  rw [ap0 (pt_mono hd (by decide)), add5 (pt_mono ha (by decide)) (pt_mono hd (by decide))]
theorem aa1 {a d : TPoint} (ha : PT 500 a) (hd : PT 400 d) : Fref05Add a (Fref05Apply ⟨⟨0, 0⟩, 1, false⟩ d) = ⟨a.X - d.Y, a.Y + d.X⟩ := by
  rw [ap1 (pt_mono hd (by decide)), add5 (pt_mono ha (by decide)) (by unfold PT at *; simp only; omega)]
  simp [Int.sub_eq_add_neg]
theorem aa2 {a d : TPoint} (ha : PT 500 a) (hd : PT 400 d) : Fref05Add a (Fref05Apply ⟨⟨0, 0⟩, 2, false⟩ d) = ⟨a.X - d.X, a.Y - d.Y⟩ := by
  rw [ap2 (pt_mono hd (by decide)), add5 (pt_mono ha (by decide)) (by unfold PT at *; simp only; omega)]
  simp [Int.sub_eq_add_neg]
theorem aa3 {a d : TPoint} (ha : PT 500 a) (hd : PT 400 d) : Fref05Add a (Fref05Apply ⟨⟨0, 0⟩, 3, false⟩ d) = ⟨a.X + d.Y, a.Y - d.X⟩ := by
  rw [ap3 (pt_mono hd (by decide)), add5 (pt_mono ha (by decide)) (by unfold PT at *; simp only; omega)]
  simp [Int.sub_eq_add_neg]
theorem dirY {r t : Int} (hr : 0 ≤ r ∧ r ≤ 100) (ht : 0 ≤ t ∧ t ≤ 3) : Fref05Apply ⟨⟨0, 0⟩, t, false⟩ ⟨0, r⟩ = ⟨-py r t, px r t⟩ := by
  have hp : PT 1000 ⟨0, r⟩ := by unfold PT; simp only; omega
  have t4 : t = 0 ∨ t = 1 ∨ t = 2 ∨ t = 3 := by omega
  rcases t4 with rfl | rfl | rfl | rfl
  · rw [ap0 hp]; simp [px, py]
  · rw [ap1 hp]; simp [px, py]
  · rw [ap2 hp]; simp [px, py]
  · rw [ap3 hp]; simp [px, py]
theorem pxy {r t : Int} (hr : 0 ≤ r) (ht : 0 ≤ t ∧ t ≤ 3) : (px r t = r ∧ py r t = 0) ∨ (px r t = 0 ∧ py r t = r) ∨ (px r t = -r ∧ py r t = 0) ∨ (px r t = 0 ∧ py r t = -r) := by
  have t4 : t = 0 ∨ t = 1 ∨ t = 2 ∨ t = 3 := by omega
  rcases t4 with rfl | rfl | rfl | rfl <;> simp [px, py]
theorem arcL_ok {a b c : TPoint} (ha : P300 a) (hb : P300 b) (hc : P300 c) (ho : ¬ (a.X - c.X = 0 ↔ a.Y - c.Y = 0)) (h1 : b.X - c.X = -(a.Y - c.Y)) (h2 : b.Y - c.Y = a.X - c.X) : OkE ⟨2, a, b, c⟩ ∧ Small ⟨2, a, b, c⟩ :=
  ⟨⟨⟨p300_rp ha, p300_rp hb, p300_rp hc⟩, .inr (.inl ⟨rfl, ho, h1, h2⟩)⟩, small_of ha hb hc⟩
theorem arcR_ok {a b c : TPoint} (ha : P300 a) (hb : P300 b) (hc : P300 c) (ho : ¬ (a.X - c.X = 0 ↔ a.Y - c.Y = 0)) (h1 : b.X - c.X = a.Y - c.Y) (h2 : b.Y - c.Y = -(a.X - c.X)) : OkE ⟨3, a, b, c⟩ ∧ Small ⟨3, a, b, c⟩ :=
  ⟨⟨⟨p300_rp ha, p300_rp hb, p300_rp hc⟩, .inr (.inr ⟨rfl, ho, h1, h2⟩)⟩, small_of ha hb hc⟩
theorem made07_ok (l : List Int) : OkE (FMade07 l 1) ∧ Small (FMade07 l 1) := by
  unfold FMade07 wMade07_13 wMade07_15 wMade07_12 wMade07_14 wMade07_10 wMade07_11
  have b1 := next_b (TDraw.mk l 0) 3 (by decide) (by decide)
  have b2 := next_b (FNext (TDraw.mk l 0) 3).2 13 (by decide) (by decide)
  have b3 := next_b (wMade07_2 l) 13 (by decide) (by decide)
  have b4 := next_b (FNext (wMade07_2 l) 13).2 25 (by decide) (by decide)
  have b5 := next_b (wMade07_5 l) 25 (by decide) (by decide)
  have b6 := next_b (FNext (wMade07_2 l) 13).2 12 (by decide) (by decide)
  have b7 := next_b (wMade07_8 l) 4 (by decide) (by decide)
  generalize (FNext (TDraw.mk l 0) 3).1 = k at *
  generalize (FNext (FNext (TDraw.mk l 0) 3).2 13).1 = x at *
  generalize (FNext (wMade07_2 l) 13).1 = y at *
  generalize (FNext (FNext (wMade07_2 l) 13).2 25).1 = u at *
  generalize (FNext (wMade07_5 l) 25).1 = v at *
  generalize (FNext (FNext (wMade07_2 l) 13).2 12).1 = r at *
  generalize (FNext (wMade07_8 l) 4).1 = t at *
  have ek : W64 (1 + k) = 1 + k := W64_id (by omega) (by omega)
  have ex : W64 (1 * W64 (x + 6)) = x + 6 := by rw [Int.one_mul, W64_id (x := x + 6) (by omega) (by omega), W64_id (by omega) (by omega)]
  have ey : W64 (1 * W64 (y + 6)) = y + 6 := by rw [Int.one_mul, W64_id (x := y + 6) (by omega) (by omega), W64_id (by omega) (by omega)]
  have eu : W64 (1 * u) = u := by rw [Int.one_mul, W64_id (by omega) (by omega)]
  have ev : W64 (1 * v) = v := by rw [Int.one_mul, W64_id (by omega) (by omega)]
  have er : W64 (1 * W64 (1 + r)) = 1 + r := by rw [Int.one_mul, W64_id (x := 1 + r) (by omega) (by omega), W64_id (by omega) (by omega)]
  rw [ek, ex, ey, eu, ev, er]
  by_cases h1 : 1 + k = 1
  · rw [decide_eq_true h1]
    simp only [cond_true]
    rw [h1]
    exact line_ok (by unfold P300; simp only; omega) (by unfold P300; simp only; omega)
  · rw [decide_eq_false h1]
    simp only [cond_false]
    rw [dir5 (by omega) (by omega), dirY (by omega) (by omega)]
    have hp := pxy (r := 1 + r) (t := t) (by omega) (by omega)
    generalize px (1 + r) t = a at *; generalize py (1 + r) t = b at *
    by_cases h3 : 1 + k = 3
    · rw [h3, decide_eq_true rfl]
      simp only [cond_true]
      rw [add5 (by unfold PT; simp only; omega) (by unfold PT; simp only; omega), add5 (by unfold PT; simp only; omega) (by unfold PT; simp only; omega)]
      exact arcR_ok (by unfold P300; simp only; omega) (by unfold P300; simp only; omega) (by unfold P300; simp only; omega) (by simp only; omega) (by simp only; omega) (by simp only; omega)
    · rw [show 1 + k = 2 by omega, decide_eq_false (by decide)]
      simp only [cond_false]
      rw [add5 (by unfold PT; simp only; omega) (by unfold PT; simp only; omega), add5 (by unfold PT; simp only; omega) (by unfold PT; simp only; omega)]
      exact arcL_ok (by unfold P300; simp only; omega) (by unfold P300; simp only; omega) (by unfold P300; simp only; omega) (by simp only; omega) (by simp only; omega) (by simp only; omega)
theorem quarter_ok {p : TPoint} {r t : Int} {right : Bool} (hp : PT 200 p) (hr : 1 ≤ r ∧ r ≤ 9) (ht : 0 ≤ t ∧ t ≤ 3) : (OkE (Fquarter10 p r t right) ∧ Small (Fquarter10 p r t right)) ∧ (Fquarter10 p r t right).A = p ∧ (p.X - 18 ≤ (Fquarter10 p r t right).B.X ∧ (Fquarter10 p r t right).B.X ≤ p.X + 18) ∧ p.Y - 18 ≤ (Fquarter10 p r t right).B.Y ∧ (Fquarter10 p r t right).B.Y ≤ p.Y + 18 := by
  unfold Fquarter10 wquarter10_5 wquarter10_4 wquarter10_3 wquarter10_2 wquarter10_1 wquarter10_0
  rw [dir5 (by omega) (by omega)]
  have hq := pxy (r := r) (t := t) (by omega) (by omega)
  generalize px r t = a at *; generalize py r t = b at *
  obtain ⟨x, y⟩ := p
  unfold PT at hp
  simp only at hp
  rw [add5 (a := ⟨x, y⟩) (b := ⟨a, b⟩) (by unfold PT; simp only; omega) (by unfold PT; simp only; omega)]
  simp only
  rw [sub5 (by unfold PT; simp only; omega) (by unfold PT; simp only; omega), ap1 (by unfold PT; simp only; omega), ap3 (by unfold PT; simp only; omega)]
  cases right
  · simp only [cond_false]
    rw [add5 (by unfold PT; simp only; omega) (by unfold PT; simp only; omega)]
    refine ⟨arcL_ok (by unfold P300; simp only; omega) (by unfold P300; simp only; omega) (by unfold P300; simp only; omega) (by simp only; omega) (by simp only; omega) (by simp only; omega), trivial, ?_⟩
    simp only; omega
  · simp only [cond_true]
    rw [add5 (by unfold PT; simp only; omega) (by unfold PT; simp only; omega)]
    refine ⟨arcR_ok (by unfold P300; simp only; omega) (by unfold P300; simp only; omega) (by unfold P300; simp only; omega) (by simp only; omega) (by simp only; omega) (by simp only; omega), trivial, ?_⟩
    simp only; omega
theorem mk_eq {a b c d : Int} (h1 : a = c) (h2 : b = d) : TPoint.mk a b = ⟨c, d⟩ := by rw [h1, h2]
theorem round_ok {p : TPoint} {r w h : Int} (hp : (0 ≤ p.X ∧ p.X ≤ 100) ∧ 0 ≤ p.Y ∧ p.Y ≤ 100) (hr : 1 ≤ r ∧ r ≤ 9) (hw : 1 ≤ w ∧ w ≤ 9) (hh : 1 ≤ h ∧ h ≤ 9) : SmallS (Fround10 p r w h) := by
  have e0 : W64 (p.X + r) = p.X + r := W64_id (by omega) (by omega)
  have e1 : wround10_1 p r w = ⟨p.X + r + w, p.Y⟩ := by
    unfold wround10_1 wround10_0
    rw [e0, aa0 (by unfold PT; simp only; omega) (by unfold PT; simp only; omega)]
    exact mk_eq (by (try simp only); try omega) (by (try simp only); try omega)
  have e3 : wround10_3 p r w = ⟨p.X + r + w, p.Y + r⟩ := by
    unfold wround10_3 wround10_2
    rw [e1, aa0 (by unfold PT; simp only; omega) (by unfold PT; simp only; omega)]
    exact mk_eq (by (try simp only); try omega) (by (try simp only); try omega)
  have e5 : wround10_5 p r w = ⟨p.X + r + w + r, p.Y + r⟩ := by
    unfold wround10_5 wround10_4
    rw [e3, aa0 (by unfold PT; simp only; omega) (by unfold PT; simp only; omega)]
    exact mk_eq (by (try simp only); try omega) (by (try simp only); try omega)
  have e8 : wround10_8 p r w h = ⟨p.X + r + w + r, p.Y + r + h⟩ := by
    unfold wround10_8 wround10_7
    rw [e5, aa1 (by unfold PT; simp only; omega) (by unfold PT; simp only; omega)]
    exact mk_eq (by (try simp only); try omega) (by (try simp only); try omega)
  have e10 : wround10_10 p r w h = ⟨p.X + r + w, p.Y + r + h⟩ := by
    unfold wround10_10 wround10_9
    rw [e8, aa1 (by unfold PT; simp only; omega) (by unfold PT; simp only; omega)]
    exact mk_eq (by (try simp only); try omega) (by (try simp only); try omega)
  have e12 : wround10_12 p r w h = ⟨p.X + r + w, p.Y + r + h + r⟩ := by
    unfold wround10_12 wround10_11
    rw [e10, aa1 (by unfold PT; simp only; omega) (by unfold PT; simp only; omega)]
    exact mk_eq (by (try simp only); try omega) (by (try simp only); try omega)
  have e15 : wround10_15 p r w h = ⟨p.X + r, p.Y + r + h + r⟩ := by
    unfold wround10_15 wround10_14
    rw [e12, aa2 (by unfold PT; simp only; omega) (by unfold PT; simp only; omega)]
    exact mk_eq (by (try simp only); try omega) (by (try simp only); try omega)
  have e17 : wround10_17 p r w h = ⟨p.X + r, p.Y + r + h⟩ := by
    unfold wround10_17 wround10_16
    rw [e15, aa2 (by unfold PT; simp only; omega) (by unfold PT; simp only; omega)]
    exact mk_eq (by (try simp only); try omega) (by (try simp only); try omega)
  have e19 : wround10_19 p r w h = ⟨p.X, p.Y + r + h⟩ := by
    unfold wround10_19 wround10_18
    rw [e17, aa2 (by unfold PT; simp only; omega) (by unfold PT; simp only; omega)]
    exact mk_eq (by (try simp only); try omega) (by (try simp only); try omega)
  have e22 : wround10_22 p r w h = ⟨p.X, p.Y + r⟩ := by
    unfold wround10_22 wround10_21
    rw [e19, aa3 (by unfold PT; simp only; omega) (by unfold PT; simp only; omega)]
    exact mk_eq (by (try simp only); try omega) (by (try simp only); try omega)
  have e24 : wround10_24 p r w h = ⟨p.X + r, p.Y + r⟩ := by
    unfold wround10_24 wround10_23
    rw [e22, aa3 (by unfold PT; simp only; omega) (by unfold PT; simp only; omega)]
    exact mk_eq (by (try simp only); try omega) (by (try simp only); try omega)
  have e26 : wround10_26 p r w h = ⟨p.X + r, p.Y⟩ := by
    unfold wround10_26 wround10_25
    rw [e24, aa3 (by unfold PT; simp only; omega) (by unfold PT; simp only; omega)]
    exact mk_eq (by (try simp only); try omega) (by (try simp only); try omega)
  unfold Fround10 wround10_6 wround10_13 wround10_20 wround10_27 Fref10line
  rw [e0, e1, e3, e5, e8, e10, e12, e15, e17, e19, e22, e24, e26]
  refine okS_area (a := ⟨p.X + r, p.Y⟩) ⟨by simp, by simp⟩ (fun e he => ?_) ?_
  · simp only [List.mem_append, List.mem_cons, List.not_mem_nil, or_false] at he
    have P : ∀ {x y : Int}, (-300 ≤ x ∧ x ≤ 300) ∧ -300 ≤ y ∧ y ≤ 300 → P300 ⟨x, y⟩ := fun h => h
    rcases he with ((((rfl | rfl) | (rfl | rfl)) | (rfl | rfl)) | (rfl | rfl))
    · exact line_ok (P (by omega)) (P (by omega))
    · exact arcL_ok (P (by omega)) (P (by omega)) (P (by omega)) (by simp only; omega) (by simp only; omega) (by simp only; omega)
    · exact line_ok (P (by omega)) (P (by omega))
    · exact arcL_ok (P (by omega)) (P (by omega)) (P (by omega)) (by simp only; omega) (by simp only; omega) (by simp only; omega)
    · exact line_ok (P (by omega)) (P (by omega))
    · exact arcL_ok (P (by omega)) (P (by omega)) (P (by omega)) (by simp only; omega) (by simp only; omega) (by simp only; omega)
    · exact line_ok (P (by omega)) (P (by omega))
    · exact arcL_ok (P (by omega)) (P (by omega)) (P (by omega)) (by simp only; omega) (by simp only; omega) (by simp only; omega)
  · exact ⟨rfl, rfl, rfl, rfl, rfl, rfl, rfl, rfl, rfl⟩
theorem line10 (a b : TPoint) : Fref10line a b = ⟨1, a, b, ⟨0, 0⟩⟩ := rfl
theorem step10 {v3 : TDraw} {v4 : TPoint} {b : Int} (hb : 0 ≤ b ∧ b ≤ 150) (h : PT b v4) : (OkE (wMade10_47 v3 v4) ∧ Small (wMade10_47 v3 v4)) ∧ (wMade10_47 v3 v4).A = v4 ∧ PT (b + 20) (wMade10_47 v3 v4).B := by
  unfold wMade10_47
  cases hc : decide ((((FNext ((FNext ((FNext v3 21).2) 21).2) 2).1) : Int) = 1) with
  | false =>
    simp only [cond_false]
    unfold wMade10_39
    have b1 := next_b v3 21 (by decide) (by decide)
    have b2 := next_b (FNext v3 21).2 21 (by decide) (by decide)
    generalize (FNext v3 21).1 = x at *
    generalize (FNext (FNext v3 21).2 21).1 = y at *
    unfold PT at h
    rw [W64_id (x := v4.X + x) (by omega) (by omega), W64_id (x := v4.Y + y) (by omega) (by omega), W64_id (by omega) (by omega), W64_id (by omega) (by omega), line10]
    refine ⟨line_ok (by unfold P300; omega) (by unfold P300; simp only; omega), rfl, ?_⟩
    unfold PT
    simp only
    omega
  | true =>
    simp only [cond_true]
    unfold wMade10_46
    have b1 := next_b (wMade10_41 v3) 9 (by decide) (by decide)
    have b2 := next_b (FNext (wMade10_41 v3) 9).2 4 (by decide) (by decide)
    rw [W64_id (x := 1 + (FNext (wMade10_41 v3) 9).1) (by omega) (by omega)]
    have hq := quarter_ok (p := v4) (r := 1 + (FNext (wMade10_41 v3) 9).1) (t := (FNext (FNext (wMade10_41 v3) 9).2 4).1) (right := decide ((((FNext (wMade10_44 v3) 2).1) : Int) = 1)) (pt_mono h (by omega)) (by omega) (by omega)
    refine ⟨hq.1, hq.2.1, ?_⟩
    unfold PT at *
    omega
theorem path10_l0 (l : List Int) (at_ : TPoint) : ∀ (n k : Nat) (es : List TEdge) (v4 : TPoint) (v3 : TDraw), es.length = k → (k : Int) ≤ W64 (1 + ((FNext ((FNext ((FNext (wMade10_2 l) 6).2) 6).2) 3).1)) → (W64 (1 + ((FNext ((FNext ((FNext (wMade10_2 l) 6).2) 6).2) 3).1)) - k).toNat < n → (∀ e ∈ es, OkE e ∧ Small e) → Ch at_ es v4 → PT (50 + 20 * k) v4 →
    ∃ es' v4', FMade10_l0 l n es v4 v3 (k : Int) = ⟨1, es', (FNext ((FNext (wMade10_2 l) 6).2) 6).1⟩ ∧ (es'.length : Int) = W64 (1 + ((FNext ((FNext ((FNext (wMade10_2 l) 6).2) 6).2) 3).1)) ∧ (∀ e ∈ es', OkE e ∧ Small e) ∧ Ch at_ es' v4'
  | 0, k, es, v4, v3, _, _, hn, _, _, _ => by omega
  | n + 1, k, es, v4, v3, hl, hk, hn, hg, hc, hp => by
    unfold FMade10_l0
    have b3 := next_b ((FNext ((FNext (wMade10_2 l) 6).2) 6).2) 3 (by decide) (by decide)
    have w3 : W64 (1 + ((FNext ((FNext ((FNext (wMade10_2 l) 6).2) 6).2) 3).1)) = 1 + ((FNext ((FNext ((FNext (wMade10_2 l) 6).2) 6).2) 3).1) := W64_id (by omega) (by omega)
    by_cases hlt : (k : Int) < W64 (1 + ((FNext ((FNext ((FNext (wMade10_2 l) 6).2) 6).2) 3).1))
    · rw [decide_eq_true hlt]
      simp only [cond_true]
      obtain ⟨g, ga, gb⟩ := step10 (v3 := v3) (v4 := v4) (b := 50 + 20 * k) (by omega) hp
      rw [show ((k : Int) + 1) = ((k + 1 : Nat) : Int) by omega]
      refine path10_l0 l at_ n (k + 1) _ _ _ (by simp [hl]) (by omega) (by omega) (fun e he => ?_) (ch_append.2 ⟨v4, hc, ga, rfl⟩) ?_
      · rcases List.mem_append.1 he with he | he
        · exact hg e he
        · rw [List.mem_singleton.1 he]; exact g
      · have : wMade10_48 v3 v4 = (wMade10_47 v3 v4).B := rfl
        rw [this]
        unfold PT at *
        omega
    · rw [decide_eq_false hlt]
      simp only [cond_false]
      exact ⟨es, v4, rfl, by omega, hg, hc⟩
theorem made10_ok (l : List Int) : SmallS (FMade10 l) := by
  have b1 := next_b (TDraw.mk l 0) 50 (by decide) (by decide)
  have b2 := next_b (FNext (TDraw.mk l 0) 50).2 50 (by decide) (by decide)
  unfold FMade10
  cases decide ((((FNext (wMade10_2 l) 6).1) : Int) = 0) with
  | true =>
    simp only [cond_true]
    unfold wMade10_7
    have b3 := next_b (FNext (wMade10_2 l) 6).2 20 (by decide) (by decide)
    have b4 := next_b (FNext (FNext (wMade10_2 l) 6).2 20).2 20 (by decide) (by decide)
    refine rect_ok ?_
    generalize (FNext (TDraw.mk l 0) 50).1 = x at *
    generalize (FNext (FNext (TDraw.mk l 0) 50).2 50).1 = y at *
    generalize (FNext (FNext (wMade10_2 l) 6).2 20).1 = u at *
    generalize (FNext (FNext (FNext (wMade10_2 l) 6).2 20).2 20).1 = v at *
    rw [W64_id (x := x + 1) (by omega) (by omega), W64_id (x := y + 1) (by omega) (by omega), W64_id (by omega) (by omega), W64_id (by omega) (by omega)]
    simp only
    omega
  | false =>
    simp only [cond_false]
    cases decide ((((FNext (wMade10_2 l) 6).1) : Int) = 1) with
    | true =>
      simp only [cond_true]
      unfold wMade10_12
      have b3 := next_b (FNext (wMade10_2 l) 6).2 6 (by decide) (by decide)
      have b4 := next_b (FNext (FNext (wMade10_2 l) 6).2 6).2 9 (by decide) (by decide)
      have b5 := next_b (wMade10_10 l) 9 (by decide) (by decide)
      refine round_ok ?_ ?_ ?_ ?_
      · simp only; omega
      · rw [W64_id (by omega) (by omega)]; omega
      · rw [W64_id (by omega) (by omega)]; omega
      · rw [W64_id (by omega) (by omega)]; omega
    | false =>
      simp only [cond_false]
      cases decide ((((FNext (wMade10_2 l) 6).1) : Int) = 2) with
      | true =>
        simp only [cond_true]
        unfold wMade10_18 wMade10_19 wMade10_20
        have b3 := next_b (FNext (wMade10_2 l) 6).2 20 (by decide) (by decide)
        have b4 := next_b (FNext (FNext (wMade10_2 l) 6).2 20).2 9 (by decide) (by decide)
        have b5 := next_b (wMade10_14 l) 9 (by decide) (by decide)
        have b6 := next_b (FNext (wMade10_14 l) 9).2 20 (by decide) (by decide)
        simp only [line10]
        generalize (FNext (TDraw.mk l 0) 50).1 = x at *
        generalize (FNext (FNext (TDraw.mk l 0) 50).2 50).1 = y at *
        generalize (FNext (FNext (wMade10_2 l) 6).2 20).1 = u at *
        generalize (FNext (FNext (FNext (wMade10_2 l) 6).2 20).2 9).1 = v at *
        generalize (FNext (wMade10_14 l) 9).1 = s at *
        generalize (FNext (FNext (wMade10_14 l) 9).2 20).1 = t at *
        rw [W64_id (x := x + 1) (by omega) (by omega), W64_id (x := x + 1 + u) (by omega) (by omega), W64_id (x := y + v) (by omega) (by omega), W64_id (x := x + s) (by omega) (by omega), W64_id (x := y + 10) (by omega) (by omega), W64_id (x := y + 10 + t) (by omega) (by omega)]
        have P : ∀ {x y : Int}, (-300 ≤ x ∧ x ≤ 300) ∧ -300 ≤ y ∧ y ≤ 300 → P300 ⟨x, y⟩ := fun h => h
        refine okS_area (a := ⟨x, y⟩) ⟨by simp, by simp⟩ (fun e he => ?_) ⟨rfl, rfl, rfl, rfl⟩
        simp only [List.mem_cons, List.not_mem_nil, or_false] at he
        rcases he with rfl | rfl | rfl <;> exact line_ok (P (by omega)) (P (by omega))
      | false =>
        simp only [cond_false]
        cases decide ((((FNext (wMade10_2 l) 6).1) : Int) = 3) with
        | true =>
          simp only [cond_true]
          have b3 := next_b (FNext (wMade10_2 l) 6).2 9 (by decide) (by decide)
          exact disc_ok (by unfold P300; simp only; omega) (by omega)
        | false =>
          simp only [cond_false]
          have b3 := next_b ((FNext ((FNext (wMade10_2 l) 6).2) 6).2) 3 (by decide) (by decide)
          have b6 := next_b (FNext (wMade10_2 l) 6).2 6 (by decide) (by decide)
          have w3 : W64 (1 + ((FNext ((FNext ((FNext (wMade10_2 l) 6).2) 6).2) 3).1)) = 1 + ((FNext ((FNext ((FNext (wMade10_2 l) 6).2) 6).2) 3).1) := W64_id (by omega) (by omega)
          obtain ⟨es, v, he, hlen, hg, hc⟩ := path10_l0 l (TPoint.mk ((FNext (TDraw.mk l 0) 50).1) ((FNext ((FNext (TDraw.mk l 0) 50).2) 50).1)) ((((W64 (1 + ((FNext ((FNext ((FNext (wMade10_2 l) 6).2) 6).2) 3).1)))) - 0).toNat + 1) 0 [] (TPoint.mk ((FNext (TDraw.mk l 0) 50).1) ((FNext ((FNext (TDraw.mk l 0) 50).2) 50).1)) (wMade10_24 l) rfl (by omega) (by omega) (fun e he => by simp at he) rfl (by unfold PT; simp only; omega)
          rw [show ((0 : Nat) : Int) = 0 from rfl] at he
          rw [he]
          have hne : es ≠ [] := fun e => by rw [e] at hlen; simp at hlen; omega
          refine ⟨⟨⟨.inl rfl, ⟨by simp only; omega, by simp only; omega⟩, fun h => by cases h⟩, fun e he => (hg e he).1, (joined_iff hne).2 ⟨_, _, hc, fun h => by cases h⟩, ⟨by simp only; omega, by simp only; omega⟩, fun h => by cases h⟩, fun e he => (hg e he).2, by simp only; omega, by simp only; omega⟩
end Go.Proofs.Ytgmhnkoifdpemaa
namespace Go.Proofs.Ytgmhnkoifdpemaa
set_option maxRecDepth 100000
open Go.RowKit
set_option linter.unusedVariables false
set_option linter.unusedSimpArgs false
theorem ne_nil_of {l : List TEdge} (h : 1 ≤ l.length) : l ≠ [] := fun e => by rw [e] at h; simp at h
theorem ch_map {T : TEdge → TEdge} {τ : TPoint → TPoint} (hT : ∀ e, (T e).A = τ e.A ∧ (T e).B = τ e.B) : ∀ {l : List TEdge} {a b : TPoint}, Ch a l b → Ch (τ a) (l.map T) (τ b)
  | [], a, b, h => congrArg τ h
  | e :: l, a, b, ⟨h1, h2⟩ => ⟨by rw [(hT e).1, h1], by rw [(hT e).2]; exact ch_map hT h2⟩
theorem map_ok {T : TEdge → TEdge} {τ : TPoint → TPoint} (hT : ∀ e, (T e).A = τ e.A ∧ (T e).B = τ e.B) {s : TShape} (h : OkS s) (hm : ∀ e ∈ s.Edges, OkE (T e)) : OkS ⟨s.Kind, s.Edges.map T, s.R⟩ := by
  obtain ⟨⟨h1, h2, h3⟩, h4, h5, h6, h7⟩ := h
  refine ⟨⟨h1, by simp only [List.length_map]; exact h2, by simp only [List.length_map]; exact h3⟩, fun e he => ?_, ?_, h6, h7⟩
  · obtain ⟨x, hx, rfl⟩ := List.mem_map.1 he; exact hm x hx
  · obtain ⟨a, b, hc, hk⟩ := (joined_iff (ne_nil_of h2.1)).1 h5
    exact (joined_iff (ne_nil_of (by simp only [List.length_map]; exact h2.1))).2 ⟨τ a, τ b, ch_map hT hc, fun hh => congrArg τ (hk hh)⟩
theorem len_val {e : TEdge} (h : OkE e) : FlenEdge e = if e.Kind = 1 then FlenSqrt (d2 e.B e.A) else W64 (Int.tdiv (W64 (355 * RadM e)) 226) := by
  have hc : FCheck e = 0 := by rw [check_eq]; exact (checkM_zero e).2 h
  unfold FlenEdge
  rw [hc, rad_eq]
  simp only [decide_true, Bool.not_true, cond_false]
  by_cases hk : e.Kind = 1
  · rw [decide_eq_true hk, if_pos hk, sub_eq h.1.2.1 h.1.1, dot_eq (sub_r h.1.2.1 h.1.1) (sub_r h.1.2.1 h.1.1)]
    rfl
  · rw [decide_eq_false hk, if_neg hk]; rfl
theorem d2_symm (p q : TPoint) : d2 p q = d2 q p := by unfold d2; grind
theorem len_rev {e : TEdge} (h : OkE e) : FlenEdge (RevM e) = FlenEdge e := by
  rw [len_val h, len_val ((rev_ok e).2 h), rev_rad]
  by_cases hk : e.Kind = 1
  · rw [if_pos hk, if_pos ((rev_kind e).2 hk)]
    have : d2 (RevM e).B (RevM e).A = d2 e.A e.B := rfl
    rw [this, d2_symm]
  · rw [if_neg hk, if_neg (fun x => hk ((rev_kind e).1 x))]
theorem moveM_kind (e : TEdge) (t : Int) (m : Bool) (a : TPoint) : (MoveM e t m a).Kind = 1 ↔ e.Kind = 1 := by
  unfold MoveM
  simp only
  repeat' split
  all_goals omega
theorem len_move {e : TEdge} {m : TMotion} (h : OkE e) (hs : Small e) (ha : (-1000 ≤ m.At.X ∧ m.At.X ≤ 1000) ∧ -1000 ≤ m.At.Y ∧ m.At.Y ≤ 1000) : FlenEdge (FMove e m) = FlenEdge e := by
  have hS : Sm m.At := by unfold Sm; omega
  rw [move_eq e m h hs hS]
  have ho := mot_ok (t := m.Turn % 4) (m := m.Mirror) h hs ha
  rw [len_val h, len_val ho]
  obtain ⟨M, hM, hap⟩ := mvp_mat (m.Turn % 4) m.Mirror m.At
  have hsg : (if m.Mirror = true then (-1 : Int) else 1) = 1 ∨ (if m.Mirror = true then (-1 : Int) else 1) = -1 := by cases m.Mirror <;> simp
  have hA : (MoveM e (m.Turn % 4) m.Mirror m.At).A = M.ap m.At e.A := hap _
  have hB : (MoveM e (m.Turn % 4) m.Mirror m.At).B = M.ap m.At e.B := hap _
  by_cases hk : e.Kind = 1
  · rw [if_pos hk, if_pos ((moveM_kind ..).2 hk), hA, hB, mat_d2 hM hsg]
  · have hk' := fun x => hk ((moveM_kind e (m.Turn % 4) m.Mirror m.At).1 x)
    rw [if_neg hk, if_neg hk']
    have hC : (MoveM e (m.Turn % 4) m.Mirror m.At).C = M.ap m.At e.C := by
      unfold MoveM; simp only; rw [if_neg hk]; exact hap _
    have : RadM (MoveM e (m.Turn % 4) m.Mirror m.At) = RadM e := by
      unfold RadM
      rw [if_pos ⟨ho, hk'⟩, if_pos ⟨h, hk⟩, hA, hC, mot_rad hM hsg]
    rw [this]
theorem sum_map (f : TEdge → TEdge) (l : List TEdge) (h : ∀ e ∈ l, FlenEdge (f e) = FlenEdge e) : ∀ (n : Nat) (v : Int) (k : Nat), FsumE_l0 (l.map f) n v (k : Int) = FsumE_l0 l n v (k : Int)
  | 0, v, k => rfl
  | n + 1, v, k => by
    unfold FsumE_l0
    rw [List.length_map]
    by_cases q : (k : Int) < (l.length : Int)
    · rw [decide_eq_true q]
      simp only [cond_true, Int.toNat_natCast]
      have hk : k < l.length := by omega
      have e1 : (l.map f).getD k default = f (l.getD k default) := by
        rw [List.getD_eq_getElem?_getD, List.getD_eq_getElem?_getD, List.getElem?_map, List.getElem?_eq_getElem hk, Option.map_some, Option.getD_some, Option.getD_some]
      rw [e1, h _ (getD_mem' hk), show ((k : Int) + 1) = ((k + 1 : Nat) : Int) by omega]
      exact sum_map f l h n _ (k + 1)
    · rw [decide_eq_false q]
      simp only [cond_false]
theorem turns_l0 (c : TCase) (m : TMotion) (t : Int) (P : Int → Bool) (hP : ∀ v, (bif bif bif bif Fsanity25 then decide (((FlenEdge (FReverse (FMade07 c.Edge 1))) : Int) = (FlenEdge (FMade07 c.Edge 1))) else false then decide (((FlenEdge (FMove (FMade07 c.Edge 1) (TMotion.mk (TPoint.mk (Int.tmod m.At.X 1000) (Int.tmod m.At.Y 1000)) (FMod m.Turn 4) m.Mirror))) : Int) = (FlenEdge (FMade07 c.Edge 1))) else false then decide (((FlenShape (FMade10 c.Shape)) : Int) = v) else false then decide (((FlenShape (FMoveS (FMade10 c.Shape) (TMotion.mk (TPoint.mk (Int.tmod m.At.X 1000) (Int.tmod m.At.Y 1000)) (FMod m.Turn 4) m.Mirror))) : Int) = v) else false) = P v) :
    ∀ (n : Nat) (v : Int) (k : Nat), k ≤ (FMade10 c.Shape).Edges.length → (FMade10 c.Shape).Edges.length - k < n → FLengthTurns_l0 c m n v (k : Int) = P (FsumE_l0 (FMade10 c.Shape).Edges n v (k : Int))
  | 0, v, k, _, h => by omega
  | n + 1, v, k, hk, h => by
    unfold FLengthTurns_l0 FsumE_l0 wLengthTurns_0
    by_cases q : (k : Int) < ((FMade10 c.Shape).Edges.length : Int)
    · rw [decide_eq_true q]
      simp only [cond_true]
      rw [show ((k : Int) + 1) = ((k + 1 : Nat) : Int) by omega]
      exact turns_l0 c m t P hP n _ (k + 1) (by omega) (by omega)
    · rw [decide_eq_false q]
      simp only [cond_false]
      exact hP v
theorem lengthTurns_true (c : TCase) (m : TMotion) : FLengthTurns c m = true := by
  have h7 := made07_ok c.Edge
  have h10 := made10_ok c.Shape
  have b1 := tmod_1000 m.At.X
  have b2 := tmod_1000 m.At.Y
  obtain ⟨M, hM⟩ : ∃ M, M = TMotion.mk (TPoint.mk (Int.tmod m.At.X 1000) (Int.tmod m.At.Y 1000)) (FMod m.Turn 4) m.Mirror := ⟨_, rfl⟩
  have hb : (-1000 ≤ M.At.X ∧ M.At.X ≤ 1000) ∧ -1000 ≤ M.At.Y ∧ M.At.Y ≤ 1000 := by rw [hM]; simp only; omega
  have hs : FlenShape (FMade10 c.Shape) = FsumE (FMade10 c.Shape).Edges := by
    unfold FlenShape
    rw [checkS_eq, (checkMS_zero _).2 h10.1]; rfl
  have hmv : FlenShape (FMoveS (FMade10 c.Shape) M) = FsumE (FMade10 c.Shape).Edges := by
    have hok : OkS (FMoveS (FMade10 c.Shape) M) := by
      rw [moveS_eq]
      have e : (FMade10 c.Shape).Edges.map (fun e => FMove e M) = (FMade10 c.Shape).Edges.map (fun e => MoveM e (M.Turn % 4) M.Mirror M.At) :=
        List.map_congr_left fun e he => move_eq e M (h10.1.2.1 e he) (h10.2.1 e he) (by unfold Sm; omega)
      rw [e]
      exact map_ok (τ := mvp (M.Turn % 4) M.Mirror M.At) (fun e => ⟨rfl, rfl⟩) h10.1 fun e he => mot_ok (h10.1.2.1 e he) (h10.2.1 e he) hb
    unfold FlenShape
    rw [checkS_eq, (checkMS_zero _).2 hok, moveS_eq]
    simp only [decide_true, Bool.not_true, cond_false]
    unfold FsumE
    rw [List.length_map]
    exact sum_map _ _ (fun e he => len_move (h10.1.2.1 e he) (h10.2.1 e he) hb) _ 0 0
  unfold FLengthTurns
  rw [show (0 : Int) = ((0 : Nat) : Int) from rfl]
  rw [turns_l0 c m 0 (fun v => decide (FsumE (FMade10 c.Shape).Edges = v)) (fun v => by
    rw [← hM, sane25, rev_eq, len_rev h7.1, len_move h7.1 h7.2 hb, hs, hmv]
    simp) _ _ 0 (by omega) (by omega)]
  exact decide_eq_true rfl
end Go.Proofs.Ytgmhnkoifdpemaa
namespace Go.Proofs.Ytgmhnkoifdpemaa
set_option maxRecDepth 100000
open Go.ChangeShapes Go.WideShapes Go.ChangeAt Go.RowKit
set_option linter.unusedVariables false
theorem lengthTurns_lifted (os : Os) (started : os.Started) (H : Type) (enc : TypeId × Value → H) :
    ReturnsInHanded {} Try.checked os 8 .any (Rows.lengthTurnsSpec.pre6 enc Try.prog Try.f8 Rows.lengthTurnsRow.domain false) (Rows.lengthTurnsSpec.post enc Try.prog Try.f8 false true false false) := by
  refine returnsInHanded_of_change (C := Try.checked) own started (by kernel_rfl) Try.func8
    (ChangeSpec.witness6 (enc := enc) (C := Try.checked) false ⟨#[], #[.agg #[.slice none 0 0, .slice none 0 0, .slice none 0 0, .int .i64 0, .int .i64 0, .int .i64 0], .agg #[.int .i64 0, .int .i64 0, .int .i64 0, .bool false]], []⟩ 8 (by kernel_rfl) (by kernel_rfl) (by kernel_rfl) (by kernel_rfl)) ?_
  intro W base args ds gs before hval0 hW hcnd _
  have hval : ∀ (j : Nat) t v, Try.f8.params[j]? = some t → args[j]? = some v → Value.okWide Try.prog W .any base t v := hval0
  have hW' := hW
  obtain ⟨p, q, hA0, hV, rfl, hfz, hnd⟩ := hW
  have hA : DataW.TrodAll enc Try.prog W 0 (fun _ => true) true Try.f8.params.toList args.toList ds p := hA0
  rw [Try.params8] at hA hval
  obtain ⟨v0, vs0, d0, ds0, p0, q0, hargs, rfl, rfl, h0, r0⟩ := trodAll_cons hA
  obtain ⟨v1, vs1, d1, ds1, p1, q1, rfl, rfl, rfl, h1, r1⟩ := trodAll_cons r0
  obtain ⟨rfl, rfl, rfl⟩ := trodAll_nil r1
  obtain rfl : args = #[v0, v1] := by cases args; simp_all
  obtain ⟨c, kc, x0⟩ := open_agg opT29 (.inl ⟨_, Try.underlying29⟩) (hval 0 29 v0 rfl rfl) h0
  obtain ⟨m, km, x1⟩ := open_agg opT84 (.inl ⟨_, Try.underlying84⟩) (hval 1 84 v1 rfl rfl) h1
  clear hA0 hval0
  refine (law_of_pure (pLengthTurns c m (maxLen_i kc.2.1.1) (maxLen_i kc.1.1)) (lengthTurns_true c m) (.cons x0 (.cons x1 .nil))).mono fun e W' ⟨he, hb⟩ => ?_
  subst he
  exact ⟨_, rfl, law_post hW' rfl rfl laidOut (by rw [Try.params8]; exact List.forall_mem_cons.2 ⟨⟨by kernel_rfl, of_decide_eq_true (by kernel_rfl)⟩, List.forall_mem_cons.2 ⟨⟨by kernel_rfl, of_decide_eq_true (by kernel_rfl)⟩, List.forall_mem_nil _⟩⟩) rfl Try.underlying4 hb⟩
theorem lengthTurns_holds : Rows.LengthTurnsSaid :=
  OpenClaim.holds_of_wide 8 Try.f8 rfl rfl rfl rfl rfl rfl rfl ⟨rfl, rfl, rfl, rfl, rfl⟩ rfl rfl rfl rfl rfl (by kernel_rfl) Try.func8 (by kernel_rfl)
    (of_decide_eq_true (by kernel_rfl)) (by unfold Func.isWrapper; first | (rw [if_pos (by decide +kernel)]; kernel_rfl) | (rw [if_neg (by decide +kernel)]; exact ⟨rfl, rfl⟩))
    (fun os started H enc _ => lengthTurns_lifted os started H enc)
#print axioms lengthTurns_holds
end Go.Proofs.Ytgmhnkoifdpemaa
