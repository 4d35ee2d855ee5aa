/-
  No statement is proved in this text. It holds what moving edges gives in plain numbers.
-/
import Derived.Test.YtpnlegfdkkcnlaaShc
import Derived.Test.YtpnlegfdkkcnlaaShg
namespace Go.Proofs.Ytpnlegfdkkcnlaa
open Go.RowKit
set_option linter.unusedVariables false
set_option linter.unusedSimpArgs false

theorem tmod_1000 (x : Int) : -1000 < Int.tmod x 1000 ∧ Int.tmod x 1000 < 1000 := by
  rcases Int.lt_or_le x 0 with h | h
  · have b := Int.emod_nonneg (-x) (show (1000 : Int) ≠ 0 by omega)
    have b2 := Int.emod_lt_of_pos (-x) (show (0 : Int) < 1000 by omega)
    rw [show x.tmod 1000 = -((-x) % 1000) by rw [← Int.tmod_eq_emod_of_nonneg (by omega), Int.neg_tmod, Int.neg_neg]]
    omega
  · rw [Int.tmod_eq_emod_of_nonneg h]
    omega
theorem A64_mod (t : Int) : A64 t 3 = t % 4 := by
  unfold A64
  have h3 : (BitVec.ofInt 64 3).toNat = 2 ^ 2 - 1 := by decide
  rw [BitVec.toNat_and, h3, Nat.and_two_pow_sub_one_eq_mod, BitVec.toNat_ofInt, IntKind.wrap_i64]
  omega
theorem turns5_mod (t : Int) : Fref05Turns t = t % 4 := by
  unfold Fref05Turns
  rcases Int.lt_or_le t 0 with h | h
  · have b1 := Int.emod_nonneg (-t) (show (4 : Int) ≠ 0 by omega)
    rw [show t.tmod 4 = -((-t) % 4) by rw [← Int.tmod_eq_emod_of_nonneg (by omega), Int.neg_tmod, Int.neg_neg]]
    rw [W64_id (by omega) (by omega), Int.tmod_eq_emod_of_nonneg (by omega)]
    omega
  · rw [Int.tmod_eq_emod_of_nonneg h, W64_id (by omega) (by omega), Int.tmod_eq_emod_of_nonneg (by omega)]
    omega
def flip (m : Bool) (x : Int) : Int := if m = true then -x else x
def mvp (t : Int) (m : Bool) (a p : TPoint) : TPoint :=
  if t = 0 then ⟨flip m p.X + a.X, p.Y + a.Y⟩ else if t = 1 then ⟨-p.Y + a.X, flip m p.X + a.Y⟩ else if t = 2 then ⟨-flip m p.X + a.X, -p.Y + a.Y⟩ else ⟨p.Y + a.X, -flip m p.X + a.Y⟩
def Sm (p : TPoint) : Prop := (-100000 ≤ p.X ∧ p.X ≤ 100000) ∧ -100000 ≤ p.Y ∧ p.Y ≤ 100000
theorem flip_b (m : Bool) (x : Int) (h : -100000 ≤ x ∧ x ≤ 100000) : -100000 ≤ flip m x ∧ flip m x ≤ 100000 := by
  unfold flip
  split <;> omega
theorem flip_w (m : Bool) (x : Int) (h : -100000 ≤ x ∧ x ≤ 100000) : (bif m then W64 (0 - x) else x) = flip m x := by
  unfold flip
  rw [W64_id (by omega) (by omega)]
  cases m
  · rfl
  · show 0 - x = -x
    omega
theorem apply_mvp (m : TMotion) (p : TPoint) (hp : Sm p) (ha : Sm m.At) : FvecApply m p = mvp (m.Turn % 4) m.Mirror m.At p := by
  have ht : FvecTurns m = m.Turn % 4 := A64_mod m.Turn
  unfold FvecApply mvp
  unfold Sm at hp ha
  rw [flip_w m.Mirror p.X hp.1]
  have hf := flip_b m.Mirror p.X hp.1
  generalize flip m.Mirror p.X = x at *
  have h4 : m.Turn % 4 = 0 ∨ m.Turn % 4 = 1 ∨ m.Turn % 4 = 2 ∨ m.Turn % 4 = 3 := by omega
  rcases h4 with h | h | h | h <;> rw [h] at ht ⊢ <;> rw [ht]
  · show FvecApply_l0 m p 1 ⟨x, p.Y⟩ 0 = _
    simp only [FvecApply_l0, ht, Int.reduceLT, decide_false, cond_false, FvecAdd, if_true, TPoint.mk.injEq, W64_def]
    omega
  · show FvecApply_l0 m p 2 ⟨x, p.Y⟩ 0 = _
    simp only [FvecApply_l0, ht, Int.reduceLT, Int.reduceAdd, decide_true, cond_true, decide_false, cond_false, FvecAdd, Int.reduceEq, if_true, if_false, TPoint.mk.injEq, W64_def]
    omega
  · show FvecApply_l0 m p 3 ⟨x, p.Y⟩ 0 = _
    simp only [FvecApply_l0, ht, Int.reduceLT, Int.reduceAdd, decide_true, cond_true, decide_false, cond_false, FvecAdd, Int.reduceEq, if_true, if_false, TPoint.mk.injEq, W64_def]
    omega
  · show FvecApply_l0 m p 4 ⟨x, p.Y⟩ 0 = _
    simp only [FvecApply_l0, ht, Int.reduceLT, Int.reduceAdd, decide_true, cond_true, decide_false, cond_false, FvecAdd, Int.reduceEq, if_false, TPoint.mk.injEq, W64_def]
    omega
theorem apply5_mvp (m : TMotion) (p : TPoint) (hp : Sm p) (ha : Sm m.At) : Fref05Apply m p = mvp (m.Turn % 4) m.Mirror m.At p := by
  unfold Fref05Apply wref05Apply_0 Fref05mirrored Fref05turned mvp
  rw [turns5_mod]
  unfold Sm at hp ha
  rw [flip_w m.Mirror p.X hp.1]
  have hf := flip_b m.Mirror p.X hp.1
  generalize flip m.Mirror p.X = x at *
  have h4 : m.Turn % 4 = 0 ∨ m.Turn % 4 = 1 ∨ m.Turn % 4 = 2 ∨ m.Turn % 4 = 3 := by omega
  rcases h4 with h | h | h | h <;> rw [h] <;>
    simp only [decide_true, cond_true, decide_false, cond_false, Fref05Add, Int.reduceEq, if_true, if_false, TPoint.mk.injEq, W64_def] <;> omega
def MoveM (e : TEdge) (t : Int) (m : Bool) (a : TPoint) : TEdge := ⟨if m = true then (if e.Kind = 2 then 3 else if e.Kind = 3 then 2 else e.Kind) else e.Kind, mvp t m a e.A, mvp t m a e.B, if e.Kind = 1 then e.C else mvp t m a e.C⟩
theorem sm_edge {e : TEdge} (h : Small e) : Sm e.A ∧ Sm e.B ∧ Sm e.C := by
  unfold Small at h
  unfold Sm
  omega
theorem move_eq (e : TEdge) (m : TMotion) (h : OkE e) (hs : Small e) (ha : Sm m.At) : FMove e m = MoveM e (m.Turn % 4) m.Mirror m.At := by
  have hk := ok_kind h
  obtain ⟨s1, s2, s3⟩ := sm_edge hs
  have e1 := apply_mvp m e.A s1 ha
  have e2 := apply_mvp m e.B s2 ha
  have e3 := apply_mvp m e.C s3 ha
  obtain ⟨k, a0, a1, a2⟩ := e
  simp only at hk e1 e2 e3
  unfold FMove MoveM
  rcases hk with rfl | rfl | rfl
  · simp only [if_true, FMove1, e1, e2]
    cases m.Mirror <;> rfl
  · simp only [Int.reduceEq, if_false, if_true, FMove2, e1, e2, e3]
    cases m.Mirror <;> rfl
  · simp only [Int.reduceEq, if_false, if_true, FMove3, e1, e2, e3]
    cases m.Mirror <;> rfl
theorem small_rp {p : TPoint} (h : Sm p) : RP p := by
  unfold Sm at h
  unfold RP C27
  omega
theorem mvp_sm {t : Int} {m : Bool} {a p : TPoint} (hp : (-50000 ≤ p.X ∧ p.X ≤ 50000) ∧ -50000 ≤ p.Y ∧ p.Y ≤ 50000) (ha : (-1000 ≤ a.X ∧ a.X ≤ 1000) ∧ -1000 ≤ a.Y ∧ a.Y ≤ 1000) : Sm (mvp t m a p) := by
  unfold mvp Sm flip
  cases m <;> (repeat' split) <;> simp_all <;> omega
/-- A motion as a matrix. -/
structure Mat where
  a : Int
  b : Int
  c : Int
  d : Int
def Mat.ok (M : Mat) (s : Int) : Prop := (M.a = 0 ∧ M.d = 0 ∧ (M.b = 1 ∨ M.b = -1) ∧ M.c = -s * M.b) ∨ (M.b = 0 ∧ M.c = 0 ∧ (M.a = 1 ∨ M.a = -1) ∧ M.d = s * M.a)
def Mat.ap (M : Mat) (o p : TPoint) : TPoint := ⟨M.a * p.X + M.b * p.Y + o.X, M.c * p.X + M.d * p.Y + o.Y⟩
theorem mvp_mat (t : Int) (m : Bool) (a : TPoint) : ∃ M : Mat, M.ok (if m = true then -1 else 1) ∧ ∀ p, mvp t m a p = M.ap a p := by
  unfold mvp flip
  by_cases h0 : t = 0
  · cases m
    · exact ⟨⟨1, 0, 0, 1⟩, .inr (by simp), fun p => by simp [h0, Mat.ap]⟩
    · exact ⟨⟨-1, 0, 0, 1⟩, .inr (by simp), fun p => by simp [h0, Mat.ap]⟩
  by_cases h1 : t = 1
  · cases m
    · exact ⟨⟨0, -1, 1, 0⟩, .inl (by simp), fun p => by simp [h1, Mat.ap]⟩
    · exact ⟨⟨0, -1, -1, 0⟩, .inl (by simp), fun p => by simp [h1, Mat.ap]⟩
  by_cases h2 : t = 2
  · cases m
    · exact ⟨⟨-1, 0, 0, -1⟩, .inr (by simp), fun p => by simp [h2, Mat.ap]⟩
    · exact ⟨⟨1, 0, 0, -1⟩, .inr (by simp), fun p => by simp [h2, Mat.ap]⟩
  · cases m
    · exact ⟨⟨0, 1, -1, 0⟩, .inl (by simp), fun p => by simp [h0, h1, h2, Mat.ap]⟩
    · exact ⟨⟨0, 1, 1, 0⟩, .inl (by simp), fun p => by simp [h0, h1, h2, Mat.ap]⟩
theorem mat_d2 {M : Mat} {s : Int} (h : M.ok s) (hs : s = 1 ∨ s = -1) (o p q : TPoint) : d2 (M.ap o p) (M.ap o q) = d2 p q := by
  unfold d2 Mat.ap
  obtain ⟨a, b, c, d⟩ := M
  unfold Mat.ok at h
  simp only at *
  rcases h with ⟨rfl, rfl, hb, rfl⟩ | ⟨rfl, rfl, hb, rfl⟩ <;> rcases hb with rfl | rfl <;> rcases hs with rfl | rfl <;> grind
theorem mat_cr {M : Mat} {s : Int} (h : M.ok s) (hs : s = 1 ∨ s = -1) (o p q r : TPoint) : cr (M.ap o p) (M.ap o q) (M.ap o r) = s * cr p q r := by
  unfold cr Mat.ap
  obtain ⟨a, b, c, d⟩ := M
  unfold Mat.ok at h
  simp only at *
  rcases h with ⟨rfl, rfl, hb, rfl⟩ | ⟨rfl, rfl, hb, rfl⟩ <;> rcases hb with rfl | rfl <;> rcases hs with rfl | rfl <;> grind
theorem mot_rad {M : Mat} {s : Int} (h : M.ok s) (hs : s = 1 ∨ s = -1) (o a c : TPoint) : max ((M.ap o a).X - (M.ap o c).X) (-((M.ap o a).X - (M.ap o c).X)) + max ((M.ap o a).Y - (M.ap o c).Y) (-((M.ap o a).Y - (M.ap o c).Y)) = max (a.X - c.X) (-(a.X - c.X)) + max (a.Y - c.Y) (-(a.Y - c.Y)) := by
  unfold Mat.ap
  obtain ⟨ma, b, mc, d⟩ := M
  unfold Mat.ok at h
  simp only at *
  rcases h with ⟨rfl, rfl, hb, rfl⟩ | ⟨rfl, rfl, hb, rfl⟩ <;> rcases hb with rfl | rfl <;> rcases hs with rfl | rfl <;> simp only [Int.mul_one, Int.one_mul, Int.zero_mul, Int.mul_neg, Int.neg_mul, Int.neg_neg, Int.add_zero, Int.zero_add] <;> omega
theorem mot_ok {e : TEdge} {t : Int} {m : Bool} {o : TPoint} (h : OkE e) (hs : Small e) (ha : (-1000 ≤ o.X ∧ o.X ≤ 1000) ∧ -1000 ≤ o.Y ∧ o.Y ≤ 1000) : OkE (MoveM e t m o) := by
  have hs' := hs
  unfold Small at hs'
  refine ⟨⟨small_rp (mvp_sm (by omega) ha), small_rp (mvp_sm (by omega) ha), ?_⟩, ?_⟩
  · show RP (if e.Kind = 1 then e.C else mvp t m o e.C)
    split
    · exact h.1.2.2
    · exact small_rp (mvp_sm (by omega) ha)
  · obtain ⟨M, hM, hmv⟩ := mvp_mat t m o
    have h2 := h.2
    unfold Form MoveM at *
    simp only [hmv]
    obtain ⟨a, b, c, d⟩ := M
    obtain ⟨k, a0, a1, a2⟩ := e
    unfold Mat.ok at hM
    rcases h2 with ⟨hk, h3, h4⟩ | ⟨hk, h3, h4, h5⟩ | ⟨hk, h3, h4, h5⟩
    · simp only at hk
      subst hk
      left
      cases m <;> simp_all
    · simp only at hk
      subst hk
      have h6 := odd_cases h3
      simp only at h4 h5 h6
      cases m
      · right; left
        simp only [QL, Odd, Mat.ap] at *
        rcases hM with ⟨rfl, rfl, hb, rfl⟩ | ⟨rfl, rfl, hb, rfl⟩ <;> rcases hb with rfl | rfl <;> simp <;> omega
      · right; right
        simp only [QR, Odd, Mat.ap] at *
        rcases hM with ⟨rfl, rfl, hb, rfl⟩ | ⟨rfl, rfl, hb, rfl⟩ <;> rcases hb with rfl | rfl <;> simp <;> omega
    · simp only at hk
      subst hk
      have h6 := odd_cases h3
      simp only at h4 h5 h6
      cases m
      · right; right
        simp only [QR, Odd, Mat.ap] at *
        rcases hM with ⟨rfl, rfl, hb, rfl⟩ | ⟨rfl, rfl, hb, rfl⟩ <;> rcases hb with rfl | rfl <;> simp <;> omega
      · right; left
        simp only [QL, Odd, Mat.ap] at *
        rcases hM with ⟨rfl, rfl, hb, rfl⟩ | ⟨rfl, rfl, hb, rfl⟩ <;> rcases hb with rfl | rfl <;> simp <;> omega
end Go.Proofs.Ytpnlegfdkkcnlaa
