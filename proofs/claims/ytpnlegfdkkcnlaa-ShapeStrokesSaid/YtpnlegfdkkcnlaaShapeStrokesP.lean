/-
  No statement is proved in this text. It shows in plain numbers that ShapeStrokes returns true.
-/
import Derived.Test.YtpnlegfdkkcnlaaShd
import Derived.Test.YtpnlegfdkkcnlaaSane9
import Derived.Test.YtpnlegfdkkcnlaaShapeStrokesW
namespace Go.Proofs.Ytpnlegfdkkcnlaa
open Go.RowKit
set_option linter.unusedVariables false
set_option linter.unusedSimpArgs false

theorem okS_one {e : TEdge} {r : Int} (h : OkE e) (hr : 0 ≤ r ∧ r ≤ 4194304) : OkS ⟨1, [e], r⟩ :=
  ⟨⟨.inl rfl, ⟨Nat.le_refl 1, by simp⟩, fun h => by cases h⟩, fun x hx => by rw [List.mem_singleton.1 hx]; exact h, ⟨fun i hi => absurd hi (by simp), fun h => by cases h⟩, hr, fun h => by cases h⟩
theorem ins_one {e : TEdge} {r : Int} (h : OkE e) (hr : 0 ≤ r ∧ r ≤ 4194304) (p : TPoint) : InsM ⟨1, [e], r⟩ p ↔ NearM e p r := by
  constructor
  · rintro ⟨_, _, ⟨x, hx, hn⟩ | h⟩
    · rw [List.mem_singleton.1 hx] at hn; exact hn
    · exact absurd h.1 (show ¬ (1 : Int) = 2 by decide)
  · exact fun hn => ins_near (okS_one h hr) (List.mem_singleton.2 rfl) hn
/-- Some edge of a list, drawn alone, has the point. -/
theorem strokes_l0 (l m : List Int) (more : Int) (K : Bool) (hK : K = ((FMade9 l).Edges.any fun e => FInsideS ⟨1, [e], (FMade9 l).R⟩ (FAt9 (FMade9 l) m)))
    (hend : (bif decide ((((FMade9 l).Kind) : Int) = 2) then (wShapeStrokes_23 K l m) else (bif wShapeStrokes_6 l then (false) else (bif wShapeStrokes_9 l then (false) else (bif wShapeStrokes_12 l then (false) else (bif wShapeStrokes_15 l then (false) else (wShapeStrokes_25 l m K more)))))) = true)
    (hin : ∀ e ∈ (FMade9 l).Edges, FInsideS (FMade9 l) e.A = true ∧ FInsideS (FMade9 l) e.B = true) : ∀ (n k : Nat) (v : Bool), k ≤ (FMade9 l).Edges.length → (FMade9 l).Edges.length - k < n →
    (v || (((FMade9 l).Edges.drop k).any fun e => FInsideS ⟨1, [e], (FMade9 l).R⟩ (FAt9 (FMade9 l) m))) = K → FShapeStrokes_l0 l m more n v (k : Int) = true
  | 0, k, v, hk, hn, hv => by omega
  | n + 1, k, v, hk, hn, hv => by
    unfold FShapeStrokes_l0
    by_cases hlt : k < (FMade9 l).Edges.length
    · rw [decide_eq_true (show (k : Int) < ((FMade9 l).Edges.length : Int) by omega)]
      simp only [cond_true]
      have hmem := getD_mem' (l := (FMade9 l).Edges) hlt
      have e20 : wShapeStrokes_20 l (k : Int) = false := by
        unfold wShapeStrokes_20 wShapeStrokes_19 wShapeStrokes_18
        rw [Int.toNat_natCast, (hin _ hmem).1, (hin _ hmem).2]
        rfl
      rw [e20]
      simp only [cond_false]
      rw [show ((k : Int) + 1) = ((k + 1 : Nat) : Int) by omega]
      refine strokes_l0 l m more K hK hend hin n (k + 1) _ (by omega) (by omega) ?_
      rw [← hv, drop_cons' hlt, List.any_cons]
      unfold wShapeStrokes_22 wShapeStrokes_18
      rw [cnd_or, Int.toNat_natCast, Bool.or_assoc]
    · rw [decide_eq_false (show ¬ (k : Int) < ((FMade9 l).Edges.length : Int) by omega)]
      rw [List.drop_of_length_le (by omega), List.any_nil, Bool.or_false] at hv
      rw [hv]
      exact hend
theorem shapeStrokes_true (l m : List Int) (more : Int) (hm : 0 ≤ more ∧ more ≤ 255) : FShapeStrokes l m more = true := by
  have hS := made9_ok l
  have hp := at9_b hS m
  obtain ⟨hok, hsm, h40, h8⟩ := hS
  have hr := hok.2.2.2.1
  unfold FShapeStrokes
  have h0 : ((0 : Nat) : Int) = 0 := rfl
  rw [← h0]
  have hany : (((FMade9 l).Edges.any fun e => FInsideS ⟨1, [e], (FMade9 l).R⟩ (FAt9 (FMade9 l) m)) = true) ↔ ∃ e ∈ (FMade9 l).Edges, NearM e (FAt9 (FMade9 l) m) (FMade9 l).R := by
    rw [List.any_eq_true]
    constructor
    · rintro ⟨e, he, hi⟩; exact ⟨e, he, (ins_one (hok.2.1 e he) hr _).1 ((inside_eqS _ _).1 hi)⟩
    · rintro ⟨e, he, hi⟩; exact ⟨e, he, (inside_eqS _ _).2 ((ins_one (hok.2.1 e he) hr _).2 hi)⟩
  refine strokes_l0 l m more _ rfl ?_ (fun e he => ⟨(inside_eqS _ _).2 (ins_near hok he (near_a e _)), (inside_eqS _ _).2 (ins_near hok he (near_b' e _))⟩) _ 0 false (by omega) (by omega) (by rw [List.drop_zero, Bool.false_or])
  have h6 : ∀ t, 0 ≤ t ∧ t ≤ 3 → FInsideS (FMade9 l) (Fref05Add ((((FMade9 l).Edges).getD 0 default).A) (Fref05Apply (TMotion.mk (TPoint.mk 0 0) t false) (Flaw09pt ((FMade9 l).R) 0))) = true := by
    intro t ht
    refine (inside_eqS _ _).2 ?_
    have hmem : (FMade9 l).Edges.getD 0 default ∈ (FMade9 l).Edges := getD_mem' (by have := hok.1.2.1.1; omega)
    have he := hsm _ hmem
    refine ins_near hok hmem (.inl ?_)
    have hb : (-(FMade9 l).R ≤ px (FMade9 l).R t ∧ px (FMade9 l).R t ≤ (FMade9 l).R) ∧ -(FMade9 l).R ≤ py (FMade9 l).R t ∧ py (FMade9 l).R t ≤ (FMade9 l).R := by unfold px py; (repeat' split) <;> omega
    have hd : Fref05Apply (TMotion.mk (TPoint.mk 0 0) t false) (Flaw09pt ((FMade9 l).R) 0) = ⟨px (FMade9 l).R t, py (FMade9 l).R t⟩ := dir5 (r := (FMade9 l).R) (by omega) ht
    rw [hd, add5 (a := ((FMade9 l).Edges.getD 0 default).A) (b := ⟨px (FMade9 l).R t, py (FMade9 l).R t⟩) (by unfold Small at he; unfold PT; omega) (by unfold PT; simp only; clear hd hmem; omega)]
    have hq : px (FMade9 l).R t * px (FMade9 l).R t + py (FMade9 l).R t * py (FMade9 l).R t = (FMade9 l).R * (FMade9 l).R := by
      have t4 : t = 0 ∨ t = 1 ∨ t = 2 ∨ t = 3 := by omega
      unfold px py
      rcases t4 with rfl | rfl | rfl | rfl <;> simp only [Int.reduceMod, Int.reduceEq, if_true, if_false, Int.mul_zero, Int.add_zero, Int.zero_add, Int.neg_mul_neg]
    unfold d2
    simp only
    generalize ((FMade9 l).Edges.getD 0 default).A.X = x
    generalize ((FMade9 l).Edges.getD 0 default).A.Y = y
    have e1 : x + px (FMade9 l).R t - x = px (FMade9 l).R t := by omega
    have e2 : y + py (FMade9 l).R t - y = py (FMade9 l).R t := by omega
    rw [e1, e2, hq]
    exact Int.le_refl _
  have n6 : wShapeStrokes_6 l = false := by unfold wShapeStrokes_6 wShapeStrokes_5 wShapeStrokes_4; rw [h6 0 (by decide)]; rfl
  have n9 : wShapeStrokes_9 l = false := by unfold wShapeStrokes_9 wShapeStrokes_8 wShapeStrokes_7; rw [h6 1 (by decide)]; rfl
  have n12 : wShapeStrokes_12 l = false := by unfold wShapeStrokes_12 wShapeStrokes_11 wShapeStrokes_10; rw [h6 2 (by decide)]; rfl
  have n15 : wShapeStrokes_15 l = false := by unfold wShapeStrokes_15 wShapeStrokes_14 wShapeStrokes_13; rw [h6 3 (by decide)]; rfl
  rw [n6, n9, n12, n15]
  simp only [cond_false]
  have hw : W64 ((FMade9 l).R + W64 more) = (FMade9 l).R + more := by rw [W64_id (x := more) (by omega) (by omega)]; exact W64_id (by omega) (by omega)
  unfold wShapeStrokes_23 wShapeStrokes_25 wShapeStrokes_24
  rw [sane9, hw]
  simp only [cond_true]
  generalize ((FMade9 l).Edges.any fun e => FInsideS ⟨1, [e], (FMade9 l).R⟩ (FAt9 (FMade9 l) m)) = K at *
  generalize FAt9 (FMade9 l) m = p at *
  have up : K = true → FInsideS (FMade9 l) p = true := fun h => by
    obtain ⟨e, he, hn⟩ := hany.1 h
    exact (inside_eqS _ _).2 (ins_near hok he hn)
  have wide : K = true → (FMade9 l).Kind = 1 → FInsideS ⟨(FMade9 l).Kind, (FMade9 l).Edges, (FMade9 l).R + more⟩ p = true := fun h hk => by
    obtain ⟨e, he, hn⟩ := hany.1 h
    have ho : OkS ⟨(FMade9 l).Kind, (FMade9 l).Edges, (FMade9 l).R + more⟩ := ⟨hok.1, hok.2.1, hok.2.2.1, by simp only; omega, fun h2 => by have h2 : (FMade9 l).Kind = 2 := h2; omega⟩
    exact (inside_eqS _ _).2 (ins_near ho he (near_mono hr.1 (show (FMade9 l).R ≤ (FMade9 l).R + more by omega) hn))
  by_cases hk : (FMade9 l).Kind = 2
  · rw [decide_eq_true hk]
    simp only [cond_true]
    cases K with
    | true => rw [up rfl]; rfl
    | false => rfl
  · rw [decide_eq_false hk]
    simp only [cond_false]
    have hk1 : (FMade9 l).Kind = 1 := by rcases hok.1.1 with h | h <;> omega
    cases K with
    | true => rw [up rfl, wide rfl hk1]; rfl
    | false =>
      have : FInsideS (FMade9 l) p = false := by
        rw [Bool.eq_false_iff]
        intro h
        obtain ⟨_, _, h | h⟩ := (inside_eqS _ _).1 h
        · exact Bool.false_ne_true (hany.2 h)
        · omega
      rw [this]; rfl
end Go.Proofs.Ytpnlegfdkkcnlaa
