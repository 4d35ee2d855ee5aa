/-
  No statement is proved in this text. It shows in plain numbers that ShapeExact returns true.
-/
import Derived.Test.YtpnlegfdkkcnlaaShb
import Derived.Test.YtpnlegfdkkcnlaaSane9
import Derived.Test.YtpnlegfdkkcnlaaShapeExactW
namespace Go.Proofs.Ytpnlegfdkkcnlaa
open Go.RowKit
set_option linter.unusedVariables false
set_option linter.unusedSimpArgs false

/-- A turned point. -/
def isoM (t : Int) (m : Bool) (p : TPoint) : TPoint :=
  let x := if m then -p.X else p.X
  if t = 1 then ⟨-p.Y, x⟩ else if t = 2 then ⟨-x, -p.Y⟩ else if t = 3 then ⟨p.Y, -x⟩ else ⟨x, p.Y⟩
theorem apply_iso {t : Int} (ht : 0 ≤ t ∧ t ≤ 3) (m : Bool) {p : TPoint} (hp : (-4000000000000000000 ≤ p.X ∧ p.X ≤ 4000000000000000000) ∧ -4000000000000000000 ≤ p.Y ∧ p.Y ≤ 4000000000000000000) : Fref05Apply ⟨⟨0, 0⟩, t, m⟩ p = isoM t m p := by
  have t4 : t = 0 ∨ t = 1 ∨ t = 2 ∨ t = 3 := by omega
  have e0 : Fref05Turns 0 = 0 := by decide +kernel
  have e1 : Fref05Turns 1 = 1 := by decide +kernel
  have e2 : Fref05Turns 2 = 2 := by decide +kernel
  have e3 : Fref05Turns 3 = 3 := by decide +kernel
  obtain ⟨x, y⟩ := p
  unfold Fref05Apply wref05Apply_0 Fref05Add Fref05mirrored isoM
  rcases t4 with rfl | rfl | rfl | rfl <;> cases m <;>
    simp only [Int.reduceEq, decide_true, decide_false, cond_true, cond_false, Fref05turned, e0, e1, e2, e3, W64_def, TPoint.mk.injEq, if_true, if_false, Bool.false_eq_true] <;> simp only at hp <;> omega
theorem iso_d2 {t : Int} (ht : 0 ≤ t ∧ t ≤ 3) (m : Bool) (p q : TPoint) : d2 (isoM t m p) (isoM t m q) = d2 p q := by
  have t4 : t = 0 ∨ t = 1 ∨ t = 2 ∨ t = 3 := by omega
  obtain ⟨x, y⟩ := p; obtain ⟨u, v⟩ := q
  unfold isoM d2
  rcases t4 with rfl | rfl | rfl | rfl <;> cases m <;> simp only [Int.reduceEq, if_true, if_false, Bool.false_eq_true] <;> grind
theorem iso_al {t : Int} (ht : 0 ≤ t ∧ t ≤ 3) (m : Bool) (a b p : TPoint) : al (isoM t m a) (isoM t m b) (isoM t m p) = al a b p := by
  have t4 : t = 0 ∨ t = 1 ∨ t = 2 ∨ t = 3 := by omega
  obtain ⟨x, y⟩ := p; obtain ⟨u, v⟩ := a; obtain ⟨u', v'⟩ := b
  unfold isoM al
  rcases t4 with rfl | rfl | rfl | rfl <;> cases m <;> simp only [Int.reduceEq, if_true, if_false, Bool.false_eq_true] <;> grind
theorem iso_cr {t : Int} (ht : 0 ≤ t ∧ t ≤ 3) (m : Bool) (a b p : TPoint) : cr (isoM t m a) (isoM t m b) (isoM t m p) = (if m then -cr a b p else cr a b p) := by
  have t4 : t = 0 ∨ t = 1 ∨ t = 2 ∨ t = 3 := by omega
  obtain ⟨x, y⟩ := p; obtain ⟨u, v⟩ := a; obtain ⟨u', v'⟩ := b
  unfold isoM cr
  rcases t4 with rfl | rfl | rfl | rfl <;> cases m <;> simp only [Int.reduceEq, if_true, if_false, Bool.false_eq_true] <;> grind
theorem exact_core (t : Int) (ht : 0 ≤ t ∧ t ≤ 3) (m : Bool) (k v0 v1 v2 : Int) (hk : 1 ≤ k ∧ k ≤ 100000) (hv : (1 ≤ v0 ∧ v0 ≤ 24) ∧ (1 ≤ v1 ∧ v1 ≤ 24) ∧ (v0 ≤ v2 ∧ v1 ≤ v2 ∧ v2 ≤ 29)) (hV : v0 * v0 + v1 * v1 = v2 * v2)
    (a b p : TPoint) (ha : a = isoM t m ⟨-500 * v0, -500 * v1⟩) (hb : b = isoM t m ⟨2000000 * v0, 2000000 * v1⟩) (hp : p = isoM t m ⟨-k * v1 + v0, k * v0 + v1⟩) :
    (OkE ⟨1, a, b, ⟨0, 0⟩⟩ ∧ RP p) ∧ (NearM ⟨1, a, b, ⟨0, 0⟩⟩ p (k * v2) ∧ InBx [⟨1, a, b, ⟨0, 0⟩⟩] (k * v2) p) ∧ ¬ NearM ⟨1, a, b, ⟨0, 0⟩⟩ p (k * v2 - 1) := by
  have h1 := mul_up (a := k) (b := v0) (A := 100000) (B := 24) (by omega) (by omega)
  have h2 := mul_up (a := k) (b := v1) (A := 100000) (B := 24) (by omega) (by omega)
  have h3 := mul_up (a := k) (b := v2) (A := 100000) (B := 29) (by omega) (by omega)
  have h4 : k * v0 ≤ k * v2 := Int.mul_le_mul_of_nonneg_left hv.2.2.1 (by omega)
  have h5 : k * v1 ≤ k * v2 := Int.mul_le_mul_of_nonneg_left hv.2.2.2.1 (by omega)
  have h6 : 1 * 1 ≤ k * v2 := Int.mul_le_mul hk.1 (by omega) (by omega) (by omega)
  have eD : d2 b a = 2000500 * 2000500 * (v2 * v2) := by rw [ha, hb, iso_d2 ht, ← hV]; unfold d2; simp only; grind
  have eA : al a b p = 2000500 * 501 * (v2 * v2) := by rw [ha, hb, hp, iso_al ht, ← hV]; unfold al; simp only; grind
  have eC : cr a b p * cr a b p = 2000500 * 2000500 * (v2 * v2) * ((k * v2) * (k * v2)) := by
    have c0 : cr (⟨-500 * v0, -500 * v1⟩ : TPoint) ⟨2000000 * v0, 2000000 * v1⟩ ⟨-k * v1 + v0, k * v0 + v1⟩ = 2000500 * k * (v2 * v2) := by rw [← hV]; unfold cr; simp only; grind
    rw [ha, hb, hp, iso_cr ht, c0]
    cases m <;> simp only [Bool.false_eq_true, if_false, if_true] <;> grind
  have ePA : d2 p a = (501 * 501 + k * k) * (v2 * v2) := by rw [ha, hp, iso_d2 ht, ← hV]; unfold d2; simp only; grind
  have ePB : d2 p b = (1999999 * 1999999 + k * k) * (v2 * v2) := by rw [hb, hp, iso_d2 ht, ← hV]; unfold d2; simp only; grind
  have hvv : 1 * 1 ≤ v2 * v2 := Int.mul_le_mul (by omega) (by omega) (by omega) (by omega)
  have hkk : (k * v2) * (k * v2) = k * k * (v2 * v2) := by grind
  have t4 : t = 0 ∨ t = 1 ∨ t = 2 ∨ t = 3 := by omega
  have hkv : -k * v1 = -(k * v1) := by grind
  refine ⟨⟨?_, ?_⟩, ⟨.inr (.inr ?_), ?_⟩, ?_⟩
  · subst ha; subst hb
    refine ⟨⟨?_, ?_, ?_⟩, .inl ⟨rfl, rfl, rfl⟩⟩
    · unfold isoM RP C27
      rcases t4 with rfl | rfl | rfl | rfl <;> cases m <;> simp only [Int.reduceEq, if_true, if_false, Bool.false_eq_true] <;> omega
    · unfold isoM RP C27
      rcases t4 with rfl | rfl | rfl | rfl <;> cases m <;> simp only [Int.reduceEq, if_true, if_false, Bool.false_eq_true] <;> omega
    · unfold RP C27; simp only; omega
  · subst hp
    rw [hkv]
    unfold isoM RP C27
    rcases t4 with rfl | rfl | rfl | rfl <;> cases m <;> simp only [Int.reduceEq, if_true, if_false, Bool.false_eq_true] <;> omega
  · simp only [if_true]
    rw [eD, eA, eC]
    refine ⟨⟨by omega, by omega⟩, ?_⟩
    rw [Int.mul_comm]
    exact Int.le_refl _
  · subst ha; subst hb; subst hp
    rw [hkv]
    unfold InBx isoM
    simp only [List.mem_singleton, exists_eq_left]
    rcases t4 with rfl | rfl | rfl | rfl <;> cases m <;> simp only [Int.reduceEq, if_true, if_false, Bool.false_eq_true] <;> omega
  · have hr : (k * v2 - 1) * (k * v2 - 1) < (k * v2) * (k * v2) := by
      have : (k * v2 - 1) * (k * v2 - 1) = (k * v2) * (k * v2) - 2 * (k * v2) + 1 := by grind
      omega
    rintro (h | h | h)
    · have h : d2 p a ≤ (k * v2 - 1) * (k * v2 - 1) := h
      rw [ePA] at h
      have : (501 * 501 + k * k) * (v2 * v2) = 251001 * (v2 * v2) + k * k * (v2 * v2) := by grind
      omega
    · have h : d2 p b ≤ (k * v2 - 1) * (k * v2 - 1) := h
      rw [ePB] at h
      have : (1999999 * 1999999 + k * k) * (v2 * v2) = 3999996000001 * (v2 * v2) + k * k * (v2 * v2) := by grind
      omega
    · simp only [if_true] at h
      have h := h.2
      rw [eD, eC] at h
      have hlt : (k * v2 - 1) * (k * v2 - 1) * (2000500 * 2000500 * (v2 * v2)) < (k * v2) * (k * v2) * (2000500 * 2000500 * (v2 * v2)) := Int.mul_lt_mul_of_pos_right hr (by omega)
      rw [Int.mul_comm (2000500 * 2000500 * (v2 * v2))] at h
      omega
theorem okS_one {e : TEdge} {r : Int} (h : OkE e) (hr : 0 ≤ r ∧ r ≤ 4194304) : OkS ⟨1, [e], r⟩ :=
  ⟨⟨.inl rfl, ⟨Nat.le_refl 1, by simp⟩, fun h => by cases h⟩, fun x hx => by rw [List.mem_singleton.1 hx]; exact h, ⟨fun i hi => absurd hi (by simp), fun h => by cases h⟩, hr, fun h => by cases h⟩
theorem shapeExact_true (which scale turn : Int) (hw : 0 ≤ which ∧ which ≤ 255) (hs : 0 ≤ scale ∧ scale ≤ 4294967295) (ht : 0 ≤ turn ∧ turn ≤ 255) : FShapeExact which scale turn = true := by
  have hm : Int.tmod which 5 = which % 5 := Int.tmod_eq_emod_of_nonneg hw.1
  have hm4 : Int.tmod turn 4 = turn % 4 := Int.tmod_eq_emod_of_nonneg ht.1
  have es : W64 scale = scale := W64_id (by omega) (by omega)
  have hms : Int.tmod (W64 scale) 100000 = scale % 100000 := by rw [es]; exact Int.tmod_eq_emod_of_nonneg hs.1
  have ek : W64 (1 + Int.tmod (W64 scale) 100000) = 1 + scale % 100000 := by rw [hms]; exact W64_id (by omega) (by omega)
  obtain ⟨k, hkd⟩ : ∃ k, k = 1 + scale % 100000 := ⟨_, rfl⟩
  have hk : 1 ≤ k ∧ k ≤ 100000 := by omega
  have et : W64 (Int.tmod turn 4) = turn % 4 := by rw [hm4]; exact W64_id (by omega) (by omega)
  have htt : 0 ≤ turn % 4 ∧ turn % 4 ≤ 3 := by omega
  obtain ⟨v0, hv0⟩ : ∃ v, v = ([3, 5, 8, 7, 20] : List Int).getD ((Int.tmod which 5).toNat) 0 := ⟨_, rfl⟩
  obtain ⟨v1, hv1⟩ : ∃ v, v = ([4, 12, 15, 24, 21] : List Int).getD ((Int.tmod which 5).toNat) 0 := ⟨_, rfl⟩
  obtain ⟨v2, hv2⟩ : ∃ v, v = ([5, 13, 17, 25, 29] : List Int).getD ((Int.tmod which 5).toNat) 0 := ⟨_, rfl⟩
  have hv : ((1 ≤ v0 ∧ v0 ≤ 24) ∧ (1 ≤ v1 ∧ v1 ≤ 24) ∧ (v0 ≤ v2 ∧ v1 ≤ v2 ∧ v2 ≤ 29)) ∧ v0 * v0 + v1 * v1 = v2 * v2 := by
    rw [hm] at hv0 hv1 hv2
    have h5 : which % 5 = 0 ∨ which % 5 = 1 ∨ which % 5 = 2 ∨ which % 5 = 3 ∨ which % 5 = 4 := by omega
    rcases h5 with h | h | h | h | h <;> rw [h] at hv0 hv1 hv2 <;> subst hv0 <;> subst hv1 <;> subst hv2 <;> decide
  have h1 := mul_up (a := k) (b := v0) (A := 100000) (B := 24) (by omega) (by omega)
  have h2 := mul_up (a := k) (b := v1) (A := 100000) (B := 24) (by omega) (by omega)
  have h3 := mul_up (a := k) (b := v2) (A := 100000) (B := 29) (by omega) (by omega)
  have h6 : 1 * 1 ≤ k * v2 := Int.mul_le_mul hk.1 (by omega) (by omega) (by omega)
  have hkv : -k * v1 = -(k * v1) := by grind
  obtain ⟨mm, hmm⟩ : ∃ mm : Bool, mm = decide ((4 : Int) ≤ Int.tmod turn 8) := ⟨_, rfl⟩
  have eA : wShapeExact_1 turn which = isoM (turn % 4) mm ⟨-500 * v0, -500 * v1⟩ := by
    unfold wShapeExact_1 wShapeExact_0 Flaw09pt
    rw [← hv0, ← hv1, et, ← hmm, W64_id (x := -500 * v0) (by omega) (by omega), W64_id (x := -500 * v1) (by omega) (by omega)]
    exact apply_iso htt _ (by simp only; omega)
  have eB : wShapeExact_3 turn which = isoM (turn % 4) mm ⟨2000000 * v0, 2000000 * v1⟩ := by
    unfold wShapeExact_3 wShapeExact_2 Flaw09pt
    rw [← hv0, ← hv1, et, ← hmm, W64_id (x := 2000000 * v0) (by omega) (by omega), W64_id (x := 2000000 * v1) (by omega) (by omega)]
    exact apply_iso htt _ (by simp only; omega)
  have eP : wShapeExact_5 turn scale which = isoM (turn % 4) mm ⟨-k * v1 + v0, k * v0 + v1⟩ := by
    unfold wShapeExact_5 wShapeExact_4 Flaw09pt
    rw [← hv0, ← hv1, et, ← hmm, ek, ← hkd]
    have n1 : W64 (0 - k) = -k := by rw [W64_id (by omega) (by omega)]; omega
    rw [n1, W64_id (x := -k * v1) (by omega) (by omega), W64_id (x := -k * v1 + v0) (by omega) (by omega), W64_id (x := k * v0) (by omega) (by omega), W64_id (x := k * v0 + v1) (by omega) (by omega)]
    exact apply_iso htt _ (by simp only; omega)
  obtain ⟨⟨c1, c2⟩, ⟨c3, c4⟩, c5⟩ := exact_core (turn % 4) htt mm k v0 v1 v2 hk hv.1 hv.2 _ _ _ eA eB eP
  have eR : W64 (W64 (1 + Int.tmod (W64 scale) 100000) * ([5, 13, 17, 25, 29] : List Int).getD ((Int.tmod which 5).toNat) 0) = k * v2 := by
    rw [ek, ← hkd, ← hv2]; exact W64_id (by omega) (by omega)
  have eR1 : W64 (k * v2 - 1) = k * v2 - 1 := W64_id (by omega) (by omega)
  have eE : wShapeExact_6 turn which = ⟨1, wShapeExact_1 turn which, wShapeExact_3 turn which, ⟨0, 0⟩⟩ := rfl
  have o1 : OkS ⟨1, [wShapeExact_6 turn which], k * v2⟩ := okS_one (r := k * v2) c1 (by omega)
  have o2 := okS_one (r := k * v2 - 1) c1 (by omega)
  have i1 : FInsideS ⟨1, [wShapeExact_6 turn which], k * v2⟩ (wShapeExact_5 turn scale which) = true := (inside_eqS _ _).2 ⟨o1, c4, .inl ⟨_, List.mem_singleton.2 rfl, c3⟩⟩
  have i2 : FInsideS ⟨1, [wShapeExact_6 turn which], k * v2 - 1⟩ (wShapeExact_5 turn scale which) = false := by
    rw [Bool.eq_false_iff]
    intro h
    obtain ⟨_, _, h | h⟩ := (inside_eqS _ _).1 h
    · obtain ⟨e, he, hn⟩ := h
      rw [List.mem_singleton.1 he] at hn
      exact c5 hn
    · cases h.1
  unfold FShapeExact wShapeExact_9 wShapeExact_8 wShapeExact_7
  rw [eR, eR1, i1, i2, sane9, checkS_eq, (checkMS_zero _).2 o1, right5_eq, decide_eq_true c2, check6_eq]
  have : CheckM (Flaw09line (wShapeExact_1 turn which) (wShapeExact_3 turn which)) = 0 := (checkM_zero _).2 c1
  rw [this]
  rfl
end Go.Proofs.Ytpnlegfdkkcnlaa
