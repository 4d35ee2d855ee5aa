/-
  No statement is proved in this text. It shows what is near to an edge: it lies in the widened box, and stays near when the radius grows.
-/
import Derived.Test.YtpnlegfdkkcnlaaShc
import Derived.Test.YtpnlegfdkkcnlaaK9a
namespace Go.Proofs.Ytpnlegfdkkcnlaa
open Go.RowKit
set_option linter.unusedVariables false
set_option linter.unusedSimpArgs false

/-- A point near to the origin. -/
def NB (p : TPoint) : Prop := (-50000 ≤ p.X ∧ p.X ≤ 50000) ∧ -50000 ≤ p.Y ∧ p.Y ≤ 50000
theorem nb_pb {p : TPoint} (h : NB p) : PB p := by unfold NB at h; unfold PB; omega
theorem at9_b {s : TShape} (h : SmallS s) (l : List Int) : NB (FAt9 s l) := by
  obtain ⟨⟨⟨_, ⟨h1, _⟩, _⟩, _, _, hr, _⟩, hS, h40, h8⟩ := h
  have b100 := next_b (TDraw.mk l 0) 100 (by decide) (by decide)
  have hm : 0 ≤ Int.tmod (FNext (TDraw.mk l 0) 100).1 (s.Edges.length : Int) ∧ Int.tmod (FNext (TDraw.mk l 0) 100).1 (s.Edges.length : Int) < s.Edges.length := by
    rw [Int.tmod_eq_emod_of_nonneg b100.1]
    exact ⟨Int.emod_nonneg _ (by omega), Int.emod_lt_of_pos _ (by omega)⟩
  have hE : Small (wAt9_3 s l) := hS _ (getD_mem' (by omega))
  have hp : Near10 (wAt9_4 s l) := at_small hE _
  unfold FAt9 wAt9_5
  rw [decide_eq_false (show ¬ (s.Edges.length : Int) = 0 by omega)]
  generalize wAt9_4 s l = p at *
  generalize (FNext (FNext (TDraw.mk l 0) 100).2 5).1 = n at *
  unfold Near10 at hp
  have e3 : W64 (3 * s.R) = 3 * s.R := W64_id (by omega) (by omega)
  have e4 : W64 (4 * s.R) = 4 * s.R := W64_id (by omega) (by omega)
  have t3 := tdiv_b (3 * s.R) 5 200 (by omega)
  have t4 := tdiv_b (4 * s.R) 5 200 (by omega)
  rw [e3, e4]
  unfold Fref05Add NB
  generalize Int.tdiv (3 * s.R) 5 = a at *
  generalize Int.tdiv (4 * s.R) 5 = b at *
  simp only [W64_id (x := a) (by omega) (by omega), W64_id (x := b) (by omega) (by omega), W64_id (x := p.X + a) (by omega) (by omega), W64_id (x := p.Y + b) (by omega) (by omega), W64_id (x := p.X + s.R) (by omega) (by omega), W64_id (x := p.Y - s.R) (by omega) (by omega), cond_false]
  cases decide (n = 1) <;> cases decide (n = 2) <;> cases decide (n = 3) <;> simp only [cond_true, cond_false] <;> omega

/-! ### Near and the box -/
theorem lt_sq {r y : Int} (hr : 0 ≤ r) (h : r < y) : r * r < y * y := by
  have h1 := Int.mul_lt_mul_of_pos_right h (show 0 < y by omega)
  have h2 := Int.mul_le_mul_of_nonneg_left (Int.le_of_lt h) hr
  omega
theorem sgn_pos {x c : Int} (hc : 0 < c) : 0 ≤ x * c ↔ 0 ≤ x := by
  constructor
  · intro h
    refine Int.not_lt.1 fun hl => ?_
    have := Int.mul_neg_of_neg_of_pos hl hc
    omega
  · exact fun h => Int.mul_nonneg h (by omega)
theorem sgn_neg {x c : Int} (hc : c < 0) : 0 ≤ x * c ↔ x ≤ 0 := by
  have e : x * c = (-x) * (-c) := by grind
  rw [e, sgn_pos (by omega)]
  omega
/-- The point lies in the quarter of an arc, by signs. -/
def FacS (e : TEdge) (p : TPoint) : Prop := ((e.C.X < max e.A.X e.B.X ∧ e.C.X ≤ p.X) ∨ (min e.A.X e.B.X < e.C.X ∧ p.X ≤ e.C.X)) ∧ ((e.C.Y < max e.A.Y e.B.Y ∧ e.C.Y ≤ p.Y) ∨ (min e.A.Y e.B.Y < e.C.Y ∧ p.Y ≤ e.C.Y))
theorem fac_iff {e : TEdge} {p : TPoint} {P Q : Prop} (h : Fac e p ↔ P ∧ Q) (h2 : P ∧ Q ↔ FacS e p) : Fac e p ↔ FacS e p := h.trans h2
theorem fac_sgn {e : TEdge} (he : OkE e) (hk : e.Kind ≠ 1) (p : TPoint) : Fac e p ↔ FacS e p := by
  obtain ⟨_, hform⟩ := he
  obtain ⟨u, hu⟩ : ∃ u, u = p.X - e.C.X := ⟨_, rfl⟩
  obtain ⟨v, hv⟩ : ∃ v, v = p.Y - e.C.Y := ⟨_, rfl⟩
  obtain ⟨x, hx⟩ : ∃ x, x = e.A.X - e.C.X := ⟨_, rfl⟩
  obtain ⟨y, hy⟩ : ∃ y, y = e.A.Y - e.C.Y := ⟨_, rfl⟩
  rcases hform with ⟨h1, _⟩ | ⟨h2, ho, hbx, hby⟩ | ⟨h3, ho, hbx, hby⟩
  · exact absurd h1 hk
  · have hF : Fac e p ↔ 0 ≤ x * v - y * u ∧ 0 ≤ u * x - v * -y := by
      unfold Fac
      rw [if_neg (by omega), hbx, hby, ← hu, ← hv, ← hx, ← hy]
    rw [hF]
    unfold FacS
    rcases odd_cases ho with ⟨z, nz⟩ | ⟨nz, z⟩
    · rw [← hx] at z; subst z
      have e1 : 0 * v - y * u = -u * y := by grind
      have e2 : u * 0 - v * -y = v * y := by grind
      rw [e1, e2]
      rcases Int.lt_or_gt_of_ne nz with h | h
      · rw [sgn_neg (by omega), sgn_neg (by omega)]; omega
      · rw [sgn_pos (by omega), sgn_pos (by omega)]; omega
    · rw [← hy] at z; subst z
      have e1 : x * v - 0 * u = v * x := by grind
      have e2 : u * x - v * -0 = u * x := by grind
      rw [e1, e2]
      rcases Int.lt_or_gt_of_ne nz with h | h
      · rw [sgn_neg (by omega), sgn_neg (by omega)]; omega
      · rw [sgn_pos (by omega), sgn_pos (by omega)]; omega
  · have hF : Fac e p ↔ 0 ≤ y * v - -x * u ∧ 0 ≤ u * y - v * x := by
      unfold Fac
      rw [if_pos h3, hbx, hby, ← hu, ← hv, ← hx, ← hy]
    rw [hF]
    unfold FacS
    rcases odd_cases ho with ⟨z, nz⟩ | ⟨nz, z⟩
    · rw [← hx] at z; subst z
      have e1 : y * v - -0 * u = v * y := by grind
      have e2 : u * y - v * 0 = u * y := by grind
      rw [e1, e2]
      rcases Int.lt_or_gt_of_ne nz with h | h
      · rw [sgn_neg (by omega), sgn_neg (by omega)]; omega
      · rw [sgn_pos (by omega), sgn_pos (by omega)]; omega
    · rw [← hy] at z; subst z
      have e1 : 0 * v - -x * u = u * x := by grind
      have e2 : u * 0 - v * x = -v * x := by grind
      rw [e1, e2]
      rcases Int.lt_or_gt_of_ne nz with h | h
      · rw [sgn_neg (by omega), sgn_neg (by omega)]; omega
      · rw [sgn_pos (by omega), sgn_pos (by omega)]; omega
theorem rad_arcM {e : TEdge} (h : OkE e) (hk : e.Kind ≠ 1) : RadM e = max (e.A.X - e.C.X) (-(e.A.X - e.C.X)) + max (e.A.Y - e.C.Y) (-(e.A.Y - e.C.Y)) := by
  unfold RadM; rw [if_pos ⟨h, hk⟩]
theorem sq_le {x r : Int} (hr : 0 ≤ r) (h : x * x ≤ r * r) : -r ≤ x ∧ x ≤ r := by
  constructor
  · refine Int.not_lt.1 fun hl => ?_
    have : r * r < (-x) * (-x) := lt_sq hr (by omega)
    have e : (-x) * (-x) = x * x := by grind
    omega
  · refine Int.not_lt.1 fun hl => ?_
    have : r * r < x * x := lt_sq hr (by omega)
    omega
theorem d2_le {p c : TPoint} {r : Int} (hr : 0 ≤ r) (h : d2 p c ≤ r * r) : (-r ≤ p.X - c.X ∧ p.X - c.X ≤ r) ∧ -r ≤ p.Y - c.Y ∧ p.Y - c.Y ≤ r := by
  have n1 := sq_nn (p.X - c.X); have n2 := sq_nn (p.Y - c.Y)
  unfold d2 at h
  exact ⟨sq_le hr (by omega), sq_le hr (by omega)⟩
/-- The point lies in an edge's box, which is r greater on each side. -/
def InBE (e : TEdge) (r : Int) (p : TPoint) : Prop := (min e.A.X e.B.X ≤ p.X + r ∧ p.X - r ≤ max e.A.X e.B.X) ∧ min e.A.Y e.B.Y ≤ p.Y + r ∧ p.Y - r ≤ max e.A.Y e.B.Y
theorem inbx_one (e : TEdge) (r : Int) (p : TPoint) : InBx [e] r p ↔ InBE e r p := by
  unfold InBx InBE
  simp only [List.mem_singleton, exists_eq_left]
theorem inbx_of {l : List TEdge} {e : TEdge} (h : e ∈ l) {r : Int} {p : TPoint} (hb : InBE e r p) : InBx l r p :=
  ⟨⟨⟨e, h, hb.1.1⟩, e, h, hb.1.2⟩, ⟨e, h, hb.2.1⟩, e, h, hb.2.2⟩
/-- One coordinate of a point beside a line. -/
theorem foot {u d a L r t : Int} (hL : 0 < L) (h0 : 0 ≤ a) (h1 : a ≤ L) (e : u * L = d * a + t) (ht : -(r * L) ≤ t ∧ t ≤ r * L) : min 0 d ≤ u + r ∧ u - r ≤ max 0 d := by
  have hd : min 0 d * L ≤ d * a ∧ d * a ≤ max 0 d * L := by
    rcases Int.le_total 0 d with h | h
    · rw [Int.min_eq_left h, Int.max_eq_right h]
      have := Int.mul_nonneg h h0
      have := Int.mul_le_mul_of_nonneg_left h1 h
      omega
    · rw [Int.min_eq_right h, Int.max_eq_left h]
      have := Int.mul_le_mul_of_nonpos_left h h1
      have := Int.mul_le_mul_of_nonpos_left h h0
      omega
  have q1 : min 0 d * L ≤ (u + r) * L := by rw [Int.add_mul]; omega
  have q2 : (u - r) * L ≤ max 0 d * L := by rw [Int.sub_mul]; omega
  exact ⟨Int.le_of_mul_le_mul_right q1 hL, Int.le_of_mul_le_mul_right q2 hL⟩
theorem side_b {x c L r : Int} (hL : 0 ≤ L) (hr : 0 ≤ r) (hx : x * x ≤ L) (hc : c * c ≤ r * r * L) : -(r * L) ≤ x * c ∧ x * c ≤ r * L := by
  refine sq_le (Int.mul_nonneg hr hL) ?_
  have h1 : x * x * (c * c) ≤ L * (r * r * L) := Int.mul_le_mul hx hc (sq_nn c) hL
  have e1 : x * c * (x * c) = x * x * (c * c) := by grind
  have e2 : r * L * (r * L) = L * (r * r * L) := by grind
  omega
theorem near_box {e : TEdge} {p : TPoint} {r : Int} (he : OkE e) (hr : 0 ≤ r) (h : NearM e p r) : InBE e r p := by
  unfold InBE
  rcases h with h | h | h
  · have := d2_le hr h; omega
  · have := d2_le hr h; omega
  · by_cases hk : e.Kind = 1
    · rw [if_pos hk] at h
      obtain ⟨⟨h0, h1⟩, h2⟩ := h
      obtain ⟨u, hu⟩ : ∃ u, u = p.X - e.A.X := ⟨_, rfl⟩
      obtain ⟨v, hv⟩ : ∃ v, v = p.Y - e.A.Y := ⟨_, rfl⟩
      obtain ⟨dx, hdx⟩ : ∃ d, d = e.B.X - e.A.X := ⟨_, rfl⟩
      obtain ⟨dy, hdy⟩ : ∃ d, d = e.B.Y - e.A.Y := ⟨_, rfl⟩
      have ea : al e.A e.B p = u * dx + v * dy := by unfold al; rw [← hu, ← hv, ← hdx, ← hdy]
      have ec : cr e.A e.B p = dx * v - dy * u := by unfold cr; rw [← hu, ← hv, ← hdx, ← hdy]
      have el : d2 e.B e.A = dx * dx + dy * dy := by unfold d2; rw [← hdx, ← hdy]
      rw [ea, el] at h1
      rw [ea] at h0
      rw [ec, el] at h2
      have hx := sq_nn dx; have hy := sq_nn dy
      have s1 := side_b (x := dy) (c := dx * v - dy * u) (L := dx * dx + dy * dy) (r := r) (by omega) hr (by omega) h2
      have s2 := side_b (x := dx) (c := dx * v - dy * u) (L := dx * dx + dy * dy) (r := r) (by omega) hr (by omega) h2
      have f1 := foot (u := u) (d := dx) (a := u * dx + v * dy) (L := dx * dx + dy * dy) (r := r) (t := -(dy * (dx * v - dy * u))) (by omega) (by omega) (by omega) (by grind) (by omega)
      have f2 := foot (u := v) (d := dy) (a := u * dx + v * dy) (L := dx * dx + dy * dy) (r := r) (t := dx * (dx * v - dy * u)) (by omega) (by omega) (by omega) (by grind) (by omega)
      omega
    · rw [if_neg hk] at h
      obtain ⟨hf, hn, _⟩ := h
      have hR := rad_b e
      have hRM := rad_arcM he hk
      have hF := (fac_sgn he hk p).1 hf
      obtain ⟨ho, hq⟩ := arc_odd he hk
      have hD := d2_le (by omega) hn
      unfold FacS at hF
      have := odd_cases ho
      omega
theorem near_mono {e : TEdge} {p : TPoint} {r t : Int} (hr : 0 ≤ r) (ht : r ≤ t) (h : NearM e p r) : NearM e p t := by
  have hrt : r * r ≤ t * t := Int.mul_le_mul ht ht hr (by omega)
  rcases h with h | h | h
  · exact .inl (by omega)
  · exact .inr (.inl (by omega))
  · refine .inr (.inr ?_)
    have hR := rad_b e
    by_cases hk : e.Kind = 1
    · rw [if_pos hk] at h ⊢
      refine ⟨h.1, ?_⟩
      have hl : 0 ≤ d2 e.B e.A := by
        have n1 := sq_nn (e.B.X - e.A.X); have n2 := sq_nn (e.B.Y - e.A.Y)
        unfold d2; omega
      have := Int.mul_le_mul_of_nonneg_right hrt hl
      omega
    · rw [if_neg hk] at h ⊢
      obtain ⟨h1, h2, h3⟩ := h
      have g2 : (RadM e + r) * (RadM e + r) ≤ (RadM e + t) * (RadM e + t) := Int.mul_le_mul (by omega) (by omega) (by omega) (by omega)
      have g3 : max (RadM e - t) 0 * max (RadM e - t) 0 ≤ max (RadM e - r) 0 * max (RadM e - r) 0 := Int.mul_le_mul (by omega) (by omega) (by omega) (by omega)
      exact ⟨h1, by omega, by omega⟩
theorem d2_self (p : TPoint) : d2 p p = 0 := by unfold d2; grind
theorem near_a (e : TEdge) (r : Int) : NearM e e.A r := .inl (by rw [d2_self]; exact sq_nn r)
theorem near_b' (e : TEdge) (r : Int) : NearM e e.B r := .inr (.inl (by rw [d2_self]; exact sq_nn r))
theorem ins_near {s : TShape} (hs : OkS s) {e : TEdge} (he : e ∈ s.Edges) {p : TPoint} (h : NearM e p s.R) : InsM s p :=
  ⟨hs, inbx_of he (near_box (hs.2.1 e he) hs.2.2.2.1.1 h), .inl ⟨e, he, h⟩⟩
end Go.Proofs.Ytpnlegfdkkcnlaa
