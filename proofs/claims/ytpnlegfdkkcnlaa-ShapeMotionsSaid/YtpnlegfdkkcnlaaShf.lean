/-
  No statement is proved in this text. It shows that turned, mirrored and moved shapes have the turned, mirrored and moved points.
-/
import Derived.Test.YtpnlegfdkkcnlaaShe
namespace Go.Proofs.Ytpnlegfdkkcnlaa
open Go.RowKit
set_option linter.unusedVariables false
set_option linter.unusedSimpArgs false

/-! ### Generators of motions -/
def rotP (p : TPoint) : TPoint := ⟨-p.Y, p.X⟩
def mirP (p : TPoint) : TPoint := ⟨-p.X, p.Y⟩
def traP (o p : TPoint) : TPoint := ⟨p.X + o.X, p.Y + o.Y⟩
def rotE (e : TEdge) : TEdge := ⟨e.Kind, rotP e.A, rotP e.B, rotP e.C⟩
def mirE (e : TEdge) : TEdge := ⟨if e.Kind = 2 then 3 else if e.Kind = 3 then 2 else e.Kind, mirP e.A, mirP e.B, mirP e.C⟩
def traE (o : TPoint) (e : TEdge) : TEdge := ⟨e.Kind, traP o e.A, traP o e.B, if e.Kind = 1 then e.C else traP o e.C⟩
theorem mirE_kind (e : TEdge) : (mirE e).Kind = 1 ↔ e.Kind = 1 := by
  unfold mirE; simp only; (repeat' split) <;> omega
theorem rot_ok {e : TEdge} (h : OkE e) : OkE (rotE e) := by
  obtain ⟨⟨h1, h2, h3⟩, hf⟩ := h
  unfold RP C27 at h1 h2 h3
  refine ⟨⟨?_, ?_, ?_⟩, ?_⟩
  · unfold rotE rotP RP C27; simp only; omega
  · unfold rotE rotP RP C27; simp only; omega
  · unfold rotE rotP RP C27; simp only; omega
  · unfold Form QL QR Odd at *
    unfold rotE rotP
    simp only
    rcases hf with h | h | h
    · left; omega
    · right; left; omega
    · right; right; omega
theorem mir_ok {e : TEdge} (h : OkE e) : OkE (mirE e) := by
  obtain ⟨⟨h1, h2, h3⟩, hf⟩ := h
  unfold RP C27 at h1 h2 h3
  refine ⟨⟨?_, ?_, ?_⟩, ?_⟩
  · unfold mirE mirP RP C27; simp only; omega
  · unfold mirE mirP RP C27; simp only; omega
  · unfold mirE mirP RP C27; simp only; omega
  · unfold Form QL QR Odd at *
    unfold mirE mirP
    simp only
    rcases hf with h | h | h
    · left; rw [if_neg (by omega), if_neg (by omega)]; omega
    · right; right; rw [if_pos h.1]; omega
    · right; left; rw [if_neg (by omega), if_pos h.1]; omega
theorem rad_eq_of {e f : TEdge} (he : OkE e) (hf : OkE f) (hk : f.Kind = 1 ↔ e.Kind = 1) (h : e.Kind ≠ 1 → max (f.A.X - f.C.X) (-(f.A.X - f.C.X)) + max (f.A.Y - f.C.Y) (-(f.A.Y - f.C.Y)) = max (e.A.X - e.C.X) (-(e.A.X - e.C.X)) + max (e.A.Y - e.C.Y) (-(e.A.Y - e.C.Y))) : RadM f = RadM e := by
  by_cases h1 : e.Kind = 1
  · unfold RadM; rw [if_neg (fun x => x.2 (hk.2 h1)), if_neg (fun x => x.2 h1)]
  · rw [rad_arcM he h1, rad_arcM hf (fun x => h1 (hk.1 x)), h h1]
/-- Edges of which all is alike. -/
theorem near_like {e f : TEdge} {p q : TPoint} (he : OkE e) (hf : OkE f) (hk : f.Kind = 1 ↔ e.Kind = 1) (hA : d2 q f.A = d2 p e.A) (hB : d2 q f.B = d2 p e.B) (hL : d2 f.B f.A = d2 e.B e.A) (hal : al f.A f.B q = al e.A e.B p) (hcr : cr f.A f.B q = cr e.A e.B p ∨ cr f.A f.B q = -cr e.A e.B p)
    (hC : e.Kind ≠ 1 → d2 q f.C = d2 p e.C) (hR : RadM f = RadM e) (hF : e.Kind ≠ 1 → (FacS f q ↔ FacS e p)) (r : Int) : NearM f q r ↔ NearM e p r := by
  have hc : cr f.A f.B q * cr f.A f.B q = cr e.A e.B p * cr e.A e.B p := by
    rcases hcr with h | h <;> rw [h]
    exact Int.neg_mul_neg _ _
  unfold NearM
  rw [hA, hB, hL, hal, hc, hR]
  by_cases h1 : e.Kind = 1
  · rw [if_pos h1, if_pos (hk.2 h1)]
  · have h2 : f.Kind ≠ 1 := fun x => h1 (hk.1 x)
    rw [if_neg h1, if_neg h2, hC h1, fac_sgn he h1, fac_sgn hf h2, hF h1]
theorem rot_near {e : TEdge} (he : OkE e) (p : TPoint) (r : Int) : NearM (rotE e) (rotP p) r ↔ NearM e p r := by
  refine near_like he (rot_ok he) Iff.rfl ?_ ?_ ?_ ?_ (.inl ?_) (fun _ => ?_) (rad_eq_of he (rot_ok he) Iff.rfl fun _ => ?_) (fun _ => ?_) r
  · unfold rotE rotP d2; simp only; grind
  · unfold rotE rotP d2; simp only; grind
  · unfold rotE rotP d2; simp only; grind
  · unfold rotE rotP al; simp only; grind
  · unfold rotE rotP cr; simp only; grind
  · unfold rotE rotP d2; simp only; grind
  · unfold rotE rotP; simp only; omega
  · unfold rotE rotP FacS; simp only; omega
theorem mir_near {e : TEdge} (he : OkE e) (p : TPoint) (r : Int) : NearM (mirE e) (mirP p) r ↔ NearM e p r := by
  refine near_like he (mir_ok he) (mirE_kind e) ?_ ?_ ?_ ?_ (.inr ?_) (fun _ => ?_) (rad_eq_of he (mir_ok he) (mirE_kind e) fun _ => ?_) (fun _ => ?_) r
  · unfold mirE mirP d2; simp only; grind
  · unfold mirE mirP d2; simp only; grind
  · unfold mirE mirP d2; simp only; grind
  · unfold mirE mirP al; simp only; grind
  · unfold mirE mirP cr; simp only; grind
  · unfold mirE mirP d2; simp only; grind
  · unfold mirE mirP; simp only; omega
  · unfold mirE mirP FacS; simp only; omega
theorem tra_near {e : TEdge} {o : TPoint} (he : OkE e) (hf : OkE (traE o e)) (p : TPoint) (r : Int) : NearM (traE o e) (traP o p) r ↔ NearM e p r := by
  refine near_like he hf Iff.rfl ?_ ?_ ?_ ?_ (.inl ?_) (fun h1 => ?_) (rad_eq_of he hf Iff.rfl fun h1 => ?_) (fun h1 => ?_) r
  · unfold traE traP d2; simp only; grind
  · unfold traE traP d2; simp only; grind
  · unfold traE traP d2; simp only; grind
  · unfold traE traP al; simp only; grind
  · unfold traE traP cr; simp only; grind
  · unfold traE traP d2; simp only [h1, if_false]; grind
  · unfold traE traP; simp only [h1, if_false]; omega
  · unfold traE traP FacS; simp only [h1, if_false]; omega

/-! ### Rays -/
/-- The point is not on the edge. -/
def Off (e : TEdge) (p : TPoint) : Prop := ¬ NearM e p 0
def quad (p v : TPoint) : Int := if p.X < v.X ∧ v.Y ≤ p.Y then 1 else 0
def high (p v : TPoint) : Int := if p.Y < v.Y then 1 else 0
theorem sg (x y : Int) : (0 < x → 0 < y → 0 < x * y) ∧ (0 < x → y ≤ 0 → x * y ≤ 0) ∧ (x ≤ 0 → 0 < y → x * y ≤ 0) ∧ (x ≤ 0 → y ≤ 0 → 0 ≤ x * y) ∧ (x < 0 → 0 < y → x * y < 0) ∧ (0 < x → y < 0 → x * y < 0) ∧ (x < 0 → y < 0 → 0 < x * y) ∧ (x = 0 → x * y = 0) ∧ (y = 0 → x * y = 0) := by
  refine ⟨Int.mul_pos, fun h1 h2 => ?_, fun h1 h2 => ?_, fun h1 h2 => ?_, Int.mul_neg_of_neg_of_pos, Int.mul_neg_of_pos_of_neg, Int.mul_pos_of_neg_of_neg, fun h => by rw [h, Int.zero_mul], fun h => by rw [h, Int.mul_zero]⟩
  · exact Int.mul_nonpos_of_nonneg_of_nonpos (Int.le_of_lt h1) h2
  · exact Int.mul_nonpos_of_nonpos_of_nonneg h1 (Int.le_of_lt h2)
  · exact Int.mul_nonneg_of_nonpos_of_nonpos h1 h2
theorem off_line {a b c p : TPoint} (h : Off ⟨1, a, b, c⟩ p) : ¬ (cr a b p = 0 ∧ (a.X - p.X) * (b.X - p.X) + (a.Y - p.Y) * (b.Y - p.Y) ≤ 0) := by
  rintro ⟨h1, h2⟩
  refine h ?_
  by_cases ha : d2 p a ≤ 0
  · exact .inl (by simpa using ha)
  by_cases hb : d2 p b ≤ 0
  · exact .inr (.inl (by simpa using hb))
  refine .inr (.inr ?_)
  rw [if_pos rfl]
  have e1 : al a b p = d2 p a - ((a.X - p.X) * (b.X - p.X) + (a.Y - p.Y) * (b.Y - p.Y)) := by unfold al d2; grind
  have e2 : d2 b a = d2 p a + d2 p b - 2 * ((a.X - p.X) * (b.X - p.X) + (a.Y - p.Y) * (b.Y - p.Y)) := by unfold d2; grind
  refine ⟨⟨?_, ?_⟩, ?_⟩
  · show 0 < al a b p; omega
  · show al a b p < d2 b a; omega
  · show cr a b p * cr a b p ≤ 0 * 0 * d2 b a
    rw [h1]; simp
theorem dich (x : Int) : (0 < x ∧ ¬ x ≤ 0) ∨ (x ≤ 0 ∧ ¬ 0 < x) := by omega
theorem core_rot (ax ay bx b2 : Int) (hz : ¬ (ax * b2 - bx * ay = 0 ∧ ax * bx + ay * b2 ≤ 0)) :
    (if (ax ≤ 0 ∧ 0 < bx) ∧ 0 < ax * b2 - bx * ay then (1 : Int) else if (bx ≤ 0 ∧ 0 < ax) ∧ ax * b2 - bx * ay < 0 then -1 else 0) =
    (if (ay ≤ 0 ∧ 0 < b2) ∧ 0 < ax * b2 - bx * ay then (1 : Int) else if (b2 ≤ 0 ∧ 0 < ay) ∧ ax * b2 - bx * ay < 0 then -1 else 0) + (if 0 < bx ∧ b2 ≤ 0 then 1 else 0) - (if 0 < ax ∧ ay ≤ 0 then 1 else 0) := by
  have s1 := sg ax b2
  have s2 := sg bx ay
  have s3 := sg ax bx
  have s4 := sg ay b2
  generalize ax * b2 = u1 at *
  generalize bx * ay = u2 at *
  generalize ax * bx = u3 at *
  generalize ay * b2 = u4 at *
  rcases dich ax with ⟨a1, c1⟩ | ⟨a1, c1⟩ <;> rcases dich ay with ⟨a2, c2⟩ | ⟨a2, c2⟩ <;> rcases dich bx with ⟨a3, c3⟩ | ⟨a3, c3⟩ <;> rcases dich b2 with ⟨a4, c4⟩ | ⟨a4, c4⟩ <;>
    simp only [a1, a2, a3, a4, c1, c2, c3, c4, true_and, false_and, and_true, and_false, if_true, if_false, forall_const, false_implies] at s1 s2 s3 s4 ⊢ <;> (repeat' split) <;> grind
theorem core_mir (ax ay bx b2 : Int) (hz : ¬ (ax * b2 - bx * ay = 0 ∧ ax * bx + ay * b2 ≤ 0)) :
    (if (ay ≤ 0 ∧ 0 < b2) ∧ 0 < -(ax * b2 - bx * ay) then (1 : Int) else if (b2 ≤ 0 ∧ 0 < ay) ∧ -(ax * b2 - bx * ay) < 0 then -1 else 0) =
    -(if (ay ≤ 0 ∧ 0 < b2) ∧ 0 < ax * b2 - bx * ay then (1 : Int) else if (b2 ≤ 0 ∧ 0 < ay) ∧ ax * b2 - bx * ay < 0 then -1 else 0) + (if 0 < b2 then 1 else 0) - (if 0 < ay then 1 else 0) := by
  have s1 := sg ax b2
  have s2 := sg bx ay
  have s3 := sg ax bx
  have s4 := sg ay b2
  generalize ax * b2 = u1 at *
  generalize bx * ay = u2 at *
  generalize ax * bx = u3 at *
  generalize ay * b2 = u4 at *
  rcases dich ax with ⟨a1, c1⟩ | ⟨a1, c1⟩ <;> rcases dich ay with ⟨a2, c2⟩ | ⟨a2, c2⟩ <;> rcases dich bx with ⟨a3, c3⟩ | ⟨a3, c3⟩ <;> rcases dich b2 with ⟨a4, c4⟩ | ⟨a4, c4⟩ <;>
    simp only [a1, a2, a3, a4, c1, c2, c3, c4, true_and, false_and, and_true, and_false, if_true, if_false, forall_const, false_implies] at s1 s2 s3 s4 ⊢ <;> (repeat' split) <;> grind
theorem rel_le (a p : Int) : (a ≤ p ↔ a - p ≤ 0) ∧ (p < a ↔ 0 < a - p) := by omega
theorem line_rel (a b c p : TPoint) (h : OkE ⟨1, a, b, c⟩) : RayM ⟨1, a, b, c⟩ p = if (a.Y - p.Y ≤ 0 ∧ 0 < b.Y - p.Y) ∧ 0 < (a.X - p.X) * (b.Y - p.Y) - (b.X - p.X) * (a.Y - p.Y) then 1 else if (b.Y - p.Y ≤ 0 ∧ 0 < a.Y - p.Y) ∧ (a.X - p.X) * (b.Y - p.Y) - (b.X - p.X) * (a.Y - p.Y) < 0 then -1 else 0 := by
  have e2 : cr a b p = (a.X - p.X) * (b.Y - p.Y) - (b.X - p.X) * (a.Y - p.Y) := by unfold cr; grind
  rw [line_ray _ _ _ _ h, e2]
  simp only [(rel_le a.Y p.Y).1, (rel_le a.Y p.Y).2, (rel_le b.Y p.Y).1, (rel_le b.Y p.Y).2]
theorem off_rel {a b c p : TPoint} (h : Off ⟨1, a, b, c⟩ p) : ¬ ((a.X - p.X) * (b.Y - p.Y) - (b.X - p.X) * (a.Y - p.Y) = 0 ∧ (a.X - p.X) * (b.X - p.X) + (a.Y - p.Y) * (b.Y - p.Y) ≤ 0) := by
  have e2 : cr a b p = (a.X - p.X) * (b.Y - p.Y) - (b.X - p.X) * (a.Y - p.Y) := by unfold cr; grind
  rw [← e2]; exact off_line h
theorem rot_line {a b c p : TPoint} (h : OkE ⟨1, a, b, c⟩) (ho : Off ⟨1, a, b, c⟩ p) : RayM (rotE ⟨1, a, b, c⟩) (rotP p) = RayM ⟨1, a, b, c⟩ p + quad p b - quad p a := by
  have h' : OkE ⟨1, rotP a, rotP b, rotP c⟩ := rot_ok h
  show RayM ⟨1, rotP a, rotP b, rotP c⟩ (rotP p) = _
  rw [line_rel _ _ _ _ h, line_rel _ _ _ _ h']
  have k := core_rot (a.X - p.X) (a.Y - p.Y) (b.X - p.X) (b.Y - p.Y) (off_rel ho)
  unfold quad
  simp only [(rel_le a.X p.X).2, (rel_le b.X p.X).2, (rel_le a.Y p.Y).1, (rel_le b.Y p.Y).1]
  rw [← k]
  unfold rotP
  simp only
  have e : (-a.Y - -p.Y) * (b.X - p.X) - (-b.Y - -p.Y) * (a.X - p.X) = (a.X - p.X) * (b.Y - p.Y) - (b.X - p.X) * (a.Y - p.Y) := by grind
  rw [e]
theorem mir_line {a b c p : TPoint} (h : OkE ⟨1, a, b, c⟩) (ho : Off ⟨1, a, b, c⟩ p) : RayM (mirE ⟨1, a, b, c⟩) (mirP p) = -RayM ⟨1, a, b, c⟩ p + high p b - high p a := by
  have h' : OkE ⟨1, mirP a, mirP b, mirP c⟩ := mir_ok h
  show RayM ⟨1, mirP a, mirP b, mirP c⟩ (mirP p) = _
  rw [line_rel _ _ _ _ h, line_rel _ _ _ _ h']
  have k := core_mir (a.X - p.X) (a.Y - p.Y) (b.X - p.X) (b.Y - p.Y) (off_rel ho)
  unfold high
  simp only [(rel_le a.Y p.Y).2, (rel_le b.Y p.Y).2]
  rw [← k]
  unfold mirP
  simp only
  have e : (-a.X - -p.X) * (b.Y - p.Y) - (-b.X - -p.X) * (a.Y - p.Y) = -((a.X - p.X) * (b.Y - p.Y) - (b.X - p.X) * (a.Y - p.Y)) := by grind
  rw [e]
/-! ### Arcs -/
theorem arc_ray {e : TEdge} {p : TPoint} (h : OkE e) : RayM e p = if InR e p ∧ (p.X < min e.A.X e.B.X ∨ Bey e p) then up e else 0 := by
  unfold RayM; simp only [h, true_and]
theorem bey_r {e : TEdge} {p : TPoint} (hk : e.Kind ≠ 1) (hr : RightHalf e) : Bey e p ↔ d2 p e.C < d2 e.A e.C := by unfold Bey; rw [if_neg hk, if_pos hr]
theorem bey_l {e : TEdge} {p : TPoint} (hk : e.Kind ≠ 1) (hr : ¬ RightHalf e) : Bey e p ↔ d2 e.A e.C < d2 p e.C := by unfold Bey; rw [if_neg hk, if_neg hr]
theorem sqf (x f : Int) : (-f < x → x < f → x * x < f * f) ∧ (f < x → x < -f → x * x < f * f) ∧ (0 < f → f ≤ x → f * f ≤ x * x) ∧ (0 < f → x ≤ -f → f * f ≤ x * x) ∧ (f < 0 → -f ≤ x → f * f ≤ x * x) ∧ (f < 0 → x ≤ f → f * f ≤ x * x) ∧ 0 ≤ x * x ∧ (0 ≤ x → x ≤ 0 → x * x = 0) ∧ (0 < x → 0 < x * x) ∧ (x < 0 → 0 < x * x) ∧ (f ≤ x → x ≤ f → x * x = f * f) ∧ (-f ≤ x → x ≤ -f → x * x = f * f) := by
  have en : ∀ a : Int, (-a) * (-a) = a * a := fun a => Int.neg_mul_neg a a
  have lt : ∀ a b : Int, -b < a → a < b → a * a < b * b := fun a b h1 h2 => by
    rcases Int.le_total 0 a with h | h
    · exact lt_sq h h2
    · have := lt_sq (r := -a) (y := b) (by omega) (by omega)
      rwa [en] at this
  have le : ∀ a b : Int, 0 ≤ b → b ≤ a → b * b ≤ a * a := fun a b h1 h2 => Int.mul_le_mul h2 h2 h1 (by omega)
  refine ⟨lt x f, fun h1 h2 => ?_, fun h1 h2 => le x f (by omega) h2, fun h1 h2 => ?_, fun h1 h2 => ?_, fun h1 h2 => ?_, sq_nn x, fun h1 h2 => by rw [show x = 0 by omega]; rfl, fun h => Int.mul_pos h h, fun h => Int.mul_pos_of_neg_of_neg h h, fun h1 h2 => by rw [show x = f by omega], fun h1 h2 => by rw [show x = -f by omega]; exact en f⟩
  · have := lt x (-f) (by omega) h2; rwa [en] at this
  · have := le (-x) f (by omega) (by omega); rwa [en] at this
  · have := le x (-f) (by omega) h2; rwa [en] at this
  · have := le (-x) (-f) (by omega) (by omega); rwa [en, en] at this
/-- An arc that starts beside its centre and ends above or below it. -/
structure Arc1 (e : TEdge) (p : TPoint) (cx cy f g : Int) : Prop where
  kind : e.Kind ≠ 1
  hx : e.C.X - p.X = cx
  hy : e.C.Y - p.Y = cy
  ax : e.A.X = p.X + cx + f
  ay : e.A.Y = p.Y + cy
  bx : e.B.X = p.X + cx
  b2 : e.B.Y = p.Y + cy + g
  ne : f ≠ 0
  fg : g = f ∨ g = -f
theorem arc_off {e : TEdge} {p : TPoint} {cx cy f g : Int} (h : OkE e) (a : Arc1 e p cx cy f g) (ho : Off e p) : ((0 < f ∧ cx ≤ 0) ∨ (f < 0 ∧ 0 ≤ cx)) → ((0 < g ∧ cy ≤ 0) ∨ (g < 0 ∧ 0 ≤ cy)) → cx * cx + cy * cy ≠ f * f := by
  intro h1 h2 he
  have hk := a.kind
  have hsq := rad_sq h hk
  have eC : d2 p e.C = cx * cx + cy * cy := by
    have e1 : p.X - e.C.X = -cx := by have := a.hx; omega
    have e2 : p.Y - e.C.Y = -cy := by have := a.hy; omega
    unfold d2; rw [e1, e2, Int.neg_mul_neg, Int.neg_mul_neg]
  have eA : d2 e.A e.C = f * f := by
    have e1 : e.A.X - e.C.X = f := by have := a.hx; have := a.ax; omega
    have e2 : e.A.Y - e.C.Y = 0 := by have := a.hy; have := a.ay; omega
    unfold d2; rw [e1, e2]; simp
  refine ho (.inr (.inr ?_))
  rw [if_neg hk]
  have hb := rad_b e
  refine ⟨(fac_sgn h hk p).2 ?_, ?_, ?_⟩
  · obtain ⟨_, c1, c2, c3, c4, c5, c6, c7, c8⟩ := a
    unfold FacS
    omega
  · rw [Int.add_zero, hsq, eA, eC]; omega
  · rw [Int.sub_zero, Int.max_eq_left hb.1, hsq, eA, eC]; omega
theorem rot_arc1 {e : TEdge} {p : TPoint} {cx cy f g : Int} (h : OkE e) (a : Arc1 e p cx cy f g) (ho : Off e p) : RayM (rotE e) (rotP p) = RayM e p + quad p e.B - quad p e.A := by
  have hoff := arc_off h a ho
  have hk := a.kind
  rw [arc_ray h, arc_ray (rot_ok h)]
  have eC : d2 p e.C = cx * cx + cy * cy := by
    have e1 : p.X - e.C.X = -cx := by have := a.hx; omega
    have e2 : p.Y - e.C.Y = -cy := by have := a.hy; omega
    unfold d2; rw [e1, e2, Int.neg_mul_neg, Int.neg_mul_neg]
  have eA : d2 e.A e.C = f * f := by
    have e1 : e.A.X - e.C.X = f := by have := a.hx; have := a.ax; omega
    have e2 : e.A.Y - e.C.Y = 0 := by have := a.hy; have := a.ay; omega
    unfold d2; rw [e1, e2]; simp
  have eC' : d2 (rotP p) (rotE e).C = cx * cx + cy * cy := by rw [← eC]; unfold rotE rotP d2; simp only; grind
  have eA' : d2 (rotE e).A (rotE e).C = f * f := by rw [← eA]; unfold rotE rotP d2; simp only; grind
  have hx := sqf cx f
  have hy := sqf cy f
  obtain ⟨_, c1, c2, c3, c4, c5, c6, c7, c8⟩ := a
  have r1 : RightHalf e ↔ 0 < f := by unfold RightHalf; omega
  have r2 : RightHalf (rotE e) ↔ g < 0 := by unfold RightHalf rotE rotP; simp only; omega
  have u1 : up e = if 0 < g then 1 else -1 := by
    unfold up
    by_cases hg : 0 < g
    · rw [if_pos (by omega), if_pos hg]
    · rw [if_neg (by omega), if_pos (by omega), if_neg hg]
  have u2 : up (rotE e) = if f < 0 then 1 else -1 := by
    unfold up rotE rotP
    simp only
    by_cases hg : f < 0
    · rw [if_pos (by omega), if_pos hg]
    · rw [if_neg (by omega), if_pos (by omega), if_neg hg]
  rw [u1, u2]
  have q1 : quad p e.B = if 0 < cx ∧ cy + g ≤ 0 then 1 else 0 := by
    unfold quad; by_cases hq : 0 < cx ∧ cy + g ≤ 0
    · rw [if_pos (by omega), if_pos hq]
    · rw [if_neg (by omega), if_neg hq]
  have q2 : quad p e.A = if 0 < cx + f ∧ cy ≤ 0 then 1 else 0 := by
    unfold quad; by_cases hq : 0 < cx + f ∧ cy ≤ 0
    · rw [if_pos (by omega), if_pos hq]
    · rw [if_neg (by omega), if_neg hq]
  have z1 : InR e p ↔ ((min cy (cy + g) ≤ 0 ∧ 0 < max cy (cy + g)) ∧ 0 < max (cx + f) cx) := by unfold InR; omega
  have z2 : p.X < min e.A.X e.B.X ↔ 0 < min (cx + f) cx := by omega
  have z3 : InR (rotE e) (rotP p) ↔ ((min (cx + f) cx ≤ 0 ∧ 0 < max (cx + f) cx) ∧ 0 < max (-cy) (-(cy + g))) := by unfold InR rotE rotP; simp only; omega
  have z4 : (rotP p).X < min (rotE e).A.X (rotE e).B.X ↔ 0 < min (-cy) (-(cy + g)) := by unfold rotE rotP; simp only; omega
  have b1 : Bey e p ↔ if 0 < f then cx * cx + cy * cy < f * f else f * f < cx * cx + cy * cy := by
    by_cases hr : 0 < f
    · rw [if_pos hr, bey_r hk (r1.2 hr), eC, eA]
    · rw [if_neg hr, bey_l hk (fun x => hr (r1.1 x)), eC, eA]
  have b2 : Bey (rotE e) (rotP p) ↔ if g < 0 then cx * cx + cy * cy < f * f else f * f < cx * cx + cy * cy := by
    by_cases hr : g < 0
    · rw [if_pos hr, bey_r (e := rotE e) hk (r2.2 hr), eC', eA']
    · rw [if_neg hr, bey_l (e := rotE e) hk (fun x => hr (r2.1 x)), eC', eA']
  simp only [z1, z2, z3, z4, b1, b2, q1, q2]
  clear z1 z2 z3 z4 b1 b2 q1 q2 u1 u2 r1 r2 eA' eC' eA eC c1 c2 c3 c4 c5 c6 h ho hk
  generalize cx * cx = X at *
  generalize cy * cy = Y at *
  generalize f * f = F at *
  rcases Int.lt_or_gt_of_ne c7 with hf | hf <;> rcases c8 with rfl | rfl
  · simp only [show min (cx + g) (cx) = cx + g by omega, show max (cx + g) (cx) = cx by omega, show min (cy) (cy + g) = cy + g by omega, show max (cy) (cy + g) = cy by omega, show min (-cy) (-(cy + g)) = -cy by omega, show max (-cy) (-(cy + g)) = -(cy + g) by omega, show min (-(cx + g)) (-cx) = -cx by omega, show max (-(cx + g)) (-cx) = -(cx + g) by omega, hf, show ¬ 0 < g by omega, if_true, if_false, true_and, false_and, or_false, false_or, forall_const, false_implies, true_implies] at hx hy hoff ⊢
    (repeat' split) <;> grind
  · simp only [show min (cx + f) (cx) = cx + f by omega, show max (cx + f) (cx) = cx by omega, show min (cy) (cy + -f) = cy by omega, show max (cy) (cy + -f) = cy + -f by omega, show min (-cy) (-(cy + -f)) = -(cy + -f) by omega, show max (-cy) (-(cy + -f)) = -cy by omega, show min (-(cx + f)) (-cx) = -cx by omega, show max (-(cx + f)) (-cx) = -(cx + f) by omega, hf, show ¬ 0 < f by omega, show 0 < -f by omega, show ¬ -f < 0 by omega, if_true, if_false, true_and, false_and, or_false, false_or, forall_const, false_implies, true_implies] at hx hy hoff ⊢
    (repeat' split) <;> grind
  · simp only [show min (cx + g) (cx) = cx by omega, show max (cx + g) (cx) = cx + g by omega, show min (cy) (cy + g) = cy by omega, show max (cy) (cy + g) = cy + g by omega, show min (-cy) (-(cy + g)) = -(cy + g) by omega, show max (-cy) (-(cy + g)) = -cy by omega, show min (-(cx + g)) (-cx) = -(cx + g) by omega, show max (-(cx + g)) (-cx) = -cx by omega, hf, show ¬ g < 0 by omega, show 0 < g by omega, if_true, if_false, true_and, false_and, or_false, false_or, forall_const, false_implies, true_implies] at hx hy hoff ⊢
    (repeat' split) <;> grind
  · simp only [show min (cx + f) (cx) = cx by omega, show max (cx + f) (cx) = cx + f by omega, show min (cy) (cy + -f) = cy + -f by omega, show max (cy) (cy + -f) = cy by omega, show min (-cy) (-(cy + -f)) = -cy by omega, show max (-cy) (-(cy + -f)) = -(cy + -f) by omega, show min (-(cx + f)) (-cx) = -(cx + f) by omega, show max (-(cx + f)) (-cx) = -cx by omega, hf, show ¬ f < 0 by omega, show 0 < f by omega, show ¬ 0 < -f by omega, show -f < 0 by omega, if_true, if_false, true_and, false_and, or_false, false_or, forall_const, false_implies, true_implies] at hx hy hoff ⊢
    (repeat' split) <;> grind
theorem mir_arc1 {e : TEdge} {p : TPoint} {cx cy f g : Int} (h : OkE e) (a : Arc1 e p cx cy f g) (ho : Off e p) : RayM (mirE e) (mirP p) = -RayM e p + high p e.B - high p e.A := by
  have hoff := arc_off h a ho
  have hk := a.kind
  rw [arc_ray h, arc_ray (mir_ok h)]
  have eC : d2 p e.C = cx * cx + cy * cy := by
    have e1 : p.X - e.C.X = -cx := by have := a.hx; omega
    have e2 : p.Y - e.C.Y = -cy := by have := a.hy; omega
    unfold d2; rw [e1, e2, Int.neg_mul_neg, Int.neg_mul_neg]
  have eA : d2 e.A e.C = f * f := by
    have e1 : e.A.X - e.C.X = f := by have := a.hx; have := a.ax; omega
    have e2 : e.A.Y - e.C.Y = 0 := by have := a.hy; have := a.ay; omega
    unfold d2; rw [e1, e2]; simp
  have eC' : d2 (mirP p) (mirE e).C = cx * cx + cy * cy := by rw [← eC]; unfold mirE mirP d2; simp only; grind
  have eA' : d2 (mirE e).A (mirE e).C = f * f := by rw [← eA]; unfold mirE mirP d2; simp only; grind
  have hx := sqf cx f
  have hy := sqf cy f
  obtain ⟨_, c1, c2, c3, c4, c5, c6, c7, c8⟩ := a
  have r1 : RightHalf e ↔ 0 < f := by unfold RightHalf; omega
  have r2 : RightHalf (mirE e) ↔ f < 0 := by unfold RightHalf mirE mirP; simp only; omega
  have u1 : up e = if 0 < g then 1 else -1 := by
    unfold up
    by_cases hg : 0 < g
    · rw [if_pos (by omega), if_pos hg]
    · rw [if_neg (by omega), if_pos (by omega), if_neg hg]
  have u2 : up (mirE e) = if 0 < g then 1 else -1 := by
    unfold up mirE mirP
    simp only
    by_cases hg : 0 < g
    · rw [if_pos (by omega), if_pos hg]
    · rw [if_neg (by omega), if_pos (by omega), if_neg hg]
  rw [u1, u2]
  have q1 : high p e.B = if 0 < cy + g then 1 else 0 := by
    unfold high; by_cases hq : 0 < cy + g
    · rw [if_pos (by omega), if_pos hq]
    · rw [if_neg (by omega), if_neg hq]
  have q2 : high p e.A = if 0 < cy then 1 else 0 := by
    unfold high; by_cases hq : 0 < cy
    · rw [if_pos (by omega), if_pos hq]
    · rw [if_neg (by omega), if_neg hq]
  have z1 : InR e p ↔ ((min cy (cy + g) ≤ 0 ∧ 0 < max cy (cy + g)) ∧ 0 < max (cx + f) cx) := by unfold InR; omega
  have z2 : p.X < min e.A.X e.B.X ↔ 0 < min (cx + f) cx := by omega
  have z3 : InR (mirE e) (mirP p) ↔ ((min cy (cy + g) ≤ 0 ∧ 0 < max cy (cy + g)) ∧ 0 < max (-(cx + f)) (-cx)) := by unfold InR mirE mirP; simp only; omega
  have z4 : (mirP p).X < min (mirE e).A.X (mirE e).B.X ↔ 0 < min (-(cx + f)) (-cx) := by unfold mirE mirP; simp only; omega
  have b1 : Bey e p ↔ if 0 < f then cx * cx + cy * cy < f * f else f * f < cx * cx + cy * cy := by
    by_cases hr : 0 < f
    · rw [if_pos hr, bey_r hk (r1.2 hr), eC, eA]
    · rw [if_neg hr, bey_l hk (fun x => hr (r1.1 x)), eC, eA]
  have b2 : Bey (mirE e) (mirP p) ↔ if f < 0 then cx * cx + cy * cy < f * f else f * f < cx * cx + cy * cy := by
    by_cases hr : f < 0
    · rw [if_pos hr, bey_r (fun x => hk ((mirE_kind e).1 x)) (r2.2 hr), eC', eA']
    · rw [if_neg hr, bey_l (fun x => hk ((mirE_kind e).1 x)) (fun x => hr (r2.1 x)), eC', eA']
  simp only [z1, z2, z3, z4, b1, b2, q1, q2]
  clear z1 z2 z3 z4 b1 b2 q1 q2 u1 u2 r1 r2 eA' eC' eA eC c1 c2 c3 c4 c5 c6 h ho hk
  generalize cx * cx = X at *
  generalize cy * cy = Y at *
  generalize f * f = F at *
  rcases Int.lt_or_gt_of_ne c7 with hf | hf <;> rcases c8 with rfl | rfl
  · simp only [show min (cx + g) (cx) = cx + g by omega, show max (cx + g) (cx) = cx by omega, show min (cy) (cy + g) = cy + g by omega, show max (cy) (cy + g) = cy by omega, show min (-cy) (-(cy + g)) = -cy by omega, show max (-cy) (-(cy + g)) = -(cy + g) by omega, show min (-(cx + g)) (-cx) = -cx by omega, show max (-(cx + g)) (-cx) = -(cx + g) by omega, hf, show ¬ 0 < g by omega, if_true, if_false, true_and, false_and, or_false, false_or, forall_const, false_implies, true_implies] at hx hy hoff ⊢
    (repeat' split) <;> grind
  · simp only [show min (cx + f) (cx) = cx + f by omega, show max (cx + f) (cx) = cx by omega, show min (cy) (cy + -f) = cy by omega, show max (cy) (cy + -f) = cy + -f by omega, show min (-cy) (-(cy + -f)) = -(cy + -f) by omega, show max (-cy) (-(cy + -f)) = -cy by omega, show min (-(cx + f)) (-cx) = -cx by omega, show max (-(cx + f)) (-cx) = -(cx + f) by omega, hf, show ¬ 0 < f by omega, show 0 < -f by omega, show ¬ -f < 0 by omega, if_true, if_false, true_and, false_and, or_false, false_or, forall_const, false_implies, true_implies] at hx hy hoff ⊢
    (repeat' split) <;> grind
  · simp only [show min (cx + g) (cx) = cx by omega, show max (cx + g) (cx) = cx + g by omega, show min (cy) (cy + g) = cy by omega, show max (cy) (cy + g) = cy + g by omega, show min (-cy) (-(cy + g)) = -(cy + g) by omega, show max (-cy) (-(cy + g)) = -cy by omega, show min (-(cx + g)) (-cx) = -(cx + g) by omega, show max (-(cx + g)) (-cx) = -cx by omega, hf, show ¬ g < 0 by omega, show 0 < g by omega, if_true, if_false, true_and, false_and, or_false, false_or, forall_const, false_implies, true_implies] at hx hy hoff ⊢
    (repeat' split) <;> grind
  · simp only [show min (cx + f) (cx) = cx by omega, show max (cx + f) (cx) = cx + f by omega, show min (cy) (cy + -f) = cy + -f by omega, show max (cy) (cy + -f) = cy by omega, show min (-cy) (-(cy + -f)) = -cy by omega, show max (-cy) (-(cy + -f)) = -(cy + -f) by omega, show min (-(cx + f)) (-cx) = -(cx + f) by omega, show max (-(cx + f)) (-cx) = -cx by omega, hf, show ¬ f < 0 by omega, show 0 < f by omega, show ¬ 0 < -f by omega, show -f < 0 by omega, if_true, if_false, true_and, false_and, or_false, false_or, forall_const, false_implies, true_implies] at hx hy hoff ⊢
    (repeat' split) <;> grind
/-- Every arc is such a one, or its reverse is. -/
theorem arc_form {e : TEdge} (h : OkE e) (hk : e.Kind ≠ 1) (p : TPoint) : Arc1 e p (e.C.X - p.X) (e.C.Y - p.Y) (e.A.X - e.C.X) (e.B.Y - e.C.Y) ∨ Arc1 (RevM e) p (e.C.X - p.X) (e.C.Y - p.Y) (e.B.X - e.C.X) (e.A.Y - e.C.Y) := by
  obtain ⟨ho, hab⟩ := arc_odd h hk
  rcases odd_cases ho with ⟨z, nz⟩ | ⟨nz, z⟩
  · right
    refine ⟨fun x => hk ((rev_kind e).1 x), rfl, rfl, ?_, ?_, ?_, ?_, ?_, ?_⟩
    · show e.B.X = _; omega
    · show e.B.Y = _; omega
    · show e.A.X = _; omega
    · show e.A.Y = _; omega
    · omega
    · omega
  · left
    refine ⟨hk, rfl, rfl, ?_, ?_, ?_, ?_, ?_, ?_⟩ <;> omega
theorem rot_rev (e : TEdge) : rotE (RevM e) = RevM (rotE e) := rfl
theorem mir_rev (e : TEdge) : mirE (RevM e) = RevM (mirE e) := by
  unfold mirE RevM
  simp only [TEdge.mk.injEq, and_true]
theorem rot_ray {e : TEdge} (h : OkE e) {p : TPoint} (ho : Off e p) : RayM (rotE e) (rotP p) = RayM e p + quad p e.B - quad p e.A := by
  by_cases hk : e.Kind = 1
  · obtain ⟨k, a, b, c⟩ := e
    have hk : k = 1 := hk
    subst hk
    exact rot_line h ho
  · rcases arc_form h hk p with a | a
    · exact rot_arc1 h a ho
    · have := rot_arc1 (rev_ok1 h) a (fun hn => ho ((near_rev h p 0).1 hn))
      rw [rot_rev, rev_ray, rev_ray] at this
      have e1 : (RevM e).B = e.A := rfl
      have e2 : (RevM e).A = e.B := rfl
      rw [e1, e2] at this
      omega
theorem mir_ray {e : TEdge} (h : OkE e) {p : TPoint} (ho : Off e p) : RayM (mirE e) (mirP p) = -RayM e p + high p e.B - high p e.A := by
  by_cases hk : e.Kind = 1
  · obtain ⟨k, a, b, c⟩ := e
    have hk : k = 1 := hk
    subst hk
    exact mir_line h ho
  · rcases arc_form h hk p with a | a
    · exact mir_arc1 h a ho
    · have := mir_arc1 (rev_ok1 h) a (fun hn => ho ((near_rev h p 0).1 hn))
      rw [mir_rev, rev_ray, rev_ray] at this
      have e1 : (RevM e).B = e.A := rfl
      have e2 : (RevM e).A = e.B := rfl
      rw [e1, e2] at this
      omega
theorem tra_ray {e : TEdge} {o : TPoint} (h : OkE e) (h' : OkE (traE o e)) (p : TPoint) : RayM (traE o e) (traP o p) = RayM e p := by
  have e1 : InR (traE o e) (traP o p) ↔ InR e p := by unfold InR traE traP; simp only; omega
  have e2 : ((traP o p).X < min (traE o e).A.X (traE o e).B.X) ↔ p.X < min e.A.X e.B.X := by unfold traE traP; simp only; omega
  have e3 : up (traE o e) = up e := by
    unfold up traE traP
    simp only
    have : (e.A.Y + o.Y < e.B.Y + o.Y) = (e.A.Y < e.B.Y) := by rw [eq_iff_iff]; omega
    have h2 : (e.B.Y + o.Y < e.A.Y + o.Y) = (e.B.Y < e.A.Y) := by rw [eq_iff_iff]; omega
    simp only [this, h2]
  have e4 : Bey (traE o e) (traP o p) ↔ Bey e p := by
    unfold Bey
    by_cases hk : e.Kind = 1
    · have hk' : (traE o e).Kind = 1 := hk
      rw [if_pos hk, if_pos hk']
      have c1 : cr (traE o e).A (traE o e).B (traP o p) = cr e.A e.B p := by unfold traE traP cr; simp only; grind
      have c2 : ((traE o e).A.Y < (traE o e).B.Y) = (e.A.Y < e.B.Y) := by unfold traE traP; simp only; rw [eq_iff_iff]; omega
      simp only [c1, c2]
    · have hk' : ¬ (traE o e).Kind = 1 := hk
      rw [if_neg hk, if_neg hk']
      have c1 : d2 (traP o p) (traE o e).C = d2 p e.C := by unfold traE traP d2; simp only [hk, if_false]; grind
      have c2 : d2 (traE o e).A (traE o e).C = d2 e.A e.C := by unfold traE traP d2; simp only [hk, if_false]; grind
      have c3 : RightHalf (traE o e) ↔ RightHalf e := by unfold RightHalf traE traP; simp only [hk, if_false]; omega
      simp only [c1, c2, c3]
  rw [arc_ray h, arc_ray h']
  simp only [e1, e2, e3, e4]

/-! ### Shapes -/
theorem wind_tel {T : TEdge → TEdge} {τ : TPoint → TPoint} {p : TPoint} (s : Int) (g : TPoint → Int) : ∀ {l : List TEdge} {a b : TPoint}, Ch a l b → (∀ e ∈ l, RayM (T e) (τ p) = s * RayM e p + g e.B - g e.A) → wind (l.map T) (τ p) = s * wind l p + g b - g a
  | [], a, b, h, _ => by
    have h : a = b := h
    subst h
    show (0 : Int) = s * 0 + g a - g a
    omega
  | e :: l, a, b, ⟨h1, h2⟩, hr => by
    have ih := wind_tel s g h2 fun x hx => hr x (List.mem_cons_of_mem _ hx)
    have h3 := hr e (List.mem_cons_self ..)
    rw [List.map_cons, wind, wind, ih, h3, h1, Int.mul_add]
    omega
theorem ch_map {T : TEdge → TEdge} {τ : TPoint → TPoint} (hT : ∀ e, (T e).A = τ e.A ∧ (T e).B = τ e.B) : ∀ {l : List TEdge} {a b : TPoint}, Ch a l b → Ch (τ a) (l.map T) (τ b)
  | [], a, b, h => congrArg τ h
  | e :: l, a, b, ⟨h1, h2⟩ => ⟨by rw [(hT e).1, h1], by rw [(hT e).2]; exact ch_map hT h2⟩
theorem map_ok {T : TEdge → TEdge} {τ : TPoint → TPoint} (hT : ∀ e, (T e).A = τ e.A ∧ (T e).B = τ e.B) {s : TShape} (h : OkS s) (hm : ∀ e ∈ s.Edges, OkE (T e)) : OkS ⟨s.Kind, s.Edges.map T, s.R⟩ := by
  obtain ⟨⟨h1, h2, h3⟩, h4, h5, h6, h7⟩ := h
  refine ⟨⟨h1, by simp only [List.length_map]; exact h2, by simp only [List.length_map]; exact h3⟩, fun e he => ?_, ?_, h6, h7⟩
  · obtain ⟨x, hx, rfl⟩ := List.mem_map.1 he; exact hm x hx
  · obtain ⟨a, b, hc, hk⟩ := (joined_iff (ne_nil_of h2.1)).1 h5
    exact (joined_iff (ne_nil_of (by simp only [List.length_map]; exact h2.1))).2 ⟨τ a, τ b, ch_map hT hc, fun hh => congrArg τ (hk hh)⟩
theorem map_ins {T : TEdge → TEdge} {τ : TPoint → TPoint} (hT : ∀ e, (T e).A = τ e.A ∧ (T e).B = τ e.B) {s : TShape} (h : OkS s) (hm : ∀ e ∈ s.Edges, OkE (T e)) (p : TPoint)
    (hN : ∀ e ∈ s.Edges, ∀ r, NearM (T e) (τ p) r ↔ NearM e p r) (hB : InBx (s.Edges.map T) s.R (τ p) ↔ InBx s.Edges s.R p) (sg : Int) (hs : sg = 1 ∨ sg = -1) (g : TPoint → Int) (hW : ∀ e ∈ s.Edges, Off e p → RayM (T e) (τ p) = sg * RayM e p + g e.B - g e.A) : InsM ⟨s.Kind, s.Edges.map T, s.R⟩ (τ p) ↔ InsM s p := by
  have hok := map_ok hT h hm
  have hn : (∃ e ∈ s.Edges.map T, NearM e (τ p) s.R) ↔ ∃ e ∈ s.Edges, NearM e p s.R := by
    constructor
    · rintro ⟨e, he, hh⟩
      obtain ⟨x, hx, rfl⟩ := List.mem_map.1 he
      exact ⟨x, hx, (hN x hx _).1 hh⟩
    · rintro ⟨x, hx, hh⟩
      exact ⟨T x, List.mem_map.2 ⟨x, hx, rfl⟩, (hN x hx _).2 hh⟩
  unfold InsM
  simp only
  rw [hn, hB]
  simp only [h, hok, true_and]
  by_cases hnear : ∃ e ∈ s.Edges, NearM e p s.R
  · simp only [hnear, true_or]
  · simp only [hnear, false_or]
    by_cases hk : s.Kind = 2
    · have hR : s.R = 0 := h.2.2.2.2 hk
      have hoff : ∀ e ∈ s.Edges, Off e p := fun e he hh => hnear ⟨e, he, by rw [hR]; exact hh⟩
      obtain ⟨a, b, hc, hab⟩ := (joined_iff (ne_nil_of h.1.2.1.1)).1 h.2.2.1
      have := wind_tel (T := T) (τ := τ) (p := p) sg g hc fun e he => hW e he (hoff e he)
      rw [hab hk] at this
      have hw : wind (s.Edges.map T) (τ p) = 0 ↔ wind s.Edges p = 0 := by
        rw [this]
        rcases hs with rfl | rfl <;> omega
      simp only [hk, true_and, ne_eq, hw]
    · simp only [hk, false_and]
theorem bx_map {T : TEdge → TEdge} {l : List TEdge} {P Q : TEdge → Prop} (h : ∀ e, P (T e) ↔ Q e) : (∃ e ∈ l.map T, P e) ↔ ∃ e ∈ l, Q e := by
  constructor
  · rintro ⟨e, he, hh⟩
    obtain ⟨x, hx, rfl⟩ := List.mem_map.1 he
    exact ⟨x, hx, (h x).1 hh⟩
  · rintro ⟨x, hx, hh⟩
    exact ⟨T x, List.mem_map.2 ⟨x, hx, rfl⟩, (h x).2 hh⟩
theorem rot_ins {s : TShape} (h : OkS s) (p : TPoint) : InsM ⟨s.Kind, s.Edges.map rotE, s.R⟩ (rotP p) ↔ InsM s p := by
  refine map_ins (T := rotE) (τ := rotP) (fun e => ⟨rfl, rfl⟩) h (fun e he => rot_ok (h.2.1 e he)) p (fun e he r => rot_near (h.2.1 e he) p r) ?_ 1 (.inl rfl) (quad p) fun e he ho => by rw [rot_ray (h.2.1 e he) ho]; omega
  unfold InBx
  rw [bx_map (T := rotE) (Q := fun e => p.Y - s.R ≤ max e.A.Y e.B.Y) fun e => by unfold rotE rotP; simp only; omega, bx_map (T := rotE) (Q := fun e => min e.A.Y e.B.Y ≤ p.Y + s.R) fun e => by unfold rotE rotP; simp only; omega,
    bx_map (T := rotE) (Q := fun e => min e.A.X e.B.X ≤ p.X + s.R) fun e => by unfold rotE rotP; simp only, bx_map (T := rotE) (Q := fun e => p.X - s.R ≤ max e.A.X e.B.X) fun e => by unfold rotE rotP; simp only]
  constructor
  · rintro ⟨⟨h1, h2⟩, h3, h4⟩; exact ⟨⟨h3, h4⟩, h2, h1⟩
  · rintro ⟨⟨h3, h4⟩, h2, h1⟩; exact ⟨⟨h1, h2⟩, h3, h4⟩
theorem mir_ins {s : TShape} (h : OkS s) (p : TPoint) : InsM ⟨s.Kind, s.Edges.map mirE, s.R⟩ (mirP p) ↔ InsM s p := by
  refine map_ins (T := mirE) (τ := mirP) (fun e => ⟨rfl, rfl⟩) h (fun e he => mir_ok (h.2.1 e he)) p (fun e he r => mir_near (h.2.1 e he) p r) ?_ (-1) (.inr rfl) (high p) fun e he ho => by rw [mir_ray (h.2.1 e he) ho]; omega
  unfold InBx
  rw [bx_map (T := mirE) (Q := fun e => p.X - s.R ≤ max e.A.X e.B.X) fun e => by unfold mirE mirP; simp only; omega, bx_map (T := mirE) (Q := fun e => min e.A.X e.B.X ≤ p.X + s.R) fun e => by unfold mirE mirP; simp only; omega,
    bx_map (T := mirE) (Q := fun e => min e.A.Y e.B.Y ≤ p.Y + s.R) fun e => by unfold mirE mirP; simp only, bx_map (T := mirE) (Q := fun e => p.Y - s.R ≤ max e.A.Y e.B.Y) fun e => by unfold mirE mirP; simp only]
  constructor
  · rintro ⟨⟨h1, h2⟩, h3, h4⟩; exact ⟨⟨h2, h1⟩, h3, h4⟩
  · rintro ⟨⟨h2, h1⟩, h3, h4⟩; exact ⟨⟨h1, h2⟩, h3, h4⟩
theorem tra_ins {o : TPoint} {s : TShape} (h : OkS s) (hm : ∀ e ∈ s.Edges, OkE (traE o e)) (p : TPoint) : InsM ⟨s.Kind, s.Edges.map (traE o), s.R⟩ (traP o p) ↔ InsM s p := by
  refine map_ins (T := traE o) (τ := traP o) (fun e => ⟨rfl, rfl⟩) h hm p (fun e he r => tra_near (h.2.1 e he) (hm e he) p r) ?_ 1 (.inl rfl) (fun _ => 0) fun e he ho => by rw [tra_ray (h.2.1 e he) (hm e he)]; omega
  unfold InBx
  rw [bx_map (T := traE o) (Q := fun e => min e.A.X e.B.X ≤ p.X + s.R) fun e => by unfold traE traP; simp only; omega, bx_map (T := traE o) (Q := fun e => p.X - s.R ≤ max e.A.X e.B.X) fun e => by unfold traE traP; simp only; omega,
    bx_map (T := traE o) (Q := fun e => min e.A.Y e.B.Y ≤ p.Y + s.R) fun e => by unfold traE traP; simp only; omega, bx_map (T := traE o) (Q := fun e => p.Y - s.R ≤ max e.A.Y e.B.Y) fun e => by unfold traE traP; simp only; omega]
end Go.Proofs.Ytpnlegfdkkcnlaa
