/-
  No statement is proved in this text. It shows that the shapes that numbers make are valid, and small.
-/
import Derived.Test.YtpnlegfdkkcnlaaShb
import Derived.Test.YtpnlegfdkkcnlaaK9b
namespace Go.Proofs.Ytpnlegfdkkcnlaa
open Go.RowKit
set_option linter.unusedVariables false
set_option linter.unusedSimpArgs false

/-! ### Chains -/
/-- The edges lead from a to b, one after the other. -/
def Ch : TPoint → List TEdge → TPoint → Prop
  | a, [], b => a = b
  | a, e :: l, b => e.A = a ∧ Ch e.B l b
theorem ch_append : ∀ {l m : List TEdge} {a b : TPoint}, Ch a (l ++ m) b ↔ ∃ c, Ch a l c ∧ Ch c m b
  | [], m, a, b => by simp [Ch]
  | e :: l, m, a, b => by
    simp only [List.cons_append, Ch, ch_append (l := l) (m := m)]
    constructor
    · rintro ⟨h, c, h1, h2⟩; exact ⟨c, ⟨h, h1⟩, h2⟩
    · rintro ⟨c, ⟨h, h1⟩, h2⟩; exact ⟨h, c, h1, h2⟩
theorem ch_ends : ∀ {l : List TEdge} {a b : TPoint}, Ch a l b → l ≠ [] → (∀ i, i + 1 < l.length → (l.getD i default).B = (l.getD (i + 1) default).A) ∧ (l.getD 0 default).A = a ∧ (l.getD (l.length - 1) default).B = b
  | [], a, b, h, hn => absurd rfl hn
  | [e], a, b, h, _ => ⟨fun i hi => absurd hi (by simp), h.1, h.2⟩
  | e :: f :: l, a, b, h, _ => by
    obtain ⟨h1, h2⟩ := h
    obtain ⟨g1, g2, g3⟩ := ch_ends (l := f :: l) h2 (by simp)
    refine ⟨fun i hi => ?_, h1, ?_⟩
    · cases i with
      | zero => exact g2.symm
      | succ i => exact g1 i (by simpa using hi)
    · simpa using g3
theorem ch_of : ∀ {l : List TEdge}, l ≠ [] → (∀ i, i + 1 < l.length → (l.getD i default).B = (l.getD (i + 1) default).A) → Ch (l.getD 0 default).A l (l.getD (l.length - 1) default).B
  | [], hn, _ => absurd rfl hn
  | [e], _, _ => ⟨rfl, rfl⟩
  | e :: f :: l, _, h => by
    have g := ch_of (l := f :: l) (by simp) fun i hi => h (i + 1) (by simpa using hi)
    refine ⟨rfl, ?_⟩
    have h0 : e.B = f.A := h 0 (by simp)
    have g' : Ch f.A (f :: l) ((f :: l).getD ((f :: l).length - 1) default).B := g
    rw [h0]
    simpa using g'
theorem joined_iff {s : TShape} (h : s.Edges ≠ []) : Joined s ↔ ∃ a b, Ch a s.Edges b ∧ (s.Kind = 2 → a = b) := by
  constructor
  · rintro ⟨h1, h2⟩
    exact ⟨_, _, ch_of h h1, fun hk => (h2 hk).symm⟩
  · rintro ⟨a, b, hc, hk⟩
    obtain ⟨g1, g2, g3⟩ := ch_ends hc h
    exact ⟨g1, fun h2 => by rw [g3, g2]; exact (hk h2).symm⟩

/-! ### Made shapes -/
def SmallS (s : TShape) : Prop := OkS s ∧ (∀ e ∈ s.Edges, Small e) ∧ s.R ≤ 40 ∧ s.Edges.length ≤ 8
def P300 (p : TPoint) : Prop := (-300 ≤ p.X ∧ p.X ≤ 300) ∧ -300 ≤ p.Y ∧ p.Y ≤ 300
theorem small_of {k : Int} {a b c : TPoint} (ha : P300 a) (hb : P300 b) (hc : P300 c) : Small ⟨k, a, b, c⟩ := ⟨ha, hb, hc⟩
theorem p300_rp {p : TPoint} (h : P300 p) : RP p := by unfold P300 at h; unfold RP C27; omega
theorem line_ok {a b : TPoint} (ha : P300 a) (hb : P300 b) : OkE ⟨1, a, b, ⟨0, 0⟩⟩ ∧ Small ⟨1, a, b, ⟨0, 0⟩⟩ :=
  ⟨⟨⟨p300_rp ha, p300_rp hb, by unfold RP C27; simp only; omega⟩, .inl ⟨rfl, rfl, rfl⟩⟩, small_of ha hb (by unfold P300; simp only; omega)⟩
def px (r t : Int) : Int := if t % 4 = 0 then r else if t % 4 = 2 then -r else 0
def py (r t : Int) : Int := if t % 4 = 1 then r else if t % 4 = 3 then -r else 0
def nx (k : Int) : Int := if k = 3 then 3 else 1
theorem arc_eq (c : TPoint) (r t k : Int) (hc : P300 c) (hr : 1 ≤ r ∧ r ≤ 1000) (ht : 0 ≤ t ∧ t ≤ 7) (hk : k = 2 ∨ k = 3) : Fref06Arc c r t k = ⟨k, ⟨c.X + px r t, c.Y + py r t⟩, ⟨c.X + px r (t + nx k), c.Y + py r (t + nx k)⟩, c⟩ := by
  have t4 : t = 0 ∨ t = 1 ∨ t = 2 ∨ t = 3 ∨ t = 4 ∨ t = 5 ∨ t = 6 ∨ t = 7 := by omega
  have e0 : Fref05Turns 0 = 0 := by decide +kernel
  have e1 : Fref05Turns 1 = 1 := by decide +kernel
  have e2 : Fref05Turns 2 = 2 := by decide +kernel
  have e3 : Fref05Turns 3 = 3 := by decide +kernel
  have e4 : Fref05Turns 4 = 0 := by decide +kernel
  have e5 : Fref05Turns 5 = 1 := by decide +kernel
  have e6 : Fref05Turns 6 = 2 := by decide +kernel
  have e7 : Fref05Turns 7 = 3 := by decide +kernel
  have e8 : Fref05Turns 8 = 0 := by decide +kernel
  have e9 : Fref05Turns 9 = 1 := by decide +kernel
  have e10 : Fref05Turns 10 = 2 := by decide +kernel
  have w : ∀ a b : Int, 0 ≤ a ∧ a ≤ 10 → 0 ≤ b ∧ b ≤ 10 → W64 (a + b) = a + b := fun a b h1 h2 => W64_id (by omega) (by omega)
  unfold P300 at hc
  unfold Fref06Arc wref06Arc_0 wref06Arc_1 Fref05Apply wref05Apply_0 Fref05Add Fref05mirrored
  rw [w t 3 (by omega) (by decide), w t 1 (by omega) (by decide)]
  rcases t4 with rfl | rfl | rfl | rfl | rfl | rfl | rfl | rfl <;> rcases hk with rfl | rfl <;>
    simp only [px, py, nx, Int.reduceAdd, Int.reduceMod, Int.reduceEq, decide_true, decide_false, cond_true, cond_false, if_true, if_false, Fref05turned, e0, e1, e2, e3, e4, e5, e6, e7, e8, e9, e10, W64_def, TEdge.mk.injEq, TPoint.mk.injEq, and_true, true_and] <;> omega
theorem arc_good (c : TPoint) (r t k : Int) (hc : (-r - 200 ≤ -300 ∨ True) ∧ P300 c) (hr : 1 ≤ r ∧ r ≤ 1000) (ht : 0 ≤ t ∧ t ≤ 7) (hk : k = 2 ∨ k = 3) (hb : (-300 ≤ c.X - r ∧ c.X + r ≤ 300) ∧ -300 ≤ c.Y - r ∧ c.Y + r ≤ 300) : OkE (Fref06Arc c r t k) ∧ Small (Fref06Arc c r t k) := by
  rw [arc_eq c r t k hc.2 hr ht hk]
  have t4 : t = 0 ∨ t = 1 ∨ t = 2 ∨ t = 3 ∨ t = 4 ∨ t = 5 ∨ t = 6 ∨ t = 7 := by omega
  have hc := hc.2
  unfold P300 at hc
  constructor
  · rcases t4 with rfl | rfl | rfl | rfl | rfl | rfl | rfl | rfl <;> rcases hk with rfl | rfl <;>
      simp only [px, py, nx, Int.reduceAdd, Int.reduceMod, Int.reduceEq, if_true, if_false, OkE, Rights, Form, RP, C27, QL, QR, Odd, false_and, false_or, or_false, true_and] <;> omega
  · rcases t4 with rfl | rfl | rfl | rfl | rfl | rfl | rfl | rfl <;> rcases hk with rfl | rfl <;>
      simp only [px, py, nx, Int.reduceAdd, Int.reduceMod, Int.reduceEq, if_true, if_false, Small] <;> omega
theorem disc_ok {p : TPoint} {r : Int} (hp : P300 p) (hr : 0 ≤ r ∧ r ≤ 40) : SmallS (FDiscR p r) := by
  obtain ⟨h1, h2⟩ := line_ok hp hp
  refine ⟨⟨⟨.inl rfl, ⟨Nat.le_refl 1, ?_⟩, fun h => ?_⟩, fun e he => ?_, ⟨fun i hi => ?_, fun h => ?_⟩, ⟨hr.1, ?_⟩, fun h => ?_⟩, fun e he => ?_, hr.2, ?_⟩
  · show 1 ≤ 40; decide
  · cases h
  · rw [List.mem_singleton.1 he]; exact h1
  · have hi : i + 1 < 1 := hi
    omega
  · cases h
  · show r ≤ 4194304; omega
  · cases h
  · rw [List.mem_singleton.1 he]; exact h2
  · show 1 ≤ 8; decide
/-- The edges of a loop, from the one with the number k on. -/
def loopE (l : List TPoint) : Nat → Nat → List TEdge
  | 0, _ => []
  | n + 1, k => ⟨1, l.getD k default, l.getD ((k + 1) % l.length) default, ⟨0, 0⟩⟩ :: loopE l n (k + 1)
theorem loop_l0 (l : List TPoint) (hl : l.length ≤ 1000000) : ∀ (n k : Nat) (s : List TEdge), k ≤ l.length → l.length - k < n → FLoop_l0 l n s (k : Int) = ⟨2, s ++ loopE l (l.length - k) k, 0⟩
  | 0, k, s, hk, hn => by omega
  | n + 1, k, s, hk, hn => by
    unfold FLoop_l0
    by_cases hlt : k < l.length
    · rw [decide_eq_true (show (k : Int) < (l.length : Int) by omega)]
      simp only [cond_true, Int.toNat_natCast]
      have ih := fun s => loop_l0 l hl n (k + 1) s (by omega) (by omega)
      rw [show ((k : Int) + 1) = ((k + 1 : Nat) : Int) by omega, ih]
      obtain ⟨m, hm⟩ : ∃ m, l.length - k = m + 1 := ⟨l.length - k - 1, by omega⟩
      rw [hm, show l.length - (k + 1) = m by omega]
      have ew : wLoop_1 l (k : Int) = l.getD ((k + 1) % l.length) default := by
        unfold wLoop_1
        rw [W64_id (by omega) (by omega), Int.tmod_eq_emod_of_nonneg (by omega)]
        congr 1
      rw [ew]
      simp [loopE]
    · rw [decide_eq_false (show ¬ (k : Int) < (l.length : Int) by omega)]
      have : l.length - k = 0 := by omega
      simp [this, loopE]
theorem loop_eq (l : List TPoint) (hl : l.length ≤ 1000000) : FLoop l = ⟨2, loopE l l.length 0, 0⟩ := by
  unfold FLoop
  have := loop_l0 l hl (((l.length : Int) - 0).toNat + 1) 0 [] (by omega) (by omega)
  rw [show ((0 : Nat) : Int) = 0 from rfl] at this
  rw [this]
  simp
theorem loopE_len (l : List TPoint) : ∀ n k, (loopE l n k).length = n
  | 0, k => rfl
  | n + 1, k => by simp [loopE, loopE_len l n]
theorem loopE_ch (l : List TPoint) : ∀ n k, 0 < n → k + n = l.length → Ch (l.getD k default) (loopE l n k) (l.getD 0 default)
  | 0, k, h, _ => by omega
  | 1, k, _, hk => by
    refine ⟨rfl, ?_⟩
    show l.getD ((k + 1) % l.length) default = l.getD 0 default
    rw [hk, Nat.mod_self]
  | n + 2, k, _, hk => by
    refine ⟨rfl, ?_⟩
    show Ch (l.getD ((k + 1) % l.length) default) (loopE l (n + 1) (k + 1)) _
    rw [Nat.mod_eq_of_lt (by omega)]
    exact loopE_ch l (n + 1) (k + 1) (by omega) (by omega)
theorem getD_P {P : TPoint → Prop} {l : List TPoint} (h : ∀ p ∈ l, P p) {k : Nat} (hk : k < l.length) : P (l.getD k default) := h _ (getD_mem' hk)
theorem loopE_good (l : List TPoint) (hp : ∀ p ∈ l, P300 p) (hl : 0 < l.length) : ∀ n k, k + n ≤ l.length → ∀ e ∈ loopE l n k, OkE e ∧ Small e
  | 0, k, _, e, he => by cases he
  | n + 1, k, hk, e, he => by
    rcases List.mem_cons.1 he with rfl | he
    · exact line_ok (getD_P hp (by omega)) (getD_P hp (Nat.mod_lt _ hl))
    · exact loopE_good l hp hl n (k + 1) (by omega) e he
theorem loop_ok {l : List TPoint} (h2 : 2 ≤ l.length ∧ l.length ≤ 8) (hp : ∀ p ∈ l, P300 p) : SmallS (FLoop l) := by
  rw [loop_eq l (by omega)]
  have hg := loopE_good l hp (by omega) l.length 0 (by omega)
  have hlen := loopE_len l l.length 0
  refine ⟨⟨⟨.inr rfl, ⟨by simp only [hlen]; omega, by simp only [hlen]; omega⟩, fun _ => by simp only [hlen]; omega⟩, fun e he => (hg e he).1, ?_, ⟨Int.le_refl 0, (by decide : (0 : Int) ≤ 4194304)⟩, fun _ => rfl⟩, fun e he => (hg e he).2, (by decide : (0 : Int) ≤ 40), by simp only [hlen]; omega⟩
  refine (joined_iff (fun h => ?_)).2 ⟨_, _, loopE_ch l l.length 0 (by omega) (by omega), fun _ => rfl⟩
  have : (loopE l l.length 0).length = 0 := by rw [show loopE l l.length 0 = [] from h]; rfl
  omega
theorem rect_ok {r : TRect} (h : ((-300 ≤ r.X0 ∧ r.X0 ≤ 300) ∧ -300 ≤ r.Y0 ∧ r.Y0 ≤ 300) ∧ (-300 ≤ r.X1 ∧ r.X1 ≤ 300) ∧ -300 ≤ r.Y1 ∧ r.Y1 ≤ 300) : SmallS (FRectR r) := by
  unfold FRectR wRectR_0
  refine loop_ok ⟨by simp, by simp⟩ fun p hp => ?_
  simp only [List.mem_cons, List.not_mem_nil, or_false] at hp
  unfold P300
  rcases hp with rfl | rfl | rfl | rfl <;> simp only <;> omega
theorem okS_area {l : List TEdge} (h2 : 2 ≤ l.length ∧ l.length ≤ 8) (hg : ∀ e ∈ l, OkE e ∧ Small e) {a : TPoint} (hc : Ch a l a) : SmallS ⟨2, l, 0⟩ := by
  refine ⟨⟨⟨.inr rfl, ⟨by simp only; omega, by simp only; omega⟩, fun _ => by simp only; omega⟩, fun e he => (hg e he).1, ?_, ⟨Int.le_refl 0, (by decide : (0 : Int) ≤ 4194304)⟩, fun _ => rfl⟩, fun e he => (hg e he).2, (by decide : (0 : Int) ≤ 40), h2.2⟩
  refine (joined_iff (fun h => ?_)).2 ⟨_, _, hc, fun _ => rfl⟩
  have : l.length = 0 := by rw [show l = [] from h]; rfl
  omega
theorem circle_ok {c : TPoint} {r k : Int} (hc : (-100 ≤ c.X ∧ c.X ≤ 100) ∧ -100 ≤ c.Y ∧ c.Y ≤ 100) (hr : 1 ≤ r ∧ r ≤ 100) (hk : k = 2 ∨ k = 3) : SmallS (FCircle c r k) := by
  have h3 : P300 c := by unfold P300; omega
  have hg := fun t ht => arc_good c r t k ⟨.inr trivial, h3⟩ (by omega) ht hk (by omega)
  have he := fun t ht => arc_eq c r t k h3 (by omega) ht hk
  unfold FCircle wCircle_0 wCircle_1 wCircle_2
  simp only [List.cons_append, List.nil_append]
  rcases hk with rfl | rfl
  · simp only [show decide ((2 : Int) = 3) = false from rfl, cond_false]
    refine okS_area ⟨by simp, by simp⟩ (fun e he => ?_) (a := ⟨c.X + px r 0, c.Y + py r 0⟩) ?_
    · simp only [List.mem_cons, List.not_mem_nil, or_false] at he
      rcases he with rfl | rfl | rfl | rfl
      · exact hg 0 (by decide)
      · exact hg 1 (by decide)
      · exact hg 2 (by decide)
      · exact hg 3 (by decide)
    · rw [he 0 (by decide), he 1 (by decide), he 2 (by decide), he 3 (by decide)]
      refine ⟨rfl, rfl, rfl, rfl, rfl⟩
  · rw [show decide ((3 : Int) = 3) = true from rfl]
    simp only [cond_true]
    refine okS_area ⟨by simp, by simp⟩ (fun e he => ?_) (a := ⟨c.X + px r 4, c.Y + py r 4⟩) ?_
    · simp only [List.mem_cons, List.not_mem_nil, or_false] at he
      rcases he with rfl | rfl | rfl | rfl
      · exact hg 4 (by decide)
      · exact hg 3 (by decide)
      · exact hg 2 (by decide)
      · exact hg 1 (by decide)
    · rw [he 4 (by decide), he 3 (by decide), he 2 (by decide), he 1 (by decide)]
      refine ⟨rfl, rfl, rfl, rfl, rfl⟩
theorem rounded_ok {b : TRect} {r : Int} (h0 : (-100 ≤ b.X0 ∧ b.X0 ≤ 100) ∧ -100 ≤ b.Y0 ∧ b.Y0 ≤ 100) (h1 : (b.X0 ≤ b.X1 ∧ b.X1 ≤ b.X0 + 80) ∧ b.Y0 ≤ b.Y1 ∧ b.Y1 ≤ b.Y0 + 80) (hr : 1 ≤ r ∧ r ≤ 6) : SmallS (FRounded b r) := by
  have w : ∀ x : Int, -1000 ≤ x ∧ x ≤ 1000 → W64 x = x := fun x hx => W64_id (by omega) (by omega)
  have k2 : (2 : Int) = 2 ∨ (2 : Int) = 3 := .inl rfl
  have he := fun (c : TPoint) (t : Int) (hc : P300 c) ht => arc_eq c r t 2 hc (by omega) ht k2
  have hg := fun (c : TPoint) (t : Int) (hc : P300 c) ht hb => arc_good c r t 2 ⟨.inr trivial, hc⟩ (by omega) ht k2 hb
  unfold FRounded wRounded_2 wRounded_4 wRounded_6 wRounded_8 wRounded_0 wRounded_1 wRounded_3 wRounded_5 wRounded_7
  rw [w (b.X1 - r) (by omega), w (b.Y0 + r) (by omega), w (b.Y1 - r) (by omega), w (b.X0 + r) (by omega)]
  simp only [List.cons_append, List.nil_append]
  have p1 : P300 ⟨b.X1 - r, b.Y0 + r⟩ := by unfold P300; simp only; omega
  have p2 : P300 ⟨b.X1 - r, b.Y1 - r⟩ := by unfold P300; simp only; omega
  have p3 : P300 ⟨b.X0 + r, b.Y1 - r⟩ := by unfold P300; simp only; omega
  have p4 : P300 ⟨b.X0 + r, b.Y0 + r⟩ := by unfold P300; simp only; omega
  have g1 := hg ⟨b.X1 - r, b.Y0 + r⟩ 3 p1 (by decide) (by simp only; omega)
  have g2 := hg ⟨b.X1 - r, b.Y1 - r⟩ 4 p2 (by decide) (by simp only; omega)
  have g3 := hg ⟨b.X0 + r, b.Y1 - r⟩ 5 p3 (by decide) (by simp only; omega)
  have g4 := hg ⟨b.X0 + r, b.Y0 + r⟩ 6 p4 (by decide) (by simp only; omega)
  have g5 := hg ⟨b.X1 - r, b.Y0 + r⟩ 7 p1 (by decide) (by simp only; omega)
  refine okS_area ⟨by simp, by simp⟩ (fun e he' => ?_) (a := (Fref06Arc ⟨b.X1 - r, b.Y0 + r⟩ r 3 2).A) ?_
  · simp only [List.mem_cons, List.not_mem_nil, or_false] at he'
    rcases he' with rfl | rfl | rfl | rfl | rfl | rfl | rfl | rfl
    · exact g1
    · exact line_ok g1.2.2.1 g2.2.1
    · exact g2
    · exact line_ok g2.2.2.1 g3.2.1
    · exact g3
    · exact line_ok g3.2.2.1 g4.2.1
    · exact g4
    · exact line_ok g4.2.2.1 g5.2.1
  · refine ⟨rfl, rfl, rfl, rfl, rfl, rfl, rfl, rfl, ?_⟩
    show (Fref06Arc ⟨b.X1 - r, b.Y0 + r⟩ r 7 2).A = _
    rw [he _ 7 p1 (by decide), he _ 3 p1 (by decide)]
    rfl

/-! ### Paths -/
def PT (b : Int) (p : TPoint) : Prop := (-b ≤ p.X ∧ p.X ≤ b) ∧ -b ≤ p.Y ∧ p.Y ≤ b
theorem add5 {a b : TPoint} (ha : PT 1000 a) (hb : PT 1000 b) : Fref05Add a b = ⟨a.X + b.X, a.Y + b.Y⟩ := by
  unfold PT at *
  unfold Fref05Add
  rw [W64_id (by omega) (by omega), W64_id (by omega) (by omega)]
theorem sub5 {a b : TPoint} (ha : PT 1000 a) (hb : PT 1000 b) : Fref05Sub a b = ⟨a.X - b.X, a.Y - b.Y⟩ := by
  unfold PT at *
  unfold Fref05Sub
  rw [W64_id (by omega) (by omega), W64_id (by omega) (by omega)]
theorem dir5 {r t : Int} (hr : 0 ≤ r ∧ r ≤ 100) (ht : 0 ≤ t ∧ t ≤ 3) : Fref05Apply ⟨⟨0, 0⟩, t, false⟩ ⟨r, 0⟩ = ⟨px r t, py r t⟩ := by
  have t4 : t = 0 ∨ t = 1 ∨ t = 2 ∨ t = 3 := by omega
  have e0 : Fref05Turns 0 = 0 := by decide +kernel
  have e1 : Fref05Turns 1 = 1 := by decide +kernel
  have e2 : Fref05Turns 2 = 2 := by decide +kernel
  have e3 : Fref05Turns 3 = 3 := by decide +kernel
  unfold Fref05Apply wref05Apply_0 Fref05Add Fref05mirrored
  rcases t4 with rfl | rfl | rfl | rfl <;>
    simp only [px, py, Int.reduceMod, Int.reduceEq, decide_true, decide_false, cond_true, cond_false, if_true, if_false, Fref05turned, e0, e1, e2, e3, W64_def, TPoint.mk.injEq] <;> omega
theorem step_ok {v0 : TDraw} {v3 : TPoint} {b : Int} (hb : 0 ≤ b ∧ b ≤ 200) (h : PT b v3) : (OkE (wpathOf_26 v0 v3) ∧ Small (wpathOf_26 v0 v3)) ∧ (wpathOf_26 v0 v3).A = v3 ∧ PT (b + 40) (wpathOf_26 v0 v3).B := by
  unfold wpathOf_26
  cases hc : decide ((((FNext ((FNear v0 40).2) 3).1) : Int) = 0) with
  | false =>
    simp only [cond_false]
    unfold wpathOf_16 Fref09line
    have hn := near_b v0 40 (by decide) (by decide)
    generalize (FNear v0 40).1 = q at *
    have e := add5 (a := v3) (b := q) (by unfold PT at *; omega) (by unfold PT; omega)
    rw [e]
    refine ⟨line_ok (by unfold PT at h; unfold P300; omega) (by unfold PT at h; unfold P300; simp only; omega), rfl, ?_⟩
    unfold PT at *
    simp only
    omega
  | true =>
    simp only [cond_true]
    unfold wpathOf_25 wpathOf_23
    have b4 := next_b (wpathOf_19 v0) 4 (by decide) (by decide)
    have b30 := next_b (FNext ((FNear v0 40).2) 3).2 30 (by decide) (by decide)
    have bt := next_b (FNext (wpathOf_19 v0) 4).2 4 (by decide) (by decide)
    have b2 := next_b (wpathOf_22 v0) 2 (by decide) (by decide)
    generalize (FNext (FNext ((FNear v0 40).2) 3).2 30).1 = n30 at *
    generalize (FNext (FNext (wpathOf_19 v0) 4).2 4).1 = t at *
    generalize (FNext (wpathOf_22 v0) 2).1 = n2 at *
    generalize (FNext (wpathOf_19 v0) 4).1 = n4 at *
    have w30 : W64 (1 + n30) = 1 + n30 := W64_id (by omega) (by omega)
    have w2 : W64 (2 + n2) = 2 + n2 := W64_id (by omega) (by omega)
    rw [w30, w2]
    have hr : 1 ≤ ([5, 10, 25, 1 + n30] : List Int).getD n4.toNat 0 ∧ ([5, 10, 25, 1 + n30] : List Int).getD n4.toNat 0 ≤ 30 := by
      have : n4 = 0 ∨ n4 = 1 ∨ n4 = 2 ∨ n4 = 3 := by omega
      rcases this with rfl | rfl | rfl | rfl
      · exact (by decide : (1 : Int) ≤ 5 ∧ (5 : Int) ≤ 30)
      · exact (by decide : (1 : Int) ≤ 10 ∧ (10 : Int) ≤ 30)
      · exact (by decide : (1 : Int) ≤ 25 ∧ (25 : Int) ≤ 30)
      · show 1 ≤ 1 + n30 ∧ 1 + n30 ≤ 30; omega
    generalize ([5, 10, 25, 1 + n30] : List Int).getD n4.toNat 0 = r at *
    have hpx : (-r ≤ px r t ∧ px r t ≤ r) ∧ -r ≤ py r t ∧ py r t ≤ r := by unfold px py; (repeat' split) <;> omega
    rw [dir5 (by omega) (by omega), sub5 (a := v3) (by unfold PT at *; omega) (by unfold PT; simp only; omega)]
    have hk : 2 + n2 = 2 ∨ 2 + n2 = 3 := by omega
    have hP : P300 ⟨v3.X - px r t, v3.Y - py r t⟩ := by unfold PT at h; unfold P300; simp only; omega
    have hg := arc_good ⟨v3.X - px r t, v3.Y - py r t⟩ r t (2 + n2) ⟨.inr trivial, hP⟩ (by omega) (by omega) hk (by unfold PT at h; simp only; omega)
    have he := arc_eq ⟨v3.X - px r t, v3.Y - py r t⟩ r t (2 + n2) hP (by omega) (by omega) hk
    refine ⟨hg, ?_, ?_⟩
    · rw [he]
      simp only
      obtain ⟨x, y⟩ := v3
      simp only [TPoint.mk.injEq]
      omega
    · rw [he]
      have t4 : t = 0 ∨ t = 1 ∨ t = 2 ∨ t = 3 := by omega
      unfold PT at *
      simp only
      rcases t4 with rfl | rfl | rfl | rfl <;> rcases hk with hk | hk <;> rw [hk] <;>
        simp only [px, py, nx, Int.reduceAdd, Int.reduceMod, Int.reduceEq, if_true, if_false] <;> omega
theorem path_l0 (d : TDraw) (at_ : TPoint) : ∀ (n k : Nat) (es : List TEdge) (v3 : TPoint) (v0 : TDraw), es.length = k → (k : Int) ≤ W64 (1 + (FNext d 3).1) → (W64 (1 + (FNext d 3).1) - k).toNat < n → (∀ e ∈ es, OkE e ∧ Small e) → Ch at_ es v3 → PT (100 + 40 * k) v3 →
    ∃ es' v3' r, (FpathOf_l0 d at_ n es v3 v0 (k : Int)).1 = ⟨1, es', r⟩ ∧ (es'.length : Int) = W64 (1 + (FNext d 3).1) ∧ (∀ e ∈ es', OkE e ∧ Small e) ∧ Ch at_ es' v3' ∧ 0 ≤ r ∧ r < 12
  | 0, k, es, v3, v0, _, _, hn, _, _, _ => by omega
  | n + 1, k, es, v3, v0, hl, hk, hn, hg, hc, hp => by
    unfold FpathOf_l0
    have b3 := next_b d 3 (by decide) (by decide)
    have w3 : W64 (1 + (FNext d 3).1) = 1 + (FNext d 3).1 := W64_id (by omega) (by omega)
    by_cases hlt : (k : Int) < W64 (1 + (FNext d 3).1)
    · rw [decide_eq_true hlt]
      simp only [cond_true]
      obtain ⟨g, ga, gb⟩ := step_ok (v0 := v0) (v3 := v3) (b := 100 + 40 * k) (by omega) hp
      have := path_l0 d at_ n (k + 1) (es ++ [wpathOf_26 v0 v3]) (wpathOf_27 v0 v3) (bif decide ((((FNext ((FNear v0 40).2) 3).1) : Int) = 0) then ((FNext (wpathOf_22 v0) 2).2) else ((FNext ((FNear v0 40).2) 3).2)) (by simp [hl]) (by omega) (by omega) (fun e he => by
        rcases List.mem_append.1 he with he | he
        · exact hg e he
        · rw [List.mem_singleton.1 he]; exact g) (ch_append.2 ⟨v3, hc, ga, rfl⟩) (by
          have : wpathOf_27 v0 v3 = (wpathOf_26 v0 v3).B := rfl
          rw [this]
          unfold PT at *
          omega)
      rw [show ((k : Int) + 1) = ((k + 1 : Nat) : Int) by omega]
      exact this
    · rw [decide_eq_false hlt]
      simp only [cond_false]
      have b12 := next_b v0 12 (by decide) (by decide)
      exact ⟨es, v3, _, rfl, by omega, hg, hc, b12.1, b12.2⟩
theorem path_ok (d : TDraw) {at_ : TPoint} (h : PT 100 at_) : SmallS (FpathOf d at_).1 := by
  unfold FpathOf
  have b3 := next_b d 3 (by decide) (by decide)
  have w3 : W64 (1 + (FNext d 3).1) = 1 + (FNext d 3).1 := W64_id (by omega) (by omega)
  obtain ⟨es, v3, r, he, hl, hg, hc, r1, r2⟩ := path_l0 d at_ ((W64 (1 + (FNext d 3).1) - 0).toNat + 1) 0 [] at_ ((FNext d 3).2) rfl (by omega) (by omega) (fun e he => by cases he) rfl (by simpa using h)
  rw [show ((0 : Nat) : Int) = 0 from rfl] at he
  rw [he]
  have hl1 : 1 ≤ es.length ∧ es.length ≤ 3 := by omega
  refine ⟨⟨⟨.inl rfl, ⟨hl1.1, by simp only; omega⟩, fun h => by cases h⟩, fun e he => (hg e he).1, ?_, ⟨r1, by simp only; omega⟩, fun h => by cases h⟩, fun e he => (hg e he).2, by simp only; omega, by simp only; omega⟩
  exact (joined_iff (fun h => by have : es = [] := h; rw [this] at hl1; simp at hl1)).2 ⟨_, _, hc, fun h => by cases h⟩
theorem pts_l0 (l : List Int) (hat : PT 100 (wMade9_3 l)) : ∀ (n k : Nat) (ps : List TPoint) (v3 : TDraw), ps.length = k → (k : Int) ≤ W64 (2 + (FNext (FNext (FNext (wMade9_2 l) 60).2 60).2 4).1) → (W64 (2 + (FNext (FNext (FNext (wMade9_2 l) 60).2 60).2 4).1) - k).toNat < n → (∀ p ∈ ps, P300 p) → SmallS (FMade9_l0 l n ps v3 (k : Int))
  | 0, k, ps, v3, _, _, hn, _ => by omega
  | n + 1, k, ps, v3, hl, hk, hn, hp => by
    unfold FMade9_l0
    have b4 := next_b (FNext (FNext (wMade9_2 l) 60).2 60).2 4 (by decide) (by decide)
    have w4 : W64 (2 + (FNext (FNext (FNext (wMade9_2 l) 60).2 60).2 4).1) = 2 + (FNext (FNext (FNext (wMade9_2 l) 60).2 60).2 4).1 := W64_id (by omega) (by omega)
    by_cases hlt : (k : Int) < W64 (2 + (FNext (FNext (FNext (wMade9_2 l) 60).2 60).2 4).1)
    · rw [decide_eq_true hlt]
      simp only [cond_true]
      have hq := near_b v3 30 (by decide) (by decide)
      have hadd : P300 (Fref05Add (wMade9_3 l) ((FNear v3 30).1)) := by
        rw [add5 (by unfold PT at *; omega) (by unfold PT; omega)]
        unfold PT at hat
        unfold P300
        simp only
        omega
      rw [show ((k : Int) + 1) = ((k + 1 : Nat) : Int) by omega]
      exact pts_l0 l hat n (k + 1) _ _ (by simp [hl]) (by omega) (by omega) fun p hp' => by
        rcases List.mem_append.1 hp' with h | h
        · exact hp p h
        · rw [List.mem_singleton.1 h]; exact hadd
    · rw [decide_eq_false hlt]
      simp only [cond_false]
      exact loop_ok (by omega) hp
theorem made9_ok (l : List Int) : SmallS (FMade9 l) := by
  have hat : PT 100 (wMade9_3 l) := near_b (FNext (TDraw.mk l 0) 7).2 100 (by decide) (by decide)
  have b60 := next_b (wMade9_2 l) 60 (by decide) (by decide)
  have c60 := next_b (FNext (wMade9_2 l) 60).2 60 (by decide) (by decide)
  have ew : W64 (((wMade9_3 l).X) + (W64 (12 + ((FNext (wMade9_2 l) 60).1)))) = (wMade9_3 l).X + (12 + (FNext (wMade9_2 l) 60).1) := by
    unfold PT at hat
    rw [W64_id (x := 12 + _) (by omega) (by omega), W64_id (by omega) (by omega)]
  have eh : W64 (((wMade9_3 l).Y) + (W64 (12 + ((FNext ((FNext (wMade9_2 l) 60).2) 60).1)))) = (wMade9_3 l).Y + (12 + (FNext (FNext (wMade9_2 l) 60).2 60).1) := by
    unfold PT at hat
    rw [W64_id (x := 12 + _) (by omega) (by omega), W64_id (by omega) (by omega)]
  unfold FMade9
  generalize (FNext (TDraw.mk l 0) 7).1 = n
  cases decide (n = 0) with
  | true =>
    simp only [cond_true]
    have b := next_b (FNext (FNext (wMade9_2 l) 60).2 60).2 40 (by decide) (by decide)
    exact disc_ok (by unfold PT at hat; unfold P300; omega) (by omega)
  | false =>
    simp only [cond_false]
    cases decide (n = 1) with
    | true =>
      simp only [cond_true]
      unfold wMade9_9
      rw [ew, eh]
      exact rect_ok (by unfold PT at hat; simp only; omega)
    | false =>
      simp only [cond_false]
      cases (bif decide (n = 2) then (decide (n = 2)) else (decide (n = 3))) with
      | true => simp only [cond_true]; exact path_ok _ hat
      | false =>
        simp only [cond_false]
        cases decide (n = 4) with
        | true =>
          simp only [cond_true]
          have b4 := next_b (FNext (FNext (wMade9_2 l) 60).2 60).2 4 (by decide) (by decide)
          have w4 : W64 (2 + (FNext (FNext (FNext (wMade9_2 l) 60).2 60).2 4).1) = 2 + (FNext (FNext (FNext (wMade9_2 l) 60).2 60).2 4).1 := W64_id (by omega) (by omega)
          exact pts_l0 l hat _ 0 [] _ rfl (by omega) (by omega) fun p hp => by cases hp
        | false =>
          simp only [cond_false]
          cases decide (n = 5) with
          | true =>
            simp only [cond_true]
            unfold wMade9_20
            have b40 := next_b (FNext (FNext (wMade9_2 l) 60).2 60).2 40 (by decide) (by decide)
            have b5 := next_b (wMade9_7 l) 5 (by decide) (by decide)
            have b2 := next_b (FNext (wMade9_7 l) 5).2 2 (by decide) (by decide)
            generalize (FNext (FNext (FNext (wMade9_2 l) 60).2 60).2 40).1 = n40 at *
            generalize (FNext (FNext (wMade9_7 l) 5).2 2).1 = n2 at *
            generalize (FNext (wMade9_7 l) 5).1 = n5 at *
            rw [W64_id (x := 1 + n40) (by omega) (by omega), W64_id (x := 2 + n2) (by omega) (by omega)]
            refine circle_ok hat ?_ (by omega)
            have : n5 = 0 ∨ n5 = 1 ∨ n5 = 2 ∨ n5 = 3 ∨ n5 = 4 := by omega
            rcases this with rfl | rfl | rfl | rfl | rfl
            · exact (by decide : (1 : Int) ≤ 5 ∧ (5 : Int) ≤ 100)
            · exact (by decide : (1 : Int) ≤ 10 ∧ (10 : Int) ≤ 100)
            · exact (by decide : (1 : Int) ≤ 25 ∧ (25 : Int) ≤ 100)
            · exact (by decide : (1 : Int) ≤ 65 ∧ (65 : Int) ≤ 100)
            · show 1 ≤ 1 + n40 ∧ 1 + n40 ≤ 100; omega
          | false =>
            simp only [cond_false]
            unfold wMade9_23
            have b5 := next_b (FNext (FNext (wMade9_2 l) 60).2 60).2 5 (by decide) (by decide)
            rw [ew, eh, W64_id (x := 1 + _) (by omega) (by omega)]
            exact rounded_ok hat (by unfold PT at hat; simp only; omega) (by omega)
theorem made9_len (l : List Int) : 1 ≤ (FMade9 l).Edges.length ∧ (FMade9 l).Edges.length ≤ 8 := ⟨(made9_ok l).1.1.2.1.1, (made9_ok l).2.2.2⟩
end Go.Proofs.Ytpnlegfdkkcnlaa
