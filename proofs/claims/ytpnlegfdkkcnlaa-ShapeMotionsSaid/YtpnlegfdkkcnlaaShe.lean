/-
  No statement is proved in this text. It shows that reversed and turned chains have the same points.
-/
import Derived.Test.YtpnlegfdkkcnlaaShd
namespace Go.Proofs.Ytpnlegfdkkcnlaa
open Go.RowKit
set_option linter.unusedVariables false
set_option linter.unusedSimpArgs false

theorem near_rev1 {e : TEdge} (he : OkE e) {p : TPoint} {r : Int} (h : NearM e p r) : NearM (RevM e) p r := by
  rcases h with h | h | h
  · exact .inr (.inl h)
  · exact .inl h
  · refine .inr (.inr ?_)
    by_cases hk : e.Kind = 1
    · rw [if_pos hk] at h
      rw [if_pos ((rev_kind e).2 hk)]
      have e1 : al (RevM e).A (RevM e).B p = d2 e.B e.A - al e.A e.B p := by show al e.B e.A p = _; unfold al d2; grind
      have e2 : d2 (RevM e).B (RevM e).A = d2 e.B e.A := by show d2 e.A e.B = _; unfold d2; grind
      have e3 : cr (RevM e).A (RevM e).B p = - cr e.A e.B p := cr_swap e.A e.B p
      rw [e1, e2, e3, Int.neg_mul_neg]
      omega
    · rw [if_neg hk] at h
      rw [if_neg (fun hh => hk ((rev_kind e).1 hh)), rev_rad]
      refine ⟨?_, h.2⟩
      have h1 := (fac_sgn he hk p).1 h.1
      refine (fac_sgn (rev_ok1 he) (fun hh => hk ((rev_kind e).1 hh)) p).2 ?_
      unfold FacS at *
      show ((e.C.X < max e.B.X e.A.X ∧ e.C.X ≤ p.X) ∨ (min e.B.X e.A.X < e.C.X ∧ p.X ≤ e.C.X)) ∧ ((e.C.Y < max e.B.Y e.A.Y ∧ e.C.Y ≤ p.Y) ∨ (min e.B.Y e.A.Y < e.C.Y ∧ p.Y ≤ e.C.Y))
      omega
theorem near_rev {e : TEdge} (he : OkE e) (p : TPoint) (r : Int) : NearM (RevM e) p r ↔ NearM e p r :=
  ⟨fun h => by have := near_rev1 (rev_ok1 he) h; rwa [rev_rev] at this, near_rev1 he⟩
theorem wind_app (l m : List TEdge) (p : TPoint) : wind (l ++ m) p = wind l p + wind m p := by
  induction l with
  | nil => rw [List.nil_append, wind]; omega
  | cons e l ih => rw [List.cons_append, wind, wind, ih]; omega
/-- A chain, the other way. -/
def backE (l : List TEdge) : List TEdge := l.reverse.map RevM
theorem backE_cons (e : TEdge) (l : List TEdge) : backE (e :: l) = backE l ++ [RevM e] := by unfold backE; simp
theorem backE_ch : ∀ {l : List TEdge} {a b : TPoint}, Ch a l b → Ch b (backE l) a
  | [], a, b, h => Eq.symm h
  | e :: l, a, b, h => by
    rw [backE_cons]
    exact ch_append.2 ⟨e.B, backE_ch h.2, rfl, h.1⟩
theorem backE_wind (p : TPoint) : ∀ l : List TEdge, wind (backE l) p = - wind l p
  | [] => rfl
  | e :: l => by
    rw [backE_cons, wind_app, backE_wind p l, wind, wind, wind, rev_ray]
    omega
theorem backE_mem {l : List TEdge} {e : TEdge} : e ∈ backE l ↔ RevM e ∈ l := by
  unfold backE
  rw [List.mem_map]
  constructor
  · rintro ⟨x, hx, rfl⟩; rw [rev_rev]; exact List.mem_reverse.1 hx
  · exact fun h => ⟨_, List.mem_reverse.2 h, rev_rev e⟩
theorem backE_len (l : List TEdge) : (backE l).length = l.length := by unfold backE; simp
/-- Edges with the same points. -/
theorem ins_like {s t : TShape} (hk : s.Kind = t.Kind) (hs : OkS s) (ht : OkS t) (p : TPoint) (hn : (∃ e ∈ s.Edges, NearM e p s.R) ↔ ∃ e ∈ t.Edges, NearM e p t.R) (hb : InBx s.Edges s.R p ↔ InBx t.Edges t.R p) (hw : wind s.Edges p = 0 ↔ wind t.Edges p = 0) : InsM s p ↔ InsM t p := by
  unfold InsM
  rw [hn, hb, hk]
  constructor
  · rintro ⟨_, h2, h3⟩; exact ⟨ht, h2, h3.imp id fun h => ⟨h.1, fun hh => h.2 (hw.2 hh)⟩⟩
  · rintro ⟨_, h2, h3⟩; exact ⟨hs, h2, h3.imp id fun h => ⟨h.1, fun hh => h.2 (hw.1 hh)⟩⟩
theorem ne_nil_of {l : List TEdge} (h : 1 ≤ l.length) : l ≠ [] := fun e => by rw [e] at h; simp at h
theorem back_ok {s : TShape} (h : OkS s) : OkS ⟨s.Kind, backE s.Edges, s.R⟩ := by
  obtain ⟨⟨h1, h2, h3⟩, h4, h5, h6, h7⟩ := h
  refine ⟨⟨h1, by simp only [backE_len]; exact h2, by simp only [backE_len]; exact h3⟩, fun e he => (rev_ok e).1 (h4 _ (backE_mem.1 he)), ?_, h6, h7⟩
  obtain ⟨a, b, hc, hk⟩ := (joined_iff (ne_nil_of h2.1)).1 h5
  exact (joined_iff (ne_nil_of (by simp only [backE_len]; exact h2.1))).2 ⟨b, a, backE_ch hc, fun hh => (hk hh).symm⟩
theorem back_ins {s : TShape} (h : OkS s) (p : TPoint) : InsM ⟨s.Kind, backE s.Edges, s.R⟩ p ↔ InsM s p := by
  refine ins_like (s := ⟨s.Kind, backE s.Edges, s.R⟩) (t := s) rfl (back_ok h) h p ?_ ?_ ?_
  · constructor
    · rintro ⟨e, he, hn⟩
      have hm := backE_mem.1 he
      exact ⟨_, hm, (near_rev ((rev_ok e).1 (h.2.1 _ hm)) p _).2 hn⟩
    · rintro ⟨e, he, hn⟩
      exact ⟨_, backE_mem.2 (by rw [rev_rev]; exact he), (near_rev (h.2.1 _ he) p _).2 hn⟩
  · have hx : ∀ P : TEdge → Prop, (∀ e, P (RevM e) ↔ P e) → ((∃ e ∈ backE s.Edges, P e) ↔ ∃ e ∈ s.Edges, P e) := fun P hP =>
      ⟨fun ⟨e, he, hh⟩ => ⟨_, backE_mem.1 he, (hP e).2 hh⟩, fun ⟨e, he, hh⟩ => ⟨_, backE_mem.2 (by rw [rev_rev]; exact he), (hP e).2 hh⟩⟩
    unfold InBx
    simp only
    rw [hx _ fun e => by show min e.B.X e.A.X ≤ p.X + s.R ↔ _; omega, hx _ fun e => by show p.X - s.R ≤ max e.B.X e.A.X ↔ _; omega, hx _ fun e => by show min e.B.Y e.A.Y ≤ p.Y + s.R ↔ _; omega, hx _ fun e => by show p.Y - s.R ≤ max e.B.Y e.A.Y ↔ _; omega]
  · rw [backE_wind]; omega
theorem turn_ok {k : Int} {l m : List TEdge} (h : OkS ⟨k, l ++ m, 0⟩) (hk : k = 2) : OkS ⟨k, m ++ l, 0⟩ := by
  obtain ⟨⟨h1, h2, h3⟩, h4, h5, h6, h7⟩ := h
  have hl : (m ++ l).length = (l ++ m).length := by simp; omega
  refine ⟨⟨h1, by simp only [hl]; exact h2, by simp only [hl]; exact h3⟩, fun e he => h4 e (by simp only [List.mem_append] at he ⊢; exact he.symm), ?_, h6, h7⟩
  obtain ⟨a, b, hc, hk'⟩ := (joined_iff (ne_nil_of h2.1)).1 h5
  obtain ⟨c, h8, h9⟩ := ch_append.1 hc
  have hab := hk' hk
  subst hab
  exact (joined_iff (ne_nil_of (by simp only [hl]; exact h2.1))).2 ⟨c, c, ch_append.2 ⟨a, h9, h8⟩, fun _ => rfl⟩
theorem turn_ins {k : Int} {l m : List TEdge} (h : OkS ⟨k, l ++ m, 0⟩) (hk : k = 2) (p : TPoint) : InsM ⟨k, m ++ l, 0⟩ p ↔ InsM ⟨k, l ++ m, 0⟩ p := by
  have hx : ∀ P : TEdge → Prop, (∃ e ∈ m ++ l, P e) ↔ ∃ e ∈ l ++ m, P e := fun P =>
    ⟨fun ⟨e, he, hh⟩ => ⟨e, by simp only [List.mem_append] at he ⊢; exact he.symm, hh⟩, fun ⟨e, he, hh⟩ => ⟨e, by simp only [List.mem_append] at he ⊢; exact he.symm, hh⟩⟩
  refine ins_like (s := ⟨k, m ++ l, 0⟩) (t := ⟨k, l ++ m, 0⟩) rfl (turn_ok h hk) h p (hx _) ?_ ?_
  · unfold InBx
    simp only
    rw [hx, hx, hx, hx]
  · simp only [wind_app]; omega
end Go.Proofs.Ytpnlegfdkkcnlaa
