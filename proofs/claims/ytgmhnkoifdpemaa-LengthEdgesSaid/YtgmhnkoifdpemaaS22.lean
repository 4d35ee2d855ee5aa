/-
  No statement is proved in this text. It holds the rule for a range over a function.
-/
import Derived.Test.YtgmhnkoifdpemaaS21
namespace Go.Proofs.Ytgmhnkoifdpemaa
open Go.RowKit
set_option linter.unusedSimpArgs false
set_option linter.unusedVariables false
def pinX (pids : List Nat) (σ : Nat → Loc) (X : Nat → Option Loc) (n : Nat) : Option Loc := bif memO pids n then some (σ n) else X n
def flatX (fid : Nat) (fl : Loc) (X : Nat → Option Loc) (n : Nat) : Option Loc := bif Nat.beq n fid then some fl else X n
def cutM (M1 M3 : Nat → Option Obj) (b : Nat) : Option Obj := match M1 b with
  | some o => some o
  | none => match M3 b with
    | some (.cells c t f) => some (.cells c t f)
    | _ => none
def Cln (M M' : Nat → Option Obj) : Prop := (∀ b o, M b = some o → M' b = some o) ∧ ∀ b o, M' b = some o → o.isCells = false → M b = some o
theorem cutM_sub {M1 M3 : Nat → Option Obj} (h : ∀ b o, M1 b = some o → M3 b = some o) {b : Nat} {o : Obj} (hb : cutM M1 M3 b = some o) : M3 b = some o := by
  unfold cutM at hb
  cases h1 : M1 b with
  | some o' => rw [h1] at hb; injection hb with hb; subst hb; exact h b _ h1
  | none =>
    rw [h1] at hb
    cases h3 : M3 b with
    | none => rw [h3] at hb; cases hb
    | some o' =>
      rw [h3] at hb
      cases o' with
      | cells c t f => exact hb
      | _ => cases hb
theorem cutM_left {M1 M3 : Nat → Option Obj} {b : Nat} {o : Obj} (h : M1 b = some o) : cutM M1 M3 b = some o := by unfold cutM; rw [h]
theorem cutM_cells {M1 M3 : Nat → Option Obj} (h : ∀ b o, M1 b = some o → M3 b = some o) (b : Nat) (c : Array Value) (t : TypeId) (f : Nat × Nat) (h3 : M3 b = some (.cells c t f)) : cutM M1 M3 b = some (.cells c t f) := by
  unfold cutM
  cases h1 : M1 b with
  | some o' => have := h b _ h1; rw [h3] at this; injection this with this; rw [this]
  | none => simp only [h3]
theorem cutM_cln {M M1 M3 : Nat → Option Obj} (hc : Cln M M1) (h : ∀ b o, M1 b = some o → M3 b = some o) : Cln M (cutM M1 M3) := by
  refine ⟨fun b o hb => cutM_left (hc.1 b o hb), fun b o hb ho => ?_⟩
  unfold cutM at hb
  cases h1 : M1 b with
  | some o' => rw [h1] at hb; injection hb with hb; subst hb; exact hc.2 b _ h1 ho
  | none =>
    rw [h1] at hb
    cases h3 : M3 b with
    | none => rw [h3] at hb; cases hb
    | some o' =>
      rw [h3] at hb
      cases o' with
      | cells c t f => injection hb with hb; subst hb; cases ho
      | _ => cases hb
section
variable {P : Program} {N : Nat} {W0 W W' w : World} {X : Nat → Option Loc} {M0 M M' M3 : Nat → Option Obj} {σ σ' σ3 : Nat → Loc} {T T' : Nat → Option Tv} {H H' : Nat → Option Blk} {a a' : Act} {pids : List Nat} {fid : Nat} {fl : Loc}
theorem pinX_inX (hX : ∀ n x, X n = some x → σ n = x) {b : Nat} (h : inX (pinX pids σ X) b) : inX X b ∨ ∃ q ∈ pids, (σ q).b = b := by
  obtain ⟨n, x, hn, hb⟩ := h
  unfold pinX at hn
  cases hm : memO pids n with
  | true => rw [hm] at hn; injection hn with hn; subst hn; exact .inr ⟨n, memO_mem hm, hb⟩
  | false => rw [hm] at hn; exact .inl ⟨n, x, hn, hb⟩
theorem flatX_inX {q : Nat} (hq : X q = some (σ q)) (hfl : fl.b = (σ q).b) {b : Nat} (h : inX (flatX fid fl X) b) : inX X b := by
  obtain ⟨n, x, hn, hb⟩ := h
  unfold flatX at hn
  cases hm : Nat.beq n fid with
  | true => rw [hm] at hn; injection hn with hn; subst hn; exact ⟨q, _, hq, by rw [← hfl]; exact hb⟩
  | false => rw [hm] at hn; exact ⟨n, x, hn, hb⟩
/-- A round begins: its world is the one that is looked back at. -/
theorem sim_into (hs : Sim N W0 (pinX pids σ X) M0 M' σ' T H a W) {a2 : Act} (hd : a2.defers = []) (hr : a2.tmps.size = N) (hfN : N ≤ fid) (hfp : memO pids fid = false)
    (hT : ∀ i v, T' i = some v → RT M' σ' v (a2.tmps.getD i undef)) (hTf : ∀ i v, T' i = some v → v.no fid = true) (hHf : ∀ n b, H n = some b → n ≠ fid ∧ b.no fid = true ∧ n ∈ pids) (hXf : X fid = none) (hmem : ∀ n, n ∈ pids → memO pids n = true) :
    Sim N W (flatX fid fl (pinX pids σ X)) M' M' (upd σ' fid fl) T' H a2 W := by
  have hu : ∀ d, d ≠ fid → upd σ' fid fl d = σ' d := fun d hd => by
    unfold upd
    cases hb : Nat.beq d fid with
    | true => exact absurd (Nat.eq_of_beq_eq_true hb) hd
    | false => rfl
  refine ⟨rfl, rfl, rfl, Nat.le_refl _, fun _ _ _ => rfl, fun _ _ h => h, fun b o h h' => by (rw [h] at h'; cases h'), fun n x hn => ?_, ?_, hr, fun i v hv => ?_, hs.imm, fun n b hb => ?_, fun n b hb => ?_, fun n m b c hb hc hne => ?_⟩
  · unfold flatX at hn
    cases hm : Nat.beq n fid with
    | true =>
      rw [hm] at hn; injection hn with hn
      have := Nat.eq_of_beq_eq_true hm
      subst this
      exact ⟨hfN, by unfold upd; rw [hm]; exact hn⟩
    | false =>
      rw [hm] at hn
      have h1 := hs.pin n x hn
      exact ⟨h1.1, by unfold upd; rw [hm]; exact h1.2⟩
  · exact ⟨by rw [hd]; trivial, fun _ => hd⟩
  · exact RT_mono (fun _ _ h => h) (fun d hd => hu d (fun e => by subst e; rw [hTf i v hv] at hd; cases hd)) (hT i v hv)
  · obtain ⟨h1, h2, h3⟩ := hHf n b hb
    rw [hu n h1]
    exact (hs.blk n b hb).mono (fun _ _ h => h) (fun d hd => hu d (fun e => by subst e; rw [h2] at hd; cases hd)) (fun _ => rfl)
  · obtain ⟨h1, h2, h3⟩ := hHf n b hb
    rw [hu n h1]
    refine (hs.loc n b hb).imp id fun h => ⟨h.1, .inr ⟨n, σ' n, ?_, rfl⟩⟩
    have hp : pinX pids σ X n = some (σ n) := by unfold pinX; rw [hmem n h3]; rfl
    have hb : Nat.beq n fid = false := by rw [beqN]; simp [h1]
    unfold flatX
    rw [hb]
    show pinX pids σ X n = some (σ' n)
    rw [hp, (hs.pin n _ hp).2]
  · rw [hu n (hHf n b hb).1, hu m (hHf m c hc).1]
    exact hs.inj n m b c hb hc hne
/-- A piece of a round is over: the function's entry is looked back at again. -/
theorem sim_out {XA Xr X2 : Nat → Option Loc} (hs : Sim N W0 XA M0 M' σ' T H a W) (hr : Sim N W Xr M' M3 σ3 T' H' a' W') (hin : ∀ b, inX Xr b → inX XA b ∨ W0.heap.size ≤ b)
    {H2 : Nat → Option Blk} (hH2 : ∀ n b, H2 n = some b → H' n = some b) (hH : ∀ n b, H2 n = some b → BkM b) {a2 : Act} {T2 : Nat → Option Tv} (hsz : a2.tmps.size = N) (hT2 : ∀ i v, T2 i = some v → RT (cutM M' M3) σ3 v (a2.tmps.getD i undef)) (hX2 : ∀ n x, X2 n = some x → N ≤ n ∧ σ3 n = x) (hX3 : ∀ b, inX XA b ↔ inX X2 b) (hd : DefsX X2 M0 (cutM M' M3) a2.defers) :
    Sim N W0 X2 M0 (cutM M' M3) σ3 T2 H2 a2 W' := by
  have hsub : ∀ b o, M' b = some o → M3 b = some o := hr.sub
  refine ⟨hr.os.trans hs.os, hr.tape.trans hs.tape, hr.output.trans hs.output, Nat.le_trans hs.size hr.size, fun b hb hx => ?_, fun b o h => cutM_left (hs.sub b o h), fun b o h h' => ?_, hX2, hd, hsz, hT2, fun b o h => hr.imm b o (cutM_sub hsub h), fun n b h => BlkOk_cut (cutM_cells hsub) (hr.blk n b (hH2 n b h)) (hH n b h), fun n b h => ?_, fun n m b c hb hc hne => hr.inj n m b c (hH2 n b hb) (hH2 m c hc) hne⟩
  · have h1 : ¬ inX XA b := fun h => hx ((hX3 b).1 h)
    refine (hr.old b (Nat.lt_of_lt_of_le hb hs.size) fun h => ?_).trans (hs.old b hb h1)
    rcases hin b h with h | h
    · exact h1 h
    · omega
  · cases h1 : M' b with
    | some o' => exact hs.new b o' h1 h'
    | none => exact Nat.le_trans hs.size (hr.new b o (cutM_sub hsub h) h1)
  · refine (hr.loc n b (hH2 n b h)).imp id fun h => ⟨?_, ?_⟩
    · cases hc : cutM M' M3 (σ3 n).b with
      | none => rfl
      | some o => have := cutM_sub hsub hc; rw [h.1] at this; cases this
    · rcases h.2 with h | h
      · exact .inl (Nat.le_trans hs.size h)
      · rcases hin _ h with h | h
        · exact .inr ((hX3 _).1 h)
        · exact .inl h
/-- A piece of a round begins: its world is the one that is looked back at. -/
theorem sim_base {XF : Nat → Option Loc} {p1 : List Nat} (hs : Sim N W0 XF M0 M' σ' T H a W) (hd : a.defers = []) (hN : ∀ n ∈ p1, N ≤ n) (hH : ∀ n b, H n = some b → memO p1 n = true) : Sim N W (pinX p1 σ' XF) M' M' σ' T H a W := by
  refine ⟨rfl, rfl, rfl, Nat.le_refl _, fun _ _ _ => rfl, fun _ _ h => h, fun b o h h' => by (rw [h] at h'; cases h'), fun n x hn => ?_, ⟨by rw [hd]; trivial, fun _ => hd⟩, hs.room, hs.tmps, hs.imm, hs.blk, fun n b hb => ?_, hs.inj⟩
  · unfold pinX at hn
    cases hm : memO p1 n with
    | true => rw [hm] at hn; injection hn with hn; exact ⟨hN n (memO_mem hm), hn⟩
    | false => rw [hm] at hn; exact hs.pin n x hn
  · exact (hs.loc n b hb).imp id fun h => ⟨h.1, .inr ⟨n, σ' n, by unfold pinX; rw [hH n b hb]; rfl, rfl⟩⟩
end
end Go.Proofs.Ytgmhnkoifdpemaa
