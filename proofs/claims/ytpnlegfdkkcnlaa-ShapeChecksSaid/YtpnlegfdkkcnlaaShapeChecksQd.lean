/-
  No statement is proved in this text. It holds a part of what the proof of ShapeChecks needs.
-/
import Derived.Test.YtpnlegfdkkcnlaaShapeChecksQc
namespace Go.Proofs.Ytpnlegfdkkcnlaa
set_option maxRecDepth 100000
open Go.RowKit
set_option linter.unusedSimpArgs false
set_option linter.unusedVariables false
def pinX (pids : List Nat) (σ : Nat → Loc) (X : Nat → Option Loc) (n : Nat) : Option Loc := bif memO pids n then some (σ n) else X n
def flatX (fid : Nat) (fl : Loc) (X : Nat → Option Loc) (n : Nat) : Option Loc := bif Nat.beq n fid then some fl else X n
def cutM (M1 M3 : Nat → Option Obj) (b : Nat) : Option Obj := match M1 b with
 | some o => some o
 | none => match M3 b with
  | some (.cells c t f) => some (.cells c t f)
  | _ => none
def Cln (M M' : Nat → Option Obj) : Prop := (∀ b o, M b = some o → M' b = some o) ∧ ∀ b o, M' b = some o → o.isCells = false → M b = some o
theorem cutM_sub {M1 M3 : Nat → Option Obj} (h : ∀ b o, M1 b = some o → M3 b = some o) {b : Nat} {o : Obj} (hb : cutM M1 M3 b = some o) : M3 b = some o := by
 unfold cutM at hb
 cases h1 : M1 b with
 | some o' => rw [h1] at hb; injection hb with hb; subst hb; exact h b _ h1
 | none =>
  rw [h1] at hb
  cases h3 : M3 b with
  | none => rw [h3] at hb; cases hb
  | some o' =>
   rw [h3] at hb
   cases o' with
   | cells c t f => exact hb
   | _ => cases hb
theorem cutM_left {M1 M3 : Nat → Option Obj} {b : Nat} {o : Obj} (h : M1 b = some o) : cutM M1 M3 b = some o := by unfold cutM; rw [h]
theorem cutM_cells {M1 M3 : Nat → Option Obj} (h : ∀ b o, M1 b = some o → M3 b = some o) (b : Nat) (c : Array Value) (t : TypeId) (f : Nat × Nat) (h3 : M3 b = some (.cells c t f)) : cutM M1 M3 b = some (.cells c t f) := by
 unfold cutM
 cases h1 : M1 b with
 | some o' => have := h b _ h1; rw [h3] at this; injection this with this; rw [this]
 | none => simp only [h3]
theorem cutM_cln {M M1 M3 : Nat → Option Obj} (hc : Cln M M1) (h : ∀ b o, M1 b = some o → M3 b = some o) : Cln M (cutM M1 M3) := by
 refine ⟨fun b o hb => cutM_left (hc.1 b o hb), fun b o hb ho => ?_⟩
 unfold cutM at hb
 cases h1 : M1 b with
 | some o' => rw [h1] at hb; injection hb with hb; subst hb; exact hc.2 b _ h1 ho
 | none =>
  rw [h1] at hb
  cases h3 : M3 b with
  | none => rw [h3] at hb; cases hb
  | some o' =>
   rw [h3] at hb
   cases o' with
   | cells c t f => injection hb with hb; subst hb; cases ho
   | _ => cases hb
section
variable {P : Program} {N : Nat} {W0 W W' w : World} {X : Nat → Option Loc} {M0 M M' M3 : Nat → Option Obj} {σ σ' σ3 : Nat → Loc} {T T' : Nat → Option Tv} {H H' : Nat → Option Blk} {a a' : Act} {pids : List Nat} {fid : Nat} {fl : Loc}
theorem flatX_inX {q : Nat} (hq : X q = some (σ q)) (hfl : fl.b = (σ q).b) {b : Nat} (h : inX (flatX fid fl X) b) : inX X b := by
 obtain ⟨n, x, hn, hb⟩ := h
 unfold flatX at hn
 cases hm : Nat.beq n fid with
 | true => rw [hm] at hn; injection hn with hn; subst hn; exact ⟨q, _, hq, by rw [← hfl]; exact hb⟩
 | false => rw [hm] at hn; exact ⟨n, x, hn, hb⟩
theorem sim_into (hs : Sim N W0 (pinX pids σ X) M0 M' σ' T H a W) {a2 : Act} (hd : a2.defers = []) (hr : a2.tmps.size = N) (hfN : N ≤ fid) (hfp : memO pids fid = false)
  (hT : ∀ i v, T' i = some v → RT M' σ' v (a2.tmps.getD i undef)) (hTf : ∀ i v, T' i = some v → v.no fid = true) (hHf : ∀ n b, H n = some b → n ≠ fid ∧ b.no fid = true ∧ n ∈ pids) (hXf : X fid = none) (hmem : ∀ n, n ∈ pids → memO pids n = true) :
  Sim N W (flatX fid fl (pinX pids σ X)) M' M' (upd σ' fid fl) T' H a2 W := by
 have hu : ∀ d, d ≠ fid → upd σ' fid fl d = σ' d := fun d hd => by
  unfold upd
  cases hb : Nat.beq d fid with
  | true => exact absurd (Nat.eq_of_beq_eq_true hb) hd
  | false => rfl
 refine ⟨rfl, rfl, rfl, Nat.le_refl _, fun _ _ _ => rfl, fun _ _ h => h, fun b o h h' => by (rw [h] at h'; cases h'), fun n x hn => ?_, ?_, hr, fun i v hv => ?_, hs.imm, fun n b hb => ?_, fun n b hb => ?_, fun n m b c hb hc hne => ?_⟩
 ·unfold flatX at hn
  cases hm : Nat.beq n fid with
  | true =>
   rw [hm] at hn; injection hn with hn
   have := Nat.eq_of_beq_eq_true hm
   subst this
   exact ⟨hfN, by unfold upd; rw [hm]; exact hn⟩
  | false =>
   rw [hm] at hn
   have h1 := hs.pin n x hn
   exact ⟨h1.1, by unfold upd; rw [hm]; exact h1.2⟩
 ·exact ⟨by rw [hd]; trivial, fun _ => hd⟩
 ·exact RT_mono (fun _ _ h => h) (fun d hd => hu d (fun e => by subst e; rw [hTf i v hv] at hd; cases hd)) (hT i v hv)
 ·obtain ⟨h1, h2, h3⟩ := hHf n b hb
  rw [hu n h1]
  exact (hs.blk n b hb).mono (fun _ _ h => h) (fun d hd => hu d (fun e => by subst e; rw [h2] at hd; cases hd)) (fun _ => rfl)
 ·obtain ⟨h1, h2, h3⟩ := hHf n b hb
  rw [hu n h1]
  refine (hs.loc n b hb).imp id fun h => ⟨h.1, .inr ⟨n, σ' n, ?_, rfl⟩⟩
  have hp : pinX pids σ X n = some (σ n) := by unfold pinX; rw [hmem n h3]; rfl
  have hb : Nat.beq n fid = false := by rw [beqN]; simp [h1]
  unfold flatX
  rw [hb]
  show pinX pids σ X n = some (σ' n)
  rw [hp, (hs.pin n _ hp).2]
 ·rw [hu n (hHf n b hb).1, hu m (hHf m c hc).1]
  exact hs.inj n m b c hb hc hne
theorem sim_out {XA Xr X2 : Nat → Option Loc} (hs : Sim N W0 XA M0 M' σ' T H a W) (hr : Sim N W Xr M' M3 σ3 T' H' a' W') (hin : ∀ b, inX Xr b → inX XA b ∨ W0.heap.size ≤ b)
  {H2 : Nat → Option Blk} (hH2 : ∀ n b, H2 n = some b → H' n = some b) (hH : ∀ n b, H2 n = some b → BkM b) {a2 : Act} {T2 : Nat → Option Tv} (hsz : a2.tmps.size = N) (hT2 : ∀ i v, T2 i = some v → RT (cutM M' M3) σ3 v (a2.tmps.getD i undef)) (hX2 : ∀ n x, X2 n = some x → N ≤ n ∧ σ3 n = x) (hX3 : ∀ b, inX XA b ↔ inX X2 b) (hd : DefsX X2 M0 (cutM M' M3) a2.defers) :
  Sim N W0 X2 M0 (cutM M' M3) σ3 T2 H2 a2 W' := by
 have hsub : ∀ b o, M' b = some o → M3 b = some o := hr.sub
 refine ⟨hr.os.trans hs.os, hr.tape.trans hs.tape, hr.output.trans hs.output, Nat.le_trans hs.size hr.size, fun b hb hx => ?_, fun b o h => cutM_left (hs.sub b o h), fun b o h h' => ?_, hX2, hd, hsz, hT2, fun b o h => hr.imm b o (cutM_sub hsub h), fun n b h => BlkOk_cut (cutM_cells hsub) (hr.blk n b (hH2 n b h)) (hH n b h), fun n b h => ?_, fun n m b c hb hc hne => hr.inj n m b c (hH2 n b hb) (hH2 m c hc) hne⟩
 ·have h1 : ¬ inX XA b := fun h => hx ((hX3 b).1 h)
  refine (hr.old b (Nat.lt_of_lt_of_le hb hs.size) fun h => ?_).trans (hs.old b hb h1)
  rcases hin b h with h | h
  ·exact h1 h
  ·omega
 ·cases h1 : M' b with
  | some o' => exact hs.new b o' h1 h'
  | none => exact Nat.le_trans hs.size (hr.new b o (cutM_sub hsub h) h1)
 ·refine (hr.loc n b (hH2 n b h)).imp id fun h => ⟨?_, ?_⟩
  ·cases hc : cutM M' M3 (σ3 n).b with
   | none => rfl
   | some o => have := cutM_sub hsub hc; rw [h.1] at this; cases this
  ·rcases h.2 with h | h
   ·exact .inl (Nat.le_trans hs.size h)
   ·rcases hin _ h with h | h
    ·exact .inr ((hX3 _).1 h)
    ·exact .inl h
theorem sim_base {XF : Nat → Option Loc} {p1 : List Nat} (hs : Sim N W0 XF M0 M' σ' T H a W) (hd : a.defers = []) (hN : ∀ n ∈ p1, N ≤ n) (hH : ∀ n b, H n = some b → memO p1 n = true) : Sim N W (pinX p1 σ' XF) M' M' σ' T H a W := by
 refine ⟨rfl, rfl, rfl, Nat.le_refl _, fun _ _ _ => rfl, fun _ _ h => h, fun b o h h' => by (rw [h] at h'; cases h'), fun n x hn => ?_, ⟨by rw [hd]; trivial, fun _ => hd⟩, hs.room, hs.tmps, hs.imm, hs.blk, fun n b hb => ?_, hs.inj⟩
 ·unfold pinX at hn
  cases hm : memO p1 n with
  | true => rw [hm] at hn; injection hn with hn; exact ⟨hN n (memO_mem hm), hn⟩
  | false => rw [hm] at hn; exact hs.pin n x hn
 ·exact (hs.loc n b hb).imp id fun h => ⟨h.1, .inr ⟨n, σ' n, by unfold pinX; rw [hH n b hb]; rfl, rfl⟩⟩
end
end Go.Proofs.Ytpnlegfdkkcnlaa
namespace Go.Proofs.Ytpnlegfdkkcnlaa
set_option maxRecDepth 100000
open Go.RowKit
set_option linter.unusedSimpArgs false
set_option linter.unusedVariables false
def RPost (Q : Exit → AS → Prop) (t0 : List (Nat × Tv)) (h0 : List (Nat × Blk)) (Fm : Nat → Prop) (x : Nat) : Exit → AS → Prop
 | .normal, s' => (∀ n b, get h0 n = some b → get s'.h n = some b) ∧ (Fm x → Fm (x + 1))
 | .ret, s' => HsM s'.h ∧ (Fm x → Q .ret ⟨t0, s'.h⟩)
 | .exit id, s' => HsM s'.h ∧ (Fm x → Q (.exit id) ⟨t0, s'.h⟩)
 | _, _ => False
def QC (Q : Exit → AS → Prop) : Code → AS → Prop
 | .ret, s => Q .ret s
 | .exit id, s => Q (.exit id) s
 | _, _ => False
def Blk.isC : Blk → Bool
 | .cells .. => true
 | _ => false
theorem isC_isM {b : Blk} (h : b.isC = true) : b.isM = false := by cases b <;> first | rfl | cases h
theorem bkM_isM {b : Blk} (h : BkM b) : b.isM = false := by cases b <;> first | rfl | exact h.elim
theorem range_app {pre : List Nat} {x : Nat} (h : pre ++ [x] = List.range (pre.length + 1)) : pre = List.range pre.length ∧ x = pre.length := by
 rw [List.range_succ] at h
 have := List.append_inj h (by simp)
 exact ⟨this.1, by simpa using this.2⟩
def putM (D : Nat) (M : Nat → Option Obj) (b : Nat) : Option Obj := bif Nat.beq b D then some (.deferred (some [])) else M b
theorem defs_of {M0 M : Nat → Option Obj} : ∀ {l : List Deferred} {d : Deferred}, DefsOk M0 M l → d ∈ l → ∃ D, d = { target := .collected D, args := #[] } ∧ M D = some (.deferred (some []))
 | d0 :: l, d, h, hd => by
  rcases List.mem_cons.1 hd with rfl | hd
  ·obtain ⟨⟨D, h1, h2, _⟩, _⟩ := h
   exact ⟨D, h1, h2⟩
  ·exact defs_of h.2 hd
theorem sim_mark {N : Nat} {W0 W : World} {XA X : Nat → Option Loc} {M0 M : Nat → Option Obj} {σ : Nat → Loc} {T : Nat → Option Tv} {H : Nat → Option Blk} {a : Act} {D : Nat} (hs : Sim N W0 XA M0 M σ T H a W)
  (hD : W.heap[D]? = some (.deferred (some []))) (hD0 : M0 D = none) (hDl : W0.heap.size ≤ D) (hne : ∀ d' ∈ a.defers, d' ≠ { target := .collected D, args := #[] }) (hpin : ∀ m x, X m = some x → N ≤ m ∧ σ m = x) (hXA : ∀ b, inX XA b → W0.heap.size ≤ b ∨ inX X b) (hnf : ¬ Flat X) :
  Sim N W0 X M0 (putM D M) σ T H { a with defers := { target := .collected D, args := #[] } :: a.defers } W := by
 have hM : ∀ b o, M b = some o → putM D M b = some o := fun b o h => by
  unfold putM
  cases hb : Nat.beq b D with
  | true =>
   have := Nat.eq_of_beq_eq_true hb
   subst this
   have h2 := hs.imm b o h
   rw [hD] at h2
   exact h2
  | false => exact h
 have hput : putM D M D = some (.deferred (some [])) := by unfold putM; rw [Nat.beq_refl]; rfl
 have hoth : ∀ b, b ≠ D → putM D M b = M b := fun b h => by unfold putM; rw [show Nat.beq b D = false by rw [beqN]; simp [h]]; rfl
 refine ⟨hs.os, hs.tape, hs.output, hs.size, fun b hb hx => hs.old b hb fun h => ?_, fun b o h => hM b o (hs.sub b o h), fun b o h h' => ?_, hpin, ⟨⟨⟨D, rfl, hput, hD0, hne⟩, DefsOk.mono hM hs.defers.1⟩, fun h => absurd h hnf⟩, hs.room, fun i v h => RT_mono hM (fun _ _ => rfl) (hs.tmps i v h), fun b o h => ?_, fun n b h => (hs.blk n b h).mono hM (fun _ _ => rfl) (fun _ => rfl), fun n b h => ?_, hs.inj⟩
 ·rcases hXA b h with h | h
  ·omega
  ·exact hx h
 ·by_cases e : b = D
  ·subst e; exact hDl
  ·rw [hoth b e] at h; exact hs.new b o h h'
 ·by_cases e : b = D
  ·subst e; rw [hput] at h; injection h with h; subst h; exact hD
  ·rw [hoth b e] at h; exact hs.imm b o h
 ·by_cases hn : (σ n).nil = true
  ·exact .inl hn
  ·rcases hs.loc n b h with h1 | ⟨h1, h2⟩
   ·exact .inl h1
   ·refine .inr ⟨?_, ?_⟩
    ·rw [hoth _ fun e => ?_]
     ·exact h1
     ·have h3 := hs.blk n b h
      cases b with
      | cells l ty => obtain ⟨_, c, hc, _⟩ := h3; rw [e, hD] at hc; cases hc
      | row sz len f ty =>
       rcases h3 with ⟨h4, _⟩ | ⟨_, c, hc, _⟩
       ·exact hn h4
       ·rw [e, hD] at hc; cases hc
      | omap => obtain ⟨_, es, ck, g, hc, _⟩ := h3; rw [e, hD] at hc; cases hc
    ·rcases h2 with h2 | h2
     ·exact .inl h2
     ·exact hXA _ h2
section
variable {P : Program} {N : Nat} {W0 : World} {X : Nat → Option Loc} {M0 : Nat → Option Obj}
theorem aw_range {Q : Exit → AS → Prop} {g : Operand} {ps : Array Tmp} {assign body : Code} {t0 : List (Nat × Tv)} {h0 : List (Nat × Blk)} (pids : List Nat) (fid q : Nat) {gf : FuncId} {k : Nat} {caps : Nat → Cl} {n : Nat} {E : Fin n → List Av} (S1 : Fin n → AS) (Fm : Nat → Prop)
  (hnf : ¬ Flat X) (hXf : X fid = none) (hXp : ∀ m x, X m = some x → memO pids m = true)
  (hg : evT (get t0) g = some (.av (.one (.clo gf k caps)))) (hcd : (Cl.clo gf k caps).dv = true) (eg : ∀ args w, (callFunc gf args).run P w = .ok (.enter gf args) w)
  (It : IterOk P gf k caps n E) (hE : ∀ x, (E x).length = ps.size) (hps : ∀ p ∈ ps.toList, p < N)
  (hpv : ∀ i v, get t0 i = some v → pvT pids v = true ∧ v.no fid = true) (hh : ∀ m b, get h0 m = some b → memO pids m = true ∧ b.isC = true ∧ b.no fid = true ∧ m ≠ fid) (hpc : ∀ m, memO pids m = true → ∃ b, get h0 m = some b) (hfp : memO pids fid = false) (hfN : N ≤ fid) (hpN : ∀ m ∈ pids, N ≤ m)
  (hmem : ∀ m ∈ pids, memO pids m = true) (hq : memO pids q = true) (hEf : ∀ x i v, get (setps t0 ps.toList (E x)) i = some v → v.no fid = true)
  (hm : HsM h0) (hS1 : ∀ x, TsM (S1 x).t ∧ HsM (S1 x).h ∧ (∀ m b, get h0 m = some b → get (S1 x).h m = some b) ∧ (∀ m b, get (S1 x).h m = some b → memO pids m = true ∧ b.isC = true))
  (hF : Fm 0)
  (hassign : ∀ l W1 M1 X1 x, PX pids X1 → AWp P (some l) N W1 X1 M1 assign (fun e s' => e = .normal ∧ s' = S1 x) ⟨setps t0 ps.toList (E x), h0⟩)
  (hbody : ∀ l W1 M1 X1 x, PX pids X1 → AWp P (some l) N W1 X1 M1 body (RPost Q t0 h0 Fm x.val) (S1 x))
  (hdone : Fm n → Q .normal ⟨t0, h0⟩) : AWp P none N W0 X M0 (.rangeFunc g ps assign body) Q ⟨t0, h0⟩ := by
 intro M σ a w hs
 have hcell : ∀ m, memO pids m = true → (σ m).nil = false := fun m hm' => by
  obtain ⟨b, hb⟩ := hpc m hm'
  have h1 := hs.blk m b hb
  have h2 := (hh m b hb).2.1
  cases b with
  | cells l ty => exact h1.1
  | row => cases h2
  | omap => cases h2
 -- the iterator's value
 have hgv := evT_ok hs.tmps hg
 obtain ⟨cs, hgv1, hgv2, hgv3⟩ := hgv
 have hcaps : ∀ i, i < k → RC M (caps i) (cs.getD i undef) := fun i hi => (R_dv (List.all_eq_true.1 hcd i (List.mem_range.2 hi))).1 (hgv3 i hi)
 obtain ⟨encs, henc, hseq⟩ := It M w cs (fun b => ∃ m, memO pids m = true ∧ (σ m).b = b) hs.imm (fun b ⟨m, hmm, hb⟩ => by
  obtain ⟨bk, hbk⟩ := hpc m hmm
  have h1 := (hs.blk m bk hbk).lt (hcell m hmm)
  rcases hs.loc m bk hbk with h | ⟨h, _⟩
  ·rw [hcell m hmm] at h; cases h
  ·rw [hb] at h h1; exact ⟨h1, h⟩) hgv2 hcaps
 have hsz : ∀ x, (encs x).size = ps.size := fun x => by
  have := (henc x).length
  rw [hE x] at this
  simpa using this.symm
 -- names
 have hXP : ∀ m x, pinX pids σ X m = some x → m ≠ fid ∧ N ≤ m ∧ σ m = x := fun m x hx => by
  unfold pinX at hx
  cases hmm : memO pids m with
  | true => rw [hmm] at hx; injection hx with hx; exact ⟨fun e => (by subst e; rw [hfp] at hmm; cases hmm), hpN m (memO_mem hmm), hx⟩
  | false => rw [hmm] at hx; rw [hXp m x hx] at hmm; cases hmm
 have hXPm : ∀ m x, pinX pids σ X m = some x → memO pids m = true := fun m x hx => by
  unfold pinX at hx
  cases hmm : memO pids m with
  | true => rfl
  | false => rw [hmm] at hx; rw [hXp m x hx] at hmm; cases hmm
 have hPp : ∀ m, memO pids m = true → pinX pids σ X m = some (σ m) := fun m h => by unfold pinX; rw [h]; rfl
 have hflat : Flat (flatX fid ⟨(σ q).b, 424242, true⟩ (pinX pids σ X)) := ⟨fid, _, by unfold flatX; rw [Nat.beq_refl]; rfl, rfl, rfl⟩
 have hFP : ∀ b, inX (pinX pids σ X) b ↔ inX (flatX fid ⟨(σ q).b, 424242, true⟩ (pinX pids σ X)) b := fun b => by
  constructor
  ·rintro ⟨m, x, h1, h2⟩
   refine ⟨m, x, ?_, h2⟩
   unfold flatX
   rw [show Nat.beq m fid = false by rw [beqN]; simp [(hXP m x h1).1]]
   exact h1
  ·exact flatX_inX (fl := ⟨(σ q).b, 424242, true⟩) (hPp q hq) rfl
 have hinO : ∀ b, inX (flatX fid ⟨(σ q).b, 424242, true⟩ (pinX pids σ X)) b → ∃ m, memO pids m = true ∧ (σ m).b = b := fun b hb => by
  obtain ⟨m, x, h1, h2⟩ := (hFP b).2 hb
  have hmm := hXPm m x h1
  rw [hPp m hmm] at h1; injection h1 with h1; subst h1
  exact ⟨m, hmm, h2⟩
 have hPX : ∀ b, inX (pinX pids σ X) b → W0.heap.size ≤ b ∨ inX X b := fun b ⟨m, x, h1, h2⟩ => by
  have hmm := hXPm m x h1
  rw [hPp m hmm] at h1; injection h1 with h1; subst h1
  obtain ⟨b', hb'⟩ := hpc m hmm
  rcases hs.loc m b' hb' with h | ⟨_, h⟩
  ·rw [hcell m hmm] at h; cases h
  ·rw [h2] at h; exact h
 have hflatP : ∀ M4, (∀ b o, M b = some o → M4 b = some o) → DefsX (pinX pids σ X) M0 M4 a.defers := fun M4 h4 => ⟨DefsOk.mono h4 hs.defers.1, fun ⟨m, x, h1, h2, _⟩ => by
  have hmm := hXPm m x h1
  rw [hPp m hmm] at h1; injection h1 with h1; subst h1
  rw [hcell m hmm] at h2; cases h2⟩
 have hT0 : ∀ (M4 : Nat → Option Obj) (σ4 : Nat → Loc), (∀ b o, M b = some o → M4 b = some o) → (∀ m, memO pids m = true → σ4 m = σ m) → ∀ i v, get t0 i = some v → RT M4 σ4 v (a.tmps.getD i undef) := fun M4 σ4 h4 hσ i v hv =>
  RT_mono h4 (fun d hd => hσ d (hmem d (pvT_no (hpv i v hv).1 hd))) (hs.tmps i v hv)
 have hs0 : Sim N W0 (pinX pids σ X) M0 M σ (get t0) (get h0) a w := ⟨hs.os, hs.tape, hs.output, hs.size, fun b hb hx => hs.old b hb fun ⟨m, x, h1, h2⟩ => hx ⟨m, σ m, hPp m (hXp m x h1), by rw [(hs.pin m x h1).2]; exact h2⟩, hs.sub, hs.new, fun m x hx => ⟨(hXP m x hx).2.1, (hXP m x hx).2.2⟩, hflatP M (fun _ _ h => h), hs.room, hs.tmps, hs.imm, hs.blk, fun m b hb => .inr ⟨by
   rcases hs.loc m b hb with h | h
   ·rw [hcell m (hh m b hb).1] at h; cases h
   ·exact h.1, .inr ⟨m, σ m, hPp m (hh m b hb).1, rfl⟩⟩, hs.inj⟩
 have hlt : ∀ b o, M b = some o → b < w.heap.size := fun b o h => (Array.getElem?_eq_some_iff.1 (hs.imm b o h)).1
 have hCgrow : ∀ {X' : Nat → Option Loc} {M1 : Nat → Option Obj} {σ1 : Nat → Loc} {T : Nat → Option Tv} {H : Nat → Option Blk} {b : Act} {A B : World} {row : Option Nat}, Sim N W0 X' M0 M1 σ1 T H b A → (∀ n b, H n = some b → b.isM = false) → Cln M M1 → A.grownBy B row → (∀ r, row = some r → w.heap.size ≤ r ∧ ∃ o : Obj, A.heap[r]? = some o ∧ o.isCells = false) → Sim N W0 X' M0 M1 σ1 T H b B := by
  intro X' M1 σ1 T H b A B row h1 hH h2 h3 h4
  refine sim_grown h1 hH h3 fun r e => ?_
  exact by
   obtain ⟨h5, o, h6, h7⟩ := h4 r e
   refine ⟨Nat.le_trans hs.size h5, ⟨o, h6, h7⟩, ?_⟩
   cases hM1 : M1 r with
   | none => rfl
   | some o' =>
    have h8 := h1.imm r o' hM1
    rw [h6] at h8; injection h8 with h8; subst h8
    have := hlt r _ (h2.2 r _ hM1 h7)
    omega
 -- what holds between two rounds, and within one
 obtain ⟨XP, hXPd⟩ : ∃ XP, pinX pids σ X = XP := ⟨_, rfl⟩
 obtain ⟨XF, hXFd⟩ : ∃ XF, flatX fid ⟨(σ q).b, 424242, true⟩ (pinX pids σ X) = XF := ⟨_, rfl⟩
 let SI : World → Prop := fun W => ∃ M' σ', Sim N W0 (pinX pids σ X) M0 M' σ' (get t0) (get h0) a W ∧ Cln M M'
 let Ax : Fin n → Act → World → Prop := fun x a' W => ∃ M' σ', Sim N W0 (flatX fid ⟨(σ q).b, 424242, true⟩ (pinX pids σ X)) M0 M' σ' (get (S1 x).t) (get (S1 x).h) a' W ∧ Cln M M'
 have hcells : ∀ {X' : Nat → Option Loc} {M1 : Nat → Option Obj} {σ1 : Nat → Loc} {T : Nat → Option Tv} {H : Nat → Option Blk} {b : Act} {A : World}, Sim N W0 X' M0 M1 σ1 T H b A → ∀ m x, H m = some x → x.isC = true → ∃ o : Obj, A.heap[(σ1 m).b]? = some o ∧ o.isCells = true := fun h1 m x hx hc => by
  have h2 := h1.blk m x hx
  cases x with
  | cells l ty => obtain ⟨_, c, h3, _⟩ := h2; exact ⟨_, h3, rfl⟩
  | row => cases hc
  | omap => cases hc
 have hσP : ∀ {X' : Nat → Option Loc} {M1 : Nat → Option Obj} {σ1 : Nat → Loc} {T : Nat → Option Tv} {H : Nat → Option Blk} {b : Act} {A W1 : World} {Mb : Nat → Option Obj}, Sim N W1 X' Mb M1 σ1 T H b A → (∀ m, memO pids m = true → X' m = some (σ m)) → ∀ m, memO pids m = true → σ1 m = σ m := fun h1 h2 m hmm => (h1.pin m _ (h2 m hmm)).2
 have hFpin : ∀ m, memO pids m = true → flatX fid ⟨(σ q).b, 424242, true⟩ (pinX pids σ X) m = some (σ m) := fun m hmm => by
  unfold flatX
  rw [show Nat.beq m fid = false by rw [beqN]; simp; intro e; subst e; rw [hfp] at hmm; cases hmm]
  exact hPp m hmm
 have hPXF : PX pids (flatX fid ⟨(σ q).b, 424242, true⟩ (pinX pids σ X)) := fun m y hy => by
  by_cases hm2 : m = fid
  ·subst hm2
   unfold flatX at hy
   rw [Nat.beq_refl] at hy
   injection hy with hy; subst hy
   exact ⟨q, hq, σ q, hFpin q hq, rfl⟩
  ·unfold flatX at hy
   rw [show Nat.beq m fid = false by rw [beqN]; simp [hm2]] at hy
   have hmm := hXPm m y hy
   exact ⟨m, hmm, y, by unfold flatX; rw [show Nat.beq m fid = false by rw [beqN]; simp [hm2]]; exact hy, rfl⟩
 refine wpIn_wide.2 ((wpIn_wide (n := 2)).1 ?_)
 refine wpIn_rangeFunc_ownH (F := FW none) (n := 2) rfl (by decide) hgv1 trivial eg hseq (fun h1 h2 => ⟨Nat.le_trans h1.1 h2.1, fun b o hb hc ho => h2.2 b o (h1.2 b o hb hc ho) hc ho⟩) (fun W l o o' hl ho hoc hw => ⟨by simp, fun b o2 hb hb2 _ => ?_⟩) (Below.refl _ _) hsz
  (fun pre W => SI W ∧ (pre.map Fin.val = List.range pre.length → Fm pre.length))
  (fun c pre W => ∃ hx, (∃ M' σ', Sim N W0 (pinX pids σ X) M0 M' σ' (get t0) (get hx) a W ∧ Cln M M') ∧ (∀ j, pre.map Fin.val = List.range (j + 1) → QC Q c ⟨t0, hx⟩) ∧ ∀ n b, get hx n = some b → b.isM = false)
  ?hI ?hIx ⟨⟨M, σ, hs0, fun _ _ h => h, fun _ _ h _ => h⟩, fun _ => hF⟩ Ax ?hAx ?assign ?body ?done ?stop
 ·rw [World.putObj_heap_other (fun e => by subst e; rw [ho] at hb; injection hb with hb; subst hb; rw [hoc] at hb2; cases hb2)]
  exact hb
 case hI =>
  rintro pre A B row ⟨⟨M', σ', h1, h2⟩, h3⟩ hg' hr
  exact ⟨⟨M', σ', hCgrow h1 (fun m b hb => isC_isM (hh m b hb).2.1) h2 hg' hr, h2⟩, h3⟩
 case hIx =>
  rintro c pre A B row ⟨hx, ⟨M', σ', h1, h2⟩, h3, hnm⟩ hg' hr
  exact ⟨hx, ⟨M', σ', hCgrow h1 hnm h2 hg' hr, h2⟩, h3, hnm⟩
 case hAx =>
  rintro x a' _ A B row ⟨M', σ', h1, h2⟩ hg' hr
  exact ⟨M', σ', hCgrow h1 (fun m b hb => isC_isM ((hS1 x).2.2.2 m b hb).2) h2 hg' hr, h2⟩
 case assign =>
  rintro l pre x W K ⟨⟨M', σ', h1, h2⟩, h3⟩ hK
  have hσ' := hσP h1 hPp
  obtain ⟨hfs, hft⟩ := fold_ok ps.toList (E x) (encs x).toList t0 a.tmps (hT0 M' σ' h2.1 hσ') hs.room ((henc x).mono fun e _ v hv => RA_mono h2.1 (fun _ _ => rfl) (hv σ')) (by simpa using (hE x).symm) hps
  have efold : (ps.zip (encs x)).foldl (fun t (p, v) => t.setIfInBounds p v) a.tmps = (ps.toList.zip (encs x).toList).foldl (fun t (y : Tmp × Value) => t.setIfInBounds y.1 y.2) a.tmps := by
   rw [← Array.foldl_toList, Array.toList_zip]
  rw [efold]
  have hin := sim_into (fid := fid) (fl := ⟨(σ q).b, 424242, true⟩) (T' := get (setps t0 ps.toList (E x))) h1 (a2 := { tmps := _, defers := [] }) rfl hfs hfN hfp hft (hEf x) (fun m b hb => ⟨(hh m b hb).2.2.2, (hh m b hb).2.2.1, memO_mem (hh m b hb).1⟩) hXf hmem
  refine wpIn_mono (hassign l W M' _ x hPXF M' _ _ W hin) ?_
  rintro e a' W' ⟨s', M3, σ3, ⟨rfl, rfl⟩, hr⟩
  have hC := cutM_cln h2 hr.sub
  have hσ3 := hσP hr hFpin
  refine hK a' W' ⟨hr.size, fun b o hb ho hoc => ?_⟩ ⟨hr.size, fun b o hb hb2 ho => (hr.old b (Array.getElem?_eq_some_iff.1 hb).1 (fun hX => ho (hinO b hX))).trans hb⟩ ⟨⟨_, σ3, sim_out (T2 := get t0) (H2 := get h0) (a2 := a) h1 hr (fun b hb => .inl ((hFP b).2 hb)) (hS1 x).2.2.1 (fun m b hb => hm m b hb) hs.room (hT0 _ σ3 hC.1 hσ3) (fun m y hy => ?_) (fun b => Iff.rfl) (hflatP _ hC.1), hC⟩, h3⟩ ⟨_, σ3, sim_out (T2 := get (S1 x).t) (H2 := get (S1 x).h) (a2 := a') h1 hr (fun b hb => .inl ((hFP b).2 hb)) (fun _ _ h => h) (hS1 x).2.1 hr.room (fun i v hv => RT_cut (cutM_cells hr.sub) (hr.tmps i v hv) ((hS1 x).1 i v hv)) (fun m y hy => hr.pin m y hy) hFP ⟨by rw [hr.defers.2 hflat]; trivial, fun _ => hr.defers.2 hflat⟩, hC⟩
  ·have hblt := (Array.getElem?_eq_some_iff.1 ho).1
   refine (hr.old b hblt fun hX => ?_).trans ho
   obtain ⟨m, y, hy, hb2⟩ := (hFP b).2 hX
   have hmm := hXPm m y hy
   rw [hPp m hmm] at hy; injection hy with hy; subst hy
   obtain ⟨bb, hbb⟩ := hpc m hmm
   obtain ⟨o2, h4, h5⟩ := hcells h1 m bb hbb (hh m bb hbb).2.1
   rw [hσ' m hmm, hb2, ho] at h4; injection h4 with h4; subst h4
   rw [hoc] at h5; cases h5
  ·have hmm := hXPm m y hy
   refine ⟨(hXP m y hy).2.1, (hσ3 m hmm).trans (hXP m y hy).2.2⟩
 case body =>
  rintro l pre x a' W hl hrec ⟨_, hFm⟩ ⟨M', σ', h1, h2⟩ hlen
  have hd : a'.defers = [] := h1.defers.2 hflat
  have hb1 := sim_base (p1 := pids) h1 hd hpN (fun m b hb => ((hS1 x).2.2.2 m b hb).1)
  have hσ' := hσP h1 hFpin
  have hXB : ∀ b, inX (pinX pids σ' (flatX fid ⟨(σ q).b, 424242, true⟩ (pinX pids σ X))) b → (inX (flatX fid ⟨(σ q).b, 424242, true⟩ (pinX pids σ X)) b ∨ W0.heap.size ≤ b) ∧ ∃ o : Obj, W.heap[b]? = some o ∧ o.isCells = true := by
   rintro b ⟨m, y, hy, hyb⟩
   unfold pinX at hy
   cases hmm : memO pids m with
   | true =>
    rw [hmm] at hy; injection hy with hy; subst hy
    obtain ⟨bb, hbb0⟩ := hpc m hmm
    have hbb := (hS1 x).2.2.1 m bb hbb0
    have hc := hcells h1 m bb hbb ((hS1 x).2.2.2 m bb hbb).2
    rw [hyb] at hc
    refine ⟨?_, hc⟩
    have hnil : (σ' m).nil = false := by
     have h5 := h1.blk m bb hbb
     have h6 := ((hS1 x).2.2.2 m bb hbb).2
     cases bb with
     | cells l ty => exact h5.1
     | row => cases h6
     | omap => cases h6
    rcases h1.loc m bb hbb with h | ⟨_, h⟩
    ·rw [hnil] at h; cases h
    ·rw [hyb] at h; exact h.symm
   | false =>
    rw [hmm] at hy
    have hin : inX (flatX fid ⟨(σ q).b, 424242, true⟩ (pinX pids σ X)) b := ⟨m, y, hy, hyb⟩
    refine ⟨.inl hin, ?_⟩
    obtain ⟨m2, y2, hy2, hb2⟩ := (hFP b).2 hin
    have hmm2 := hXPm m2 y2 hy2
    rw [hPp m2 hmm2] at hy2; injection hy2 with hy2; subst hy2
    obtain ⟨bb, hbb⟩ := hpc m2 hmm2
    have hc := hcells h1 m2 bb ((hS1 x).2.2.1 m2 bb hbb) (hh m2 bb hbb).2.1
    rw [hσ' m2 hmm2, hb2] at hc
    exact hc
  refine wpIn_mono (hbody l W M' _ x (fun m y hy => by
   unfold pinX at hy
   cases hmm : memO pids m with
   | true => rw [hmm] at hy; injection hy with hy; subst hy; exact ⟨m, hmm, σ' m, by unfold pinX; rw [hmm]; rfl, rfl⟩
   | false =>
    rw [hmm] at hy
    obtain ⟨q2, hq2, y2, hy2, he2⟩ := hPXF m y hy
    refine ⟨q2, hq2, σ' q2, by unfold pinX; rw [hq2]; rfl, ?_⟩
    rw [hFpin q2 hq2] at hy2; injection hy2 with hy2; subst hy2
    rw [hσ' q2 hq2]; exact he2) M' _ _ W hb1) ?_
  rintro e a2 W' ⟨s', M3, σ3, hpost, hr⟩
  have hC := cutM_cln h2 hr.sub
  have hXBp : ∀ m, memO pids m = true → pinX pids σ' (flatX fid ⟨(σ q).b, 424242, true⟩ (pinX pids σ X)) m = some (σ m) := fun m hmm => by
   unfold pinX
   cases hm1 : memO pids m with
   | true => rw [← hσ' m hmm]; rfl
   | false => exact hFpin m hmm
  have hσ3 := hσP hr hXBp
  have hkeep : KeepsFrom w.heap.size W W' := ⟨hr.size, fun b o hb ho hoc => by
   refine (hr.old b (Array.getElem?_eq_some_iff.1 ho).1 fun hX => ?_).trans ho
   obtain ⟨_, o2, h4, h5⟩ := hXB b hX
   rw [ho] at h4; injection h4 with h4; subst h4
   rw [hoc] at h5; cases h5⟩
  have hKp : KpS (fun b => ∃ m, memO pids m = true ∧ (σ m).b = b) W W' := ⟨hr.size, fun b o hb hb2 ho => (hr.old b (Array.getElem?_eq_some_iff.1 hb).1 (fun ⟨m, y, hy, hyb⟩ => by
   unfold pinX at hy
   cases hmm : memO pids m with
   | true => rw [hmm] at hy; injection hy with hy; subst hy; exact ho ⟨m, hmm, by rw [← hσ' m hmm]; exact hyb⟩
   | false => rw [hmm] at hy; exact ho (hinO b ⟨m, y, hy, hyb⟩))).trans hb⟩
  have hsim : ∀ hx : List (Nat × Blk), (∀ m b, get hx m = some b → get s'.h m = some b) → HsM hx → ∃ M' σ', Sim N W0 (pinX pids σ X) M0 M' σ' (get t0) (get hx) a W' ∧ Cln M M' := fun hx hx1 hx2 =>
   ⟨_, σ3, sim_out (T2 := get t0) (H2 := get hx) (a2 := a) h1 hr (fun b hb => (hXB b hb).1) hx1 (fun m b hb => hx2 m b hb) hs.room (hT0 _ σ3 hC.1 hσ3) (fun m y hy => ⟨(hXP m y hy).2.1, (hσ3 m (hXPm m y hy)).trans (hXP m y hy).2.2⟩) (fun b => (hFP b).symm) (hflatP _ hC.1), hC⟩
  have hok : ∀ j, (pre ++ [x]).map Fin.val = List.range (j + 1) → Fm x.val := fun j hj => by
   rw [List.map_append] at hj
   have hjl : j = (pre.map Fin.val).length := by
    have := congrArg List.length hj
    simp at this
    simp; omega
   subst hjl
   obtain ⟨h4, h5⟩ := range_app hj
   have h6 : x.val = pre.length := by simpa using h5
   rw [h6]
   exact hFm (by simpa using h4)
  cases e with
  | normal =>
   refine ⟨hkeep, hKp, hsim h0 hpost.1 hm, fun hj => ?_⟩
   have hj' : (pre ++ [x]).map Fin.val = List.range (pre.length + 1) := by simpa using hj
   have h7 := hpost.2 (hok _ hj')
   have h8 : x.val = pre.length := by
    rw [List.map_append] at hj'
    have : pre.length = (pre.map Fin.val).length := by simp
    rw [this] at hj'
    have := (range_app hj').2
    simpa using this
   rw [h8] at h7
   simpa using h7
  | ret => exact ⟨hkeep, s'.h, hsim s'.h (fun _ _ h => h) hpost.1, fun j hj => hpost.2 (hok j hj), fun m b hb => bkM_isM (hpost.1 m b hb)⟩
  | exit id => exact ⟨hkeep, s'.h, hsim s'.h (fun _ _ h => h) hpost.1, fun j hj => hpost.2 (hok j hj), fun m b hb => bkM_isM (hpost.1 m b hb)⟩
  | goto l => exact hpost.elim
  | panic => exact hpost
  | outgrown => exact hpost
 all_goals
  have hmark : ∀ (D : Nat) (W : World) (M' : Nat → Option Obj) (σ' : Nat → Loc) (hx : List (Nat × Blk)), w.heap.size ≤ D → W.heap[D]? = some (.deferred (some [])) → Sim N W0 (pinX pids σ X) M0 M' σ' (get t0) (get hx) a W → Sim N W0 X M0 (putM D M') σ' (get t0) (get hx) { a with defers := { target := .collected D, args := #[] } :: a.defers } W := fun D W M' σ' hx hD hK h1 =>
   sim_mark h1 hK (by
    cases h0D : M0 D with
    | none => rfl
    | some o => have := hlt D o (hs.sub D o h0D); omega) (Nat.le_trans hs.size hD) (fun d' hd' e => by
    obtain ⟨D', h3, h4⟩ := defs_of hs.defers.1 hd'
    rw [h3] at e
    injection e with e1 _
    injection e1 with e1
    subst e1
    have := hlt _ _ h4
    omega) (fun m x hx => ⟨(hs.pin m x hx).1, (hσP h1 hPp m (hXp m x hx)).trans (hs.pin m x hx).2⟩) hPX hnf
 case done =>
  rintro D xs W hD hS ⟨⟨M', σ', h1, h2⟩, hFm⟩ hK
  have hlen : xs.length = n := by
   have := congrArg List.length hS
   simpa using this
  exact ⟨⟨t0, h0⟩, _, σ', hdone (by have := hFm (by rw [hlen]; exact hS); rwa [hlen] at this), hmark D W M' σ' h0 hD hK h1⟩
 case stop =>
  rintro D c pre W hD ⟨j, hj, hpre⟩ ⟨hx, ⟨M', σ', h1, h2⟩, h3⟩ hK
  have hq2 := h3.1 j hpre
  cases c with
  | ret => exact wpIn_ret ⟨⟨t0, hx⟩, _, σ', hq2, hmark D W M' σ' hx hD hK h1⟩
  | exit id => exact wpIn_exit ⟨⟨t0, hx⟩, _, σ', hq2, hmark D W M' σ' hx hD hK h1⟩
  | _ => exact hq2.elim
end
end Go.Proofs.Ytpnlegfdkkcnlaa
namespace Go.Proofs.Ytpnlegfdkkcnlaa
set_option maxRecDepth 100000
open Go.RowKit
set_option linter.unusedSimpArgs false
set_option linter.unusedVariables false
abbrev IQ := Exit → AS → (World → Prop) → Bool → Prop
def IOk (Ow : Nat → Prop) (n0 : Nat) (al : Bool) (M : Nat → Option Obj) (W0 : World) : Prop := al = true → n0 ≤ W0.heap.size ∧ ∀ b o, M b = some o → ¬ Ow b
def IWp (P : Program) (N : Nat) (Ow : Nat → Prop) (n0 : Nat) (c : Code) (Q : IQ) (s : AS) (J : World → Prop) (al : Bool) : Prop :=
 ∀ W0 M σ a w, (J W0 ∧ a.defers = [] ∧ IOk Ow n0 al M W0) → Sim N W0 noX M M σ (get s.t) (get s.h) a w → c.wpIn (FW none) 0 P (fun e a' w' => ∃ s' J' al' W0' M' σ', Q e s' J' al' ∧ (J' W0' ∧ a'.defers = [] ∧ IOk Ow n0 al' M' W0') ∧ Sim N W0' noX M' M' σ' (get s'.t) (get s'.h) a' w') a w
def ITh (K : AS → (World → Prop) → Bool → Prop) (Q : IQ) : IQ
 | .normal, s, J, M => K s J M
 | e, s, J, M => Q e s J M
def IBl (id : Nat) (Q : IQ) : IQ
 | .exit id', s, J, M => if id' = id then Q .normal s J M else Q (.exit id') s J M
 | e, s, J, M => Q e s J M
theorem tv_dv_no {d : Nat} {v : Tv} (h : v.dv = true) : v.no d = true := by
 cases v with
 | av x => exact av_dv_no h
 | tup l =>
  simp only [Tv.dv, Tv.no, List.all_eq_true] at *
  exact fun x hx => av_dv_no (h x hx)
 | grd g x => cases h
section
variable {P : Program} {N : Nat} {Ow : Nat → Prop} {n0 : Nat} {Q : IQ} {s : AS} {J : World → Prop} {al : Bool} {Mc : Nat → Option Obj}
def flatN (N b : Nat) (m : Nat) : Option Loc := bif Nat.beq m N then some ⟨b, 424242, true⟩ else none
theorem flatN_of {b m : Nat} {x : Loc} (hx : flatN N b m = some x) : m = N ∧ x = ⟨b, 424242, true⟩ := by
 unfold flatN at hx
 cases hb : Nat.beq m N with
 | true => rw [hb] at hx; injection hx with hx; exact ⟨Nat.eq_of_beq_eq_true hb, hx.symm⟩
 | false => rw [hb] at hx; cases hx
theorem flatN_in {b b' : Nat} (h : inX (flatN N b) b') : b' = b := by
 obtain ⟨m, x, h1, h2⟩ := h
 rw [(flatN_of h1).2] at h2
 exact h2.symm
theorem flatN_flat {b : Nat} : Flat (flatN N b) := ⟨N, ⟨b, 424242, true⟩, by unfold flatN; rw [Nat.beq_refl]; rfl, rfl, rfl⟩
theorem sim_flat {W0 w : World} {M : Nat → Option Obj} {σ : Nat → Loc} {a : Act} (hdv : ∀ i v, get s.t i = some v → v.dv = true) (hh : s.h = []) (hd : a.defers = []) (hs : Sim N W0 noX Mc M σ (get s.t) (get s.h) a w) :
  Sim N W0 (flatN N W0.heap.size) Mc M (upd σ N ⟨W0.heap.size, 424242, true⟩) (get s.t) (get s.h) a w := by
 refine ⟨hs.os, hs.tape, hs.output, hs.size, fun b hb _ => hs.old b hb (not_inX b), hs.sub, hs.new, fun m x hx => ?_, ⟨by rw [hd]; trivial, fun _ => hd⟩, hs.room, fun i v hv => RT_mono (fun _ _ h => h) (fun d hd => ?_) (hs.tmps i v hv), hs.imm, fun n b hb => ?_, fun n b hb => ?_, fun n m b c hb => ?_⟩
 ·obtain ⟨rfl, rfl⟩ := flatN_of hx
  exact ⟨Nat.le_refl _, by unfold upd; rw [Nat.beq_refl]; rfl⟩
 ·rw [tv_dv_no (hdv i v hv)] at hd; cases hd
 all_goals rw [hh] at hb; cases hb
theorem sim_unflat {W0 w : World} {M : Nat → Option Obj} {σ : Nat → Loc} {a : Act} {T : Nat → Option Tv} {H : Nat → Option Blk} (h2 : Sim N W0 (flatN N W0.heap.size) Mc M σ T H a w) : a.defers = [] ∧ Sim N W0 noX M M σ T H a w := by
 have hd := h2.defers.2 flatN_flat
 refine ⟨hd, h2.os, h2.tape, h2.output, h2.size, fun b hb _ => h2.old b hb fun h => ?_, fun _ _ h => h, fun b o h h' => (by rw [h] at h'; cases h'), fun m x hx => (by cases hx), ⟨by rw [hd]; trivial, fun _ => hd⟩, h2.room, h2.tmps, h2.imm, h2.blk, fun n b hb => (h2.loc n b hb).imp id fun h => ⟨h.1, ?_⟩, h2.inj⟩
 ·have := flatN_in h; omega
 ·rcases h.2 with h | h
  ·exact .inl h
  ·exact .inl (Nat.le_of_eq (flatN_in h).symm)
theorem iok_new {W0 w : World} {M M' : Nat → Option Obj} {X : Nat → Option Loc} {σ : Nat → Loc} {T : Nat → Option Tv} {H : Nat → Option Blk} {a : Act} (h : IOk Ow n0 al M W0) (hO : ∀ b, Ow b → b < n0) (hs : Sim N W0 X M M' σ T H a w) : IOk Ow n0 al M' W0 := fun ha => by
 obtain ⟨h1, h2⟩ := h ha
 refine ⟨h1, fun b o hb ho => ?_⟩
 cases hM : M b with
 | some o' => exact h2 b o' hM ho
 | none => have := hs.new b o hb hM; have := hO b ho; omega
theorem iw_lift (hO : ∀ b, Ow b → b < n0) {c : Code} (hdv : ∀ i v, get s.t i = some v → v.dv = true) (hh : s.h = []) (h : ∀ W0 X1 M1, AWp P none N W0 X1 M1 c (fun e s' => Q e s' J al) s) : IWp P N Ow n0 c Q s J al := by
 intro W0 M σ a w hJ hs
 refine wpIn_mono (h W0 _ M M _ a w (sim_flat hdv hh hJ.2.1 hs)) ?_
 rintro e a' w' ⟨s', M', σ', h1, h2⟩
 obtain ⟨hd, h3⟩ := sim_unflat h2
 exact ⟨s', J, al, W0, M', σ', h1, ⟨hJ.1, hd, iok_new hJ.2.2 hO h2⟩, h3⟩
theorem iw_seq {x y : Code} (h : IWp P N Ow n0 x (ITh (fun s' J' M' => IWp P N Ow n0 y Q s' J' M') Q) s J al) : IWp P N Ow n0 (.seq x y) Q s J al := by
 intro W0 M σ a w hJ hs
 refine wpIn_seq (wpIn_mono (h W0 M σ a w hJ hs) ?_)
 rintro e a' w' ⟨s', J', al', W0', M', σ', h1, h2, h3⟩
 cases e with
 | normal => exact h1 W0' M' σ' a' w' h2 h3
 | _ => exact ⟨s', J', al', W0', M', σ', h1, h2, h3⟩
theorem iw_block {id : Nat} {c : Code} (h : IWp P N Ow n0 c (IBl id Q) s J al) : IWp P N Ow n0 (.block id c) Q s J al := by
 intro W0 M σ a w hJ hs
 refine wpIn_block (wpIn_mono (h W0 M σ a w hJ hs) ?_)
 rintro e a' w' ⟨s', J', al', W0', M', σ', h1, h2, h3⟩
 cases e with
 | exit id' =>
  simp only [IBl] at h1
  simp only [Exit.inBlock]
  split
  ·rename_i he; rw [if_pos he] at h1; exact ⟨s', J', al', W0', M', σ', h1, h2, h3⟩
  ·rename_i he; rw [if_neg he] at h1; exact ⟨s', J', al', W0', M', σ', h1, h2, h3⟩
 | _ => exact ⟨s', J', al', W0', M', σ', h1, h2, h3⟩
theorem iw_cond {c : Operand} {x y : Code} (b : Bool) (hc : evT (get s.t) c = some (.av (.one (.val (.bool b))))) (h1 : b = true → IWp P N Ow n0 x Q s J al) (h2 : b = false → IWp P N Ow n0 y Q s J al) : IWp P N Ow n0 (.cond c x y) Q s J al := by
 intro W0 M σ a w hJ hs
 have hv : a.eval c = .bool b := (evT_ok hs.tmps hc).1
 exact wpIn_cond_split hv (fun hb => h1 hb W0 M σ a w hJ hs) (fun hb => h2 hb W0 M σ a w hJ hs)
theorem iw_skip (h : Q .normal s J al) : IWp P N Ow n0 .skip Q s J al := fun W0 M σ a w hJ hs => wpIn_skip ⟨s, J, al, W0, M, σ, h, hJ, hs⟩
theorem iw_ret (h : Q .ret s J al) : IWp P N Ow n0 .ret Q s J al := fun W0 M σ a w hJ hs => wpIn_ret ⟨s, J, al, W0, M, σ, h, hJ, hs⟩
theorem iw_exit {id : Nat} (h : Q (.exit id) s J al) : IWp P N Ow n0 (.exit id) Q s J al := fun W0 M σ a w hJ hs => wpIn_exit ⟨s, J, al, W0, M, σ, h, hJ, hs⟩
theorem iw_loop {ι : Type} {c : Code} (S : ι → AS) (Jf : ι → World → Prop) (Inv : ι → Prop) (μ : ι → Nat) (round : ∀ x, Inv x → IWp P N Ow n0 c (ITh (fun s' J' al' => ∃ y, Inv y ∧ μ y < μ x ∧ s' = S y ∧ J' = Jf y ∧ al' = al) Q) (S x) (Jf x) al) (x : ι) (hx : Inv x) : IWp P N Ow n0 (.loop c) Q (S x) (Jf x) al := by
 have key : ∀ n x, μ x < n → Inv x → ∀ W0 M σ a w, (Jf x W0 ∧ a.defers = [] ∧ IOk Ow n0 al M W0) → Sim N W0 noX M M σ (get (S x).t) (get (S x).h) a w → Code.roundsIn (FW none) 0 P c (fun e a' w' => ∃ s' J' al' W0' M' σ', Q e s' J' al' ∧ (J' W0' ∧ a'.defers = [] ∧ IOk Ow n0 al' M' W0') ∧ Sim N W0' noX M' M' σ' (get s'.t) (get s'.h) a' w') n a w := by
  intro n
  induction n with
  | zero => intro x h; omega
  | succ n ih =>
   intro x hlt hx W0 M σ a w hJ hs
   rw [roundsIn_succ]
   refine wpIn_mono (round x hx W0 M σ a w hJ hs) ?_
   rintro e a' w' ⟨s', J', al', W0', M', σ', h1, h2, h3⟩
   cases e with
   | normal =>
    obtain ⟨y, hy, hm, rfl, rfl, rfl⟩ := h1
    exact ih y (by omega) hy W0' M' σ' a' w' h2 h3
   | _ => exact ⟨s', J', al', W0', M', σ', h1, h2, h3⟩
 intro W0 M σ a w hJ hs
 exact wpIn_loop_rounds (μ x + 1) (key (μ x + 1) x (Nat.lt_succ_self _) hx W0 M σ a w hJ hs)
end
def Cl.isV : Cl → Bool
 | .val _ => true
 | _ => false
def Cl.toV : Cl → Value
 | .val v => v
 | _ => undef
def Av.isV : Av → Bool
 | .one c => c.isV
 | .agg l => l.all Cl.isV
def Av.toV : Av → Value
 | .one c => c.toV
 | .agg l => .agg (l.map Cl.toV).toArray
theorem L2_toV {M : Nat → Option Obj} {σ : Nat → Loc} : ∀ {l : List Cl} {vs : List Value}, L2 (R M σ) l vs → l.all Cl.isV = true → vs = l.map Cl.toV
 | [], _, h, _ => by cases h; rfl
 | c :: l, _, h, hv => by
  cases h with
  | cons h1 h2 =>
   simp only [List.all_cons, Bool.and_eq_true] at hv
   rw [L2_toV h2 hv.2]
   cases c with
   | val v => rw [h1.1]; rfl
   | _ => cases hv.1
theorem RA_toV {M : Nat → Option Obj} {σ : Nat → Loc} {x : Av} {V : Value} (h : RA M σ x V) (hv : x.isV = true) : V = x.toV := by
 cases x with
 | one c =>
  cases c with
  | val v => exact h.1
  | _ => cases hv
 | agg l =>
  obtain ⟨vs, rfl, h2⟩ := h
  rw [L2_toV h2 hv]; rfl
theorem toV_RA {M : Nat → Option Obj} {σ : Nat → Loc} {x : Av} (hv : x.isV = true) (ho : ∀ c ∈ x.cells, c.toV.oneCell' = true) : RA M σ x x.toV := by
 cases x with
 | one c =>
  cases c with
  | val v => exact ⟨rfl, ho (.val v) (by simp [Av.cells])⟩
  | _ => cases hv
 | agg l =>
  refine ⟨_, rfl, ?_⟩
  simp only [Av.isV] at hv
  simp only [Av.cells] at ho
  induction l with
  | nil => exact .nil
  | cons c l ih =>
   simp only [List.all_cons, Bool.and_eq_true] at hv
   refine .cons ?_ (ih hv.2 fun c hc => ho c (List.mem_cons_of_mem _ hc))
   cases c with
   | val v => exact ⟨rfl, ho (.val v) (List.mem_cons_self ..)⟩
   | _ => cases hv.1
section
variable {P : Program} {V : Env P} {N : Nat} {W0 : World} {X : Nat → Option Loc} {M0 M : Nat → Option Obj} {σ : Nat → Loc} {w : World} {a : Act}
theorem yield_wp {o : Oper} {c : Call} {f : Operand} {ly : Nat} {xs : List Av} {T : Nat → Option Tv} (hT : ∀ i v, T i = some v → RT M σ v (a.tmps.getD i undef)) (ho : o.op = .call c) (hcf : c.callee = .value f) (hf : evT T f = some (.av (.one (.val (.func (.yield ly) #[] #[]))))) (hxs : argsC (evT T) c.args.toList = some xs) (hv : xs.all Av.isV = true)
  {R : Ending → World → Prop} (hY : YieldAt (FW none) 0 P ly (xs.map Av.toV).toArray w R) {K : Act → World → Prop} {Q : Exit → Act → World → Prop} (hK : ∀ e w', R e w' → ∃ V, e = .returned V ∧ K (a.put o.dst V) w') : o.wpIn (FW none) 0 P a w K Q := by
 obtain ⟨fn, tmps, assign, body, hy, hR⟩ := hY
 refine ⟨fun _ _ => trivial, ?_⟩
 rw [Oper.semAt_eq _ _ _ (fun d h => by rw [ho] at h; cases h)]
 have hfv := (evT_ok hT hf).1
 have hargs := args_ok (fun x v => evT_ok hT) _ _ hxs
 have hmap : c.args.map a.eval = (xs.map Av.toV).toArray := by
  have e : c.args.toList.map a.eval = xs.map Av.toV := by
   clear hxs hy hR
   revert hargs hv
   generalize c.args.toList.map a.eval = vs
   intro hv hargs
   induction hargs with
   | nil => rfl
   | cons h1 _ ih =>
    simp only [List.all_cons, Bool.and_eq_true] at hv
    rw [ih hv.2, List.map_cons, RA_toV h1 hv.1]
  rw [← e]
  apply Array.ext'; simp
 have hres : (execOp a.eval o).run P w = .ok (.round ly fn tmps assign body) w := by
  simp only [execOp, ho, Sem.run_bind, resolve, hcf, hfv, Deferred.ofValue, hmap]
  simpa [invoke] using hy
 rw [hres, Oper.uponIn_round]
 refine ⟨fun h => (by cases h), ?_⟩
 have h1 : RoundIn (FW none) (0 - 1) P ly fn tmps assign body w R := hR
 refine h1.mono ?_
 rintro e w' he
 obtain ⟨V, rfl, hk⟩ := hK e w' he
 exact hk
end
end Go.Proofs.Ytpnlegfdkkcnlaa
namespace Go.Proofs.Ytpnlegfdkkcnlaa
set_option maxRecDepth 100000
open Go.RowKit
set_option linter.unusedSimpArgs false
set_option linter.unusedVariables false
section
variable {P : Program} {V : Env P} {rd : Option Nat} {N : Nat} {W0 : World} {X : Nat → Option Loc} {M0 : Nat → Option Obj} {l1 l2 : List Oper} {o : Oper} {s0 : AS}
theorem getD_tf {L : Array Bool} {j : Nat} (h : j < L.size) : L.getD j true = L.getD j false := by simp [h]
theorem closed_head {l r : List Oper} {L : Array Bool} (h : Closed (l ++ r) L) : Closed l L := fun j o ho => h j o (by rw [List.getElem?_append_left (List.getElem?_eq_some_iff.1 ho).1]; exact ho)
theorem head_any (hV : EnvOk P V) (hrun : RunsOk P V N l1 s0) (hback1 : backB l1 = true) (hord : Ordered P V N l1 s0 (fun j i => ((masks l1 []).getD j 0).testBit i = true)) (hback : backB (l1 ++ o :: l2) = true)
  (hk : ∀ j, j < l1.length → ((masks (l1 ++ o :: l2) []).getD l1.length 0).testBit j = true) (hlater : ∀ i, l1.length < i → i < (l1 ++ o :: l2).length → ((masks (l1 ++ o :: l2) []).getD i 0).testBit l1.length = true) (hg : ∀ x ∈ l1, x.guard = none)
  {Q : Exit → Act → World → Prop} (hlast : ∀ (f : Nat) (L : Array Bool) (a : Act) (w : World), L.size = (l1 ++ o :: l2).length → (∀ j, L.getD j false = decide (j < l1.length)) → (List.range (l1 ++ o :: l2).length).countP (fun j => !L.getD j false) ≤ f + 1 →
   (∃ M σ, Sim N W0 X M0 M σ (get (stN P V N l1 s0 l1.length).t) (get (stN P V N l1 s0 l1.length).h) a w) → wpOpIn (FW rd) 0 P (l1 ++ o :: l2).toArray Q l1.length (wpAnyIn (FW rd) 0 P .any (l1 ++ o :: l2).toArray Q f (L.setIfInBounds l1.length true)) a w) :
  ∀ (f : Nat) (L : Array Bool) (a : Act) (w : World), L.size = (l1 ++ o :: l2).length → Closed (l1 ++ o :: l2) L → (∀ j, l1.length ≤ j → L.getD j false = false) → (List.range (l1 ++ o :: l2).length).countP (fun j => !L.getD j false) ≤ f → InvL P V N W0 X M0 l1 s0 L a w → wpAnyIn (FW rd) 0 P .any (l1 ++ o :: l2).toArray Q f L a w := by
 have hlen : (l1 ++ o :: l2).length = l1.length + (l2.length + 1) := by simp
 intro f
 induction f with
 | zero =>
  intro L a w hsz hcl hno hcnt hinv
  exfalso
  have h0 : (List.range (l1 ++ o :: l2).length).countP (fun j => !L.getD j false) = 0 := by omega
  rw [List.countP_eq_zero] at h0
  have := h0 l1.length (List.mem_range.2 (by omega))
  rw [hno _ (Nat.le_refl _)] at this
  simp at this
 | succ f ih =>
  intro L a w hsz hcl hno hcnt hinv
  have anc := fun i o' ho' hpre => closed_anc hback hcl (i + 1) i (Nat.lt_succ_self _) o' ho' hpre
  have allready : ∀ n j, j < n → j < (l1 ++ o :: l2).length → Region.ready .any (l1 ++ o :: l2).toArray L = [] → L.getD j false = true := by
   intro n
   induction n with
   | zero => intro j h; omega
   | succ n ihn =>
    intro j hj hjl hr
    cases hd : L.getD j false with
    | true => rfl
    | false =>
     have ho := List.getElem?_eq_getElem hjl
     have : j ∈ Region.ready .any (l1 ++ o :: l2).toArray L := by
      rw [mem_ready]
      refine ⟨?_, (l1 ++ o :: l2)[j], by simp, fun e he hb => ?_⟩
      ·have hj' : j < L.size := by omega
       simp [hj'] at hd ⊢; exact hd
      ·have h1 := (List.all_eq_true.1 hback) ((l1 ++ o :: l2)[j], j) (List.mem_zipIdx_iff_getElem?.2 ho)
       have h2 := (List.all_eq_true.1 h1) e (by simpa using he)
       simp only [hb, Bool.not_true, Bool.false_or] at h2
       have hlt := Nat.le_of_ble_eq_true h2
       exact ihn e.on (by omega) (by omega) hr
     rw [hr] at this; cases this
  refine ⟨fun hr => ?_, fun i hi => ?_⟩
  ·exfalso
   have := allready (l1.length + 1) l1.length (by omega) (by omega) hr
   rw [hno _ (Nat.le_refl _)] at this; cases this
  ·rw [mem_ready] at hi
   obtain ⟨h1, oi, hoi, hpre⟩ := hi
   have ho' : (l1 ++ o :: l2)[i]? = some oi := by simpa using hoi
   have hil : i < (l1 ++ o :: l2).length := (List.getElem?_eq_some_iff.1 ho').1
   have hun : L.getD i false = false := by
    have hi' : i < L.size := by omega
    simp [hi'] at h1 ⊢; exact h1
   rcases Nat.lt_trichotomy i l1.length with hlt | heq | hgt
   ·have ho1 : l1[i]? = some oi := by rw [List.getElem?_append_left hlt] at ho'; exact ho'
    unfold wpOpIn
    rw [hoi]
    have hfin := draw_step (rd := rd) (a := a) (w := w) (Q := Q) (K := wpAnyIn (FW rd) 0 P .any (l1 ++ o :: l2).toArray Q f (L.setIfInBounds i true)) hV hrun hback1 hord (by omega) (closed_head hcl) hinv ho1 hun hpre fun a' w' hinv' => by
     refine ih _ a' w' (by simp [hsz]) ?_ (fun j hj => ?_) ?_ hinv'
     ·intro j oj hj hd e he hb
      by_cases hji : j = i
      ·subst hji
       rw [ho'] at hj; injection hj with hj; subst hj
       exact getD_set_true (hpre e he hb)
      ·rw [getD_set_ne false (Ne.symm hji)] at hd
       exact getD_set_true (hcl j oj hj hd e he hb)
     ·rw [getD_set_ne false (by omega)]; exact hno j hj
     ·have hlt2 : (List.range (l1 ++ o :: l2).length).countP (fun j => !(L.setIfInBounds i true).getD j false) < (List.range (l1 ++ o :: l2).length).countP (fun j => !L.getD j false) := by
       refine countP_lt ?_ (List.mem_range.2 hil) ?_ ?_
       ·intro j _ hj
        by_cases hji : i = j
        ·subst hji; simp [show i < L.size by omega] at hj
        ·rwa [getD_set_ne false hji] at hj
       ·rw [hun]; rfl
       ·simp [show i < L.size by omega]
      omega
    have hgi : oi.guard = none := hg oi (List.mem_of_getElem? ho1)
    have hw : ∀ ys, Region.wanted oi ys = true := fun ys => by simp [Region.wanted, hgi]
    simp only [hw, if_true] at hfin ⊢
    exact hfin
   ·subst heq
    have hall : ∀ j, L.getD j false = decide (j < l1.length) := fun j => by
     by_cases hj : j < l1.length
     ·rw [decide_eq_true hj]
      exact (anc l1.length oi ho' hpre j (hk j hj)).1
     ·rw [decide_eq_false hj]
      exact hno j (by omega)
    refine hlast f L a w hsz hall hcnt ?_
    obtain ⟨M, σ, T, H, hs, hT, hH⟩ := hinv
    have eT : T = get (stN P V N l1 s0 l1.length).t := by
     funext x
     obtain ⟨k, hk2, hag, he⟩ := hT x
     rw [he]
     refine same_t hrun hk2 (Nat.le_refl _) hag fun j oj hj hd => ?_
     have hjl : j < l1.length := (List.getElem?_eq_some_iff.1 hj).1
     exact ⟨fun _ => hjl, fun _ => by rw [hall, decide_eq_true hjl]⟩
    have eH : H = get (stN P V N l1 s0 l1.length).h := by
     funext x
     obtain ⟨k, hk2, hag, he⟩ := hH x
     rw [he]
     refine same_h hrun hk2 (Nat.le_refl _) hag fun j oj hj hd => ?_
     have hjl : j < l1.length := (List.getElem?_eq_some_iff.1 hj).1
     exact ⟨fun _ => hjl, fun _ => by rw [hall, decide_eq_true hjl]⟩
    rw [eT, eH] at hs
    exact ⟨M, σ, hs⟩
   ·exfalso
    have := (anc i oi ho' hpre l1.length (hlater i hgt hil)).1
    rw [hno _ (Nat.le_refl _)] at this; cases this
theorem tail_any (hback : backB (l1 ++ o :: l2) = true) (h2 : l2.length ≤ 1) {Q : Exit → Act → World → Prop} {f : Nat} {L : Array Bool} {a : Act} {w : World} (hsz : L.size = (l1 ++ o :: l2).length) (hall : ∀ j, L.getD j false = decide (j < l1.length)) (hcnt : (List.range (l1 ++ o :: l2).length).countP (fun j => !L.getD j false) ≤ f + 1)
  (hg : ∀ x ∈ l2, x.guard = none) (hQ1 : l2 = [] → Q .normal a w) (hQ2 : ∀ u, l2 = [u] → u.wpIn (FW rd) 0 P a w (fun a' w' => Q .normal a' w') Q) : wpAnyIn (FW rd) 0 P .any (l1 ++ o :: l2).toArray Q f (L.setIfInBounds l1.length true) a w := by
 have hL1 : ∀ j, (L.setIfInBounds l1.length true).getD j false = decide (j < l1.length + 1) := fun j => by
  by_cases hj : l1.length = j
  ·subst hj
   have hlt : l1.length < L.size := by rw [hsz]; simp
   simp [hlt]
  ·rw [getD_set_ne false hj, hall]
   exact decide_eq_decide.2 (by omega)
 have hdone : ∀ (L' : Array Bool) (f' : Nat) (a' : Act) (w' : World), L'.size = (l1 ++ o :: l2).length → (∀ j, j < (l1 ++ o :: l2).length → L'.getD j false = true) → Q .normal a' w' → wpAnyIn (FW rd) 0 P .any (l1 ++ o :: l2).toArray Q f' L' a' w' := by
  intro L' f' a' w' hs' hd' hq
  have hr : Region.ready .any (l1 ++ o :: l2).toArray L' = [] := by
   rw [List.eq_nil_iff_forall_not_mem]
   intro j hj
   rw [mem_ready] at hj
   obtain ⟨h1, oj, hoj, _⟩ := hj
   have hjl : j < (l1 ++ o :: l2).length := (List.getElem?_eq_some_iff.1 (by simpa using hoj : (l1 ++ o :: l2)[j]? = some oj)).1
   have := hd' j hjl
   have hj' : j < L'.size := by omega
   simp [hj'] at h1 this
   rw [h1] at this; cases this
  cases f' with
  | zero => exact ⟨hr, hq⟩
  | succ f' => exact ⟨fun _ => hq, fun i hi => by rw [hr] at hi; cases hi⟩
 cases l2 with
 | nil => exact hdone _ _ _ _ (by simpa using hsz) (fun j hj => by rw [hL1]; simp at hj; exact decide_eq_true hj) (hQ1 rfl)
 | cons u r =>
  have hr0 : r = [] := by
   cases r with
   | nil => rfl
   | cons => simp at h2
  subst hr0
  have hlen : (l1 ++ o :: [u]).length = l1.length + 2 := by simp
  cases f with
  | zero =>
   exfalso
   have hlt : (List.range (l1 ++ o :: [u]).length).countP (fun j => !(L.setIfInBounds l1.length true).getD j false) < (List.range (l1 ++ o :: [u]).length).countP (fun j => !L.getD j false) := by
    refine countP_lt ?_ (List.mem_range.2 (show l1.length < _ by omega)) ?_ ?_
    ·intro j _ hj
     rw [hL1] at hj
     rw [hall]
     simp at hj ⊢; omega
    ·rw [hall]; simp
    ·rw [hL1]; simp
   have h0 : (List.range (l1 ++ o :: [u]).length).countP (fun j => !(L.setIfInBounds l1.length true).getD j false) = 0 := by omega
   rw [List.countP_eq_zero] at h0
   have := h0 (l1.length + 1) (List.mem_range.2 (by omega))
   rw [hL1] at this
   simp at this
  | succ f =>
   have hu : (l1 ++ o :: [u])[l1.length + 1]? = some u := by rw [List.getElem?_append_right (by omega)]; simp
   refine ⟨fun hr => ?_, fun i hi => ?_⟩
   ·exfalso
    have : l1.length + 1 ∈ Region.ready .any (l1 ++ o :: [u]).toArray (L.setIfInBounds l1.length true) := by
     rw [mem_ready]
     refine ⟨?_, u, by simp, fun e he hb => ?_⟩
     ·rw [getD_tf (by simp [hsz]), hL1]
      exact decide_eq_false (by omega)
     ·have h1 := (List.all_eq_true.1 hback) (u, l1.length + 1) (List.mem_zipIdx_iff_getElem?.2 hu)
      have h3 := (List.all_eq_true.1 h1) e (by simpa using he)
      simp only [hb, Bool.not_true, Bool.false_or] at h3
      have hlt := Nat.le_of_ble_eq_true h3
      rw [hL1]
      exact decide_eq_true (by omega)
    rw [hr] at this; cases this
   ·rw [mem_ready] at hi
    obtain ⟨h1, oi, hoi, hpre⟩ := hi
    have ho' : (l1 ++ o :: [u])[i]? = some oi := by simpa using hoi
    have hil : i < (l1 ++ o :: [u]).length := (List.getElem?_eq_some_iff.1 ho').1
    have hi1 : i = l1.length + 1 := by
     have h3 := hL1 i
     have h4 : i < (L.setIfInBounds l1.length true).size := by simp [hsz]; omega
     rw [getD_tf h4, h3] at h1
     have h5 := of_decide_eq_false h1
     omega
    subst hi1
    rw [hu] at ho'; injection ho' with ho'; subst ho'
    unfold wpOpIn
    rw [hoi]
    have hw : ∀ ys, Region.wanted u ys = true := fun ys => by simp [Region.wanted, hg u (by simp)]
    simp only [hw, if_true]
    refine Oper.wpIn_mono (fun a' w' hq => hdone _ _ _ _ (by simp [hsz]) (fun j hj => ?_) hq) (hQ2 u rfl)
    by_cases hji : l1.length + 1 = j
    ·subst hji
     have h4 : l1.length + 1 < (L.setIfInBounds l1.length true).size := by simp [hsz]
     simp at h4
     simp [h4]
    ·rw [getD_set_ne false hji, hL1]
     exact decide_eq_true (by omega)
end
def noM : Nat → Option Obj := fun _ => none
def celM (M : Nat → Option Obj) (b : Nat) : Option Obj := match M b with
 | some (.cells c t f) => some (.cells c t f)
 | _ => none
theorem celM_of {M : Nat → Option Obj} {b : Nat} {o : Obj} (h : celM M b = some o) : M b = some o ∧ o.isCells = true := by
 unfold celM at h
 cases hM : M b with
 | none => rw [hM] at h; cases h
 | some o' =>
  rw [hM] at h
  cases o' with
  | cells c t f => injection h with h; subst h; exact ⟨rfl, rfl⟩
  | _ => cases h
theorem celM_cells {M : Nat → Option Obj} (b : Nat) (c : Array Value) (t : TypeId) (f : Nat × Nat) (h : M b = some (.cells c t f)) : celM M b = some (.cells c t f) := by unfold celM; rw [h]
def maskB (l1 : List Oper) (o : Oper) (l2 : List Oper) : Bool :=
 backB (l1 ++ o :: l2) && ((List.range l1.length).all fun j => ((masks (l1 ++ o :: l2) []).getD l1.length 0).testBit j) && ((List.range l2.length).all fun j => ((masks (l1 ++ o :: l2) []).getD (l1.length + 1 + j) 0).testBit l1.length) &&
 (l1 ++ o :: l2).all fun x => match x.guard with | none => true | some _ => false
section
variable {P : Program} {N : Nat} {Ow : Nat → Prop} {n0 : Nat} {Q : IQ} {s : AS} {J : World → Prop}
theorem iw_yield (hO : ∀ b, Ow b → b < n0) (hm : P.follows .mixedOrders = true) {E : TypeId → Option (List Kd)} (hE : EqOk P ⟨fun _ => none, E, fun _ => false, fun _ => none⟩) {id : Nat} (l1 : List Oper) (o : Oper) (l2 : List Oper) (ow : List Nat) (qs : List (Nat × (Bool × Nat))) (ts ts2 : List Nat) (cs : List Prop) (T1 : List (Nat × Tv))
  (hr : runK P ⟨getO [], E, memO ow, get qs⟩ N l1 ts [] s = some (cs, ⟨T1, []⟩)) (hdraw : drawB P ⟨getO [], E, memO ow, get qs⟩ N l1 s = true) (hc : AllP cs) (hms : maskB l1 o l2 = true) (h2 : l2.length ≤ 1) {c : Call} {f : Operand} {ly d : Nat} (xs : List Av) (ho : o.op = .call c) (hcf : c.callee = .value f)
  (hf : evT (get T1) f = some (.av (.one (.val (.func (.yield ly) #[] #[]))))) (hxs : argsC (evT (get T1)) c.args.toList = some xs) (hv : xs.all Av.isV = true) (hod : o.dst = some d) (hdN : Nat.blt d N = true) (hT1 : ∀ i v, get T1 i = some v → v.dv = true ∧ TvM v)
  (hJg : ∀ A B, J A → A.grownBy B none → J B) (Jt Jf : World → Prop)
  (hY : ∀ W, J W → YieldAt (FW none) 0 P ly (xs.map Av.toV).toArray W (fun e W' => (e = .returned (.bool true) ∧ Jt W' ∧ KpS Ow W W') ∨ (e = .returned (.bool false) ∧ Jf W')))
  (c2 c3 : List Prop) (St Sf : AS) (h2t : runK P ⟨getO [], E, memO ow, get qs⟩ N l2 ts2 [] ⟨(d, tB true) :: T1, []⟩ = some (c2, St)) (hc2 : AllP c2) (h2f : runK P ⟨getO [], E, memO ow, get qs⟩ N l2 ts2 [] ⟨[(d, tB false)], []⟩ = some (c3, Sf)) (hc3 : AllP c3)
  (hQt : Q .normal St Jt true) (hQf : Q .normal Sf Jf false) (hdv : ∀ i v, get s.t i = some v → v.dv = true) (hh : s.h = []) : IWp P N Ow n0 (.region id (l1 ++ o :: l2).toArray true) Q s J true := by
 have hV : EnvOk P ⟨getO [], E, memO ow, get qs⟩ := (TblOk.nil (P := P)).env (O := memO ow) (q := get qs) hE
 simp only [maskB, Bool.and_eq_true] at hms
 obtain ⟨⟨⟨hback, hk⟩, hl⟩, hgs⟩ := hms
 have hguard : ∀ x ∈ l1 ++ o :: l2, x.guard = none := fun x hx => by
  have := List.all_eq_true.1 hgs x hx
  cases hg : x.guard with
  | none => rfl
  | some _ => rw [hg] at this; cases this
 intro W0 M σ a w hJ hs
 have hK : ∀ {l : List Oper} {u : List Nat} {a b : AS} {cc : List Prop}, runK P ⟨getO [], E, memO ow, get qs⟩ N l u [] a = some (cc, b) → ∃ b1, runL P ⟨getO [], E, memO ow, get qs⟩ N l.toArray l a = some (cc, b1) ∧ keepS u [] b1 = b := by
  intro l u a b cc h
  unfold runK at h
  split at h
  ·rename_i c1 b1 h1
   simp only [Option.some.injEq, Prod.mk.injEq] at h
   obtain ⟨rfl, h⟩ := h
   exact ⟨b1, h1, h⟩
  ·cases h
 obtain ⟨s1, hr1, hkeep⟩ := hK hr
 obtain ⟨e1, hruns⟩ := stN_of_run (s0 := s) l1 0 s s1 cs (fun j => by rw [Nat.zero_add]) rfl hr1 hc
 simp only [Nat.zero_add] at e1 hruns
 obtain ⟨hback1, hord⟩ := ordered_of hdraw
 have hs1 := sim_flat hdv hh hJ.2.1 hs
 have hs0 : Sim N W0 (flatN N W0.heap.size) M M (upd σ N ⟨W0.heap.size, 424242, true⟩) (get s.t) (get s.h) a { w with drawn := w.drawn + 1 } := ⟨hs1.os, hs1.tape, hs1.output, hs1.size, hs1.old, hs1.sub, hs1.new, hs1.pin, hs1.defers, hs1.room, hs1.tmps, hs1.imm, fun n b hb => (hs1.blk n b hb).mono (fun _ _ h => h) (fun _ _ => rfl) (fun _ => rfl), hs1.loc, hs1.inj⟩
 have hrep : ∀ (n j : Nat), (Array.replicate n false).getD j false = false := fun n j => by
  by_cases hj' : j < n
  ·simp [hj']
  ·simp [hj']
 have hinv : InvL P ⟨getO [], E, memO ow, get qs⟩ N W0 (flatN N W0.heap.size) M l1 s (Array.replicate (l1 ++ o :: l2).toArray.size false) a { w with drawn := w.drawn + 1 } :=
  ⟨M, _, get s.t, get s.h, hs0, fun x => ⟨0, Nat.zero_le _, fun j o hj hd => ⟨fun hh => (by rw [hrep] at hh; cases hh), fun hh => absurd hh (by omega)⟩, rfl⟩, fun m => ⟨0, Nat.zero_le _, fun j o hj hd => ⟨fun hh => (by rw [hrep] at hh; cases hh), fun hh => absurd hh (by omega)⟩, rfl⟩⟩
 refine wpIn_region_any hm (head_any (rd := none) hV hruns hback1 hord hback (fun j hj => List.all_eq_true.1 hk j (List.mem_range.2 hj)) (fun i h3 h4 => ?_) (fun x hx => hguard x (List.mem_append_left _ hx)) (fun f L a1 w1 hsz hall hcnt hsim => ?_) _ _ a _ (by simp) (fun j oj _ hd => by rw [hrep] at hd; cases hd) (fun j _ => hrep _ j) (Nat.le_trans List.countP_le_length (by simp)) hinv)
 ·have := List.all_eq_true.1 hl (i - (l1.length + 1)) (List.mem_range.2 (by simp at h4; omega))
  rwa [show l1.length + 1 + (i - (l1.length + 1)) = i by omega] at this
 ·obtain ⟨M1, σ1, hs2⟩ := hsim
  rw [← e1] at hs2
  have hs2 := sim_keep hs2 ts []
  rw [hkeep] at hs2
  obtain ⟨hd1, hs3⟩ := sim_unflat hs2
  have hgrow : W0.grownBy w1 none := { os := hs3.os, tape := hs3.tape, output := hs3.output, size := hs3.size, block := fun b hb _ => hs3.old b hb (not_inX b) }
  have hJ1 := hJg W0 w1 hJ.1 hgrow
  have hiok := iok_new hJ.2.2 hO hs2
  have hok : (l1 ++ o :: l2).toArray[l1.length]? = some o := by simp
  unfold wpOpIn
  rw [hok]
  have hw : ∀ ys, Region.wanted o ys = true := fun ys => by simp [Region.wanted, hguard o (by simp)]
  simp only [hw, if_true]
  have hdN' : d < N := by have := Nat.le_of_ble_eq_true hdN; omega
  have hput : ∀ (b : Bool) (T : List (Nat × Tv)) (M' : Nat → Option Obj) (σ' : Nat → Loc), (∀ i v, get T i = some v → RT M' σ' v (a1.tmps.getD i undef)) → ∀ i v, get ((d, tB b) :: T) i = some v → RT M' σ' v ((a1.put o.dst (.bool b)).tmps.getD i undef) := fun b T M' σ' hT i v hv => by
   have hds : d < a1.tmps.size := by rw [hs3.room]; exact hdN'
   simp only [get, beqN] at hv
   rw [hod]
   by_cases hi : d = i
   ·subst hi
    simp at hv; subst hv
    have : (a1.put (some d) (.bool b)).tmps.getD d undef = .bool b := by simp [Act.put, Array.getD_eq_getD_getElem?, hds]
    rw [this]
    exact ⟨rfl, rfl⟩
   ·simp [hi] at hv
    have : (a1.put (some d) (.bool b)).tmps.getD i undef = a1.tmps.getD i undef := by simp [Act.put, Array.getD_eq_getD_getElem?, Array.getElem?_setIfInBounds, hi]
    rw [this]; exact hT i v hv
  have hsize : ∀ b : Bool, (a1.put o.dst (.bool b)).tmps.size = N := fun b => by rw [hod]; simpa [Act.put] using hs3.room
  have hdef : ∀ b : Bool, (a1.put o.dst (.bool b)).defers = [] := fun b => by rw [hod]; simpa [Act.put] using hd1
  have hgo : ∀ (b : Bool) (w2 : World) (T : List (Nat × Tv)) (Mn : Nat → Option Obj) (S2 : AS) (cx : List Prop) (J2 : World → Prop) (al2 : Bool), IOk Ow n0 al2 Mn w2 → (∀ i v, get T i = some v → v.dv = true) → (∀ i v, get T i = some v → RT Mn σ1 v (a1.tmps.getD i undef)) → (∀ b o, Mn b = some o → w2.heap[b]? = some o) →
    runK P ⟨getO [], E, memO ow, get qs⟩ N l2 ts2 [] ⟨(d, tB b) :: T, []⟩ = some (cx, S2) → AllP cx → Q .normal S2 J2 al2 → J2 w2 →
    wpAnyIn (FW none) 0 P .any (l1 ++ o :: l2).toArray (fun e a' w' => ∃ s' J' al' W0' M' σ', Q e s' J' al' ∧ (J' W0' ∧ a'.defers = [] ∧ IOk Ow n0 al' M' W0') ∧ Sim N W0' noX M' M' σ' (get s'.t) (get s'.h) a' w') f (L.setIfInBounds l1.length true) (a1.put o.dst (.bool b)) w2 := by
   intro b w2 T Mn S2 cx J2 al2 hiok2 hdvT hT himm2 hrun2 hcx hQ2 hJ2
   have hs4 : Sim N w2 noX Mn Mn σ1 (get ((d, tB b) :: T)) (get []) (a1.put o.dst (.bool b)) w2 := ⟨rfl, rfl, rfl, Nat.le_refl _, fun _ _ _ => rfl, fun _ _ h => h, fun b o h h' => (by rw [h] at h'; cases h'), fun m x hx => (by cases hx), ⟨by rw [hdef b]; trivial, fun _ => hdef b⟩, hsize b, hput b T Mn σ1 hT, himm2, fun n b hb => (by cases hb), fun n b hb => (by cases hb), fun n m b c hb => (by cases hb)⟩
   have hdv2 : ∀ i v, get ((d, tB b) :: T) i = some v → v.dv = true := fun i v hv => by
    simp only [get, beqN] at hv
    by_cases hi : d = i
    ·subst hi; simp at hv; subst hv; rfl
    ·simp [hi] at hv; exact hdvT i v hv
   have hs5 := sim_flat (s := ⟨(d, tB b) :: T, []⟩) hdv2 rfl (hdef b) hs4
   refine tail_any hback h2 hsz hall hcnt (fun x hx => hguard x (by simp [hx])) (fun h0 => ?_) (fun u h0 => ?_)
   ·subst h0
    obtain ⟨b1, hb1, hb2⟩ := hK hrun2
    simp only [runL, Option.some.injEq, Prod.mk.injEq] at hb1
    obtain ⟨_, rfl⟩ := hb1
    refine ⟨S2, J2, al2, w2, Mn, σ1, hQ2, ⟨hJ2, hdef b, hiok2⟩, ?_⟩
    rw [← hb2]
    exact sim_keep (s := ⟨(d, tB b) :: T, []⟩) hs4 ts2 []
   ·subst h0
    obtain ⟨b1, hb1, hb2⟩ := hK hrun2
    have hlist := runL_ok (rd := none) hV (ops := [u].toArray) (Q' := fun e a' w' => ∃ s' J' al' W0' M' σ', Q e s' J' al' ∧ (J' W0' ∧ a'.defers = [] ∧ IOk Ow n0 al' M' W0') ∧ Sim N W0' noX M' M' σ' (get s'.t) (get s'.h) a' w') [u] _ b1 cx hb1 hcx _ _ _ _ hs5 fun M' σ' a' w' hs6 => by
     have hs6 := sim_keep hs6 ts2 []
     rw [hb2] at hs6
     obtain ⟨hd6, hs7⟩ := sim_unflat hs6
     exact ⟨S2, J2, al2, w2, M', σ', hQ2, ⟨hJ2, hd6, iok_new hiok2 hO hs6⟩, hs7⟩
    have hwu : ∀ ys, Region.wanted u ys = true := fun ys => by simp [Region.wanted, hguard u (by simp)]
    unfold wpListIn at hlist
    simp only [hwu, if_true] at hlist
    exact hlist
  refine yield_wp hs3.tmps ho hcf hf hxs hv (hY w1 hJ1) fun e w2 he => ?_
  rcases he with ⟨rfl, h5, h6⟩ | ⟨rfl, h5⟩
  ·refine ⟨_, rfl, hgo true w2 T1 (celM M1) St c2 Jt true (fun _ => ⟨?_, fun b o' h => ?_⟩) (fun i v hv => (hT1 i v hv).1) (fun i v hv => RT_cut celM_cells (hs3.tmps i v hv) (hT1 i v hv).2) (fun b o' h => ?_) h2t hc2 hQt h5⟩
   ·exact Nat.le_trans (hiok rfl).1 (Nat.le_trans hs3.size h6.1)
   ·exact (hiok rfl).2 b o' (celM_of h).1
   ·exact h6.2 b o' (hs3.imm b o' (celM_of h).1) (celM_of h).2 ((hiok rfl).2 b o' (celM_of h).1)
  ·exact ⟨_, rfl, hgo false w2 [] noM Sf c3 Jf false (fun h => by cases h) (fun i v hv => by cases hv) (fun i v hv => by cases hv) (fun b o' h => by cases h) h2f hc3 hQf h5⟩
theorem iw_yieldK (hO : ∀ b, Ow b → b < n0) (hm : P.follows .mixedOrders = true) {E : TypeId → Option (List Kd)} (hE : EqOk P ⟨fun _ => none, E, fun _ => false, fun _ => none⟩) {id : Nat} {l : List Oper} (k : Nat) {o : Oper} (ho1 : l[k]? = some o) (ow : List Nat) (qs : List (Nat × (Bool × Nat))) (ts ts2 : List Nat) (cs : List Prop) (T1 : List (Nat × Tv))
  (hr : runK P ⟨getO [], E, memO ow, get qs⟩ N (l.take k) ts [] s = some (cs, ⟨T1, []⟩)) (hdraw : drawB P ⟨getO [], E, memO ow, get qs⟩ N (l.take k) s = true) (hc : AllP cs) (hms : maskB (l.take k) o (l.drop (k + 1)) = true) (h2 : Nat.ble (l.drop (k + 1)).length 1 = true) {c : Call} {f : Operand} {ly d : Nat} (xs : List Av) (ho : o.op = .call c) (hcf : c.callee = .value f)
  (hf : evT (get T1) f = some (.av (.one (.val (.func (.yield ly) #[] #[]))))) (hxs : argsC (evT (get T1)) c.args.toList = some xs) (hv : xs.all Av.isV = true) (hod : o.dst = some d) (hdN : Nat.blt d N = true) (hT1 : ∀ i v, get T1 i = some v → v.dv = true ∧ TvM v)
  (hJg : ∀ A B, J A → A.grownBy B none → J B) (Jt Jf : World → Prop)
  (hY : ∀ W, J W → YieldAt (FW none) 0 P ly (xs.map Av.toV).toArray W (fun e W' => (e = .returned (.bool true) ∧ Jt W' ∧ KpS Ow W W') ∨ (e = .returned (.bool false) ∧ Jf W')))
  (c2 c3 : List Prop) (St Sf : AS) (h2t : runK P ⟨getO [], E, memO ow, get qs⟩ N (l.drop (k + 1)) ts2 [] ⟨(d, tB true) :: T1, []⟩ = some (c2, St)) (hc2 : AllP c2) (h2f : runK P ⟨getO [], E, memO ow, get qs⟩ N (l.drop (k + 1)) ts2 [] ⟨[(d, tB false)], []⟩ = some (c3, Sf)) (hc3 : AllP c3)
  (hQt : Q .normal St Jt true) (hQf : Q .normal Sf Jf false) (hdv : ∀ i v, get s.t i = some v → v.dv = true) (hh : s.h = []) : IWp P N Ow n0 (.region id l.toArray true) Q s J true := by
 have e : l = l.take k ++ o :: l.drop (k + 1) := by
  obtain ⟨hk, ho2⟩ := List.getElem?_eq_some_iff.1 ho1
  rw [← ho2, List.getElem_cons_drop, List.take_append_drop]
 have := iw_yield (id := id) hO hm hE (l.take k) o (l.drop (k + 1)) ow qs ts ts2 cs T1 hr hdraw hc hms (Nat.le_of_ble_eq_true h2) xs ho hcf hf hxs hv hod hdN hT1 hJg Jt Jf hY c2 c3 St Sf h2t hc2 h2f hc3 hQt hQf hdv hh
 rwa [← e] at this
theorem ith_n {K : AS → (World → Prop) → Bool → Prop} {Q : IQ} {s : AS} {J : World → Prop} {al : Bool} (h : K s J al) : ITh K Q .normal s J al := h
theorem ith_x {K : AS → (World → Prop) → Bool → Prop} {Q : IQ} {s : AS} {J : World → Prop} {al : Bool} {id : Nat} (h : Q (.exit id) s J al) : ITh K Q (.exit id) s J al := h
theorem ibl_n {Q : IQ} {s : AS} {J : World → Prop} {al : Bool} {id : Nat} (h : Q .normal s J al) : IBl id Q .normal s J al := h
theorem ibl_hit {Q : IQ} {s : AS} {J : World → Prop} {al : Bool} {id : Nat} (h : Q .normal s J al) : IBl id Q (.exit id) s J al := by simp only [IBl, if_true]; exact h
theorem forall_get {α : Type} {p : α → Prop} : ∀ {l : List (Nat × α)}, (∀ x ∈ l, p x.2) → ∀ i v, get l i = some v → p v
 | [], _, _, _, h => by cases h
 | (k, x) :: l, h, i, v, hv => by
  simp only [get, beqN] at hv
  by_cases hi : k = i
  ·subst hi; simp at hv; subst hv; exact h (k, x) (List.mem_cons_self ..)
  ·simp [hi] at hv; exact forall_get (fun y hy => h y (List.mem_cons_of_mem _ hy)) i v hv
theorem nm_lst {α : Type} [Inhabited α] {sz : Nat} {c : α → List Cl} {xs : List α} (h : ∀ x, ∀ y ∈ c x, NM y) : NM (lst sz c xs) := by
 refine .list _ _ _ _ fun i j => ?_
 rw [List.getD_eq_getElem?_getD]
 cases hj : (c (xs.getD i default))[j]? with
 | none => exact .val _
 | some y => exact h _ y (List.mem_of_getElem? hj)
theorem nm_box {L : List Cl} {sz len i off : Nat} (h : ∀ y ∈ L, NM y) : NM (.eptr sz len (fun _ j => (L : List Cl).getD j default) i off) := by
 refine .eptr _ _ _ _ _ fun _ j => ?_
 show NM (L.getD j default)
 rw [List.getD_eq_getElem?_getD]
 cases hj : L[j]? with
 | none => exact .val _
 | some y => exact h y (List.mem_of_getElem? hj)
theorem bkM {l : List Cl} {ty : TypeId} (h : ∀ c ∈ l, NM c) : BkM (.cells l ty) := h
theorem nm_clo {g : FuncId} {k : Nat} {L : List Cl} (h : ∀ y ∈ L, NM y) : NM (.clo g k (listF L)) := by
 refine .clo _ _ _ fun i => ?_
 show NM (L.getD i default)
 rw [List.getD_eq_getElem?_getD]
 cases hj : L[i]? with
 | none => exact .val _
 | some y => exact h y (List.mem_of_getElem? hj)
theorem avM_one {c : Cl} (h : NM c) : TvM (.av (.one c)) := fun y hy => by simp only [Av.cells, List.mem_singleton] at hy; subst hy; exact h
end
end Go.Proofs.Ytpnlegfdkkcnlaa
namespace Go.Proofs.Ytpnlegfdkkcnlaa
set_option maxRecDepth 100000
open Go.RowKit
set_option linter.unusedSimpArgs false
set_option linter.unusedVariables false
def IEnd (n : Nat) (JJ Jx : Nat → World → Prop) : IQ := fun e s' J' al' => (e = .ret ∨ e = .normal) ∧ (J' = JJ n ∨ ∃ j, j < n ∧ J' = Jx (j + 1))
theorem iter_of {P : Program} {gf : FuncId} {fn : Func} {c : Code} (hf : P.funcs[gf]? = some fn) (hb : fn.body = some c) (hnr : fn.results.toList = []) {k : Nat} {caps : Nat → Cl} {n : Nat} {E : Fin n → List Av} (hE : ∀ x, (E x).all Av.isV = true) (hE1 : ∀ x, ∀ e ∈ E x, ∀ c ∈ e.cells, c.toV.oneCell' = true) (hN : Nat.ble (k + 1) fn.ntmps = true) (hcd : ∀ i, i < k → (caps i).dv = true)
  (h : ∀ (Ow : Nat → Prop) (n0 ly : Nat) (JJ Jx : Nat → World → Prop), (∀ b, Ow b → b < n0) → (∀ j A B, JJ j A → A.grownBy B none → JJ j B) →
   (∀ j (hj : j < n) W, JJ j W → YieldAt (FW none) 0 P ly ((E ⟨j, hj⟩).map Av.toV).toArray W (fun e W' => (e = .returned (.bool true) ∧ JJ (j + 1) W' ∧ KpS Ow W W') ∨ (e = .returned (.bool false) ∧ Jx (j + 1) W'))) →
   IWp P fn.ntmps Ow n0 c (IEnd n JJ Jx) ⟨entryT 0 (.one (.val (.func (.yield ly) #[] #[])) :: capList k caps), []⟩ (JJ 0) true) : IterOk P gf k caps n E := by
 intro M w cs Ow himm hOw hcs hcaps
 refine ⟨fun x => ((E x).map Av.toV).toArray, fun x => ?_, ?_⟩
 ·have h1 := hE x
  have h2 := hE1 x
  show L2 _ (E x) ((E x).map Av.toV)
  generalize E x = l at h1 h2 ⊢
  induction l with
  | nil => exact .nil
  | cons e l ih =>
   simp only [List.all_cons, Bool.and_eq_true] at h1
   exact .cons (fun σ => toV_RA h1.1 (h2 e (List.mem_cons_self ..))) (ih h1.2 fun e he => h2 e (List.mem_cons_of_mem _ he))
 ·intro l J Jx W hB hJ hJx hY h0
  have hJg : ∀ s A B, J s A → A.grownBy B none → J s B := fun s A B h1 h2 => hJ s A B none h1 h2 (fun r e => by cases e)
  have hlt : ∀ b o, M b = some o → b < w.heap.size := fun b o hb => (Array.getElem?_eq_some_iff.1 (himm b o hb)).1
  have himmW : ∀ b o, M b = some o → W.heap[b]? = some o := fun b o hb => (hB.block b (hlt b o hb)).trans (himm b o hb)
  have hbody := h Ow w.heap.size l (fun j W => ∃ pre : List (Fin n), pre.map Fin.val = List.range j ∧ J pre W) (fun j W => ∃ pre : List (Fin n), pre.map Fin.val = List.range j ∧ Jx pre W) (fun b hb => (hOw b hb).1) (fun j A B ⟨pre, h1, h2⟩ h3 => ⟨pre, h1, hJg pre A B h2 h3⟩) (fun j hj W1 ⟨pre, h1, h2⟩ => by
   have hlen : pre.length = j := by
    have := congrArg List.length h1
    simpa using this
   have hstep : (pre ++ [(⟨j, hj⟩ : Fin n)]).map Fin.val = List.range (j + 1) := by rw [List.map_append, h1, List.range_succ]; rfl
   obtain ⟨fn', tm, as', bd, hy, hR⟩ := hY pre (⟨j, hj⟩ : Fin n) W1 h2 (by omega)
   refine ⟨fn', tm, as', bd, hy, hR.mono ?_⟩
   rintro e W' (⟨rfl, h3, h4⟩ | ⟨rfl, h3⟩)
   ·exact Or.inl (And.intro rfl (And.intro (Exists.intro _ (And.intro hstep h3)) h4))
   ·exact Or.inr (And.intro rfl (Exists.intro _ (And.intro hstep h3))))
  obtain ⟨a0, ha0⟩ : ∃ a0 : Act, a0 = { tmps := (#[Value.func (.yield l) #[] #[]] ++ cs) ++ Array.replicate (fn.ntmps - (#[Value.func (.yield l) #[] #[]] ++ cs).size) undef, defers := [] } := ⟨_, rfl⟩
  have hs0 : Sim fn.ntmps W noX M M (fun _ => ⟨0, 0, false⟩) (get (entryT 0 (.one (.val (.func (.yield l) #[] #[])) :: capList k caps))) (get []) a0 W := ?hs0
  ·have hbod := hbody W M (fun _ => ⟨0, 0, false⟩) a0 W ⟨⟨[], rfl, h0⟩, by rw [ha0], fun _ => ⟨hB.size, fun b o hb ho => by rw [(hOw b ho).2] at hb; cases hb⟩⟩ hs0
   rw [ha0] at hbod
   refine callsIn_wide.2 (callsIn_wide.1 (callsIn_of_wp_marks (F := FW none) (n := 0) hf hb trivial (wpIn_mono hbod ?_)))
   clear hbod hs0
   rintro e a' w' ⟨s', J', al', W0', M', σ', ⟨he, hend⟩, ⟨hJ', hd, _⟩, hs'⟩
   have hgrow : W0'.grownBy w' none := { os := hs'.os, tape := hs'.tape, output := hs'.output, size := hs'.size, block := fun b hb _ => hs'.old b hb (not_inX b) }
   have hres : (∃ xs : List (Fin n), xs.map Fin.val = List.range n ∧ J xs w') ∨ (∃ pre : List (Fin n), (∃ j, j < n ∧ pre.map Fin.val = List.range (j + 1)) ∧ Jx pre w') := by
    rcases hend with rfl | ⟨j, hj, rfl⟩
    ·obtain ⟨pre, h1, h2⟩ := hJ'
     exact .inl ⟨pre, h1, hJg pre _ _ h2 hgrow⟩
    ·obtain ⟨pre, h1, h2⟩ := hJ'
     exact .inr ⟨pre, ⟨j, hj, h1⟩, hJx pre _ _ none h2 hgrow (fun r e => by cases e)⟩
   obtain ⟨U, hU, _⟩ := resT_ok (P := P) (fn := fn) (r := .tup []) hs' (by rw [hnr]; rfl)
   have key : LeavesInM (FW none) 0 P fn a'.tmps (fun e W' => (∃ v, e = .returned v) ∧ ((∃ xs : List (Fin n), xs.map Fin.val = List.range n ∧ J xs W') ∨ (∃ pre : List (Fin n), (∃ j, j < n ∧ pre.map Fin.val = List.range (j + 1)) ∧ Jx pre W'))) a'.defers .returning w' := by
    rw [hd]
    exact ⟨U, hU, ⟨U, rfl⟩, hres⟩
   rcases he with rfl | rfl
   ·exact key
   ·exact key
  case hs0 =>
   subst ha0
   have hsz : (#[Value.func (.yield l) #[] #[]] ++ cs).size = k + 1 := by simp [hcs]; omega
   have hNk := Nat.le_of_ble_eq_true hN
   refine ⟨rfl, rfl, rfl, Nat.le_refl _, fun _ _ _ => rfl, fun _ _ h => h, fun b o h h' => (by rw [h] at h'; cases h'), fun m x hx => (by cases hx), DefsX.nil, ?_, fun i v hv => ?_, himmW, fun m b hb => (by cases hb), fun m b hb => (by cases hb), fun m m' b c hb => (by cases hb)⟩
   ·simp only [Array.size_append, Array.size_replicate] at hsz ⊢
    omega
   ·obtain ⟨_, x, hx, rfl⟩ := get_entryT _ _ _ _ hv
    rw [Nat.sub_zero] at hx
    have hargs : L2 (RA M fun _ => ⟨0, 0, false⟩) (.one (.val (.func (.yield l) #[] #[])) :: capList k caps) (.func (.yield l) #[] #[] :: cs.toList) := by
     refine .cons ⟨rfl, rfl⟩ (L2.of (by simp [capList, hcs]) fun i x y hx hy => ?_)
     have hi : i < k := by have := (List.getElem?_eq_some_iff.1 hx).1; simpa [capList] using this
     have := (R_dv (σ := fun _ => ⟨0, 0, false⟩) (hcd i hi)).2 (hcaps i hi)
     simp only [capList, List.getElem?_map, List.getElem?_range hi, Option.map_some, Option.some.injEq] at hx
     subst hx
     have hy' : cs.getD i undef = y := by
      simp only [Array.getD_eq_getD_getElem?]
      rw [← Array.getElem?_toList, hy]; rfl
     rw [hy'] at this
     exact this
    obtain ⟨u, hu, hRu⟩ := hargs.get i x hx
    have : ((#[Value.func (.yield l) #[] #[]] ++ cs) ++ Array.replicate (fn.ntmps - (#[Value.func (.yield l) #[] #[]] ++ cs).size) undef).getD i undef = u := by
     have hu2 : (#[Value.func (.yield l) #[] #[]] ++ cs)[i]? = some u := by
      rw [← Array.getElem?_toList]
      simpa using hu
     have hi : i < (#[Value.func (.yield l) #[] #[]] ++ cs).size := (Array.getElem?_eq_some_iff.1 hu2).1
     rw [Array.getD_eq_getD_getElem?, Array.getElem?_append_left hi, hu2]; rfl
    show RA M _ x _
    rw [this]
    exact hRu
end Go.Proofs.Ytpnlegfdkkcnlaa
namespace Go.Proofs.Ytpnlegfdkkcnlaa
set_option maxRecDepth 100000
open Go.RowKit
set_option linter.unusedSimpArgs false
set_option linter.unusedVariables false
def jnN (l : List TEdge) (closed : Bool) : Nat := (l.length - 1) + (bif closed then 1 else 0)
def jnA (l : List TEdge) (x : Nat) : TEdge := if x + 1 < l.length then l.getD x default else l.getD (l.length - 1) default
def jnB (l : List TEdge) (x : Nat) : TEdge := if x + 1 < l.length then l.getD (x + 1) default else l.getD 0 default
abbrev capL (l : List TEdge) : Cl := .eptr 1 1 (fun _ j => ([lst 7 TEdge.c l] : List Cl).getD j default) 0 0
abbrev capC (c : Bool) : Cl := .eptr 1 1 (fun _ j => ([.b c] : List Cl).getD j default) 0 0
abbrev ylV (ly : Nat) : Tv := .av (.one (.val (.func (.yield ly) #[] #[])))
abbrev tO (c : Cl) : Tv := .av (.one c)
theorem nm_edge : ∀ x : TEdge, ∀ y ∈ TEdge.c x, NM y := by
 intro x y hy
 simp only [TEdge.c, List.mem_cons, List.not_mem_nil, or_false] at hy
 rcases hy with rfl | rfl | rfl | rfl | rfl | rfl | rfl <;> exact .val _
theorem nm_capL (l : List TEdge) : NM (capL l) := nm_box fun y hy => by rw [List.mem_singleton.1 hy]; exact nm_lst nm_edge
theorem nm_capC (c : Bool) : NM (capC c) := nm_box fun y hy => by rw [List.mem_singleton.1 hy]; exact .val _
theorem edge_v (x : TEdge) : (TEdge.c x).all Cl.isV = true := rfl
section
variable (l : List TEdge) (closed : Bool)
theorem joints_it (h : closed = true → 1 ≤ l.length) (hl : (l.length : Int) ≤ 1000000) : IterOk Try.prog 84 2 (listF [capL l, capC closed]) (jnN l closed) (fun x => [.agg (TEdge.c (jnA l x.val)), .agg (TEdge.c (jnB l x.val))]) := by
 refine iter_of Try.func84 rfl rfl (fun x => rfl) (fun x e he c hc => ?_) (by kernel_rfl) (fun i hi => ?_) ?_
 ·have : c.isV = true := by
   simp only [List.mem_cons, List.not_mem_nil, or_false] at he
   rcases he with rfl | rfl
   ·exact List.all_eq_true.1 (edge_v _) c hc
   ·exact List.all_eq_true.1 (edge_v _) c hc
  simp only [List.mem_cons, List.not_mem_nil, or_false] at he
  rcases he with rfl | rfl <;> (simp only [Av.cells, TEdge.c, List.mem_cons, List.not_mem_nil, or_false] at hc; rcases hc with rfl | rfl | rfl | rfl | rfl | rfl | rfl <;> rfl)
 ·match i, hi with
  | 0, _ => rfl
  | 1, _ => rfl
 intro Ow n0 ly JJ Jx hO hJg hY
 have hT : ∀ (v : Int) i u, get [(0, ylV ly), (1, tO (capL l)), (2, tO (capC closed)), (4, tI v)] i = some u → u.dv = true ∧ TvM u := fun v => forall_get (p := fun u => Tv.dv u = true ∧ TvM u) (by
  simp only [List.forall_mem_cons]
  exact ⟨⟨rfl, avM_one (.val _)⟩, ⟨rfl, avM_one (nm_capL l)⟩, ⟨rfl, avM_one (nm_capC closed)⟩, ⟨rfl, avM_one (.val _)⟩, fun x hx => by cases hx⟩)
 have hd0 : ∀ (v : Int) i u, get [(0, ylV ly), (1, tO (capL l)), (2, tO (capC closed)), (4, tI v)] i = some u → u.dv = true := fun v i u h => (hT v i u h).1
 refine iw_seq ?_
 refine iw_seq ?_
 refine iw_lift hO (forall_get (p := fun u => Tv.dv u = true) (by simp [entryT, capList, Tv.dv, Av.dv, Cl.dv, List.range, List.range.loop, listF])) rfl fun W0 X1 M1 => ?_
 refine aw_region eqok [] [] [] [0, 1, 2, 4] [] [] ⟨[(0, ylV ly), (1, tO (capL l)), (2, tO (capC closed)), (4, tI 1)], []⟩ .nil (by kernel_rfl) .nil ?_
 refine ith_n ?_
 refine iw_block ?_
 have eA : ∀ k : Nat, k + 1 < l.length → [Av.agg (TEdge.c (l.getD ((W64 (((k : Int) + 1) - 1)).toNat) default)), Av.agg (TEdge.c (l.getD ((k : Int) + 1).toNat default))] = [.agg (TEdge.c (jnA l k)), .agg (TEdge.c (jnB l k))] := fun k hk => by
  have e1 : W64 (((k : Int) + 1) - 1) = (k : Int) := by rw [W64_id (by omega) (by omega)]; omega
  have e2 : ((k : Int) + 1).toNat = k + 1 := by omega
  rw [e1, e2, Int.toNat_natCast]
  unfold jnA jnB
  rw [if_pos hk, if_pos hk]
 refine iw_loop (ι := Nat) (fun k => ⟨[(0, ylV ly), (1, tO (capL l)), (2, tO (capC closed)), (4, tI ((k : Int) + 1))], []⟩) (fun k => JJ k) (fun k => k ≤ l.length - 1) (fun k => l.length - k) (fun k hk => ?_) 0 (Nat.zero_le _)
 refine iw_seq ?_
 refine iw_seq ?_
 refine iw_lift hO (hd0 _) rfl fun W0 X1 M1 => ?_
 refine aw_region eqok [] [] [] [0, 1, 2, 4, 8] [] [] ⟨[(0, ylV ly), (1, tO (capL l)), (2, tO (capC closed)), (4, tI ((k : Int) + 1)), (8, tB (decide ((((k : Int) + 1) : Int) < ((l.length : Int)))))], []⟩ .nil (by kernel_rfl) .nil ?_
 refine ith_n ?_
 refine iw_cond (decide ((((k : Int) + 1) : Int) < ((l.length : Int)))) (by kernel_rfl) (fun hc => ?_) (fun hc => ?_)
 ·have hlt : k + 1 < l.length := by have := of_decide_eq_true hc; omega
  refine iw_skip ?_
  refine ith_n ?_
  refine iw_seq ?_
  refine iw_block ?_
  refine iw_seq ?_
  refine iw_yieldK (ly := ly) hO mixed eqok 10 rfl [] [] [0, 1, 2, 4, 11, 16, 20] [0, 1, 2, 4, 22] [0 ≤ (W64 (((k : Int) + 1) - 1) : Int) ∧ (W64 (((k : Int) + 1) - 1) : Int) < ((l.length : Nat) : Int), 0 ≤ (((k : Int) + 1) : Int) ∧ (((k : Int) + 1) : Int) < ((l.length : Nat) : Int)]
   [(0, ylV ly), (1, tO (capL l)), (2, tO (capC closed)), (4, tI ((k : Int) + 1)), (11, ylV ly), (16, .av (.agg (TEdge.c (l.getD ((W64 (((k : Int) + 1) - 1)).toNat) default)))), (20, .av (.agg (TEdge.c (l.getD ((k : Int) + 1).toNat default))))] (by kernel_rfl) (by kernel_rfl) ?conds (by kernel_rfl) (by kernel_rfl) [Av.agg (TEdge.c (l.getD ((W64 (((k : Int) + 1) - 1)).toNat) default)), Av.agg (TEdge.c (l.getD ((k : Int) + 1).toNat default))] rfl rfl (by kernel_rfl) (by kernel_rfl) (by kernel_rfl) rfl (by kernel_rfl) ?hT1 (hJg k) (JJ (k + 1)) (Jx (k + 1)) ?hY [] [] ⟨[(0, ylV ly), (1, tO (capL l)), (2, tO (capC closed)), (4, tI ((k : Int) + 1)), (22, tB (!true))], []⟩ ⟨[(22, tB (!false))], []⟩ (by kernel_rfl) .nil (by kernel_rfl) .nil ?hQt ?hQf ?hdv rfl
  case conds =>
   have e1 : W64 (((k : Int) + 1) - 1) = (k : Int) := by rw [W64_id (by omega) (by omega)]; omega
   exact .cons ⟨by rw [e1]; omega, by rw [e1]; omega⟩ (.cons ⟨by omega, by omega⟩ .nil)
  case hT1 => exact forall_get (p := fun u => Tv.dv u = true ∧ TvM u) (by
   simp only [List.forall_mem_cons]
   exact ⟨⟨rfl, avM_one (.val _)⟩, ⟨rfl, avM_one (nm_capL l)⟩, ⟨rfl, avM_one (nm_capC closed)⟩, ⟨rfl, avM_one (.val _)⟩, ⟨rfl, avM_one (.val _)⟩, ⟨rfl, nm_edge _⟩, ⟨rfl, nm_edge _⟩, fun x hx => by cases hx⟩)
  case hY =>
   intro W hW
   have hk2 : k < jnN l closed := by unfold jnN; omega
   rw [eA k hlt]
   exact hY k hk2 W hW
  case hQt =>
   refine ith_n ?_
   refine iw_cond false (by kernel_rfl) (fun h => by cases h) (fun _ => ?_)
   refine iw_skip ?_
   refine ibl_n ?_
   refine ith_n ?_
   refine iw_lift hO (fun i u h => ?_) rfl fun W0 X1 M1 => ?_
   ·exact forall_get (p := fun u => Tv.dv u = true) (by simp only [List.forall_mem_cons]; exact ⟨rfl, rfl, rfl, rfl, rfl, fun x hx => by cases hx⟩) i u h
   refine aw_region eqok [] [] [] [0, 1, 2, 4] [] [] ⟨[(0, ylV ly), (1, tO (capL l)), (2, tO (capC closed)), (4, tI (W64 (((k : Int) + 1) + 1)))], []⟩ .nil (by kernel_rfl) .nil ?_
   refine ith_n ?_
   refine ⟨k + 1, by omega, by omega, ?_, rfl, rfl⟩
   have e3 : W64 (((k : Int) + 1) + 1) = ((k + 1 : Nat) : Int) + 1 := by rw [W64_id (by omega) (by omega)]; omega
   rw [e3]
  case hQf =>
   refine ith_n ?_
   refine iw_cond true (by kernel_rfl) (fun _ => ?_) (fun h => by cases h)
   refine iw_ret ?_
   exact ⟨.inl rfl, .inr ⟨k, by unfold jnN; omega, rfl⟩⟩
  case hdv => exact forall_get (p := fun u => Tv.dv u = true) (by simp only [List.forall_mem_cons]; exact ⟨rfl, rfl, rfl, rfl, rfl, fun x hx => by cases hx⟩)
 ·have hge : ¬ k + 1 < l.length := by have := of_decide_eq_false hc; omega
  refine iw_exit ?_
  refine ith_x ?_
  refine ith_x ?_
  refine ibl_hit ?_
  refine ith_n ?_
  refine iw_seq ?_
  refine iw_lift hO (fun i u h => ?_) rfl fun W0 X1 M1 => ?_
  ·exact forall_get (p := fun u => Tv.dv u = true) (by simp only [List.forall_mem_cons]; exact ⟨rfl, rfl, rfl, rfl, rfl, fun x hx => by cases hx⟩) i u h
  refine aw_region eqok [] [] [] [0, 1, 2, 23] [] [] ⟨[(0, ylV ly), (1, tO (capL l)), (2, tO (capC closed)), (23, tB closed)], []⟩ .nil (by kernel_rfl) .nil ?_
  refine ith_n ?_
  refine iw_cond closed (by kernel_rfl) (fun hcl => ?_) (fun hcl => ?_)
  ·have h1 := h hcl
   have hkl : k = l.length - 1 := by omega
   have hk2 : k < jnN l closed := by unfold jnN; rw [hcl]; show k < l.length - 1 + 1; omega
   have hn : k + 1 = jnN l closed := by unfold jnN; rw [hcl]; show k + 1 = l.length - 1 + 1; omega
   have e1 : W64 (((l.length : Int)) - 1) = ((l.length - 1 : Nat) : Int) := by rw [W64_id (by omega) (by omega)]; omega
   refine iw_yieldK (ly := ly) hO mixed eqok 10 rfl [] [] [0, 1, 2, 24, 30, 33] [0] [0 ≤ (W64 (((l.length : Int)) - 1) : Int) ∧ (W64 (((l.length : Int)) - 1) : Int) < ((l.length : Nat) : Int), 0 ≤ (0 : Int) ∧ (0 : Int) < ((l.length : Nat) : Int)]
    [(0, ylV ly), (1, tO (capL l)), (2, tO (capC closed)), (24, ylV ly), (30, .av (.agg (TEdge.c (l.getD ((W64 (((l.length : Int)) - 1)).toNat) default)))), (33, .av (.agg (TEdge.c (l.getD 0 default))))] (by kernel_rfl) (by kernel_rfl) ?conds (by kernel_rfl) (by kernel_rfl) [Av.agg (TEdge.c (l.getD ((W64 (((l.length : Int)) - 1)).toNat) default)), Av.agg (TEdge.c (l.getD 0 default))] rfl rfl (by kernel_rfl) (by kernel_rfl) (by kernel_rfl) rfl (by kernel_rfl) ?hT1 (hJg k) (JJ (k + 1)) (Jx (k + 1)) ?hY [] [] ⟨[(0, ylV ly)], []⟩ ⟨[], []⟩ (by kernel_rfl) .nil (by kernel_rfl) .nil ?hQt ?hQf ?hdv rfl
   case conds => exact .cons ⟨by rw [e1]; omega, by rw [e1]; omega⟩ (.cons ⟨by omega, by omega⟩ .nil)
   case hT1 => exact forall_get (p := fun u => Tv.dv u = true ∧ TvM u) (by
    simp only [List.forall_mem_cons]
    exact ⟨⟨rfl, avM_one (.val _)⟩, ⟨rfl, avM_one (nm_capL l)⟩, ⟨rfl, avM_one (nm_capC closed)⟩, ⟨rfl, avM_one (.val _)⟩, ⟨rfl, nm_edge _⟩, ⟨rfl, nm_edge _⟩, fun x hx => by cases hx⟩)
   case hY =>
    intro W hW
    have := hY k hk2 W hW
    have eL : [Av.agg (TEdge.c (l.getD ((W64 (((l.length : Int)) - 1)).toNat) default)), Av.agg (TEdge.c (l.getD 0 default))] = [.agg (TEdge.c (jnA l k)), .agg (TEdge.c (jnB l k))] := by
     unfold jnA jnB
     rw [if_neg hge, if_neg hge, e1, Int.toNat_natCast]
    rw [eL]
    exact this
   case hQt =>
    refine ⟨.inr rfl, .inl ?_⟩
    rw [hn]
   case hQf => exact ⟨.inr rfl, .inr ⟨k, hk2, rfl⟩⟩
   case hdv => exact forall_get (p := fun u => Tv.dv u = true) (by simp only [List.forall_mem_cons]; exact ⟨rfl, rfl, rfl, rfl, fun x hx => by cases hx⟩)
  ·refine iw_skip ?_
   refine ⟨.inr rfl, .inl ?_⟩
   have : k = jnN l closed := by unfold jnN; rw [hcl]; show k = l.length - 1 + 0; omega
   rw [← this]
end
end Go.Proofs.Ytpnlegfdkkcnlaa
namespace Go.Proofs.Ytpnlegfdkkcnlaa
set_option maxRecDepth 100000
open Go.RowKit
set_option linter.unusedSimpArgs false
set_option linter.unusedVariables false
theorem mem_memO : ∀ {l : List Nat} {n : Nat}, n ∈ l → memO l n = true
 | k :: r, n, h => by
  simp only [memO]
  cases hk : Nat.beq k n with
  | true => rfl
  | false =>
   rcases List.mem_cons.1 h with e | h
   ·rw [e, Nat.beq_refl] at hk; cases hk
   ·exact mem_memO h
def rangeB (N : Nat) (pids : List Nat) (fid q : Nat) (t0 : List (Nat × Tv)) (h0 : List (Nat × Blk)) (ps : Array Tmp) : Bool :=
 t0.all (fun p => pvT pids p.2) && (h0.all (fun p => memO pids p.1 && (p.2.isC && (p.2.no fid && !Nat.beq p.1 fid))) && (pids.all (fun q => (get h0 q).isSome && Nat.ble N q) && (!memO pids fid && (Nat.ble N fid && (memO pids q && ps.toList.all (fun p => Nat.blt p N))))))
theorem setps_no {fid : Nat} : ∀ (ps : List Tmp) (es : List Av) (t : List (Nat × Tv)), (∀ i v, get t i = some v → v.no fid = true) → es.all Av.dv = true → ∀ i v, get (setps t ps es) i = some v → v.no fid = true
 | [], _, t, h, _, i, v, hv => h i v (by cases ‹List Av› <;> exact hv)
 | p :: ps, [], t, h, _, i, v, hv => h i v hv
 | p :: ps, e :: es, t, h, he, i, v, hv => by
  simp only [List.all_cons, Bool.and_eq_true] at he
  refine setps_no ps es ((p, .av e) :: t) (fun j u hu => ?_) he.2 i v hv
  simp only [get, beqN] at hu
  by_cases hj : p = j
  ·subst hj; simp at hu; subst hu; exact av_dv_no he.1
  ·simp [hj] at hu; exact h j u hu
section
variable {P : Program} {N : Nat} {W0 : World} {X : Nat → Option Loc} {M0 : Nat → Option Obj}
theorem aw_rangeB {Q : Exit → AS → Prop} {g : Operand} {ps : Array Tmp} {assign body : Code} {t0 : List (Nat × Tv)} {h0 : List (Nat × Blk)} (pids : List Nat) (fid q : Nat) {gf : FuncId} {k : Nat} {caps : Nat → Cl} {n : Nat} {E : Fin n → List Av} (t1 : Fin n → List (Nat × Tv)) (Fm : Nat → Prop)
  (hX0 : ∀ m, X m = none) (hg : evT (get t0) g = some (.av (.one (.clo gf k caps)))) (hcd : (Cl.clo gf k caps).dv = true) (eg : ∀ args w, (callFunc gf args).run P w = .ok (.enter gf args) w)
  (It : IterOk P gf k caps n E) (hck : rangeB N pids fid q t0 h0 ps = true) (hE : ∀ x, (E x).length = ps.size) (hEd : ∀ x, (E x).all Av.dv = true) (hm : HsM h0) (ht1 : ∀ x, TsM (t1 x)) (hF : Fm 0)
  (hassign : ∀ l W1 M1 X1 x, PX pids X1 → AWp P (some l) N W1 X1 M1 assign (fun e s' => e = .normal ∧ s' = ⟨t1 x, h0⟩) ⟨setps t0 ps.toList (E x), h0⟩)
  (hbody : ∀ l W1 M1 X1 (x : Fin n), PX pids X1 → AWp P (some l) N W1 X1 M1 body (RPost Q t0 h0 Fm x.val) ⟨t1 x, h0⟩)
  (hdone : Fm n → Q .normal ⟨t0, h0⟩) : AWp P none N W0 X M0 (.rangeFunc g ps assign body) Q ⟨t0, h0⟩ := by
 unfold rangeB at hck
 simp only [Bool.and_eq_true] at hck
 obtain ⟨c1, c2, c3, c4, c5, c6, c7⟩ := hck
 have hfp : memO pids fid = false := by simpa using c4
 have hh : ∀ m b, get h0 m = some b → memO pids m = true ∧ b.isC = true ∧ b.no fid = true ∧ m ≠ fid := fun m b hb => by
  have := List.all_eq_true.1 c2 (m, b) (get_mem hb)
  simp only [Bool.and_eq_true] at this
  refine ⟨this.1, this.2.1, this.2.2.1, fun e => ?_⟩
  have h4 := this.2.2.2
  rw [e, Nat.beq_refl] at h4
  cases h4
 have hpv : ∀ i v, get t0 i = some v → pvT pids v = true ∧ v.no fid = true := fun i v hv => by
  have h1 := List.all_eq_true.1 c1 (i, v) (get_mem hv)
  refine ⟨h1, ?_⟩
  cases hn : v.no fid with
  | true => rfl
  | false => have := mem_memO (pvT_no h1 hn); rw [hfp] at this; cases this
 refine aw_range pids fid q (fun x => ⟨t1 x, h0⟩) Fm (fun ⟨m, x, h1, _⟩ => by rw [hX0] at h1; cases h1) (hX0 fid) (fun m x h1 => by rw [hX0] at h1; cases h1) hg hcd eg It hE (fun p hp => ?_) hpv hh (fun m hm' => ?_) hfp (Nat.le_of_ble_eq_true c5) (fun m hm' => ?_) (fun m hm' => mem_memO hm') c6 (fun x i v hv => setps_no _ _ _ (fun j u hu => (hpv j u hu).2) (hEd x) i v hv) hm (fun x => ⟨ht1 x, hm, fun _ _ h => h, fun m b hb => ⟨(hh m b hb).1, (hh m b hb).2.1⟩⟩) hF hassign hbody hdone
 ·have := Nat.le_of_ble_eq_true (List.all_eq_true.1 c7 p hp)
  exact this
 ·have := List.all_eq_true.1 c3 m (memO_mem hm')
  simp only [Bool.and_eq_true] at this
  exact Option.isSome_iff_exists.1 this.1
 ·have := List.all_eq_true.1 c3 m hm'
  simp only [Bool.and_eq_true] at this
  exact Nat.le_of_ble_eq_true this.2
end
end Go.Proofs.Ytpnlegfdkkcnlaa
namespace Go.Proofs.Ytpnlegfdkkcnlaa
set_option maxRecDepth 100000
open Go.RowKit
set_option linter.unusedVariables false
set_option linter.unusedSimpArgs false
theorem chk_len {l : Nat} {b c : Bool} (h : (bif b then b else (bif decide ((((l : Nat) : Int)) = 0) then decide ((((l : Nat) : Int)) = 0) else c)) = false) : 1 ≤ l := by
 cases b with
 | true => cases h
 | false =>
  by_cases e : ((l : Nat) : Int) = 0
  ·rw [decide_eq_true e] at h; cases h
  ·omega
theorem nm_TEdge : ∀ x : TEdge, ∀ y ∈ TEdge.c x, NM y := nm_edge
theorem nm_TShape : ∀ x : TShape, ∀ y ∈ TShape.c x, NM y := by
 intro x y hy
 simp only [TShape.c, List.mem_cons, List.not_mem_nil, or_false] at hy
 rcases hy with rfl | rfl | rfl
 ·exact .val _
 ·exact nm_lst nm_edge
 ·exact .val _
def wCheckS_0 (s : TShape) : FuncId × List Av × Ef := (55, [.one (lst 7 TEdge.c s.Edges), .one (.b (decide ((s.Kind : Int) = 2)))], .val [] (.av (.one (.clo 84 2 (listF [.eptr 1 1 (fun _ j => ([lst 7 TEdge.c s.Edges] : List Cl).getD j default) 0 0, .eptr 1 1 (fun _ j => ([.b (decide ((s.Kind : Int) = 2))] : List Cl).getD j default) 0 0])))))
def FCheckS_r1 (s : TShape) (v39 : Int) (K0 : Int → Int) : Nat → Nat → Int
 | 0, _ => bif bif bif bif decide ((s.Kind : Int) = 2) then !decide ((s.R : Int) = 0) else false then true else decide ((s.R : Int) < 0) then true else decide ((4194304 : Int) < s.R) then (3) else (0)
 | m + 1, x => bif !(decide ((((jnA s.Edges x).B).X) = (((jnB s.Edges x).A).X)) && (decide ((((jnA s.Edges x).B).Y) = (((jnB s.Edges x).A).Y)) && true)) then (12) else ((FCheckS_r1 s v39 K0 m (x + 1)))
def FCheckS_l0 (s : TShape) : Nat → Int → Int
 | 0, _ => default
 | n0 + 1, v39 => bif decide ((v39 : Int) < ((s.Edges.length : Int))) then (bif !decide (((FCheck (s.Edges.getD v39.toNat default)) : Int) = 0) then (FCheck (s.Edges.getD v39.toNat default)) else ((FCheckS_l0 s n0) (v39 + 1))) else (FCheckS_r1 s v39 (FCheckS_l0 s n0) (jnN s.Edges (decide ((s.Kind : Int) = 2))) 0)
def FCheckS (s : TShape) : Int := bif bif bif !decide ((s.Kind : Int) = 1) then !(decide ((s.Kind : Int) = 2)) else false then (bif !decide ((s.Kind : Int) = 1) then !(decide ((s.Kind : Int) = 2)) else false) else (bif decide ((((s.Edges.length : Int)) : Int) = 0) then (decide ((((s.Edges.length : Int)) : Int) = 0)) else (bif decide ((s.Kind : Int) = 2) then decide ((((s.Edges.length : Int)) : Int) < 2) else false)) then (12) else (bif decide ((40 : Int) < ((s.Edges.length : Int))) then (2) else (FCheckS_l0 s (((((s.Edges.length : Int))) - 0).toNat + 1) 0))
def cCheckS (s : TShape) : FuncId × List Av × Ef := (20, [.agg (TShape.c s)], .val [] (.av (.one (.i (FCheckS s)))))
theorem au7 {p : Prop} (h : p := by first | omega | (simp only [List.length_drop, List.length_take] at *; omega)) : p := h
theorem pCheckS (s : TShape) (hl : (s.Edges.length : Int) ≤ 9223372036854775807) : Pure Try.prog 20 (cCheckS s).2.1 (.av (.one (.i (FCheckS s)))) := by
 refine pure_of_awF Try.func20 rfl (by kernel_rfl) (by kernel_rfl) fun W0 M0 => ?_
 refine aw_seq ?_
 refine aw_region eqok [] [] [] [1, 2] [1, 2] [] ⟨[(1, tP 1 0), (2, tP 2 0)], [(1, .cells (TShape.c s) 26), (2, .cells [.i 0] 44)]⟩ .nil (by kernel_rfl) .nil <| ath_n <| aw_seq ?_
 refine aw_region eqok [] [] [] [1, 2, 3] [1, 2] [] ⟨[(1, tP 1 0), (2, tP 2 0), (3, tB (decide ((s.Kind : Int) = 2)))], [(1, .cells (TShape.c s) 26), (2, .cells [.i 0] 44)]⟩ .nil (by kernel_rfl) .nil <| ath_n ?_
 refine aw_seq <| aw_block ?_
 refine aw_seq <| aw_seq ?_
 refine aw_region eqok [] [] [] [1, 2, 3, 12] [1, 2] [((!decide ((s.Kind : Int) = 1)) = true) → ((!decide ((s.Kind : Int) = 1)) = true), (!decide ((s.Kind : Int) = 1)) = true → ((!decide ((s.Kind : Int) = 1)) = true)] ⟨[(1, tP 1 0), (2, tP 2 0), (3, tB (decide ((s.Kind : Int) = 2))), (12, tB (bif !decide ((s.Kind : Int) = 1) then !(decide ((s.Kind : Int) = 2)) else false))], [(1, .cells (TShape.c s) 26), (2, .cells [.i 0] 44)]⟩ .nil (by kernel_rfl) (.cons id (.cons id .nil)) <| ath_n ?_
 refine aw_joinC (⟨[(1, tP 1 0), (2, tP 2 0), (3, tB (decide ((s.Kind : Int) = 2))), (12, tB (bif bif !decide ((s.Kind : Int) = 1) then !(decide ((s.Kind : Int) = 2)) else false then (bif !decide ((s.Kind : Int) = 1) then !(decide ((s.Kind : Int) = 2)) else false) else (bif decide ((((s.Edges.length : Int)) : Int) = 0) then (decide ((((s.Edges.length : Int)) : Int) = 0)) else (bif decide ((s.Kind : Int) = 2) then decide ((((s.Edges.length : Int)) : Int) < 2) else false))))], [(1, .cells (TShape.c s) 26), (2, .cells [.i 0] 44)]⟩) ?_ ?_
 ·refine aw_cond (bif !decide ((s.Kind : Int) = 1) then !(decide ((s.Kind : Int) = 2)) else false) (by kernel_rfl) (fun h1 => ?_) (fun h1 => ?_)
  ·refine aw_skip <| ath_n ?_
   refine cv_eq ?_
   first | rfl | (simp only [h1, cond_true, cond_false]; done) | (simp only [h1, cond_true, cond_false]; rfl)
  ·refine aw_seq ?_
   refine aw_region eqok [] [] [] [1, 2, 3, 12] [1, 2] [] ⟨[(1, tP 1 0), (2, tP 2 0), (3, tB (decide ((s.Kind : Int) = 2))), (12, tB (decide ((((s.Edges.length : Int)) : Int) = 0)))], [(1, .cells (TShape.c s) 26), (2, .cells [.i 0] 44)]⟩ .nil (by kernel_rfl) .nil <| ath_n ?_
   refine aw_cond (decide ((((s.Edges.length : Int)) : Int) = 0)) (by kernel_rfl) (fun h2 => ?_) (fun h2 => ?_)
   ·have g2 := of_decide_eq_true h2
    refine aw_skip <| ath_n ?_
    refine cv_eq ?_
    first | rfl | (simp only [h1, h2, cond_true, cond_false]; done) | (simp only [h1, h2, cond_true, cond_false]; rfl)
   ·have g2 := of_decide_eq_false h2
    refine aw_region eqok [] [] [] [1, 2, 3, 12] [1, 2] [((decide ((s.Kind : Int) = 2)) = true) → ((decide ((s.Kind : Int) = 2)) = true), ((decide ((s.Kind : Int) = 2)) = true) → ((decide ((s.Kind : Int) = 2)) = true), ((decide ((s.Kind : Int) = 2)) = true) → ((decide ((s.Kind : Int) = 2)) = true), (decide ((s.Kind : Int) = 2)) = true → ((decide ((s.Kind : Int) = 2)) = true)] ⟨[(1, tP 1 0), (2, tP 2 0), (3, tB (decide ((s.Kind : Int) = 2))), (12, tB (bif decide ((s.Kind : Int) = 2) then decide ((((s.Edges.length : Int)) : Int) < 2) else false))], [(1, .cells (TShape.c s) 26), (2, .cells [.i 0] 44)]⟩ .nil (by kernel_rfl) (.cons id (.cons id (.cons id (.cons id .nil)))) <| ath_n ?_
    refine cv_eq ?_
    first | rfl | (simp only [h1, h2, cond_true, cond_false]; done) | (simp only [h1, h2, cond_true, cond_false]; rfl)
 refine aw_cond (bif bif !decide ((s.Kind : Int) = 1) then !(decide ((s.Kind : Int) = 2)) else false then (bif !decide ((s.Kind : Int) = 1) then !(decide ((s.Kind : Int) = 2)) else false) else (bif decide ((((s.Edges.length : Int)) : Int) = 0) then (decide ((((s.Edges.length : Int)) : Int) = 0)) else (bif decide ((s.Kind : Int) = 2) then decide ((((s.Edges.length : Int)) : Int) < 2) else false))) (by kernel_rfl) (fun h1 => ?_) (fun h1 => ?_)
 ·refine aw_seq ?_
  refine aw_region eqok [] [] [] [2] [2] [] ⟨[(2, tP 2 0)], [(2, .cells [.i 12] 44)]⟩ .nil (by kernel_rfl) .nil <| ath_n ?_
  refine aw_ret <| abl_r <| ath_r ?_
  exact ⟨_, Cv.refl _, .inl rfl, .av (.one (.i 12)), by kernel_rfl, tve_eq (by first | (simp only [FCheckS, h1, cond_true, cond_false]; done) | (simp only [FCheckS, h1, cond_true, cond_false]; rfl))⟩
 ·refine aw_seq ?_
  refine aw_region eqok [] [] [] [1, 2, 3, 31] [1, 2] [] ⟨[(1, tP 1 0), (2, tP 2 0), (3, tB (decide ((s.Kind : Int) = 2))), (31, tB (decide ((40 : Int) < ((s.Edges.length : Int)))))], [(1, .cells (TShape.c s) 26), (2, .cells [.i 0] 44)]⟩ .nil (by kernel_rfl) .nil <| ath_n ?_
  refine aw_cond (decide ((40 : Int) < ((s.Edges.length : Int)))) (by kernel_rfl) (fun h2 => ?_) (fun h2 => ?_)
  ·have g2 := of_decide_eq_true h2
   refine aw_seq ?_
   refine aw_region eqok [] [] [] [2] [2] [] ⟨[(2, tP 2 0)], [(2, .cells [.i 2] 44)]⟩ .nil (by kernel_rfl) .nil <| ath_n ?_
   refine aw_ret <| abl_r <| ath_r ?_
   exact ⟨_, Cv.refl _, .inl rfl, .av (.one (.i 2)), by kernel_rfl, tve_eq (by first | (simp only [FCheckS, h1, h2, cond_true, cond_false]; done) | (simp only [FCheckS, h1, h2, cond_true, cond_false]; rfl))⟩
  ·have g2 := of_decide_eq_false h2
   refine aw_skip <| abl_n ?_
   refine ath_n <| aw_seq <| aw_seq ?_
   refine aw_region eqok [] [] [] [1, 2, 3, 37, 38, 39] [1, 2] [] ⟨[(1, tP 1 0), (2, tP 2 0), (3, tB (decide ((s.Kind : Int) = 2))), (37, .av (.one (lst 7 TEdge.c s.Edges))), (38, tI ((s.Edges.length : Int))), (39, tI 0)], [(1, .cells (TShape.c s) 26), (2, .cells [.i 0] 44)]⟩ .nil (by kernel_rfl) .nil <| ath_n <| aw_block ?_
   refine aw_loopC (ι := Nat × Int) (fun x => ⟨[(1, tP 1 0), (2, tP 2 0), (3, tB (decide ((s.Kind : Int) = 2))), (37, .av (.one (lst 7 TEdge.c s.Edges))), (38, tI ((s.Edges.length : Int))), (39, tI x.2)], [(1, .cells (TShape.c s) 26), (2, .cells [.i 0] 44)]⟩) (fun x => ((((s.Edges.length : Int))) - x.2).toNat < x.1 ∧ (0 ≤ x.2 ∧ (x.2 ≤ ((s.Edges.length : Int)) ∨ x.2 = 0)) ∧ FCheckS_l0 s x.1 x.2 = FCheckS s) (fun x => x.1) ?_ (((((s.Edges.length : Int))) - 0).toNat + 1, 0) ⟨Nat.lt_succ_self _, ⟨(by show 0 ≤ 0; first | trivial | omega | exact at0 | exact at1 | exact at2 | (simp; omega) | simp), (by show (0 ≤ ((s.Edges.length : Int)) ∨ 0 = 0); first | trivial | omega | exact at0 | exact at1 | exact at2 | (simp; omega) | simp)⟩, (by simp only [FCheckS, h1, h2, cond_true, cond_false])⟩
   rintro ⟨n0, v39⟩ ⟨hn, hinv, hF⟩
   have hm0 : ((((s.Edges.length : Int))) - v39).toNat < n0 := hn; have hinv0 : 0 ≤ v39 ∧ (v39 ≤ ((s.Edges.length : Int)) ∨ v39 = 0) := hinv; have hF0 : FCheckS_l0 s n0 v39 = FCheckS s := hF; clear hn hinv hF
   cases n0 with
   | zero => exact absurd hm0 (Nat.not_lt_zero _)
   | succ n0 =>
    refine aw_seq ?_
    refine aw_region eqok [] [] [] [1, 2, 3, 37, 38, 39, 40] [1, 2] [] ⟨[(1, tP 1 0), (2, tP 2 0), (3, tB (decide ((s.Kind : Int) = 2))), (37, .av (.one (lst 7 TEdge.c s.Edges))), (38, tI ((s.Edges.length : Int))), (39, tI v39), (40, tB (decide ((v39 : Int) < ((s.Edges.length : Int)))))], [(1, .cells (TShape.c s) 26), (2, .cells [.i 0] 44)]⟩ .nil (by kernel_rfl) .nil <| ath_n <| aw_seq ?_
    refine aw_cond (decide ((v39 : Int) < ((s.Edges.length : Int)))) (by kernel_rfl) (fun h3 => ?_) (fun h3 => ?_)
    ·have g3 := of_decide_eq_true h3
     refine aw_skip <| ath_n ?_
     refine aw_seq <| aw_block <| aw_seq ?_
     refine aw_region eqok [] [] [] [1, 2, 3, 5, 37, 38, 39] [1, 2, 5] [0 ≤ (v39 : Int) ∧ (v39 : Int) < ((s.Edges.length : Nat) : Int)] ⟨[(1, tP 1 0), (2, tP 2 0), (3, tB (decide ((s.Kind : Int) = 2))), (5, tP 5 0), (37, .av (.one (lst 7 TEdge.c s.Edges))), (38, tI ((s.Edges.length : Int))), (39, tI v39)], [(1, .cells (TShape.c s) 26), (2, .cells [.i 0] 44), (5, .cells (TEdge.c (s.Edges.getD v39.toNat default)) 35)]⟩ .nil (by kernel_rfl) (.cons au1 .nil) <| ath_n <| aw_seq ?_
     refine aw_region eqok [] [] [(44, cCheck (s.Edges.getD v39.toNat default))] [1, 2, 3, 6, 37, 38, 39] [1, 2] [Same (cCheck (s.Edges.getD v39.toNat default)).2.1] ⟨[(1, tP 1 0), (2, tP 2 0), (3, tB (decide ((s.Kind : Int) = 2))), (6, tI (FCheck (s.Edges.getD v39.toNat default))), (37, .av (.one (lst 7 TEdge.c s.Edges))), (38, tI ((s.Edges.length : Int))), (39, tI v39)], [(1, .cells (TShape.c s) 26), (2, .cells [.i 0] 44)]⟩ (.cons (okCheck (s.Edges.getD v39.toNat default)) .nil) (by kernel_rfl) (.cons rfl .nil) <| ath_n <| aw_seq ?_
     refine aw_region eqok [] [] [] [1, 2, 3, 6, 37, 38, 39, 46] [1, 2] [] ⟨[(1, tP 1 0), (2, tP 2 0), (3, tB (decide ((s.Kind : Int) = 2))), (6, tI (FCheck (s.Edges.getD v39.toNat default))), (37, .av (.one (lst 7 TEdge.c s.Edges))), (38, tI ((s.Edges.length : Int))), (39, tI v39), (46, tB (!decide (((FCheck (s.Edges.getD v39.toNat default)) : Int) = 0)))], [(1, .cells (TShape.c s) 26), (2, .cells [.i 0] 44)]⟩ .nil (by kernel_rfl) .nil <| ath_n ?_
     refine aw_cond (!decide (((FCheck (s.Edges.getD v39.toNat default)) : Int) = 0)) (by kernel_rfl) (fun h4 => ?_) (fun h4 => ?_)
     ·have g4 := of_not_decide_true h4
      refine aw_seq ?_
      refine aw_region eqok [] [] [] [2] [2] [] ⟨[(2, tP 2 0)], [(2, .cells [.i (FCheck (s.Edges.getD v39.toNat default))] 44)]⟩ .nil (by kernel_rfl) .nil <| ath_n ?_
      refine aw_ret <| abl_r ?_
      refine ath_r <| ath_r ?_
      refine abl_r <| ath_r ?_
      exact ⟨_, Cv.refl _, .inl rfl, .av (.one (.i (FCheck (s.Edges.getD v39.toNat default)))), by kernel_rfl, tve_eq (by rw [← hF0]; first | (simp only [FCheckS_l0, h3, h4, cond_true, cond_false]; done) | (simp only [FCheckS_l0, h3, h4, cond_true, cond_false]; rfl))⟩
     ·have g4 := of_not_decide_false h4
      refine aw_skip <| abl_n <| ath_n ?_
      refine aw_region eqok [] [] [] [1, 2, 3, 37, 38, 39] [1, 2] [] ⟨[(1, tP 1 0), (2, tP 2 0), (3, tB (decide ((s.Kind : Int) = 2))), (37, .av (.one (lst 7 TEdge.c s.Edges))), (38, tI ((s.Edges.length : Int))), (39, tI (W64 (v39 + 1)))], [(1, .cells (TShape.c s) 26), (2, .cells [.i 0] 44)]⟩ .nil (by kernel_rfl) .nil ?_
      (try rw [(show W64 (v39 + 1) = v39 + 1 from W64_id (by omega) au7)])
      refine ath_n ?_
      refine ⟨(n0, v39 + 1), ⟨?_, ?_, (by rw [← hF0]; simp only [FCheckS_l0, h3, h4, cond_true, cond_false])⟩, Nat.lt_succ_self _, cv_eq (by kernel_rfl)⟩
      ·show ((((s.Edges.length : Int))) - (v39 + 1)).toNat < n0; omega
      ·exact ⟨(by show 0 ≤ (v39 + 1); first | trivial | omega | exact at0 | exact at1 | exact at2 | (simp; omega) | simp), (by show ((v39 + 1) ≤ ((s.Edges.length : Int)) ∨ (v39 + 1) = 0); first | trivial | omega | exact at0 | exact at1 | exact at2 | (simp; omega) | simp)⟩
    ·have g3 := of_decide_eq_false h3
     refine aw_exit <| ath_e ?_
     refine ath_e <| abl_hit ?_
     refine ath_n <| aw_seq <| aw_seq ?_
     refine aw_region eqok [] [] [(52, (wCheckS_0 s))] [1, 2, 3, 52] [1, 2] [Same (wCheckS_0 s).2.1] ⟨[(1, tP 1 0), (2, tP 2 0), (3, tB (decide ((s.Kind : Int) = 2))), (52, .av (.one (.clo 84 2 (listF [.eptr 1 1 (fun _ j => ([lst 7 TEdge.c s.Edges] : List Cl).getD j default) 0 0, .eptr 1 1 (fun _ j => ([.b (decide ((s.Kind : Int) = 2))] : List Cl).getD j default) 0 0]))))], [(1, .cells (TShape.c s) 26), (2, .cells [.i 0] 44)]⟩ (.cons (callOk_pure (fun _ _ => by kernel_rfl) fun _ => pjoints s.Edges (decide ((s.Kind : Int) = 2))) .nil) (by kernel_rfl) (.cons rfl .nil) <| ath_n <| aw_block ?_
     refine aw_cv (Cv.trans (cv_ren (⟨[(1, tP 200001 0), (2, tP 2 0), (3, tB (decide ((s.Kind : Int) = 2))), (52, .av (.one (.clo 84 2 (listF [.eptr 1 1 (fun _ j => ([lst 7 TEdge.c s.Edges] : List Cl).getD j default) 0 0, .eptr 1 1 (fun _ j => ([.b (decide ((s.Kind : Int) = 2))] : List Cl).getD j default) 0 0]))))], [(200001, .cells (TShape.c s) 26), (2, .cells [.i 0] 44)]⟩) 1 200001 (K := none) (fun k x h => by cases h) rfl rfl (by kernel_rfl) (by kernel_rfl)) (Cv.trans (cv_ren (⟨[(1, tP 200001 0), (2, tP 200002 0), (3, tB (decide ((s.Kind : Int) = 2))), (52, .av (.one (.clo 84 2 (listF [.eptr 1 1 (fun _ j => ([lst 7 TEdge.c s.Edges] : List Cl).getD j default) 0 0, .eptr 1 1 (fun _ j => ([.b (decide ((s.Kind : Int) = 2))] : List Cl).getD j default) 0 0]))))], [(200001, .cells (TShape.c s) 26), (200002, .cells [.i 0] 44)]⟩) 2 200002 (K := none) (fun k x h => by cases h) rfl rfl (by kernel_rfl) (by kernel_rfl)) (Cv.refl _))) ?_
     refine aw_rangeB [200001, 200002] 299999 200001 (fun x1 => [(1, tP 200001 0), (2, tP 200002 0), (3, tB (decide ((s.Kind : Int) = 2))), (7, .av (.one (.eptr 7 1 (fun _ j => ((TEdge.c (jnA s.Edges x1.val)) : List Cl).getD j default) 0 0))), (8, .av (.one (.eptr 7 1 (fun _ j => ((TEdge.c (jnB s.Edges x1.val)) : List Cl).getD j default) 0 0))), (52, .av (.one (.clo 84 2 (listF [.eptr 1 1 (fun _ j => ([lst 7 TEdge.c s.Edges] : List Cl).getD j default) 0 0, .eptr 1 1 (fun _ j => ([.b (decide ((s.Kind : Int) = 2))] : List Cl).getD j default) 0 0]))))]) (fun y => FCheckS_r1 s v39 (FCheckS_l0 s n0) (jnN s.Edges (decide ((s.Kind : Int) = 2)) - y) y = FCheckS s) (fun _ => rfl) (by kernel_rfl) (by kernel_rfl) (fun _ _ => by kernel_rfl) (joints_it s.Edges (decide ((s.Kind : Int) = 2)) (fun _ => chk_len h1) (by omega)) (by kernel_rfl) (fun _ => rfl) (fun _ => rfl) (forall_get (p := BkM) (by simp only [List.forall_mem_cons]; exact ⟨bkM (nm_TShape _), bkM (by simp only [List.forall_mem_cons]; exact ⟨(.val _), fun x hx => by cases hx⟩), fun x hx => by cases hx⟩)) (fun x1 => (forall_get (p := TvM) (by simp only [List.forall_mem_cons]; exact ⟨avM_one (.ptr _ _), avM_one (.ptr _ _), avM_one (.val _), avM_one (nm_box (nm_TEdge _)), avM_one (nm_box (nm_TEdge _)), avM_one (nm_clo (by simp only [List.forall_mem_cons]; exact ⟨(nm_box (by simp only [List.forall_mem_cons]; exact ⟨(nm_lst nm_TEdge), fun x hx => by cases hx⟩)), (nm_box (by simp only [List.forall_mem_cons]; exact ⟨(.val _), fun x hx => by cases hx⟩)), fun x hx => by cases hx⟩)), fun x hx => by cases hx⟩))) (by rw [← hF0]; simp only [FCheckS_l0, h3, Nat.sub_zero, cond_true, cond_false]) (fun l1 W1 M1 X1 x1 hPX => ?_) (fun l2 W2 M2 X2 x1 hPX => ?_) (fun hF1 => ?_)
     ·refine aw_cvend <| aw_seq ?_
      refine aw_region eqok [] [] [] [1, 2, 3, 7, 52, 54] [7, 200001, 200002] [] ⟨[(1, tP 200001 0), (2, tP 200002 0), (3, tB (decide ((s.Kind : Int) = 2))), (7, tP 7 0), (52, .av (.one (.clo 84 2 (listF [.eptr 1 1 (fun _ j => ([lst 7 TEdge.c s.Edges] : List Cl).getD j default) 0 0, .eptr 1 1 (fun _ j => ([.b (decide ((s.Kind : Int) = 2))] : List Cl).getD j default) 0 0])))), (54, .av (.agg (TEdge.c (jnB s.Edges x1.val))))], [(7, .cells (TEdge.c (jnA s.Edges x1.val)) 35), (200001, .cells (TShape.c s) 26), (200002, .cells [.i 0] 44)]⟩ .nil (by kernel_rfl) .nil <| ath_n ?_
      refine aw_region eqok [] [] [] [1, 2, 3, 7, 8, 52] [7, 8, 200001, 200002] [] ⟨[(1, tP 200001 0), (2, tP 200002 0), (3, tB (decide ((s.Kind : Int) = 2))), (7, tP 7 0), (8, tP 8 0), (52, .av (.one (.clo 84 2 (listF [.eptr 1 1 (fun _ j => ([lst 7 TEdge.c s.Edges] : List Cl).getD j default) 0 0, .eptr 1 1 (fun _ j => ([.b (decide ((s.Kind : Int) = 2))] : List Cl).getD j default) 0 0]))))], [(7, .cells (TEdge.c (jnA s.Edges x1.val)) 35), (8, .cells (TEdge.c (jnB s.Edges x1.val)) 35), (200001, .cells (TShape.c s) 26), (200002, .cells [.i 0] 44)]⟩ .nil (by kernel_rfl) .nil ?_
      exact ⟨_, Cv.trans (cv_fixP (⟨[(1, tP 200001 0), (2, tP 200002 0), (3, tB (decide ((s.Kind : Int) = 2))), (7, .av (.one (.eptr 7 1 (fun _ j => ((TEdge.c (jnA s.Edges x1.val)) : List Cl).getD j default) 0 0))), (8, tP 8 0), (52, .av (.one (.clo 84 2 (listF [.eptr 1 1 (fun _ j => ([lst 7 TEdge.c s.Edges] : List Cl).getD j default) 0 0, .eptr 1 1 (fun _ j => ([.b (decide ((s.Kind : Int) = 2))] : List Cl).getD j default) 0 0]))))], [(8, .cells (TEdge.c (jnB s.Edges x1.val)) 35), (200001, .cells (TShape.c s) 26), (200002, .cells [.i 0] 44)]⟩) 7 (TEdge.c (jnA s.Edges x1.val)) 35 [200001, 200002] hPX (by kernel_rfl) (by kernel_rfl) (by kernel_rfl) (by kernel_rfl)) (Cv.trans (cv_fixP (⟨[(1, tP 200001 0), (2, tP 200002 0), (3, tB (decide ((s.Kind : Int) = 2))), (7, .av (.one (.eptr 7 1 (fun _ j => ((TEdge.c (jnA s.Edges x1.val)) : List Cl).getD j default) 0 0))), (8, .av (.one (.eptr 7 1 (fun _ j => ((TEdge.c (jnB s.Edges x1.val)) : List Cl).getD j default) 0 0))), (52, .av (.one (.clo 84 2 (listF [.eptr 1 1 (fun _ j => ([lst 7 TEdge.c s.Edges] : List Cl).getD j default) 0 0, .eptr 1 1 (fun _ j => ([.b (decide ((s.Kind : Int) = 2))] : List Cl).getD j default) 0 0]))))], [(200001, .cells (TShape.c s) 26), (200002, .cells [.i 0] 44)]⟩) 8 (TEdge.c (jnB s.Edges x1.val)) 35 [200001, 200002] hPX (by kernel_rfl) (by kernel_rfl) (by kernel_rfl) (by kernel_rfl)) (Cv.refl _)), rfl, rfl⟩
     ·refine aw_cvend <| aw_block <| aw_seq ?_
      refine aw_region eqok [] [] [] [1, 2, 3, 52, 59] [200001, 200002] [] ⟨[(1, tP 200001 0), (2, tP 200002 0), (3, tB (decide ((s.Kind : Int) = 2))), (52, .av (.one (.clo 84 2 (listF [.eptr 1 1 (fun _ j => ([lst 7 TEdge.c s.Edges] : List Cl).getD j default) 0 0, .eptr 1 1 (fun _ j => ([.b (decide ((s.Kind : Int) = 2))] : List Cl).getD j default) 0 0])))), (59, tB (!(decide ((((jnA s.Edges x1.val).B).X) = (((jnB s.Edges x1.val).A).X)) && (decide ((((jnA s.Edges x1.val).B).Y) = (((jnB s.Edges x1.val).A).Y)) && true))))], [(200001, .cells (TShape.c s) 26), (200002, .cells [.i 0] 44)]⟩ .nil (by kernel_rfl) .nil <| ath_n ?_
      refine aw_cond (!(decide ((((jnA s.Edges x1.val).B).X) = (((jnB s.Edges x1.val).A).X)) && (decide ((((jnA s.Edges x1.val).B).Y) = (((jnB s.Edges x1.val).A).Y)) && true))) (by kernel_rfl) (fun h4 => ?_) (fun h4 => ?_)
      ·refine aw_seq ?_
       refine aw_region eqok [] [] [] [2] [200002] [] ⟨[(2, tP 200002 0)], [(200002, .cells [.i 12] 44)]⟩ .nil (by kernel_rfl) .nil <| ath_n ?_
       refine aw_ret <| abl_r ?_
       refine ⟨_, Cv.refl _, (forall_get (p := BkM) (by simp only [List.forall_mem_cons]; exact ⟨bkM (by simp only [List.forall_mem_cons]; exact ⟨(.val _), fun x hx => by cases hx⟩), fun x hx => by cases hx⟩)), fun hF1 => ?_⟩
       change FCheckS_r1 s v39 (FCheckS_l0 s n0) (jnN s.Edges (decide ((s.Kind : Int) = 2)) - x1.val) x1.val = FCheckS s at hF1
       rw [show jnN s.Edges (decide ((s.Kind : Int) = 2)) - x1.val = (jnN s.Edges (decide ((s.Kind : Int) = 2)) - (x1.val + 1)) + 1 by have := x1.isLt; omega] at hF1
       refine abl_r <| ath_r ?_
       exact ⟨_, Cv.refl _, .inl rfl, .av (.one (.i 12)), by kernel_rfl, tve_eq (by rw [← hF1]; first | (simp only [FCheckS_r1, h4, cond_true, cond_false]; done) | (simp only [FCheckS_r1, h4, cond_true, cond_false]; rfl))⟩
      ·refine aw_skip <| abl_n ?_
       refine ⟨_, Cv.refl _, fun _ _ h => h, fun hF => ?_⟩
       change FCheckS_r1 s v39 (FCheckS_l0 s n0) (jnN s.Edges (decide ((s.Kind : Int) = 2)) - x1.val) x1.val = FCheckS s at hF
       rw [show jnN s.Edges (decide ((s.Kind : Int) = 2)) - x1.val = (jnN s.Edges (decide ((s.Kind : Int) = 2)) - (x1.val + 1)) + 1 by have := x1.isLt; omega] at hF
       show FCheckS_r1 s v39 (FCheckS_l0 s n0) (jnN s.Edges (decide ((s.Kind : Int) = 2)) - (x1.val + 1)) (x1.val + 1) = FCheckS s
       rw [← hF]
       first | (simp only [FCheckS_r1, h4, cond_true, cond_false]; done) | (simp only [FCheckS_r1, h4, cond_true, cond_false]; rfl)
     ·change FCheckS_r1 s v39 (FCheckS_l0 s n0) (jnN s.Edges (decide ((s.Kind : Int) = 2)) - (jnN s.Edges (decide ((s.Kind : Int) = 2)))) (jnN s.Edges (decide ((s.Kind : Int) = 2))) = FCheckS s at hF1
      rw [Nat.sub_self] at hF1
      refine abl_n <| ath_n ?_
      refine aw_seq <| aw_seq ?_
      refine aw_region eqok [] [] [] [2, 75] [200002] [((decide ((s.Kind : Int) = 2)) = true) → ((decide ((s.Kind : Int) = 2)) = true), ((decide ((s.Kind : Int) = 2)) = true) → ((decide ((s.Kind : Int) = 2)) = true), (decide ((s.Kind : Int) = 2)) = true → ((decide ((s.Kind : Int) = 2)) = true), ((bif decide ((s.Kind : Int) = 2) then !decide ((s.R : Int) = 0) else false) = false) → ((bif decide ((s.Kind : Int) = 2) then !decide ((s.R : Int) = 0) else false) = false), ((bif decide ((s.Kind : Int) = 2) then !decide ((s.R : Int) = 0) else false) = false) → ((bif decide ((s.Kind : Int) = 2) then !decide ((s.R : Int) = 0) else false) = false), (bif decide ((s.Kind : Int) = 2) then !decide ((s.R : Int) = 0) else false) = false → ((bif decide ((s.Kind : Int) = 2) then !decide ((s.R : Int) = 0) else false) = false), ((bif bif decide ((s.Kind : Int) = 2) then !decide ((s.R : Int) = 0) else false then true else decide ((s.R : Int) < 0)) = false) → ((bif bif decide ((s.Kind : Int) = 2) then !decide ((s.R : Int) = 0) else false then true else decide ((s.R : Int) < 0)) = false), ((bif bif decide ((s.Kind : Int) = 2) then !decide ((s.R : Int) = 0) else false then true else decide ((s.R : Int) < 0)) = false) → ((bif bif decide ((s.Kind : Int) = 2) then !decide ((s.R : Int) = 0) else false then true else decide ((s.R : Int) < 0)) = false), (bif bif decide ((s.Kind : Int) = 2) then !decide ((s.R : Int) = 0) else false then true else decide ((s.R : Int) < 0)) = false → ((bif bif decide ((s.Kind : Int) = 2) then !decide ((s.R : Int) = 0) else false then true else decide ((s.R : Int) < 0)) = false)] ⟨[(2, tP 200002 0), (75, tB (bif bif bif decide ((s.Kind : Int) = 2) then !decide ((s.R : Int) = 0) else false then true else decide ((s.R : Int) < 0) then true else decide ((4194304 : Int) < s.R)))], [(200002, .cells [.i 0] 44)]⟩ .nil (by kernel_rfl) (.cons id (.cons id (.cons id (.cons id (.cons id (.cons id (.cons id (.cons id (.cons id .nil))))))))) <| ath_n ?_
      refine aw_cond (bif bif bif decide ((s.Kind : Int) = 2) then !decide ((s.R : Int) = 0) else false then true else decide ((s.R : Int) < 0) then true else decide ((4194304 : Int) < s.R)) (by kernel_rfl) (fun h4 => ?_) (fun h4 => ?_)
      ·refine aw_seq ?_
       refine aw_region eqok [] [] [] [2] [200002] [] ⟨[(2, tP 200002 0)], [(200002, .cells [.i 3] 44)]⟩ .nil (by kernel_rfl) .nil <| ath_n ?_
       refine aw_ret <| ath_r ?_
       exact ⟨_, Cv.refl _, .inl rfl, .av (.one (.i 3)), by kernel_rfl, tve_eq (by rw [← hF1]; first | (simp only [FCheckS_r1, h4, cond_true, cond_false]; done) | (simp only [FCheckS_r1, h4, cond_true, cond_false]; rfl))⟩
      ·refine aw_skip <| ath_n <| aw_seq ?_
       refine aw_region eqok [] [] [] [2] [200002] [] ⟨[(2, tP 200002 0)], [(200002, .cells [.i 0] 44)]⟩ .nil (by kernel_rfl) .nil <| ath_n <| aw_ret ?_
       exact ⟨_, Cv.refl _, .inl rfl, .av (.one (.i 0)), by kernel_rfl, tve_eq (by rw [← hF1]; first | (simp only [FCheckS_r1, h4, cond_true, cond_false]; done) | (simp only [FCheckS_r1, h4, cond_true, cond_false]; rfl))⟩
theorem okCheckS (s : TShape) (hl : (s.Edges.length : Int) ≤ 9223372036854775807) : CallOk Try.prog (cCheckS s).1 (cCheckS s).2.1 (cCheckS s).2.2 := callOk_pure (fun _ _ => by kernel_rfl) fun _ => pCheckS s hl
end Go.Proofs.Ytpnlegfdkkcnlaa
namespace Go.Proofs.Ytpnlegfdkkcnlaa
set_option maxRecDepth 100000
open Go.RowKit
set_option linter.unusedVariables false
set_option linter.unusedSimpArgs false
def andK (k : IntKind) (a b : Int) : Int := k.wrap ((BitVec.ofInt k.bits a &&& BitVec.ofInt k.bits b).toNat)
def FvecWithin (x0 : TPoint) (x1 : TPoint) (x2 : TPoint) : Bool := decide ((0 : Int) ≤ (min (FvecCross x1 x0) (FvecCross x0 x2)))
def cvecWithin (x0 : TPoint) (x1 : TPoint) (x2 : TPoint) : FuncId × List Av × Ef := (73, [.agg (TPoint.c x0), .agg (TPoint.c x1), .agg (TPoint.c x2)], .val [] (.av (.one (.b (FvecWithin x0 x1 x2)))))
theorem pvecWithin (x0 : TPoint) (x1 : TPoint) (x2 : TPoint) : Pure Try.prog 73 (cvecWithin x0 x1 x2).2.1 (.av (.one (.b (FvecWithin x0 x1 x2)))) := by
 refine pure_of_awF Try.func73 rfl (by kernel_rfl) (by kernel_rfl) fun W0 M0 => ?_
 refine aw_seq ?_
 refine aw_region eqok [] [] [] [3, 4, 5] [3, 4, 5] [] ⟨[(3, tP 3 0), (4, tP 4 0), (5, tP 5 0)], [(3, .cells (TPoint.c x0) 29), (4, .cells (TPoint.c x1) 29), (5, .cells (TPoint.c x2) 29)]⟩ .nil (by kernel_rfl) .nil <| ath_n <| aw_seq ?_
 refine aw_draw mixed eqok [] [] [(9, cvecCross x1 x0), (12, cvecCross x0 x2)] [6] [] [Same (cvecCross x1 x0).2.1, Same (cvecCross x0 x2).2.1] ⟨[(6, tB (decide ((0 : Int) ≤ (min (FvecCross x1 x0) (FvecCross x0 x2)))))], []⟩ (.cons (okvecCross x1 x0) (.cons (okvecCross x0 x2) .nil)) (by kernel_rfl) (by kernel_rfl) (.cons rfl (.cons rfl .nil)) <| ath_n <| aw_ret ?_
 exact ⟨_, Cv.refl _, .inl rfl, .av (.one (.b (decide ((0 : Int) ≤ (min (FvecCross x1 x0) (FvecCross x0 x2)))))), by kernel_rfl, tve_eq (by rfl)⟩
theorem okvecWithin (x0 : TPoint) (x1 : TPoint) (x2 : TPoint) : CallOk Try.prog (cvecWithin x0 x1 x2).1 (cvecWithin x0 x1 x2).2.1 (cvecWithin x0 x1 x2).2.2 := callOk_pure (fun _ _ => by kernel_rfl) fun _ => pvecWithin x0 x1 x2
def Fref05Within (x0 : TPoint) (x1 : TPoint) (x2 : TPoint) : Bool := bif decide ((0 : Int) ≤ (Fref05Cross x1 x0)) then decide ((0 : Int) ≤ (Fref05Cross x0 x2)) else false
def cref05Within (x0 : TPoint) (x1 : TPoint) (x2 : TPoint) : FuncId × List Av × Ef := (97, [.agg (TPoint.c x0), .agg (TPoint.c x1), .agg (TPoint.c x2)], .val [] (.av (.one (.b (Fref05Within x0 x1 x2)))))
theorem pref05Within (x0 : TPoint) (x1 : TPoint) (x2 : TPoint) : Pure Try.prog 97 (cref05Within x0 x1 x2).2.1 (.av (.one (.b (Fref05Within x0 x1 x2)))) := by
 refine pure_of_awF Try.func97 rfl (by kernel_rfl) (by kernel_rfl) fun W0 M0 => ?_
 refine aw_seq ?_
 refine aw_region eqok [] [] [] [3, 4, 5] [3, 4, 5] [] ⟨[(3, tP 3 0), (4, tP 4 0), (5, tP 5 0)], [(3, .cells (TPoint.c x0) 29), (4, .cells (TPoint.c x1) 29), (5, .cells (TPoint.c x2) 29)]⟩ .nil (by kernel_rfl) .nil <| ath_n <| aw_seq ?_
 refine aw_region eqok [] [] [(9, cref05Cross x1 x0), (14, cref05Cross x0 x2)] [6] [] [Same (cref05Cross x1 x0).2.1, ((decide ((0 : Int) ≤ (Fref05Cross x1 x0))) = true) → ((decide ((0 : Int) ≤ (Fref05Cross x1 x0))) = true), ((decide ((0 : Int) ≤ (Fref05Cross x1 x0))) = true) → ((decide ((0 : Int) ≤ (Fref05Cross x1 x0))) = true), ((decide ((0 : Int) ≤ (Fref05Cross x1 x0))) = true) → (Same (cref05Cross x0 x2).2.1), ((decide ((0 : Int) ≤ (Fref05Cross x1 x0))) = true) → ((decide ((0 : Int) ≤ (Fref05Cross x1 x0))) = true), (decide ((0 : Int) ≤ (Fref05Cross x1 x0))) = true → ((decide ((0 : Int) ≤ (Fref05Cross x1 x0))) = true)] ⟨[(6, tB (bif decide ((0 : Int) ≤ (Fref05Cross x1 x0)) then decide ((0 : Int) ≤ (Fref05Cross x0 x2)) else false))], []⟩ (.cons (okref05Cross x1 x0) (.cons (okref05Cross x0 x2) .nil)) (by kernel_rfl) (.cons rfl (.cons id (.cons id (.cons (fun _ => rfl) (.cons id (.cons id .nil)))))) <| ath_n <| aw_ret ?_
 exact ⟨_, Cv.refl _, .inl rfl, .av (.one (.b (bif decide ((0 : Int) ≤ (Fref05Cross x1 x0)) then decide ((0 : Int) ≤ (Fref05Cross x0 x2)) else false))), by kernel_rfl, tve_eq (by rfl)⟩
theorem okref05Within (x0 : TPoint) (x1 : TPoint) (x2 : TPoint) : CallOk Try.prog (cref05Within x0 x1 x2).1 (cref05Within x0 x1 x2).2.1 (cref05Within x0 x1 x2).2.2 := callOk_pure (fun _ _ => by kernel_rfl) fun _ => pref05Within x0 x1 x2
def FsqS (x0 : TPoint) (x1 : TPoint) : Int := FvecDot (FvecSub x0 x1) (FvecSub x0 x1)
def csqS (x0 : TPoint) (x1 : TPoint) : FuncId × List Av × Ef := (70, [.agg (TPoint.c x0), .agg (TPoint.c x1)], .val [] (.av (.one (.i (FsqS x0 x1)))))
theorem psqS (x0 : TPoint) (x1 : TPoint) : Pure Try.prog 70 (csqS x0 x1).2.1 (.av (.one (.i (FsqS x0 x1)))) := by
 refine pure_of_awF Try.func70 rfl (by kernel_rfl) (by kernel_rfl) fun W0 M0 => ?_
 refine aw_seq ?_
 refine aw_region eqok [] [] [] [2, 3] [2, 3] [] ⟨[(2, tP 2 0), (3, tP 3 0)], [(2, .cells (TPoint.c x0) 29), (3, .cells (TPoint.c x1) 29)]⟩ .nil (by kernel_rfl) .nil <| ath_n <| aw_seq ?_
 refine aw_region eqok [] [] [(8, cvecSub x0 x1)] [5] [5] [Same (cvecSub x0 x1).2.1] ⟨[(5, tP 5 0)], [(5, .cells (TPoint.c (FvecSub x0 x1)) 29)]⟩ (.cons (okvecSub x0 x1) .nil) (by kernel_rfl) (.cons rfl .nil) <| ath_n <| aw_seq ?_
 refine aw_region eqok [] [] [(11, cvecDot (FvecSub x0 x1) (FvecSub x0 x1))] [4] [] [Same (cvecDot (FvecSub x0 x1) (FvecSub x0 x1)).2.1] ⟨[(4, tI (FvecDot (FvecSub x0 x1) (FvecSub x0 x1)))], []⟩ (.cons (okvecDot (FvecSub x0 x1) (FvecSub x0 x1)) .nil) (by kernel_rfl) (.cons rfl .nil) <| ath_n <| aw_ret ?_
 exact ⟨_, Cv.refl _, .inl rfl, .av (.one (.i (FvecDot (FvecSub x0 x1) (FvecSub x0 x1)))), by kernel_rfl, tve_eq (by rfl)⟩
theorem oksqS (x0 : TPoint) (x1 : TPoint) : CallOk Try.prog (csqS x0 x1).1 (csqS x0 x1).2.1 (csqS x0 x1).2.2 := callOk_pure (fun _ _ => by kernel_rfl) fun _ => psqS x0 x1
def FMul64 (x0 : Int) (x1 : Int) : (Int × Int) := (IntKind.u64.wrap ((IntKind.u64.wrap ((IntKind.u64.wrap ((Int.fdiv x0 4294967296) * (Int.fdiv x1 4294967296))) + (Int.fdiv (IntKind.u64.wrap ((IntKind.u64.wrap ((Int.fdiv x0 4294967296) * (andK .u64 x1 4294967295))) + (Int.fdiv (IntKind.u64.wrap ((andK .u64 x0 4294967295) * (andK .u64 x1 4294967295))) 4294967296))) 4294967296))) + (Int.fdiv (IntKind.u64.wrap ((andK .u64 (IntKind.u64.wrap ((IntKind.u64.wrap ((Int.fdiv x0 4294967296) * (andK .u64 x1 4294967295))) + (Int.fdiv (IntKind.u64.wrap ((andK .u64 x0 4294967295) * (andK .u64 x1 4294967295))) 4294967296))) 4294967295) + (IntKind.u64.wrap ((andK .u64 x0 4294967295) * (Int.fdiv x1 4294967296))))) 4294967296)), IntKind.u64.wrap (x0 * x1))
def cMul64 (x0 : Int) (x1 : Int) : FuncId × List Av × Ef := (89, [.one (.val (.int .u64 x0)), .one (.val (.int .u64 x1))], .val [] (.tup [.one (.val (.int .u64 ((FMul64 x0 x1).1))), .one (.val (.int .u64 ((FMul64 x0 x1).2)))]))
theorem pMul64 (x0 : Int) (x1 : Int) : Pure Try.prog 89 (cMul64 x0 x1).2.1 (.tup [.one (.val (.int .u64 ((FMul64 x0 x1).1))), .one (.val (.int .u64 ((FMul64 x0 x1).2)))]) := by
 refine pure_of_awF Try.func89 rfl (by kernel_rfl) (by kernel_rfl) fun W0 M0 => ?_
 refine aw_seq ?_
 refine aw_region eqok [] [] [] [0, 1] [] [] ⟨[(0, .av (.one (.val (.int .u64 x0)))), (1, .av (.one (.val (.int .u64 x1))))], []⟩ .nil (by kernel_rfl) .nil <| ath_n <| aw_seq ?_
 refine aw_region eqok [] [] [] [0, 1, 6] [] [] ⟨[(0, .av (.one (.val (.int .u64 x0)))), (1, .av (.one (.val (.int .u64 x1)))), (6, .av (.one (.val (.int .u64 (andK .u64 x0 4294967295)))))], []⟩ .nil (by kernel_rfl) .nil <| ath_n <| aw_seq ?_
 refine aw_region eqok [] [] [] [0, 1, 6, 7] [] [0 ≤ (32 : Int)] ⟨[(0, .av (.one (.val (.int .u64 x0)))), (1, .av (.one (.val (.int .u64 x1)))), (6, .av (.one (.val (.int .u64 (andK .u64 x0 4294967295))))), (7, .av (.one (.val (.int .u64 (Int.fdiv x0 4294967296)))))], []⟩ .nil (by kernel_rfl) (.cons (by decide) .nil) <| ath_n <| aw_seq ?_
 refine aw_region eqok [] [] [] [0, 1, 6, 7, 8] [] [] ⟨[(0, .av (.one (.val (.int .u64 x0)))), (1, .av (.one (.val (.int .u64 x1)))), (6, .av (.one (.val (.int .u64 (andK .u64 x0 4294967295))))), (7, .av (.one (.val (.int .u64 (Int.fdiv x0 4294967296))))), (8, .av (.one (.val (.int .u64 (andK .u64 x1 4294967295)))))], []⟩ .nil (by kernel_rfl) .nil <| ath_n <| aw_seq ?_
 refine aw_region eqok [] [] [] [0, 1, 6, 7, 8, 9] [] [0 ≤ (32 : Int)] ⟨[(0, .av (.one (.val (.int .u64 x0)))), (1, .av (.one (.val (.int .u64 x1)))), (6, .av (.one (.val (.int .u64 (andK .u64 x0 4294967295))))), (7, .av (.one (.val (.int .u64 (Int.fdiv x0 4294967296))))), (8, .av (.one (.val (.int .u64 (andK .u64 x1 4294967295))))), (9, .av (.one (.val (.int .u64 (Int.fdiv x1 4294967296)))))], []⟩ .nil (by kernel_rfl) (.cons (by decide) .nil) <| ath_n <| aw_seq ?_
 refine aw_region eqok [] [] [] [0, 1, 6, 7, 8, 9, 10] [] [] ⟨[(0, .av (.one (.val (.int .u64 x0)))), (1, .av (.one (.val (.int .u64 x1)))), (6, .av (.one (.val (.int .u64 (andK .u64 x0 4294967295))))), (7, .av (.one (.val (.int .u64 (Int.fdiv x0 4294967296))))), (8, .av (.one (.val (.int .u64 (andK .u64 x1 4294967295))))), (9, .av (.one (.val (.int .u64 (Int.fdiv x1 4294967296))))), (10, .av (.one (.val (.int .u64 (IntKind.u64.wrap ((andK .u64 x0 4294967295) * (andK .u64 x1 4294967295)))))))], []⟩ .nil (by kernel_rfl) .nil <| ath_n <| aw_seq ?_
 refine aw_region eqok [] [] [] [0, 1, 6, 7, 9, 11] [] [0 ≤ (32 : Int)] ⟨[(0, .av (.one (.val (.int .u64 x0)))), (1, .av (.one (.val (.int .u64 x1)))), (6, .av (.one (.val (.int .u64 (andK .u64 x0 4294967295))))), (7, .av (.one (.val (.int .u64 (Int.fdiv x0 4294967296))))), (9, .av (.one (.val (.int .u64 (Int.fdiv x1 4294967296))))), (11, .av (.one (.val (.int .u64 (IntKind.u64.wrap ((IntKind.u64.wrap ((Int.fdiv x0 4294967296) * (andK .u64 x1 4294967295))) + (Int.fdiv (IntKind.u64.wrap ((andK .u64 x0 4294967295) * (andK .u64 x1 4294967295))) 4294967296)))))))], []⟩ .nil (by kernel_rfl) (.cons (by decide) .nil) <| ath_n <| aw_seq ?_
 refine aw_region eqok [] [] [] [0, 1, 6, 7, 9, 11, 12] [] [] ⟨[(0, .av (.one (.val (.int .u64 x0)))), (1, .av (.one (.val (.int .u64 x1)))), (6, .av (.one (.val (.int .u64 (andK .u64 x0 4294967295))))), (7, .av (.one (.val (.int .u64 (Int.fdiv x0 4294967296))))), (9, .av (.one (.val (.int .u64 (Int.fdiv x1 4294967296))))), (11, .av (.one (.val (.int .u64 (IntKind.u64.wrap ((IntKind.u64.wrap ((Int.fdiv x0 4294967296) * (andK .u64 x1 4294967295))) + (Int.fdiv (IntKind.u64.wrap ((andK .u64 x0 4294967295) * (andK .u64 x1 4294967295))) 4294967296))))))), (12, .av (.one (.val (.int .u64 (andK .u64 (IntKind.u64.wrap ((IntKind.u64.wrap ((Int.fdiv x0 4294967296) * (andK .u64 x1 4294967295))) + (Int.fdiv (IntKind.u64.wrap ((andK .u64 x0 4294967295) * (andK .u64 x1 4294967295))) 4294967296))) 4294967295)))))], []⟩ .nil (by kernel_rfl) .nil <| ath_n <| aw_seq ?_
 refine aw_region eqok [] [] [] [0, 1, 6, 7, 9, 12, 13] [] [0 ≤ (32 : Int)] ⟨[(0, .av (.one (.val (.int .u64 x0)))), (1, .av (.one (.val (.int .u64 x1)))), (6, .av (.one (.val (.int .u64 (andK .u64 x0 4294967295))))), (7, .av (.one (.val (.int .u64 (Int.fdiv x0 4294967296))))), (9, .av (.one (.val (.int .u64 (Int.fdiv x1 4294967296))))), (12, .av (.one (.val (.int .u64 (andK .u64 (IntKind.u64.wrap ((IntKind.u64.wrap ((Int.fdiv x0 4294967296) * (andK .u64 x1 4294967295))) + (Int.fdiv (IntKind.u64.wrap ((andK .u64 x0 4294967295) * (andK .u64 x1 4294967295))) 4294967296))) 4294967295))))), (13, .av (.one (.val (.int .u64 (Int.fdiv (IntKind.u64.wrap ((IntKind.u64.wrap ((Int.fdiv x0 4294967296) * (andK .u64 x1 4294967295))) + (Int.fdiv (IntKind.u64.wrap ((andK .u64 x0 4294967295) * (andK .u64 x1 4294967295))) 4294967296))) 4294967296)))))], []⟩ .nil (by kernel_rfl) (.cons (by decide) .nil) <| ath_n <| aw_seq ?_
 refine aw_region eqok [] [] [] [0, 1, 7, 9, 12, 13] [] [] ⟨[(0, .av (.one (.val (.int .u64 x0)))), (1, .av (.one (.val (.int .u64 x1)))), (7, .av (.one (.val (.int .u64 (Int.fdiv x0 4294967296))))), (9, .av (.one (.val (.int .u64 (Int.fdiv x1 4294967296))))), (12, .av (.one (.val (.int .u64 (IntKind.u64.wrap ((andK .u64 (IntKind.u64.wrap ((IntKind.u64.wrap ((Int.fdiv x0 4294967296) * (andK .u64 x1 4294967295))) + (Int.fdiv (IntKind.u64.wrap ((andK .u64 x0 4294967295) * (andK .u64 x1 4294967295))) 4294967296))) 4294967295) + (IntKind.u64.wrap ((andK .u64 x0 4294967295) * (Int.fdiv x1 4294967296))))))))), (13, .av (.one (.val (.int .u64 (Int.fdiv (IntKind.u64.wrap ((IntKind.u64.wrap ((Int.fdiv x0 4294967296) * (andK .u64 x1 4294967295))) + (Int.fdiv (IntKind.u64.wrap ((andK .u64 x0 4294967295) * (andK .u64 x1 4294967295))) 4294967296))) 4294967296)))))], []⟩ .nil (by kernel_rfl) .nil <| ath_n <| aw_seq ?_
 refine aw_region eqok [] [] [] [0, 1, 4] [] [0 ≤ (32 : Int)] ⟨[(0, .av (.one (.val (.int .u64 x0)))), (1, .av (.one (.val (.int .u64 x1)))), (4, .av (.one (.val (.int .u64 (IntKind.u64.wrap ((IntKind.u64.wrap ((IntKind.u64.wrap ((Int.fdiv x0 4294967296) * (Int.fdiv x1 4294967296))) + (Int.fdiv (IntKind.u64.wrap ((IntKind.u64.wrap ((Int.fdiv x0 4294967296) * (andK .u64 x1 4294967295))) + (Int.fdiv (IntKind.u64.wrap ((andK .u64 x0 4294967295) * (andK .u64 x1 4294967295))) 4294967296))) 4294967296))) + (Int.fdiv (IntKind.u64.wrap ((andK .u64 (IntKind.u64.wrap ((IntKind.u64.wrap ((Int.fdiv x0 4294967296) * (andK .u64 x1 4294967295))) + (Int.fdiv (IntKind.u64.wrap ((andK .u64 x0 4294967295) * (andK .u64 x1 4294967295))) 4294967296))) 4294967295) + (IntKind.u64.wrap ((andK .u64 x0 4294967295) * (Int.fdiv x1 4294967296))))) 4294967296)))))))], []⟩ .nil (by kernel_rfl) (.cons (by decide) .nil) <| ath_n <| aw_seq ?_
 refine aw_region eqok [] [] [] [4, 5] [] [] ⟨[(4, .av (.one (.val (.int .u64 (IntKind.u64.wrap ((IntKind.u64.wrap ((IntKind.u64.wrap ((Int.fdiv x0 4294967296) * (Int.fdiv x1 4294967296))) + (Int.fdiv (IntKind.u64.wrap ((IntKind.u64.wrap ((Int.fdiv x0 4294967296) * (andK .u64 x1 4294967295))) + (Int.fdiv (IntKind.u64.wrap ((andK .u64 x0 4294967295) * (andK .u64 x1 4294967295))) 4294967296))) 4294967296))) + (Int.fdiv (IntKind.u64.wrap ((andK .u64 (IntKind.u64.wrap ((IntKind.u64.wrap ((Int.fdiv x0 4294967296) * (andK .u64 x1 4294967295))) + (Int.fdiv (IntKind.u64.wrap ((andK .u64 x0 4294967295) * (andK .u64 x1 4294967295))) 4294967296))) 4294967295) + (IntKind.u64.wrap ((andK .u64 x0 4294967295) * (Int.fdiv x1 4294967296))))) 4294967296))))))), (5, .av (.one (.val (.int .u64 (IntKind.u64.wrap (x0 * x1))))))], []⟩ .nil (by kernel_rfl) .nil <| ath_n <| aw_ret ?_
 exact ⟨_, Cv.refl _, .inl rfl, .tup [.one (.val (.int .u64 (IntKind.u64.wrap ((IntKind.u64.wrap ((IntKind.u64.wrap ((Int.fdiv x0 4294967296) * (Int.fdiv x1 4294967296))) + (Int.fdiv (IntKind.u64.wrap ((IntKind.u64.wrap ((Int.fdiv x0 4294967296) * (andK .u64 x1 4294967295))) + (Int.fdiv (IntKind.u64.wrap ((andK .u64 x0 4294967295) * (andK .u64 x1 4294967295))) 4294967296))) 4294967296))) + (Int.fdiv (IntKind.u64.wrap ((andK .u64 (IntKind.u64.wrap ((IntKind.u64.wrap ((Int.fdiv x0 4294967296) * (andK .u64 x1 4294967295))) + (Int.fdiv (IntKind.u64.wrap ((andK .u64 x0 4294967295) * (andK .u64 x1 4294967295))) 4294967296))) 4294967295) + (IntKind.u64.wrap ((andK .u64 x0 4294967295) * (Int.fdiv x1 4294967296))))) 4294967296))))), .one (.val (.int .u64 (IntKind.u64.wrap (x0 * x1))))], by kernel_rfl, tve_eq (by rfl)⟩
theorem okMul64 (x0 : Int) (x1 : Int) : CallOk Try.prog (cMul64 x0 x1).1 (cMul64 x0 x1).2.1 (cMul64 x0 x1).2.2 := callOk_pure (fun _ _ => by kernel_rfl) fun _ => pMul64 x0 x1
def FproductS (x0 : Int) (x1 : Int) : TWide := TWide.mk ((FMul64 (IntKind.u64.wrap (x0)) (IntKind.u64.wrap (x1))).1) ((FMul64 (IntKind.u64.wrap (x0)) (IntKind.u64.wrap (x1))).2)
def cproductS (x0 : Int) (x1 : Int) : FuncId × List Av × Ef := (76, [.one (.i x0), .one (.i x1)], .val [] (.av (.agg (TWide.c (FproductS x0 x1)))))
theorem pproductS (x0 : Int) (x1 : Int) : Pure Try.prog 76 (cproductS x0 x1).2.1 (.av (.agg (TWide.c (FproductS x0 x1)))) := by
 refine pure_of_awF Try.func76 rfl (by kernel_rfl) (by kernel_rfl) fun W0 M0 => ?_
 refine aw_seq ?_
 refine aw_region eqok [] [] [] [0, 1, 4] [4] [] ⟨[(0, tI x0), (1, tI x1), (4, tP 4 0)], [(4, .cells [.val (.int .u64 0), .val (.int .u64 0)] 109)]⟩ .nil (by kernel_rfl) .nil <| ath_n <| aw_seq ?_
 refine aw_region eqok [] [] [(12, cMul64 (IntKind.u64.wrap (x0)) (IntKind.u64.wrap (x1)))] [4, 5, 6] [4] [Same (cMul64 (IntKind.u64.wrap (x0)) (IntKind.u64.wrap (x1))).2.1] ⟨[(4, tP 4 0), (5, .av (.one (.val (.int .u64 ((FMul64 (IntKind.u64.wrap (x0)) (IntKind.u64.wrap (x1))).1))))), (6, .av (.one (.val (.int .u64 ((FMul64 (IntKind.u64.wrap (x0)) (IntKind.u64.wrap (x1))).2)))))], [(4, .cells [.val (.int .u64 0), .val (.int .u64 0)] 109)]⟩ (.cons (okMul64 (IntKind.u64.wrap (x0)) (IntKind.u64.wrap (x1))) .nil) (by kernel_rfl) (.cons rfl .nil) <| ath_n <| aw_seq ?_
 refine aw_region eqok [] [] [] [4] [4] [] ⟨[(4, tP 4 0)], [(4, .cells [.val (.int .u64 ((FMul64 (IntKind.u64.wrap (x0)) (IntKind.u64.wrap (x1))).1)), .val (.int .u64 ((FMul64 (IntKind.u64.wrap (x0)) (IntKind.u64.wrap (x1))).2))] 109)]⟩ .nil (by kernel_rfl) .nil <| ath_n <| aw_ret ?_
 exact ⟨_, Cv.refl _, .inl rfl, .av (.agg [.val (.int .u64 ((FMul64 (IntKind.u64.wrap (x0)) (IntKind.u64.wrap (x1))).1)), .val (.int .u64 ((FMul64 (IntKind.u64.wrap (x0)) (IntKind.u64.wrap (x1))).2))]), by kernel_rfl, tve_eq (by rfl)⟩
theorem okproductS (x0 : Int) (x1 : Int) : CallOk Try.prog (cproductS x0 x1).1 (cproductS x0 x1).2.1 (cproductS x0 x1).2.2 := callOk_pure (fun _ _ => by kernel_rfl) fun _ => pproductS x0 x1
def FatMost (x0 : TWide) (x1 : TWide) : Bool := bif bif (decide (x0.e0 = x1.e0) && (decide (x0.e1 = x1.e1) && true)) then true else decide ((x0.e0 : Int) < x1.e0) then true else bif decide ((x0.e0 : Int) = x1.e0) then decide ((x0.e1 : Int) < x1.e1) else false
def catMost (x0 : TWide) (x1 : TWide) : FuncId × List Av × Ef := (77, [.agg (TWide.c x0), .agg (TWide.c x1)], .val [] (.av (.one (.b (FatMost x0 x1)))))
theorem patMost (x0 : TWide) (x1 : TWide) : Pure Try.prog 77 (catMost x0 x1).2.1 (.av (.one (.b (FatMost x0 x1)))) := by
 refine pure_of_awF Try.func77 rfl (by kernel_rfl) (by kernel_rfl) fun W0 M0 => ?_
 refine aw_seq ?_
 refine aw_region eqok [] [] [] [2, 3] [2, 3] [] ⟨[(2, tP 2 0), (3, tP 3 0)], [(2, .cells (TWide.c x0) 109), (3, .cells (TWide.c x1) 109)]⟩ .nil (by kernel_rfl) .nil <| ath_n <| aw_seq ?_
 refine aw_region eqok [] [] [] [4] [] [(((decide (x0.e0 = x1.e0) && (decide (x0.e1 = x1.e1) && true))) = false) → (0 ≤ (0 : Int) ∧ (0 : Int) < (2 : Int)), (((decide (x0.e0 = x1.e0) && (decide (x0.e1 = x1.e1) && true))) = false) → (((decide (x0.e0 = x1.e0) && (decide (x0.e1 = x1.e1) && true))) = false), (((decide (x0.e0 = x1.e0) && (decide (x0.e1 = x1.e1) && true))) = false) → (0 ≤ (0 : Int) ∧ (0 : Int) < (2 : Int)), (((decide (x0.e0 = x1.e0) && (decide (x0.e1 = x1.e1) && true))) = false) → (((decide (x0.e0 = x1.e0) && (decide (x0.e1 = x1.e1) && true))) = false), (((decide (x0.e0 = x1.e0) && (decide (x0.e1 = x1.e1) && true))) = false) → (((decide (x0.e0 = x1.e0) && (decide (x0.e1 = x1.e1) && true))) = false), (((decide (x0.e0 = x1.e0) && (decide (x0.e1 = x1.e1) && true))) = false) → (((decide (x0.e0 = x1.e0) && (decide (x0.e1 = x1.e1) && true))) = false), ((decide (x0.e0 = x1.e0) && (decide (x0.e1 = x1.e1) && true))) = false → (((decide (x0.e0 = x1.e0) && (decide (x0.e1 = x1.e1) && true))) = false), ((bif (decide (x0.e0 = x1.e0) && (decide (x0.e1 = x1.e1) && true)) then true else decide ((x0.e0 : Int) < x1.e0)) = false) → (0 ≤ (0 : Int) ∧ (0 : Int) < (2 : Int)), ((bif (decide (x0.e0 = x1.e0) && (decide (x0.e1 = x1.e1) && true)) then true else decide ((x0.e0 : Int) < x1.e0)) = false) → ((bif (decide (x0.e0 = x1.e0) && (decide (x0.e1 = x1.e1) && true)) then true else decide ((x0.e0 : Int) < x1.e0)) = false), ((bif (decide (x0.e0 = x1.e0) && (decide (x0.e1 = x1.e1) && true)) then true else decide ((x0.e0 : Int) < x1.e0)) = false) → (0 ≤ (0 : Int) ∧ (0 : Int) < (2 : Int)), ((bif (decide (x0.e0 = x1.e0) && (decide (x0.e1 = x1.e1) && true)) then true else decide ((x0.e0 : Int) < x1.e0)) = false) → ((bif (decide (x0.e0 = x1.e0) && (decide (x0.e1 = x1.e1) && true)) then true else decide ((x0.e0 : Int) < x1.e0)) = false), ((bif (decide (x0.e0 = x1.e0) && (decide (x0.e1 = x1.e1) && true)) then true else decide ((x0.e0 : Int) < x1.e0)) = false) → ((bif (decide (x0.e0 = x1.e0) && (decide (x0.e1 = x1.e1) && true)) then true else decide ((x0.e0 : Int) < x1.e0)) = false), ((bif (decide (x0.e0 = x1.e0) && (decide (x0.e1 = x1.e1) && true)) then true else decide ((x0.e0 : Int) < x1.e0)) = false) → ((bif (decide (x0.e0 = x1.e0) && (decide (x0.e1 = x1.e1) && true)) then true else decide ((x0.e0 : Int) < x1.e0)) = false), ((bif (decide (x0.e0 = x1.e0) && (decide (x0.e1 = x1.e1) && true)) then true else decide ((x0.e0 : Int) < x1.e0)) = false) → ((bif (decide (x0.e0 = x1.e0) && (decide (x0.e1 = x1.e1) && true)) then true else decide ((x0.e0 : Int) < x1.e0)) = false), (((bif (decide (x0.e0 = x1.e0) && (decide (x0.e1 = x1.e1) && true)) then true else decide ((x0.e0 : Int) < x1.e0)) = false) ∧ (decide ((x0.e0 : Int) = x1.e0)) = true) → (0 ≤ (1 : Int) ∧ (1 : Int) < (2 : Int)), (((bif (decide (x0.e0 = x1.e0) && (decide (x0.e1 = x1.e1) && true)) then true else decide ((x0.e0 : Int) < x1.e0)) = false) ∧ (decide ((x0.e0 : Int) = x1.e0)) = true) → (((bif (decide (x0.e0 = x1.e0) && (decide (x0.e1 = x1.e1) && true)) then true else decide ((x0.e0 : Int) < x1.e0)) = false) ∧ (decide ((x0.e0 : Int) = x1.e0)) = true), (((bif (decide (x0.e0 = x1.e0) && (decide (x0.e1 = x1.e1) && true)) then true else decide ((x0.e0 : Int) < x1.e0)) = false) ∧ (decide ((x0.e0 : Int) = x1.e0)) = true) → (0 ≤ (1 : Int) ∧ (1 : Int) < (2 : Int)), (((bif (decide (x0.e0 = x1.e0) && (decide (x0.e1 = x1.e1) && true)) then true else decide ((x0.e0 : Int) < x1.e0)) = false) ∧ (decide ((x0.e0 : Int) = x1.e0)) = true) → (((bif (decide (x0.e0 = x1.e0) && (decide (x0.e1 = x1.e1) && true)) then true else decide ((x0.e0 : Int) < x1.e0)) = false) ∧ (decide ((x0.e0 : Int) = x1.e0)) = true), (((bif (decide (x0.e0 = x1.e0) && (decide (x0.e1 = x1.e1) && true)) then true else decide ((x0.e0 : Int) < x1.e0)) = false) ∧ (decide ((x0.e0 : Int) = x1.e0)) = true) → (((bif (decide (x0.e0 = x1.e0) && (decide (x0.e1 = x1.e1) && true)) then true else decide ((x0.e0 : Int) < x1.e0)) = false) ∧ (decide ((x0.e0 : Int) = x1.e0)) = true), (((bif (decide (x0.e0 = x1.e0) && (decide (x0.e1 = x1.e1) && true)) then true else decide ((x0.e0 : Int) < x1.e0)) = false) ∧ (decide ((x0.e0 : Int) = x1.e0)) = true) → (((bif (decide (x0.e0 = x1.e0) && (decide (x0.e1 = x1.e1) && true)) then true else decide ((x0.e0 : Int) < x1.e0)) = false) ∧ (decide ((x0.e0 : Int) = x1.e0)) = true), ((bif (decide (x0.e0 = x1.e0) && (decide (x0.e1 = x1.e1) && true)) then true else decide ((x0.e0 : Int) < x1.e0)) = false) → ((bif (decide (x0.e0 = x1.e0) && (decide (x0.e1 = x1.e1) && true)) then true else decide ((x0.e0 : Int) < x1.e0)) = false), ((bif (decide (x0.e0 = x1.e0) && (decide (x0.e1 = x1.e1) && true)) then true else decide ((x0.e0 : Int) < x1.e0)) = false) → ((decide ((x0.e0 : Int) = x1.e0)) = true → (((bif (decide (x0.e0 = x1.e0) && (decide (x0.e1 = x1.e1) && true)) then true else decide ((x0.e0 : Int) < x1.e0)) = false) ∧ (decide ((x0.e0 : Int) = x1.e0)) = true)), (bif (decide (x0.e0 = x1.e0) && (decide (x0.e1 = x1.e1) && true)) then true else decide ((x0.e0 : Int) < x1.e0)) = false → ((bif (decide (x0.e0 = x1.e0) && (decide (x0.e1 = x1.e1) && true)) then true else decide ((x0.e0 : Int) < x1.e0)) = false)] ⟨[(4, tB (bif bif (decide (x0.e0 = x1.e0) && (decide (x0.e1 = x1.e1) && true)) then true else decide ((x0.e0 : Int) < x1.e0) then true else bif decide ((x0.e0 : Int) = x1.e0) then decide ((x0.e1 : Int) < x1.e1) else false))], []⟩ .nil (by kernel_rfl) (.cons (fun _ => (by decide)) (.cons id (.cons (fun _ => (by decide)) (.cons id (.cons id (.cons id (.cons id (.cons (fun _ => (by decide)) (.cons id (.cons (fun _ => (by decide)) (.cons id (.cons id (.cons id (.cons id (.cons (fun _ => (by decide)) (.cons id (.cons (fun _ => (by decide)) (.cons id (.cons id (.cons id (.cons id (.cons (by intros; first | assumption | exact ⟨by assumption, by assumption⟩ | simp_all) (.cons id .nil))))))))))))))))))))))) <| ath_n <| aw_ret ?_
 exact ⟨_, Cv.refl _, .inl rfl, .av (.one (.b (bif bif (decide (x0.e0 = x1.e0) && (decide (x0.e1 = x1.e1) && true)) then true else decide ((x0.e0 : Int) < x1.e0) then true else bif decide ((x0.e0 : Int) = x1.e0) then decide ((x0.e1 : Int) < x1.e1) else false))), by kernel_rfl, tve_eq (by rfl)⟩
theorem okatMost (x0 : TWide) (x1 : TWide) : CallOk Try.prog (catMost x0 x1).1 (catMost x0 x1).2.1 (catMost x0 x1).2.2 := callOk_pure (fun _ _ => by kernel_rfl) fun _ => patMost x0 x1
def wnearS_0 (x0 : TEdge) : TPoint := bif decide ((x0.Kind : Int) = 3) then (FvecSub x0.B x0.C) else (FvecSub x0.A x0.C)
def wnearS_1 (x0 : TEdge) : TPoint := bif decide ((x0.Kind : Int) = 3) then (FvecSub x0.A x0.C) else (FvecSub x0.B x0.C)
def wnearS_2 (x1 : TPoint) (x0 : TEdge) : Bool := FvecWithin (FvecSub x1 x0.C) (wnearS_0 x0) (wnearS_1 x0)
def wnearS_3 (x0 : TEdge) (x1 : TPoint) : TWide := FproductS (max (FvecCross (FvecSub x0.B x0.A) (FvecSub x1 x0.A)) (W64 (0 - (FvecCross (FvecSub x0.B x0.A) (FvecSub x1 x0.A))))) (max (FvecCross (FvecSub x0.B x0.A) (FvecSub x1 x0.A)) (W64 (0 - (FvecCross (FvecSub x0.B x0.A) (FvecSub x1 x0.A)))))
def wnearS_4 (x2 : Int) (x0 : TEdge) : TWide := FproductS (W64 (x2 * x2)) (FvecDot (FvecSub x0.B x0.A) (FvecSub x0.B x0.A))
def wnearS_5 (x0 : TEdge) (x1 : TPoint) (x2 : Int) : Bool := FatMost (wnearS_3 x0 x1) (wnearS_4 x2 x0)
def FnearS (x0 : TEdge) (x1 : TPoint) (x2 : Int) : Bool := bif bif decide (((FsqS x1 x0.A) : Int) ≤ (W64 (x2 * x2))) then true else decide (((FsqS x1 x0.B) : Int) ≤ (W64 (x2 * x2))) then (true) else (bif !decide ((x0.Kind : Int) = 1) then (bif bif wnearS_2 x1 x0 then decide (((FsqS x1 x0.C) : Int) ≤ (W64 ((W64 ((FRadius x0) + x2)) * (W64 ((FRadius x0) + x2))))) else false then decide (((W64 ((max (W64 ((FRadius x0) - x2)) 0) * (max (W64 ((FRadius x0) - x2)) 0))) : Int) ≤ (FsqS x1 x0.C)) else false) else (bif bif decide (((FvecDot (FvecSub x1 x0.A) (FvecSub x0.B x0.A)) : Int) ≤ 0) then true else decide (((FvecDot (FvecSub x0.B x0.A) (FvecSub x0.B x0.A)) : Int) ≤ (FvecDot (FvecSub x1 x0.A) (FvecSub x0.B x0.A))) then (false) else (wnearS_5 x0 x1 x2)))
def cnearS (x0 : TEdge) (x1 : TPoint) (x2 : Int) : FuncId × List Av × Ef := (47, [.agg (TEdge.c x0), .agg (TPoint.c x1), .one (.i x2)], .val [] (.av (.one (.b (FnearS x0 x1 x2)))))
theorem pnearS (x0 : TEdge) (x1 : TPoint) (x2 : Int) : Pure Try.prog 47 (cnearS x0 x1 x2).2.1 (.av (.one (.b (FnearS x0 x1 x2)))) := by
 refine pure_of_awF Try.func47 rfl (by kernel_rfl) (by kernel_rfl) fun W0 M0 => ?_
 refine aw_seq ?_
 refine aw_region eqok [] [] [] [2, 3, 4] [3, 4] [] ⟨[(2, tI x2), (3, tP 3 0), (4, tP 4 0)], [(3, .cells (TEdge.c x0) 35), (4, .cells (TPoint.c x1) 29)]⟩ .nil (by kernel_rfl) .nil <| ath_n ?_
 refine aw_seq <| aw_seq ?_
 refine aw_region eqok [] [] [(19, csqS x1 x0.A), (28, csqS x1 x0.B)] [2, 3, 4, 33] [3, 4] [Same (csqS x1 x0.A).2.1, ((decide (((FsqS x1 x0.A) : Int) ≤ (W64 (x2 * x2)))) = false) → ((decide (((FsqS x1 x0.A) : Int) ≤ (W64 (x2 * x2)))) = false), ((decide (((FsqS x1 x0.A) : Int) ≤ (W64 (x2 * x2)))) = false) → ((decide (((FsqS x1 x0.A) : Int) ≤ (W64 (x2 * x2)))) = false), ((decide (((FsqS x1 x0.A) : Int) ≤ (W64 (x2 * x2)))) = false) → ((decide (((FsqS x1 x0.A) : Int) ≤ (W64 (x2 * x2)))) = false), ((decide (((FsqS x1 x0.A) : Int) ≤ (W64 (x2 * x2)))) = false) → (Same (csqS x1 x0.B).2.1), ((decide (((FsqS x1 x0.A) : Int) ≤ (W64 (x2 * x2)))) = false) → ((decide (((FsqS x1 x0.A) : Int) ≤ (W64 (x2 * x2)))) = false), ((decide (((FsqS x1 x0.A) : Int) ≤ (W64 (x2 * x2)))) = false) → ((decide (((FsqS x1 x0.A) : Int) ≤ (W64 (x2 * x2)))) = false), ((decide (((FsqS x1 x0.A) : Int) ≤ (W64 (x2 * x2)))) = false) → ((decide (((FsqS x1 x0.A) : Int) ≤ (W64 (x2 * x2)))) = false), ((decide (((FsqS x1 x0.A) : Int) ≤ (W64 (x2 * x2)))) = false) → ((decide (((FsqS x1 x0.A) : Int) ≤ (W64 (x2 * x2)))) = false), (decide (((FsqS x1 x0.A) : Int) ≤ (W64 (x2 * x2)))) = false → ((decide (((FsqS x1 x0.A) : Int) ≤ (W64 (x2 * x2)))) = false)] ⟨[(2, tI x2), (3, tP 3 0), (4, tP 4 0), (33, tB (bif decide (((FsqS x1 x0.A) : Int) ≤ (W64 (x2 * x2))) then true else decide (((FsqS x1 x0.B) : Int) ≤ (W64 (x2 * x2)))))], [(3, .cells (TEdge.c x0) 35), (4, .cells (TPoint.c x1) 29)]⟩ (.cons (oksqS x1 x0.A) (.cons (oksqS x1 x0.B) .nil)) (by kernel_rfl) (.cons rfl (.cons id (.cons id (.cons id (.cons (fun _ => rfl) (.cons id (.cons id (.cons id (.cons id (.cons id .nil)))))))))) <| ath_n ?_
 refine aw_cond (bif decide (((FsqS x1 x0.A) : Int) ≤ (W64 (x2 * x2))) then true else decide (((FsqS x1 x0.B) : Int) ≤ (W64 (x2 * x2)))) (by kernel_rfl) (fun h1 => ?_) (fun h1 => ?_)
 ·refine aw_seq ?_
  refine aw_region eqok [] [] [] [6] [] [] ⟨[(6, tB true)], []⟩ .nil (by kernel_rfl) .nil <| ath_n ?_
  refine aw_ret <| ath_r ?_
  exact ⟨_, Cv.refl _, .inl rfl, .av (.one (.b true)), by kernel_rfl, tve_eq (by first | (simp only [FnearS, h1, cond_true, cond_false]; done) | (simp only [FnearS, h1, cond_true, cond_false]; rfl))⟩
 ·refine aw_skip <| ath_n ?_
  refine aw_seq <| aw_seq ?_
  refine aw_region eqok [] [] [] [2, 3, 4, 36] [3, 4] [] ⟨[(2, tI x2), (3, tP 3 0), (4, tP 4 0), (36, tB (!decide ((x0.Kind : Int) = 1)))], [(3, .cells (TEdge.c x0) 35), (4, .cells (TPoint.c x1) 29)]⟩ .nil (by kernel_rfl) .nil <| ath_n ?_
  refine aw_cond (!decide ((x0.Kind : Int) = 1)) (by kernel_rfl) (fun h2 => ?_) (fun h2 => ?_)
  ·have g2 := of_not_decide_true h2
   refine aw_seq ?_
   refine aw_draw mixed eqok [] [] [(41, cvecSub x0.A x0.C), (46, cvecSub x0.B x0.C)] [2, 3, 4, 7, 8] [3, 4, 7, 8] [Same (cvecSub x0.A x0.C).2.1, Same (cvecSub x0.B x0.C).2.1] ⟨[(2, tI x2), (3, tP 3 0), (4, tP 4 0), (7, tP 7 0), (8, tP 8 0)], [(3, .cells (TEdge.c x0) 35), (4, .cells (TPoint.c x1) 29), (7, .cells (TPoint.c (FvecSub x0.A x0.C)) 29), (8, .cells (TPoint.c (FvecSub x0.B x0.C)) 29)]⟩ (.cons (okvecSub x0.A x0.C) (.cons (okvecSub x0.B x0.C) .nil)) (by kernel_rfl) (by kernel_rfl) (.cons rfl (.cons rfl .nil)) <| ath_n ?_
   refine aw_seq <| aw_seq ?_
   refine aw_region eqok [] [] [] [2, 3, 4, 7, 8, 49] [3, 4, 7, 8] [] ⟨[(2, tI x2), (3, tP 3 0), (4, tP 4 0), (7, tP 7 0), (8, tP 8 0), (49, tB (decide ((x0.Kind : Int) = 3)))], [(3, .cells (TEdge.c x0) 35), (4, .cells (TPoint.c x1) 29), (7, .cells (TPoint.c (FvecSub x0.A x0.C)) 29), (8, .cells (TPoint.c (FvecSub x0.B x0.C)) 29)]⟩ .nil (by kernel_rfl) .nil <| ath_n ?_
   refine aw_joinC (⟨[(2, tI x2), (3, tP 3 0), (4, tP 4 0), (7, tP 7 0), (8, tP 8 0)], [(3, .cells (TEdge.c x0) 35), (4, .cells (TPoint.c x1) 29), (7, .cells (TPoint.c (bif decide ((x0.Kind : Int) = 3) then (FvecSub x0.B x0.C) else (FvecSub x0.A x0.C))) 29), (8, .cells (TPoint.c (bif decide ((x0.Kind : Int) = 3) then (FvecSub x0.A x0.C) else (FvecSub x0.B x0.C))) 29)]⟩) ?_ ?_
   ·refine aw_cond (decide ((x0.Kind : Int) = 3)) (by kernel_rfl) (fun h3 => ?_) (fun h3 => ?_)
    ·have g3 := of_decide_eq_true h3
     refine aw_region eqok [] [] [] [2, 3, 4, 7, 8] [3, 4, 7, 8] [] ⟨[(2, tI x2), (3, tP 3 0), (4, tP 4 0), (7, tP 7 0), (8, tP 8 0)], [(3, .cells (TEdge.c x0) 35), (4, .cells (TPoint.c x1) 29), (7, .cells (TPoint.c (FvecSub x0.B x0.C)) 29), (8, .cells (TPoint.c (FvecSub x0.A x0.C)) 29)]⟩ .nil (by kernel_rfl) .nil <| ath_n ?_
     refine cv_eq ?_
     first | rfl | (simp only [h3, cond_true, cond_false]; done) | (simp only [h3, cond_true, cond_false]; rfl)
    ·have g3 := of_decide_eq_false h3
     refine aw_skip <| ath_n ?_
     refine Cv.trans (cv_keep [2, 3, 4, 7, 8] [3, 4, 7, 8] (⟨[(2, tI x2), (3, tP 3 0), (4, tP 4 0), (7, tP 7 0), (8, tP 8 0)], [(3, .cells (TEdge.c x0) 35), (4, .cells (TPoint.c x1) 29), (7, .cells (TPoint.c (FvecSub x0.A x0.C)) 29), (8, .cells (TPoint.c (FvecSub x0.B x0.C)) 29)]⟩) (by kernel_rfl)) (cv_eq ?_)
     first | rfl | (simp only [h3, cond_true, cond_false]; done) | (simp only [h3, cond_true, cond_false]; rfl)
   refine aw_seq ?_
   refine aw_draw mixed eqok [] [] [(55, csqS x1 x0.C), (57, cRadius x0)] [2, 3, 4, 7, 8, 9, 10] [3, 4, 7, 8] [Same (csqS x1 x0.C).2.1, Same (cRadius x0).2.1] ⟨[(2, tI x2), (3, tP 3 0), (4, tP 4 0), (7, tP 7 0), (8, tP 8 0), (9, tI (FsqS x1 x0.C)), (10, tI (FRadius x0))], [(3, .cells (TEdge.c x0) 35), (4, .cells (TPoint.c x1) 29), (7, .cells (TPoint.c (bif decide ((x0.Kind : Int) = 3) then (FvecSub x0.B x0.C) else (FvecSub x0.A x0.C))) 29), (8, .cells (TPoint.c (bif decide ((x0.Kind : Int) = 3) then (FvecSub x0.A x0.C) else (FvecSub x0.B x0.C))) 29)]⟩ (.cons (oksqS x1 x0.C) (.cons (okRadius x0) .nil)) (by kernel_rfl) (by kernel_rfl) (.cons rfl (.cons rfl .nil)) <| ath_n <| aw_seq ?_
   refine aw_region eqok [] [] [] [2, 3, 4, 7, 8, 9, 10, 11] [3, 4, 7, 8] [] ⟨[(2, tI x2), (3, tP 3 0), (4, tP 4 0), (7, tP 7 0), (8, tP 8 0), (9, tI (FsqS x1 x0.C)), (10, tI (FRadius x0)), (11, tI (max (W64 ((FRadius x0) - x2)) 0))], [(3, .cells (TEdge.c x0) 35), (4, .cells (TPoint.c x1) 29), (7, .cells (TPoint.c (bif decide ((x0.Kind : Int) = 3) then (FvecSub x0.B x0.C) else (FvecSub x0.A x0.C))) 29), (8, .cells (TPoint.c (bif decide ((x0.Kind : Int) = 3) then (FvecSub x0.A x0.C) else (FvecSub x0.B x0.C))) 29)]⟩ .nil (by kernel_rfl) .nil <| ath_n <| aw_seq ?_
   refine aw_draw mixed eqok [] [] [(65, cvecSub x1 x0.C), (68, cvecWithin (FvecSub x1 x0.C) (wnearS_0 x0) (wnearS_1 x0))] [6] [] [Same (cvecSub x1 x0.C).2.1, Same (cvecWithin (FvecSub x1 x0.C) (wnearS_0 x0) (wnearS_1 x0)).2.1, ((wnearS_2 x1 x0) = true) → ((wnearS_2 x1 x0) = true), ((wnearS_2 x1 x0) = true) → ((wnearS_2 x1 x0) = true), ((wnearS_2 x1 x0) = true) → ((wnearS_2 x1 x0) = true), ((wnearS_2 x1 x0) = true) → ((wnearS_2 x1 x0) = true), ((wnearS_2 x1 x0) = true) → ((wnearS_2 x1 x0) = true), ((wnearS_2 x1 x0) = true) → ((wnearS_2 x1 x0) = true), ((wnearS_2 x1 x0) = true) → ((wnearS_2 x1 x0) = true), ((wnearS_2 x1 x0) = true) → ((wnearS_2 x1 x0) = true), (wnearS_2 x1 x0) = true → ((wnearS_2 x1 x0) = true), ((bif wnearS_2 x1 x0 then decide (((FsqS x1 x0.C) : Int) ≤ (W64 ((W64 ((FRadius x0) + x2)) * (W64 ((FRadius x0) + x2))))) else false) = true) → ((bif wnearS_2 x1 x0 then decide (((FsqS x1 x0.C) : Int) ≤ (W64 ((W64 ((FRadius x0) + x2)) * (W64 ((FRadius x0) + x2))))) else false) = true), ((bif wnearS_2 x1 x0 then decide (((FsqS x1 x0.C) : Int) ≤ (W64 ((W64 ((FRadius x0) + x2)) * (W64 ((FRadius x0) + x2))))) else false) = true) → ((bif wnearS_2 x1 x0 then decide (((FsqS x1 x0.C) : Int) ≤ (W64 ((W64 ((FRadius x0) + x2)) * (W64 ((FRadius x0) + x2))))) else false) = true), ((bif wnearS_2 x1 x0 then decide (((FsqS x1 x0.C) : Int) ≤ (W64 ((W64 ((FRadius x0) + x2)) * (W64 ((FRadius x0) + x2))))) else false) = true) → ((bif wnearS_2 x1 x0 then decide (((FsqS x1 x0.C) : Int) ≤ (W64 ((W64 ((FRadius x0) + x2)) * (W64 ((FRadius x0) + x2))))) else false) = true), ((bif wnearS_2 x1 x0 then decide (((FsqS x1 x0.C) : Int) ≤ (W64 ((W64 ((FRadius x0) + x2)) * (W64 ((FRadius x0) + x2))))) else false) = true) → ((bif wnearS_2 x1 x0 then decide (((FsqS x1 x0.C) : Int) ≤ (W64 ((W64 ((FRadius x0) + x2)) * (W64 ((FRadius x0) + x2))))) else false) = true), (bif wnearS_2 x1 x0 then decide (((FsqS x1 x0.C) : Int) ≤ (W64 ((W64 ((FRadius x0) + x2)) * (W64 ((FRadius x0) + x2))))) else false) = true → ((bif wnearS_2 x1 x0 then decide (((FsqS x1 x0.C) : Int) ≤ (W64 ((W64 ((FRadius x0) + x2)) * (W64 ((FRadius x0) + x2))))) else false) = true)] ⟨[(6, tB (bif bif wnearS_2 x1 x0 then decide (((FsqS x1 x0.C) : Int) ≤ (W64 ((W64 ((FRadius x0) + x2)) * (W64 ((FRadius x0) + x2))))) else false then decide (((W64 ((max (W64 ((FRadius x0) - x2)) 0) * (max (W64 ((FRadius x0) - x2)) 0))) : Int) ≤ (FsqS x1 x0.C)) else false))], []⟩ (.cons (okvecSub x1 x0.C) (.cons (okvecWithin (FvecSub x1 x0.C) (wnearS_0 x0) (wnearS_1 x0)) .nil)) (by kernel_rfl) (by kernel_rfl) (.cons rfl (.cons rfl (.cons id (.cons id (.cons id (.cons id (.cons id (.cons id (.cons id (.cons id (.cons id (.cons id (.cons id (.cons id (.cons id (.cons id .nil)))))))))))))))) <| ath_n ?_
   refine aw_ret <| ath_r ?_
   exact ⟨_, Cv.refl _, .inl rfl, .av (.one (.b (bif bif wnearS_2 x1 x0 then decide (((FsqS x1 x0.C) : Int) ≤ (W64 ((W64 ((FRadius x0) + x2)) * (W64 ((FRadius x0) + x2))))) else false then decide (((W64 ((max (W64 ((FRadius x0) - x2)) 0) * (max (W64 ((FRadius x0) - x2)) 0))) : Int) ≤ (FsqS x1 x0.C)) else false))), by kernel_rfl, tve_eq (by first | (simp only [FnearS, h1, h2, cond_true, cond_false]; done) | (simp only [FnearS, h1, h2, cond_true, cond_false]; rfl))⟩
  ·have g2 := of_not_decide_false h2
   refine aw_skip <| ath_n <| aw_seq ?_
   refine aw_region eqok [] [] [(91, cvecSub x0.B x0.A)] [2, 3, 4, 12] [3, 4, 12] [Same (cvecSub x0.B x0.A).2.1] ⟨[(2, tI x2), (3, tP 3 0), (4, tP 4 0), (12, tP 12 0)], [(3, .cells (TEdge.c x0) 35), (4, .cells (TPoint.c x1) 29), (12, .cells (TPoint.c (FvecSub x0.B x0.A)) 29)]⟩ (.cons (okvecSub x0.B x0.A) .nil) (by kernel_rfl) (.cons rfl .nil) <| ath_n <| aw_seq ?_
   refine aw_draw mixed eqok [] [] [(95, cvecSub x1 x0.A), (97, cvecDot (FvecSub x1 x0.A) (FvecSub x0.B x0.A)), (100, cvecDot (FvecSub x0.B x0.A) (FvecSub x0.B x0.A))] [2, 3, 4, 12, 13, 14] [3, 4, 12] [Same (cvecSub x1 x0.A).2.1, Same (cvecDot (FvecSub x1 x0.A) (FvecSub x0.B x0.A)).2.1, Same (cvecDot (FvecSub x0.B x0.A) (FvecSub x0.B x0.A)).2.1] ⟨[(2, tI x2), (3, tP 3 0), (4, tP 4 0), (12, tP 12 0), (13, tI (FvecDot (FvecSub x1 x0.A) (FvecSub x0.B x0.A))), (14, tI (FvecDot (FvecSub x0.B x0.A) (FvecSub x0.B x0.A)))], [(3, .cells (TEdge.c x0) 35), (4, .cells (TPoint.c x1) 29), (12, .cells (TPoint.c (FvecSub x0.B x0.A)) 29)]⟩ (.cons (okvecSub x1 x0.A) (.cons (okvecDot (FvecSub x1 x0.A) (FvecSub x0.B x0.A)) (.cons (okvecDot (FvecSub x0.B x0.A) (FvecSub x0.B x0.A)) .nil))) (by kernel_rfl) (by kernel_rfl) (.cons rfl (.cons rfl (.cons rfl .nil))) <| ath_n ?_
   refine aw_seq <| aw_seq ?_
   refine aw_region eqok [] [] [] [2, 3, 4, 12, 14, 107] [3, 4, 12] [((decide (((FvecDot (FvecSub x1 x0.A) (FvecSub x0.B x0.A)) : Int) ≤ 0)) = false) → ((decide (((FvecDot (FvecSub x1 x0.A) (FvecSub x0.B x0.A)) : Int) ≤ 0)) = false), ((decide (((FvecDot (FvecSub x1 x0.A) (FvecSub x0.B x0.A)) : Int) ≤ 0)) = false) → ((decide (((FvecDot (FvecSub x1 x0.A) (FvecSub x0.B x0.A)) : Int) ≤ 0)) = false), (decide (((FvecDot (FvecSub x1 x0.A) (FvecSub x0.B x0.A)) : Int) ≤ 0)) = false → ((decide (((FvecDot (FvecSub x1 x0.A) (FvecSub x0.B x0.A)) : Int) ≤ 0)) = false)] ⟨[(2, tI x2), (3, tP 3 0), (4, tP 4 0), (12, tP 12 0), (14, tI (FvecDot (FvecSub x0.B x0.A) (FvecSub x0.B x0.A))), (107, tB (bif decide (((FvecDot (FvecSub x1 x0.A) (FvecSub x0.B x0.A)) : Int) ≤ 0) then true else decide (((FvecDot (FvecSub x0.B x0.A) (FvecSub x0.B x0.A)) : Int) ≤ (FvecDot (FvecSub x1 x0.A) (FvecSub x0.B x0.A)))))], [(3, .cells (TEdge.c x0) 35), (4, .cells (TPoint.c x1) 29), (12, .cells (TPoint.c (FvecSub x0.B x0.A)) 29)]⟩ .nil (by kernel_rfl) (.cons id (.cons id (.cons id .nil))) <| ath_n ?_
   refine aw_cond (bif decide (((FvecDot (FvecSub x1 x0.A) (FvecSub x0.B x0.A)) : Int) ≤ 0) then true else decide (((FvecDot (FvecSub x0.B x0.A) (FvecSub x0.B x0.A)) : Int) ≤ (FvecDot (FvecSub x1 x0.A) (FvecSub x0.B x0.A)))) (by kernel_rfl) (fun h3 => ?_) (fun h3 => ?_)
   ·refine aw_seq ?_
    refine aw_region eqok [] [] [] [6] [] [] ⟨[(6, tB false)], []⟩ .nil (by kernel_rfl) .nil <| ath_n ?_
    refine aw_ret <| ath_r ?_
    exact ⟨_, Cv.refl _, .inl rfl, .av (.one (.b false)), by kernel_rfl, tve_eq (by first | (simp only [FnearS, h1, h2, h3, cond_true, cond_false]; done) | (simp only [FnearS, h1, h2, h3, cond_true, cond_false]; rfl))⟩
   ·refine aw_skip <| ath_n <| aw_seq ?_
    refine aw_draw mixed eqok [] [] [(112, cvecSub x1 x0.A), (113, cvecCross (FvecSub x0.B x0.A) (FvecSub x1 x0.A))] [2, 14, 15] [] [Same (cvecSub x1 x0.A).2.1, Same (cvecCross (FvecSub x0.B x0.A) (FvecSub x1 x0.A)).2.1] ⟨[(2, tI x2), (14, tI (FvecDot (FvecSub x0.B x0.A) (FvecSub x0.B x0.A))), (15, tI (FvecCross (FvecSub x0.B x0.A) (FvecSub x1 x0.A)))], []⟩ (.cons (okvecSub x1 x0.A) (.cons (okvecCross (FvecSub x0.B x0.A) (FvecSub x1 x0.A)) .nil)) (by kernel_rfl) (by kernel_rfl) (.cons rfl (.cons rfl .nil)) <| ath_n <| aw_seq ?_
    refine aw_region eqok [] [] [] [2, 14, 15] [] [] ⟨[(2, tI x2), (14, tI (FvecDot (FvecSub x0.B x0.A) (FvecSub x0.B x0.A))), (15, tI (max (FvecCross (FvecSub x0.B x0.A) (FvecSub x1 x0.A)) (W64 (0 - (FvecCross (FvecSub x0.B x0.A) (FvecSub x1 x0.A))))))], []⟩ .nil (by kernel_rfl) .nil <| ath_n <| aw_seq ?_
    refine aw_region eqok [] [] [(120, cproductS (max (FvecCross (FvecSub x0.B x0.A) (FvecSub x1 x0.A)) (W64 (0 - (FvecCross (FvecSub x0.B x0.A) (FvecSub x1 x0.A))))) (max (FvecCross (FvecSub x0.B x0.A) (FvecSub x1 x0.A)) (W64 (0 - (FvecCross (FvecSub x0.B x0.A) (FvecSub x1 x0.A)))))), (125, cproductS (W64 (x2 * x2)) (FvecDot (FvecSub x0.B x0.A) (FvecSub x0.B x0.A))), (126, catMost (wnearS_3 x0 x1) (wnearS_4 x2 x0))] [6] [] [Same (cproductS (max (FvecCross (FvecSub x0.B x0.A) (FvecSub x1 x0.A)) (W64 (0 - (FvecCross (FvecSub x0.B x0.A) (FvecSub x1 x0.A))))) (max (FvecCross (FvecSub x0.B x0.A) (FvecSub x1 x0.A)) (W64 (0 - (FvecCross (FvecSub x0.B x0.A) (FvecSub x1 x0.A)))))).2.1, Same (cproductS (W64 (x2 * x2)) (FvecDot (FvecSub x0.B x0.A) (FvecSub x0.B x0.A))).2.1, Same (catMost (wnearS_3 x0 x1) (wnearS_4 x2 x0)).2.1] ⟨[(6, tB (wnearS_5 x0 x1 x2))], []⟩ (.cons (okproductS (max (FvecCross (FvecSub x0.B x0.A) (FvecSub x1 x0.A)) (W64 (0 - (FvecCross (FvecSub x0.B x0.A) (FvecSub x1 x0.A))))) (max (FvecCross (FvecSub x0.B x0.A) (FvecSub x1 x0.A)) (W64 (0 - (FvecCross (FvecSub x0.B x0.A) (FvecSub x1 x0.A)))))) (.cons (okproductS (W64 (x2 * x2)) (FvecDot (FvecSub x0.B x0.A) (FvecSub x0.B x0.A))) (.cons (okatMost (wnearS_3 x0 x1) (wnearS_4 x2 x0)) .nil))) (by kernel_rfl) (.cons rfl (.cons rfl (.cons rfl .nil))) <| ath_n <| aw_ret ?_
    exact ⟨_, Cv.refl _, .inl rfl, .av (.one (.b (wnearS_5 x0 x1 x2))), by kernel_rfl, tve_eq (by first | (simp only [FnearS, h1, h2, h3, cond_true, cond_false]; done) | (simp only [FnearS, h1, h2, h3, cond_true, cond_false]; rfl))⟩
theorem oknearS (x0 : TEdge) (x1 : TPoint) (x2 : Int) : CallOk Try.prog (cnearS x0 x1 x2).1 (cnearS x0 x1 x2).2.1 (cnearS x0 x1 x2).2.2 := callOk_pure (fun _ _ => by kernel_rfl) fun _ => pnearS x0 x1 x2
end Go.Proofs.Ytpnlegfdkkcnlaa
namespace Go.Proofs.Ytpnlegfdkkcnlaa
set_option maxRecDepth 100000
open Go.RowKit
set_option linter.unusedVariables false
set_option linter.unusedSimpArgs false
def wBox_1 (s : TShape) (v21 : Int) : TEdge := (s.Edges.drop (1 : Int).toNat).getD v21.toNat default
def FBox_l0 (s : TShape) : Nat → TRect → Int → TRect
 | 0, _, _ => default
 | n0 + 1, v3, v21 => bif decide ((v21 : Int) < ((((((s.Edges.length : Nat) : Int) : Int).toNat - (1 : Int).toNat : Nat) : Int))) then ((FBox_l0 s n0) (TRect.mk (min v3.X0 ((FedgeBox (wBox_1 s v21)).X0)) (min v3.Y0 ((FedgeBox (wBox_1 s v21)).Y0)) (max v3.X1 ((FedgeBox (wBox_1 s v21)).X1)) (max v3.Y1 ((FedgeBox (wBox_1 s v21)).Y1))) (v21 + 1)) else (TRect.mk (W64 (v3.X0 - s.R)) (W64 (v3.Y0 - s.R)) (W64 (v3.X1 + s.R)) (W64 (v3.Y1 + s.R)))
def FBox (s : TShape) : TRect := bif decide ((((s.Edges.length : Int)) : Int) = 0) then (TRect.mk 0 0 0 0) else (FBox_l0 s (((((((((s.Edges.length : Nat) : Int) : Int).toNat - (1 : Int).toNat : Nat) : Int))) - 0).toNat + 1) (FedgeBox (s.Edges.getD 0 default)) 0)
def cBox (s : TShape) : FuncId × List Av × Ef := (25, [.agg (TShape.c s)], .val [] (.av (.agg (TRect.c (FBox s)))))
theorem pBox (s : TShape) (h0 : (s.Edges.length : Int) ≤ 1000000) : Pure Try.prog 25 (cBox s).2.1 (.av (.agg (TRect.c (FBox s)))) := by
 refine pure_of_awF Try.func25 rfl (by kernel_rfl) (by kernel_rfl) fun W0 M0 => ?_
 refine aw_seq ?_
 refine aw_region eqok [] [] [] [1, 2] [1, 2] [] ⟨[(1, tP 1 0), (2, tP 2 0)], [(1, .cells (TShape.c s) 26), (2, .cells [.i 0, .i 0, .i 0, .i 0] 54)]⟩ .nil (by kernel_rfl) .nil <| ath_n ?_
 refine aw_seq <| aw_seq ?_
 refine aw_region eqok [] [] [] [1, 2, 10] [1, 2] [] ⟨[(1, tP 1 0), (2, tP 2 0), (10, tB (decide ((((s.Edges.length : Int)) : Int) = 0)))], [(1, .cells (TShape.c s) 26), (2, .cells [.i 0, .i 0, .i 0, .i 0] 54)]⟩ .nil (by kernel_rfl) .nil <| ath_n ?_
 refine aw_cond (decide ((((s.Edges.length : Int)) : Int) = 0)) (by kernel_rfl) (fun h1 => ?_) (fun h1 => ?_)
 ·have g1 := of_decide_eq_true h1
  refine aw_seq ?_
  refine aw_region eqok [] [] [] [2] [2] [] ⟨[(2, tP 2 0)], [(2, .cells [.i 0, .i 0, .i 0, .i 0] 54)]⟩ .nil (by kernel_rfl) .nil <| ath_n ?_
  refine aw_ret <| ath_r ?_
  exact ⟨_, Cv.refl _, .inl rfl, .av (.agg [.i 0, .i 0, .i 0, .i 0]), by kernel_rfl, tve_eq (by first | (simp only [FBox, h1, cond_true, cond_false]; done) | (simp only [FBox, h1, cond_true, cond_false]; rfl))⟩
 ·have g1 := of_decide_eq_false h1
  refine aw_skip <| ath_n <| aw_seq ?_
  refine aw_region eqok [] [] [(16, cedgeBox (s.Edges.getD 0 default))] [1, 2, 3] [1, 2, 3] [0 ≤ (0 : Int) ∧ (0 : Int) < ((s.Edges.length : Nat) : Int), Same (cedgeBox (s.Edges.getD 0 default)).2.1] ⟨[(1, tP 1 0), (2, tP 2 0), (3, tP 3 0)], [(1, .cells (TShape.c s) 26), (2, .cells [.i 0, .i 0, .i 0, .i 0] 54), (3, .cells (TRect.c (FedgeBox (s.Edges.getD 0 default))) 54)]⟩ (.cons (okedgeBox (s.Edges.getD 0 default)) .nil) (by kernel_rfl) (.cons au1 (.cons rfl .nil)) <| ath_n ?_
  refine aw_seq <| aw_seq ?_
  refine aw_region eqok [] [] [] [1, 2, 3, 19, 20, 21] [1, 2, 3] [0 ≤ (1 : Int) ∧ (1 : Int) ≤ (((s.Edges.length : Nat) : Int) : Int) ∧ (((s.Edges.length : Nat) : Int) : Int) ≤ ((s.Edges.length : Nat) : Int)] ⟨[(1, tP 1 0), (2, tP 2 0), (3, tP 3 0), (19, .av (.one (.list false 7 ((((s.Edges.length : Nat) : Int) : Int).toNat - (1 : Int).toNat) (fun i j => (rowF TEdge.c s.Edges) (i + (1 : Int).toNat) j)))), (20, tI ((((((s.Edges.length : Nat) : Int) : Int).toNat - (1 : Int).toNat : Nat) : Int))), (21, tI 0)], [(1, .cells (TShape.c s) 26), (2, .cells [.i 0, .i 0, .i 0, .i 0] 54), (3, .cells (TRect.c (FedgeBox (s.Edges.getD 0 default))) 54)]⟩ .nil (by kernel_rfl) (.cons au1 .nil) <| ath_n ?_
  refine aw_cv (Cv.trans (cv_ce (⟨[(1, tP 1 0), (2, tP 2 0), (3, tP 3 0), (19, .av (.one (lst 7 TEdge.c (s.Edges.drop (1 : Int).toNat)))), (20, tI ((((((s.Edges.length : Nat) : Int) : Int).toNat - (1 : Int).toNat : Nat) : Int))), (21, tI 0)], [(1, .cells (TShape.c s) 26), (2, .cells [.i 0, .i 0, .i 0, .i 0] 54), (3, .cells (TRect.c (FedgeBox (s.Edges.getD 0 default))) 54)]⟩) (.cons ⟨rfl, .refl _⟩ (.cons ⟨rfl, .refl _⟩ (.cons ⟨rfl, .refl _⟩ (.cons ⟨rfl, .av (.one (cle_told false (told_drop (a := 1) (told_rfl 7 TEdge.c s.Edges) (by have hc := (show 0 ≤ (1 : Int) ∧ (1 : Int) ≤ (((s.Edges.length : Nat) : Int) : Int) ∧ (((s.Edges.length : Nat) : Int) : Int) ≤ ((s.Edges.length : Nat) : Int) from au1); exact hc.1) (by have hc := (show 0 ≤ (1 : Int) ∧ (1 : Int) ≤ (((s.Edges.length : Nat) : Int) : Int) ∧ (((s.Edges.length : Nat) : Int) : Int) ≤ ((s.Edges.length : Nat) : Int) from au1); exact hc.2.1))))⟩ (.cons ⟨rfl, .refl _⟩ (.cons ⟨rfl, .refl _⟩ .nil)))))) (.cons ⟨rfl, .refl _⟩ (.cons ⟨rfl, .refl _⟩ (.cons ⟨rfl, .refl _⟩ .nil)))) (Cv.refl _)) <| aw_block ?_
  refine aw_loopC (ι := Nat × TRect × Int) (fun x => ⟨[(1, tP 1 0), (2, tP 2 0), (3, tP 3 0), (19, .av (.one (lst 7 TEdge.c (s.Edges.drop (1 : Int).toNat)))), (20, tI ((((((s.Edges.length : Nat) : Int) : Int).toNat - (1 : Int).toNat : Nat) : Int))), (21, tI x.2.2)], [(1, .cells (TShape.c s) 26), (2, .cells [.i 0, .i 0, .i 0, .i 0] 54), (3, .cells (TRect.c x.2.1) 54)]⟩) (fun x => ((((((((s.Edges.length : Nat) : Int) : Int).toNat - (1 : Int).toNat : Nat) : Int))) - x.2.2).toNat < x.1 ∧ (0 ≤ x.2.2 ∧ (x.2.2 ≤ ((((((s.Edges.length : Nat) : Int) : Int).toNat - (1 : Int).toNat : Nat) : Int)) ∨ x.2.2 = 0)) ∧ FBox_l0 s x.1 x.2.1 x.2.2 = FBox s) (fun x => x.1) ?_ (((((((((s.Edges.length : Nat) : Int) : Int).toNat - (1 : Int).toNat : Nat) : Int))) - 0).toNat + 1, FedgeBox (s.Edges.getD 0 default), 0) ⟨Nat.lt_succ_self _, ⟨(by show 0 ≤ 0; first | trivial | omega | exact at0 | exact at1 | exact at2 | (simp; omega) | simp), (by show (0 ≤ ((((((s.Edges.length : Nat) : Int) : Int).toNat - (1 : Int).toNat : Nat) : Int)) ∨ 0 = 0); first | trivial | omega | exact at0 | exact at1 | exact at2 | (simp; omega) | simp)⟩, (by simp only [FBox, h1, cond_true, cond_false])⟩
  rintro ⟨n0, v3, v21⟩ ⟨hn, hinv, hF⟩
  have hm0 : ((((((((s.Edges.length : Nat) : Int) : Int).toNat - (1 : Int).toNat : Nat) : Int))) - v21).toNat < n0 := hn; have hinv0 : 0 ≤ v21 ∧ (v21 ≤ ((((((s.Edges.length : Nat) : Int) : Int).toNat - (1 : Int).toNat : Nat) : Int)) ∨ v21 = 0) := hinv; have hF0 : FBox_l0 s n0 v3 v21 = FBox s := hF; clear hn hinv hF
  cases n0 with
  | zero => exact absurd hm0 (Nat.not_lt_zero _)
  | succ n0 =>
   refine aw_seq ?_
   refine aw_region eqok [] [] [] [1, 2, 3, 19, 20, 21, 22] [1, 2, 3] [] ⟨[(1, tP 1 0), (2, tP 2 0), (3, tP 3 0), (19, .av (.one (lst 7 TEdge.c (s.Edges.drop (1 : Int).toNat)))), (20, tI ((((((s.Edges.length : Nat) : Int) : Int).toNat - (1 : Int).toNat : Nat) : Int))), (21, tI v21), (22, tB (decide ((v21 : Int) < ((((((s.Edges.length : Nat) : Int) : Int).toNat - (1 : Int).toNat : Nat) : Int)))))], [(1, .cells (TShape.c s) 26), (2, .cells [.i 0, .i 0, .i 0, .i 0] 54), (3, .cells (TRect.c v3) 54)]⟩ .nil (by kernel_rfl) .nil <| ath_n <| aw_seq ?_
   refine aw_cond (decide ((v21 : Int) < ((((((s.Edges.length : Nat) : Int) : Int).toNat - (1 : Int).toNat : Nat) : Int)))) (by kernel_rfl) (fun h2 => ?_) (fun h2 => ?_)
   ·have g2 := of_decide_eq_true h2
    refine aw_skip <| ath_n ?_
    refine aw_seq <| aw_block <| aw_seq ?_
    refine aw_region eqok [] [] [] [1, 2, 3, 5, 19, 20, 21] [1, 2, 3, 5] [0 ≤ (v21 : Int) ∧ (v21 : Int) < (((s.Edges.drop (1 : Int).toNat).length : Nat) : Int)] ⟨[(1, tP 1 0), (2, tP 2 0), (3, tP 3 0), (5, tP 5 0), (19, .av (.one (lst 7 TEdge.c (s.Edges.drop (1 : Int).toNat)))), (20, tI ((((((s.Edges.length : Nat) : Int) : Int).toNat - (1 : Int).toNat : Nat) : Int))), (21, tI v21)], [(1, .cells (TShape.c s) 26), (2, .cells [.i 0, .i 0, .i 0, .i 0] 54), (3, .cells (TRect.c v3) 54), (5, .cells (TEdge.c (wBox_1 s v21)) 35)]⟩ .nil (by kernel_rfl) (.cons au1 .nil) <| ath_n <| aw_seq ?_
    refine aw_region eqok [] [] [(26, cedgeBox (wBox_1 s v21))] [1, 2, 3, 6, 19, 20, 21] [1, 2, 3, 6] [Same (cedgeBox (wBox_1 s v21)).2.1] ⟨[(1, tP 1 0), (2, tP 2 0), (3, tP 3 0), (6, tP 6 0), (19, .av (.one (lst 7 TEdge.c (s.Edges.drop (1 : Int).toNat)))), (20, tI ((((((s.Edges.length : Nat) : Int) : Int).toNat - (1 : Int).toNat : Nat) : Int))), (21, tI v21)], [(1, .cells (TShape.c s) 26), (2, .cells [.i 0, .i 0, .i 0, .i 0] 54), (3, .cells (TRect.c v3) 54), (6, .cells (TRect.c (FedgeBox (wBox_1 s v21))) 54)]⟩ (.cons (okedgeBox (wBox_1 s v21)) .nil) (by kernel_rfl) (.cons rfl .nil) <| ath_n ?_
    refine aw_region eqok [] [] [] [1, 2, 3, 19, 20, 21] [1, 2, 3] [] ⟨[(1, tP 1 0), (2, tP 2 0), (3, tP 3 0), (19, .av (.one (lst 7 TEdge.c (s.Edges.drop (1 : Int).toNat)))), (20, tI ((((((s.Edges.length : Nat) : Int) : Int).toNat - (1 : Int).toNat : Nat) : Int))), (21, tI v21)], [(1, .cells (TShape.c s) 26), (2, .cells [.i 0, .i 0, .i 0, .i 0] 54), (3, .cells [.i (min v3.X0 ((FedgeBox (wBox_1 s v21)).X0)), .i (min v3.Y0 ((FedgeBox (wBox_1 s v21)).Y0)), .i (max v3.X1 ((FedgeBox (wBox_1 s v21)).X1)), .i (max v3.Y1 ((FedgeBox (wBox_1 s v21)).Y1))] 54)]⟩ .nil (by kernel_rfl) .nil <| abl_n <| ath_n ?_
    refine aw_region eqok [] [] [] [1, 2, 3, 19, 20, 21] [1, 2, 3] [] ⟨[(1, tP 1 0), (2, tP 2 0), (3, tP 3 0), (19, .av (.one (lst 7 TEdge.c (s.Edges.drop (1 : Int).toNat)))), (20, tI ((((((s.Edges.length : Nat) : Int) : Int).toNat - (1 : Int).toNat : Nat) : Int))), (21, tI (W64 (v21 + 1)))], [(1, .cells (TShape.c s) 26), (2, .cells [.i 0, .i 0, .i 0, .i 0] 54), (3, .cells [.i (min v3.X0 ((FedgeBox (wBox_1 s v21)).X0)), .i (min v3.Y0 ((FedgeBox (wBox_1 s v21)).Y0)), .i (max v3.X1 ((FedgeBox (wBox_1 s v21)).X1)), .i (max v3.Y1 ((FedgeBox (wBox_1 s v21)).Y1))] 54)]⟩ .nil (by kernel_rfl) .nil ?_
    (try rw [(show W64 (v21 + 1) = v21 + 1 from W64_id (by omega) au7)])
    refine ath_n ?_
    refine ⟨(n0, TRect.mk (min v3.X0 ((FedgeBox (wBox_1 s v21)).X0)) (min v3.Y0 ((FedgeBox (wBox_1 s v21)).Y0)) (max v3.X1 ((FedgeBox (wBox_1 s v21)).X1)) (max v3.Y1 ((FedgeBox (wBox_1 s v21)).Y1)), v21 + 1), ⟨?_, ?_, (by rw [← hF0]; simp only [FBox_l0, h2, cond_true, cond_false])⟩, Nat.lt_succ_self _, cv_eq (by kernel_rfl)⟩
    ·show ((((((((s.Edges.length : Nat) : Int) : Int).toNat - (1 : Int).toNat : Nat) : Int))) - (v21 + 1)).toNat < n0; omega
    ·exact ⟨(by show 0 ≤ (v21 + 1); first | trivial | omega | exact at0 | exact at1 | exact at2 | (simp; omega) | simp), (by show ((v21 + 1) ≤ ((((((s.Edges.length : Nat) : Int) : Int).toNat - (1 : Int).toNat : Nat) : Int)) ∨ (v21 + 1) = 0); first | trivial | omega | exact at0 | exact at1 | exact at2 | (simp; omega) | simp)⟩
   ·have g2 := of_decide_eq_false h2
    refine aw_exit <| ath_e ?_
    refine ath_e <| abl_hit ?_
    refine ath_n <| aw_seq ?_
    refine aw_region eqok [] [] [] [2] [2] [] ⟨[(2, tP 2 0)], [(2, .cells [.i (W64 (v3.X0 - s.R)), .i (W64 (v3.Y0 - s.R)), .i (W64 (v3.X1 + s.R)), .i (W64 (v3.Y1 + s.R))] 54)]⟩ .nil (by kernel_rfl) .nil <| ath_n <| aw_ret ?_
    exact ⟨_, Cv.refl _, .inl rfl, .av (.agg [.i (W64 (v3.X0 - s.R)), .i (W64 (v3.Y0 - s.R)), .i (W64 (v3.X1 + s.R)), .i (W64 (v3.Y1 + s.R))]), by kernel_rfl, tve_eq (by rw [← hF0]; first | (simp only [FBox_l0, h2, cond_true, cond_false]; done) | (simp only [FBox_l0, h2, cond_true, cond_false]; rfl))⟩
theorem okBox (s : TShape) (h0 : (s.Edges.length : Int) ≤ 1000000) : CallOk Try.prog (cBox s).1 (cBox s).2.1 (cBox s).2.2 := callOk_pure (fun _ _ => by kernel_rfl) fun _ => pBox s h0
end Go.Proofs.Ytpnlegfdkkcnlaa
namespace Go.Proofs.Ytpnlegfdkkcnlaa
set_option maxRecDepth 100000
open Go.RowKit
set_option linter.unusedVariables false
set_option linter.unusedSimpArgs false
def Fin46 (x : TEdge) (p : TPoint) (s : TShape) : Bool := FnearS x p s.R
theorem pin46  (x : TEdge) (p : TPoint) (s : TShape) : Pure Try.prog 46 [.agg (TEdge.c x), .one (.eptr 2 1 (fun _ j => ((TPoint.c p) : List Cl).getD j default) 0 0), .one (.eptr 3 1 (fun _ j => ((TShape.c s) : List Cl).getD j default) 0 0)] (.av (.one (.b (Fin46 x p s)))) := by
 refine pure_of_awF Try.func46 rfl (by kernel_rfl) (by kernel_rfl) fun W0 M0 => ?_
 refine aw_seq ?_
 refine aw_region eqok [] [] [] [1, 2, 3] [3] [] ⟨[(1, .av (.one (.eptr 2 1 (fun _ j => ((TPoint.c p) : List Cl).getD j default) 0 0))), (2, .av (.one (.eptr 3 1 (fun _ j => ((TShape.c s) : List Cl).getD j default) 0 0))), (3, tP 3 0)], [(3, .cells (TEdge.c x) 35)]⟩ .nil (by kernel_rfl) .nil <| ath_n <| aw_seq ?_
 refine aw_region eqok [] [] [(9, cnearS x p s.R)] [4] [] [Same (cnearS x p s.R).2.1] ⟨[(4, tB (FnearS x p s.R))], []⟩ (.cons (oknearS x p s.R) .nil) (by kernel_rfl) (.cons rfl .nil) <| ath_n <| aw_ret ?_
 exact ⟨_, Cv.refl _, .inl rfl, .av (.one (.b (FnearS x p s.R))), by kernel_rfl, tve_eq (by rfl)⟩
def wixI_1 (xs : (List TEdge)) (v8 : Int) (p : TPoint) (s : TShape) : FuncId × List Av × Ef := (46, [.agg (TEdge.c (xs.getD v8.toNat default)), .one (.eptr 2 1 (fun _ j => ((TPoint.c p) : List Cl).getD j default) 0 0), .one (.eptr 3 1 (fun _ j => ((TShape.c s) : List Cl).getD j default) 0 0)], .val [] (tB (Fin46 (xs.getD v8.toNat default) p s)))
def FixI_l0 (xs : (List TEdge)) (p : TPoint) (s : TShape) : Nat → Int → Int
 | 0, _ => default
 | n0 + 1, v8 => bif decide ((v8 : Int) < ((xs.length : Int))) then (bif Fin46 (xs.getD v8.toNat default) p s then (v8) else ((FixI_l0 xs p s n0) (v8 + 1))) else ((-1))
def FixI (xs : (List TEdge)) (p : TPoint) (s : TShape) : Int := FixI_l0 xs p s (((((xs.length : Int))) - 0).toNat + 1) 0
theorem pixI  (xs : (List TEdge)) (p : TPoint) (s : TShape) (hx : (xs.length : Int) ≤ 9223372036854775807) : Pure Try.prog 69 [.one (lst 7 TEdge.c xs), .one (.clo 46 2 (listF [.eptr 2 1 (fun _ j => ((TPoint.c p) : List Cl).getD j default) 0 0, .eptr 3 1 (fun _ j => ((TShape.c s) : List Cl).getD j default) 0 0]))] (.av (.one (.i (FixI xs p s)))) := by
 refine pure_of_awF Try.func69 rfl (by kernel_rfl) (by kernel_rfl) fun W0 M0 => ?_
 refine aw_seq ?_
 refine aw_region eqok [] [] [] [0, 1] [] [] ⟨[(0, .av (.one (lst 7 TEdge.c xs))), (1, .av (.one (.clo 46 2 (listF [.eptr 2 1 (fun _ j => ((TPoint.c p) : List Cl).getD j default) 0 0, .eptr 3 1 (fun _ j => ((TShape.c s) : List Cl).getD j default) 0 0]))))], []⟩ .nil (by kernel_rfl) .nil <| ath_n ?_
 refine aw_seq <| aw_seq ?_
 refine aw_region eqok [] [] [] [0, 1, 7, 8] [] [] ⟨[(0, .av (.one (lst 7 TEdge.c xs))), (1, .av (.one (.clo 46 2 (listF [.eptr 2 1 (fun _ j => ((TPoint.c p) : List Cl).getD j default) 0 0, .eptr 3 1 (fun _ j => ((TShape.c s) : List Cl).getD j default) 0 0])))), (7, tI ((xs.length : Int))), (8, tI 0)], []⟩ .nil (by kernel_rfl) .nil <| ath_n <| aw_block ?_
 refine aw_loopC (ι := Nat × Int) (fun x => ⟨[(0, .av (.one (lst 7 TEdge.c xs))), (1, .av (.one (.clo 46 2 (listF [.eptr 2 1 (fun _ j => ((TPoint.c p) : List Cl).getD j default) 0 0, .eptr 3 1 (fun _ j => ((TShape.c s) : List Cl).getD j default) 0 0])))), (7, tI ((xs.length : Int))), (8, tI x.2)], []⟩) (fun x => ((((xs.length : Int))) - x.2).toNat < x.1 ∧ (0 ≤ x.2 ∧ (x.2 ≤ ((xs.length : Int)) ∨ x.2 = 0)) ∧ FixI_l0 xs p s x.1 x.2 = FixI xs p s) (fun x => x.1) ?_ (((((xs.length : Int))) - 0).toNat + 1, 0) ⟨Nat.lt_succ_self _, ⟨(by show 0 ≤ 0; first | trivial | omega | exact at0 | exact at1 | exact at2 | (simp; omega) | simp), (by show (0 ≤ ((xs.length : Int)) ∨ 0 = 0); first | trivial | omega | exact at0 | exact at1 | exact at2 | (simp; omega) | simp)⟩, (by simp only [FixI, cond_true, cond_false])⟩
 rintro ⟨n0, v8⟩ ⟨hn, hinv, hF⟩
 have hm0 : ((((xs.length : Int))) - v8).toNat < n0 := hn; have hinv0 : 0 ≤ v8 ∧ (v8 ≤ ((xs.length : Int)) ∨ v8 = 0) := hinv; have hF0 : FixI_l0 xs p s n0 v8 = FixI xs p s := hF; clear hn hinv hF
 cases n0 with
 | zero => exact absurd hm0 (Nat.not_lt_zero _)
 | succ n0 =>
  refine aw_seq ?_
  refine aw_region eqok [] [] [] [0, 1, 7, 8, 9] [] [] ⟨[(0, .av (.one (lst 7 TEdge.c xs))), (1, .av (.one (.clo 46 2 (listF [.eptr 2 1 (fun _ j => ((TPoint.c p) : List Cl).getD j default) 0 0, .eptr 3 1 (fun _ j => ((TShape.c s) : List Cl).getD j default) 0 0])))), (7, tI ((xs.length : Int))), (8, tI v8), (9, tB (decide ((v8 : Int) < ((xs.length : Int)))))], []⟩ .nil (by kernel_rfl) .nil <| ath_n <| aw_seq ?_
  refine aw_cond (decide ((v8 : Int) < ((xs.length : Int)))) (by kernel_rfl) (fun h1 => ?_) (fun h1 => ?_)
  ·have g1 := of_decide_eq_true h1
   refine aw_skip <| ath_n ?_
   refine aw_seq <| aw_block <| aw_seq ?_
   refine aw_region eqok [] [] [] [0, 1, 5, 7, 8] [] [] ⟨[(0, .av (.one (lst 7 TEdge.c xs))), (1, .av (.one (.clo 46 2 (listF [.eptr 2 1 (fun _ j => ((TPoint.c p) : List Cl).getD j default) 0 0, .eptr 3 1 (fun _ j => ((TShape.c s) : List Cl).getD j default) 0 0])))), (5, tI v8), (7, tI ((xs.length : Int))), (8, tI v8)], []⟩ .nil (by kernel_rfl) .nil <| ath_n <| aw_seq ?_
   refine aw_region eqok [] [] [(16, (wixI_1 xs v8 p s))] [0, 1, 5, 7, 8, 16] [] [0 ≤ (v8 : Int) ∧ (v8 : Int) < ((xs.length : Nat) : Int), Same (wixI_1 xs v8 p s).2.1] ⟨[(0, .av (.one (lst 7 TEdge.c xs))), (1, .av (.one (.clo 46 2 (listF [.eptr 2 1 (fun _ j => ((TPoint.c p) : List Cl).getD j default) 0 0, .eptr 3 1 (fun _ j => ((TShape.c s) : List Cl).getD j default) 0 0])))), (5, tI v8), (7, tI ((xs.length : Int))), (8, tI v8), (16, tB (Fin46 (xs.getD v8.toNat default) p s))], []⟩ (.cons (callOk_pure (fun _ _ => by kernel_rfl) fun _ => pin46 (xs.getD v8.toNat default) p s) .nil) (by kernel_rfl) (.cons au1 (.cons rfl .nil)) <| ath_n ?_
   refine aw_cond (Fin46 (xs.getD v8.toNat default) p s) (by kernel_rfl) (fun h2 => ?_) (fun h2 => ?_)
   ·refine aw_seq ?_
    refine aw_region eqok [] [] [] [4] [] [] ⟨[(4, tI v8)], []⟩ .nil (by kernel_rfl) .nil <| ath_n ?_
    refine aw_ret <| abl_r ?_
    refine ath_r <| ath_r ?_
    refine abl_r <| ath_r ?_
    exact ⟨_, Cv.refl _, .inl rfl, .av (.one (.i v8)), by kernel_rfl, tve_eq (by rw [← hF0]; first | (simp only [FixI_l0, h1, h2, cond_true, cond_false]; done) | (simp only [FixI_l0, h1, h2, cond_true, cond_false]; rfl))⟩
   ·refine aw_skip <| abl_n <| ath_n ?_
    refine aw_region eqok [] [] [] [0, 1, 7, 8] [] [] ⟨[(0, .av (.one (lst 7 TEdge.c xs))), (1, .av (.one (.clo 46 2 (listF [.eptr 2 1 (fun _ j => ((TPoint.c p) : List Cl).getD j default) 0 0, .eptr 3 1 (fun _ j => ((TShape.c s) : List Cl).getD j default) 0 0])))), (7, tI ((xs.length : Int))), (8, tI (W64 (v8 + 1)))], []⟩ .nil (by kernel_rfl) .nil ?_
    (try rw [(show W64 (v8 + 1) = v8 + 1 from W64_id (by omega) au7)])
    refine ath_n ?_
    refine ⟨(n0, v8 + 1), ⟨?_, ?_, (by rw [← hF0]; simp only [FixI_l0, h1, h2, cond_true, cond_false])⟩, Nat.lt_succ_self _, cv_eq (by kernel_rfl)⟩
    ·show ((((xs.length : Int))) - (v8 + 1)).toNat < n0; omega
    ·exact ⟨(by show 0 ≤ (v8 + 1); first | trivial | omega | exact at0 | exact at1 | exact at2 | (simp; omega) | simp), (by show ((v8 + 1) ≤ ((xs.length : Int)) ∨ (v8 + 1) = 0); first | trivial | omega | exact at0 | exact at1 | exact at2 | (simp; omega) | simp)⟩
  ·have g1 := of_decide_eq_false h1
   refine aw_exit <| ath_e ?_
   refine ath_e <| abl_hit ?_
   refine ath_n <| aw_seq ?_
   refine aw_region eqok [] [] [] [4] [] [] ⟨[(4, tI ((-1)))], []⟩ .nil (by kernel_rfl) .nil <| ath_n <| aw_ret ?_
   exact ⟨_, Cv.refl _, .inl rfl, .av (.one (.i ((-1)))), by kernel_rfl, tve_eq (by rw [← hF0]; first | (simp only [FixI_l0, h1, cond_true, cond_false]; done) | (simp only [FixI_l0, h1, cond_true, cond_false]; rfl))⟩
def wcoI_0 (xs : (List TEdge)) (p : TPoint) (s : TShape) : FuncId × List Av × Ef := (69, [.one (lst 7 TEdge.c xs), .one (.clo 46 2 (listF [.eptr 2 1 (fun _ j => ((TPoint.c p) : List Cl).getD j default) 0 0, .eptr 3 1 (fun _ j => ((TShape.c s) : List Cl).getD j default) 0 0]))], .val [] (tI (FixI xs p s)))
def FcoI (xs : (List TEdge)) (p : TPoint) (s : TShape) : Bool := decide ((0 : Int) ≤ (FixI xs p s))
theorem pcoI  (xs : (List TEdge)) (p : TPoint) (s : TShape) (hx : (xs.length : Int) ≤ 9223372036854775807) : Pure Try.prog 45 [.one (lst 7 TEdge.c xs), .one (.clo 46 2 (listF [.eptr 2 1 (fun _ j => ((TPoint.c p) : List Cl).getD j default) 0 0, .eptr 3 1 (fun _ j => ((TShape.c s) : List Cl).getD j default) 0 0]))] (.av (.one (.b (FcoI xs p s)))) := by
 refine pure_of_awF Try.func45 rfl (by kernel_rfl) (by kernel_rfl) fun W0 M0 => ?_
 refine aw_seq ?_
 refine aw_region eqok [] [] [] [0, 1] [] [] ⟨[(0, .av (.one (lst 7 TEdge.c xs))), (1, .av (.one (.clo 46 2 (listF [.eptr 2 1 (fun _ j => ((TPoint.c p) : List Cl).getD j default) 0 0, .eptr 3 1 (fun _ j => ((TShape.c s) : List Cl).getD j default) 0 0]))))], []⟩ .nil (by kernel_rfl) .nil <| ath_n <| aw_seq ?_
 refine aw_region eqok [] [] [(7, (wcoI_0 xs p s))] [4] [] [Same (wcoI_0 xs p s).2.1] ⟨[(4, tB (decide ((0 : Int) ≤ (FixI xs p s))))], []⟩ (.cons (callOk_pure (fun _ _ => by kernel_rfl) fun _ => pixI xs p s au0) .nil) (by kernel_rfl) (.cons rfl .nil) <| ath_n <| aw_ret ?_
 exact ⟨_, Cv.refl _, .inl rfl, .av (.one (.b (decide ((0 : Int) ≤ (FixI xs p s))))), by kernel_rfl, tve_eq (by rfl)⟩
def wInsideS_0 (s : TShape) (p : TPoint) : FuncId × List Av × Ef := (45, [.one (lst 7 TEdge.c s.Edges), .one (.clo 46 2 (listF [.ptr 3 0, .ptr 2 0]))], rdI [3, 2] [.cells (TPoint.c p) 29, .cells (TShape.c s) 26] (tB (FcoI s.Edges p s)))
def FInsideS_l0 (s : TShape) (p : TPoint) : Nat → Int → Int → Bool
 | 0, _, _ => default
 | n0 + 1, v6, v49 => bif decide ((v49 : Int) < ((s.Edges.length : Int))) then ((FInsideS_l0 s p n0) (W64 (v6 + (FRay (s.Edges.getD v49.toNat default) p))) (v49 + 1)) else (bif decide ((s.Kind : Int) = 2) then !decide ((v6 : Int) = 0) else false)
def FInsideS (s : TShape) (p : TPoint) : Bool := bif bif bif bif bif !decide (((FCheckS s) : Int) = 0) then true else decide ((p.X : Int) < ((FBox s).X0)) then true else decide ((((FBox s).X1) : Int) < p.X) then true else decide ((p.Y : Int) < ((FBox s).Y0)) then true else decide ((((FBox s).Y1) : Int) < p.Y) then (false) else (bif FcoI s.Edges p s then (true) else (FInsideS_l0 s p (((((s.Edges.length : Int))) - 0).toNat + 1) 0 0))
def cInsideS (s : TShape) (p : TPoint) : FuncId × List Av × Ef := (15, [.agg (TShape.c s), .agg (TPoint.c p)], .val [] (.av (.one (.b (FInsideS s p)))))
theorem pInsideS (s : TShape) (p : TPoint) (hl : (s.Edges.length : Int) ≤ 1000000) : Pure Try.prog 15 (cInsideS s p).2.1 (.av (.one (.b (FInsideS s p)))) := by
 refine pure_of_awF Try.func15 rfl (by kernel_rfl) (by kernel_rfl) fun W0 M0 => ?_
 refine aw_seq ?_
 refine aw_region eqok [] [] [] [2, 3] [2, 3] [] ⟨[(2, tP 2 0), (3, tP 3 0)], [(2, .cells (TShape.c s) 26), (3, .cells (TPoint.c p) 29)]⟩ .nil (by kernel_rfl) .nil <| ath_n <| aw_seq ?_
 refine aw_region eqok [] [] [(10, cBox s)] [2, 3, 5] [2, 3, 5] [Same (cBox s).2.1] ⟨[(2, tP 2 0), (3, tP 3 0), (5, tP 5 0)], [(2, .cells (TShape.c s) 26), (3, .cells (TPoint.c p) 29), (5, .cells (TRect.c (FBox s)) 54)]⟩ (.cons (okBox s au0) .nil) (by kernel_rfl) (.cons rfl .nil) <| ath_n ?_
 refine aw_seq <| aw_seq ?_
 refine aw_region eqok [] [] [(12, cCheckS s)] [2, 3, 41] [2, 3] [Same (cCheckS s).2.1, ((!decide (((FCheckS s) : Int) = 0)) = false) → ((!decide (((FCheckS s) : Int) = 0)) = false), ((!decide (((FCheckS s) : Int) = 0)) = false) → ((!decide (((FCheckS s) : Int) = 0)) = false), ((!decide (((FCheckS s) : Int) = 0)) = false) → ((!decide (((FCheckS s) : Int) = 0)) = false), ((!decide (((FCheckS s) : Int) = 0)) = false) → ((!decide (((FCheckS s) : Int) = 0)) = false), (!decide (((FCheckS s) : Int) = 0)) = false → ((!decide (((FCheckS s) : Int) = 0)) = false), ((bif !decide (((FCheckS s) : Int) = 0) then true else decide ((p.X : Int) < ((FBox s).X0))) = false) → ((bif !decide (((FCheckS s) : Int) = 0) then true else decide ((p.X : Int) < ((FBox s).X0))) = false), ((bif !decide (((FCheckS s) : Int) = 0) then true else decide ((p.X : Int) < ((FBox s).X0))) = false) → ((bif !decide (((FCheckS s) : Int) = 0) then true else decide ((p.X : Int) < ((FBox s).X0))) = false), ((bif !decide (((FCheckS s) : Int) = 0) then true else decide ((p.X : Int) < ((FBox s).X0))) = false) → ((bif !decide (((FCheckS s) : Int) = 0) then true else decide ((p.X : Int) < ((FBox s).X0))) = false), ((bif !decide (((FCheckS s) : Int) = 0) then true else decide ((p.X : Int) < ((FBox s).X0))) = false) → ((bif !decide (((FCheckS s) : Int) = 0) then true else decide ((p.X : Int) < ((FBox s).X0))) = false), (bif !decide (((FCheckS s) : Int) = 0) then true else decide ((p.X : Int) < ((FBox s).X0))) = false → ((bif !decide (((FCheckS s) : Int) = 0) then true else decide ((p.X : Int) < ((FBox s).X0))) = false), ((bif bif !decide (((FCheckS s) : Int) = 0) then true else decide ((p.X : Int) < ((FBox s).X0)) then true else decide ((((FBox s).X1) : Int) < p.X)) = false) → ((bif bif !decide (((FCheckS s) : Int) = 0) then true else decide ((p.X : Int) < ((FBox s).X0)) then true else decide ((((FBox s).X1) : Int) < p.X)) = false), ((bif bif !decide (((FCheckS s) : Int) = 0) then true else decide ((p.X : Int) < ((FBox s).X0)) then true else decide ((((FBox s).X1) : Int) < p.X)) = false) → ((bif bif !decide (((FCheckS s) : Int) = 0) then true else decide ((p.X : Int) < ((FBox s).X0)) then true else decide ((((FBox s).X1) : Int) < p.X)) = false), ((bif bif !decide (((FCheckS s) : Int) = 0) then true else decide ((p.X : Int) < ((FBox s).X0)) then true else decide ((((FBox s).X1) : Int) < p.X)) = false) → ((bif bif !decide (((FCheckS s) : Int) = 0) then true else decide ((p.X : Int) < ((FBox s).X0)) then true else decide ((((FBox s).X1) : Int) < p.X)) = false), ((bif bif !decide (((FCheckS s) : Int) = 0) then true else decide ((p.X : Int) < ((FBox s).X0)) then true else decide ((((FBox s).X1) : Int) < p.X)) = false) → ((bif bif !decide (((FCheckS s) : Int) = 0) then true else decide ((p.X : Int) < ((FBox s).X0)) then true else decide ((((FBox s).X1) : Int) < p.X)) = false), (bif bif !decide (((FCheckS s) : Int) = 0) then true else decide ((p.X : Int) < ((FBox s).X0)) then true else decide ((((FBox s).X1) : Int) < p.X)) = false → ((bif bif !decide (((FCheckS s) : Int) = 0) then true else decide ((p.X : Int) < ((FBox s).X0)) then true else decide ((((FBox s).X1) : Int) < p.X)) = false), ((bif bif bif !decide (((FCheckS s) : Int) = 0) then true else decide ((p.X : Int) < ((FBox s).X0)) then true else decide ((((FBox s).X1) : Int) < p.X) then true else decide ((p.Y : Int) < ((FBox s).Y0))) = false) → ((bif bif bif !decide (((FCheckS s) : Int) = 0) then true else decide ((p.X : Int) < ((FBox s).X0)) then true else decide ((((FBox s).X1) : Int) < p.X) then true else decide ((p.Y : Int) < ((FBox s).Y0))) = false), ((bif bif bif !decide (((FCheckS s) : Int) = 0) then true else decide ((p.X : Int) < ((FBox s).X0)) then true else decide ((((FBox s).X1) : Int) < p.X) then true else decide ((p.Y : Int) < ((FBox s).Y0))) = false) → ((bif bif bif !decide (((FCheckS s) : Int) = 0) then true else decide ((p.X : Int) < ((FBox s).X0)) then true else decide ((((FBox s).X1) : Int) < p.X) then true else decide ((p.Y : Int) < ((FBox s).Y0))) = false), ((bif bif bif !decide (((FCheckS s) : Int) = 0) then true else decide ((p.X : Int) < ((FBox s).X0)) then true else decide ((((FBox s).X1) : Int) < p.X) then true else decide ((p.Y : Int) < ((FBox s).Y0))) = false) → ((bif bif bif !decide (((FCheckS s) : Int) = 0) then true else decide ((p.X : Int) < ((FBox s).X0)) then true else decide ((((FBox s).X1) : Int) < p.X) then true else decide ((p.Y : Int) < ((FBox s).Y0))) = false), ((bif bif bif !decide (((FCheckS s) : Int) = 0) then true else decide ((p.X : Int) < ((FBox s).X0)) then true else decide ((((FBox s).X1) : Int) < p.X) then true else decide ((p.Y : Int) < ((FBox s).Y0))) = false) → ((bif bif bif !decide (((FCheckS s) : Int) = 0) then true else decide ((p.X : Int) < ((FBox s).X0)) then true else decide ((((FBox s).X1) : Int) < p.X) then true else decide ((p.Y : Int) < ((FBox s).Y0))) = false), (bif bif bif !decide (((FCheckS s) : Int) = 0) then true else decide ((p.X : Int) < ((FBox s).X0)) then true else decide ((((FBox s).X1) : Int) < p.X) then true else decide ((p.Y : Int) < ((FBox s).Y0))) = false → ((bif bif bif !decide (((FCheckS s) : Int) = 0) then true else decide ((p.X : Int) < ((FBox s).X0)) then true else decide ((((FBox s).X1) : Int) < p.X) then true else decide ((p.Y : Int) < ((FBox s).Y0))) = false)] ⟨[(2, tP 2 0), (3, tP 3 0), (41, tB (bif bif bif bif !decide (((FCheckS s) : Int) = 0) then true else decide ((p.X : Int) < ((FBox s).X0)) then true else decide ((((FBox s).X1) : Int) < p.X) then true else decide ((p.Y : Int) < ((FBox s).Y0)) then true else decide ((((FBox s).Y1) : Int) < p.Y)))], [(2, .cells (TShape.c s) 26), (3, .cells (TPoint.c p) 29)]⟩ (.cons (okCheckS s au0) .nil) (by kernel_rfl) (.cons rfl (.cons id (.cons id (.cons id (.cons id (.cons id (.cons id (.cons id (.cons id (.cons id (.cons id (.cons id (.cons id (.cons id (.cons id (.cons id (.cons id (.cons id (.cons id (.cons id (.cons id .nil))))))))))))))))))))) <| ath_n ?_
 refine aw_cond (bif bif bif bif !decide (((FCheckS s) : Int) = 0) then true else decide ((p.X : Int) < ((FBox s).X0)) then true else decide ((((FBox s).X1) : Int) < p.X) then true else decide ((p.Y : Int) < ((FBox s).Y0)) then true else decide ((((FBox s).Y1) : Int) < p.Y)) (by kernel_rfl) (fun h1 => ?_) (fun h1 => ?_)
 ·refine aw_seq ?_
  refine aw_region eqok [] [] [] [4] [] [] ⟨[(4, tB false)], []⟩ .nil (by kernel_rfl) .nil <| ath_n ?_
  refine aw_ret <| ath_r ?_
  exact ⟨_, Cv.refl _, .inl rfl, .av (.one (.b false)), by kernel_rfl, tve_eq (by first | (simp only [FInsideS, h1, cond_true, cond_false]; done) | (simp only [FInsideS, h1, cond_true, cond_false]; rfl))⟩
 ·refine aw_skip <| ath_n ?_
  refine aw_seq <| aw_seq ?_
  refine aw_region eqok [] [] [(45, (wInsideS_0 s p))] [2, 3, 45] [2, 3] [Same (wInsideS_0 s p).2.1, SameBs [.cells (TPoint.c p) 29, .cells (TShape.c s) 26]] ⟨[(2, tP 2 0), (3, tP 3 0), (45, tB (FcoI s.Edges p s))], [(2, .cells (TShape.c s) 26), (3, .cells (TPoint.c p) 29)]⟩ (.cons (callOk_rd (fun _ _ => by kernel_rfl) (by kernel_rfl) (by kernel_rfl) (pure_ce (pcoI s.Edges p s au0) (.cons (AvE.refl _) (.cons (.one (.clo 46 2 _ _ (tab_get (by kernel_rfl)))) .nil)))) .nil) (by kernel_rfl) (.cons rfl (.cons rfl .nil)) <| ath_n ?_
  refine aw_cond (FcoI s.Edges p s) (by kernel_rfl) (fun h2 => ?_) (fun h2 => ?_)
  ·refine aw_seq ?_
   refine aw_region eqok [] [] [] [4] [] [] ⟨[(4, tB true)], []⟩ .nil (by kernel_rfl) .nil <| ath_n ?_
   refine aw_ret <| ath_r ?_
   exact ⟨_, Cv.refl _, .inl rfl, .av (.one (.b true)), by kernel_rfl, tve_eq (by first | (simp only [FInsideS, h1, h2, cond_true, cond_false]; done) | (simp only [FInsideS, h1, h2, cond_true, cond_false]; rfl))⟩
  ·refine aw_skip <| ath_n <| aw_seq ?_
   refine aw_region eqok [] [] [] [2, 3, 6] [2, 3] [] ⟨[(2, tP 2 0), (3, tP 3 0), (6, tI 0)], [(2, .cells (TShape.c s) 26), (3, .cells (TPoint.c p) 29)]⟩ .nil (by kernel_rfl) .nil <| ath_n ?_
   refine aw_seq <| aw_seq ?_
   refine aw_region eqok [] [] [] [2, 3, 6, 47, 48, 49] [2, 3] [] ⟨[(2, tP 2 0), (3, tP 3 0), (6, tI 0), (47, .av (.one (lst 7 TEdge.c s.Edges))), (48, tI ((s.Edges.length : Int))), (49, tI 0)], [(2, .cells (TShape.c s) 26), (3, .cells (TPoint.c p) 29)]⟩ .nil (by kernel_rfl) .nil <| ath_n <| aw_block ?_
   refine aw_loopC (ι := Nat × Int × Int) (fun x => ⟨[(2, tP 2 0), (3, tP 3 0), (6, tI x.2.1), (47, .av (.one (lst 7 TEdge.c s.Edges))), (48, tI ((s.Edges.length : Int))), (49, tI x.2.2)], [(2, .cells (TShape.c s) 26), (3, .cells (TPoint.c p) 29)]⟩) (fun x => ((((s.Edges.length : Int))) - x.2.2).toNat < x.1 ∧ (0 ≤ x.2.2 ∧ (x.2.2 ≤ ((s.Edges.length : Int)) ∨ x.2.2 = 0)) ∧ FInsideS_l0 s p x.1 x.2.1 x.2.2 = FInsideS s p) (fun x => x.1) ?_ (((((s.Edges.length : Int))) - 0).toNat + 1, 0, 0) ⟨Nat.lt_succ_self _, ⟨(by show 0 ≤ 0; first | trivial | omega | exact at0 | exact at1 | exact at2 | (simp; omega) | simp), (by show (0 ≤ ((s.Edges.length : Int)) ∨ 0 = 0); first | trivial | omega | exact at0 | exact at1 | exact at2 | (simp; omega) | simp)⟩, (by simp only [FInsideS, h1, h2, cond_true, cond_false])⟩
   rintro ⟨n0, v6, v49⟩ ⟨hn, hinv, hF⟩
   have hm0 : ((((s.Edges.length : Int))) - v49).toNat < n0 := hn; have hinv0 : 0 ≤ v49 ∧ (v49 ≤ ((s.Edges.length : Int)) ∨ v49 = 0) := hinv; have hF0 : FInsideS_l0 s p n0 v6 v49 = FInsideS s p := hF; clear hn hinv hF
   cases n0 with
   | zero => exact absurd hm0 (Nat.not_lt_zero _)
   | succ n0 =>
    refine aw_seq ?_
    refine aw_region eqok [] [] [] [2, 3, 6, 47, 48, 49, 50] [2, 3] [] ⟨[(2, tP 2 0), (3, tP 3 0), (6, tI v6), (47, .av (.one (lst 7 TEdge.c s.Edges))), (48, tI ((s.Edges.length : Int))), (49, tI v49), (50, tB (decide ((v49 : Int) < ((s.Edges.length : Int)))))], [(2, .cells (TShape.c s) 26), (3, .cells (TPoint.c p) 29)]⟩ .nil (by kernel_rfl) .nil <| ath_n <| aw_seq ?_
    refine aw_cond (decide ((v49 : Int) < ((s.Edges.length : Int)))) (by kernel_rfl) (fun h3 => ?_) (fun h3 => ?_)
    ·have g3 := of_decide_eq_true h3
     refine aw_skip <| ath_n ?_
     refine aw_seq <| aw_block <| aw_seq ?_
     refine aw_region eqok [] [] [] [2, 3, 6, 8, 47, 48, 49] [2, 3, 8] [0 ≤ (v49 : Int) ∧ (v49 : Int) < ((s.Edges.length : Nat) : Int)] ⟨[(2, tP 2 0), (3, tP 3 0), (6, tI v6), (8, tP 8 0), (47, .av (.one (lst 7 TEdge.c s.Edges))), (48, tI ((s.Edges.length : Int))), (49, tI v49)], [(2, .cells (TShape.c s) 26), (3, .cells (TPoint.c p) 29), (8, .cells (TEdge.c (s.Edges.getD v49.toNat default)) 35)]⟩ .nil (by kernel_rfl) (.cons au1 .nil) <| ath_n ?_
     refine aw_region eqok [] [] [(56, cRay (s.Edges.getD v49.toNat default) p)] [2, 3, 6, 47, 48, 49] [2, 3] [Same (cRay (s.Edges.getD v49.toNat default) p).2.1] ⟨[(2, tP 2 0), (3, tP 3 0), (6, tI (W64 (v6 + (FRay (s.Edges.getD v49.toNat default) p)))), (47, .av (.one (lst 7 TEdge.c s.Edges))), (48, tI ((s.Edges.length : Int))), (49, tI v49)], [(2, .cells (TShape.c s) 26), (3, .cells (TPoint.c p) 29)]⟩ (.cons (okRay (s.Edges.getD v49.toNat default) p) .nil) (by kernel_rfl) (.cons rfl .nil) <| abl_n <| ath_n ?_
     refine aw_region eqok [] [] [] [2, 3, 6, 47, 48, 49] [2, 3] [] ⟨[(2, tP 2 0), (3, tP 3 0), (6, tI (W64 (v6 + (FRay (s.Edges.getD v49.toNat default) p)))), (47, .av (.one (lst 7 TEdge.c s.Edges))), (48, tI ((s.Edges.length : Int))), (49, tI (W64 (v49 + 1)))], [(2, .cells (TShape.c s) 26), (3, .cells (TPoint.c p) 29)]⟩ .nil (by kernel_rfl) .nil ?_
     (try rw [(show W64 (v49 + 1) = v49 + 1 from W64_id (by omega) au7)])
     refine ath_n ?_
     refine ⟨(n0, W64 (v6 + (FRay (s.Edges.getD v49.toNat default) p)), v49 + 1), ⟨?_, ?_, (by rw [← hF0]; simp only [FInsideS_l0, h3, cond_true, cond_false])⟩, Nat.lt_succ_self _, cv_eq (by kernel_rfl)⟩
     ·show ((((s.Edges.length : Int))) - (v49 + 1)).toNat < n0; omega
     ·exact ⟨(by show 0 ≤ (v49 + 1); first | trivial | omega | exact at0 | exact at1 | exact at2 | (simp; omega) | simp), (by show ((v49 + 1) ≤ ((s.Edges.length : Int)) ∨ (v49 + 1) = 0); first | trivial | omega | exact at0 | exact at1 | exact at2 | (simp; omega) | simp)⟩
    ·have g3 := of_decide_eq_false h3
     refine aw_exit <| ath_e ?_
     refine ath_e <| abl_hit ?_
     refine ath_n <| aw_seq ?_
     refine aw_region eqok [] [] [] [4] [] [((decide ((s.Kind : Int) = 2)) = true) → ((decide ((s.Kind : Int) = 2)) = true), (decide ((s.Kind : Int) = 2)) = true → ((decide ((s.Kind : Int) = 2)) = true)] ⟨[(4, tB (bif decide ((s.Kind : Int) = 2) then !decide ((v6 : Int) = 0) else false))], []⟩ .nil (by kernel_rfl) (.cons id (.cons id .nil)) <| ath_n <| aw_ret ?_
     exact ⟨_, Cv.refl _, .inl rfl, .av (.one (.b (bif decide ((s.Kind : Int) = 2) then !decide ((v6 : Int) = 0) else false))), by kernel_rfl, tve_eq (by rw [← hF0]; first | (simp only [FInsideS_l0, h3, cond_true, cond_false]; done) | (simp only [FInsideS_l0, h3, cond_true, cond_false]; rfl))⟩
theorem okInsideS (s : TShape) (p : TPoint) (hl : (s.Edges.length : Int) ≤ 1000000) : CallOk Try.prog (cInsideS s p).1 (cInsideS s p).2.1 (cInsideS s p).2.2 := callOk_pure (fun _ _ => by kernel_rfl) fun _ => pInsideS s p hl
def FequalE_l0 (p1 : (List TEdge)) (p2 : (List TEdge)) : Nat → Int → Bool
 | 0, _ => default
 | n0 + 1, v13 => bif decide ((v13 : Int) < ((p1.length : Int))) then (bif !(decide (((p1.getD v13.toNat default).Kind) = ((p2.getD v13.toNat default).Kind)) && (decide ((((p1.getD v13.toNat default).A).X) = (((p2.getD v13.toNat default).A).X)) && (decide ((((p1.getD v13.toNat default).A).Y) = (((p2.getD v13.toNat default).A).Y)) && (decide ((((p1.getD v13.toNat default).B).X) = (((p2.getD v13.toNat default).B).X)) && (decide ((((p1.getD v13.toNat default).B).Y) = (((p2.getD v13.toNat default).B).Y)) && (decide ((((p1.getD v13.toNat default).C).X) = (((p2.getD v13.toNat default).C).X)) && (decide ((((p1.getD v13.toNat default).C).Y) = (((p2.getD v13.toNat default).C).Y)) && true))))))) then (false) else ((FequalE_l0 p1 p2 n0) (v13 + 1))) else (true)
def FequalE (p1 : (List TEdge)) (p2 : (List TEdge)) : Bool := bif !decide ((((p1.length : Int)) : Int) = ((p2.length : Int))) then (false) else (FequalE_l0 p1 p2 (((((p1.length : Int))) - 0).toNat + 1) 0)
def cequalE (p1 : (List TEdge)) (p2 : (List TEdge)) : FuncId × List Av × Ef := (61, [.one (lst 7 TEdge.c p1), .one (lst 7 TEdge.c p2)], .val [] (.av (.one (.b (FequalE p1 p2)))))
theorem pequalE (p1 : (List TEdge)) (p2 : (List TEdge)) (h0 : (p1.length : Int) ≤ 1000000) : Pure Try.prog 61 (cequalE p1 p2).2.1 (.av (.one (.b (FequalE p1 p2)))) := by
 refine pure_of_awF Try.func61 rfl (by kernel_rfl) (by kernel_rfl) fun W0 M0 => ?_
 refine aw_seq ?_
 refine aw_region eqok [] [] [] [0, 1] [] [] ⟨[(0, .av (.one (lst 7 TEdge.c p1))), (1, .av (.one (lst 7 TEdge.c p2)))], []⟩ .nil (by kernel_rfl) .nil <| ath_n ?_
 refine aw_seq <| aw_seq ?_
 refine aw_region eqok [] [] [] [0, 1, 10] [] [] ⟨[(0, .av (.one (lst 7 TEdge.c p1))), (1, .av (.one (lst 7 TEdge.c p2))), (10, tB (!decide ((((p1.length : Int)) : Int) = ((p2.length : Int)))))], []⟩ .nil (by kernel_rfl) .nil <| ath_n ?_
 refine aw_cond (!decide ((((p1.length : Int)) : Int) = ((p2.length : Int)))) (by kernel_rfl) (fun h1 => ?_) (fun h1 => ?_)
 ·have g1 := of_not_decide_true h1
  refine aw_seq ?_
  refine aw_region eqok [] [] [] [4] [] [] ⟨[(4, tB false)], []⟩ .nil (by kernel_rfl) .nil <| ath_n ?_
  refine aw_ret <| ath_r ?_
  exact ⟨_, Cv.refl _, .inl rfl, .av (.one (.b false)), by kernel_rfl, tve_eq (by first | (simp only [FequalE, h1, cond_true, cond_false]; done) | (simp only [FequalE, h1, cond_true, cond_false]; rfl))⟩
 ·have g1 := of_not_decide_false h1
  refine aw_skip <| ath_n ?_
  refine aw_seq <| aw_seq ?_
  refine aw_region eqok [] [] [] [0, 1, 12, 13] [] [] ⟨[(0, .av (.one (lst 7 TEdge.c p1))), (1, .av (.one (lst 7 TEdge.c p2))), (12, tI ((p1.length : Int))), (13, tI 0)], []⟩ .nil (by kernel_rfl) .nil <| ath_n <| aw_block ?_
  refine aw_loopC (ι := Nat × Int) (fun x => ⟨[(0, .av (.one (lst 7 TEdge.c p1))), (1, .av (.one (lst 7 TEdge.c p2))), (12, tI ((p1.length : Int))), (13, tI x.2)], []⟩) (fun x => ((((p1.length : Int))) - x.2).toNat < x.1 ∧ (0 ≤ x.2 ∧ (x.2 ≤ ((p1.length : Int)) ∨ x.2 = 0)) ∧ FequalE_l0 p1 p2 x.1 x.2 = FequalE p1 p2) (fun x => x.1) ?_ (((((p1.length : Int))) - 0).toNat + 1, 0) ⟨Nat.lt_succ_self _, ⟨(by show 0 ≤ 0; first | trivial | omega | exact at0 | exact at1 | exact at2 | (simp; omega) | simp), (by show (0 ≤ ((p1.length : Int)) ∨ 0 = 0); first | trivial | omega | exact at0 | exact at1 | exact at2 | (simp; omega) | simp)⟩, (by simp only [FequalE, h1, cond_true, cond_false])⟩
  rintro ⟨n0, v13⟩ ⟨hn, hinv, hF⟩
  have hm0 : ((((p1.length : Int))) - v13).toNat < n0 := hn; have hinv0 : 0 ≤ v13 ∧ (v13 ≤ ((p1.length : Int)) ∨ v13 = 0) := hinv; have hF0 : FequalE_l0 p1 p2 n0 v13 = FequalE p1 p2 := hF; clear hn hinv hF
  cases n0 with
  | zero => exact absurd hm0 (Nat.not_lt_zero _)
  | succ n0 =>
   refine aw_seq ?_
   refine aw_region eqok [] [] [] [0, 1, 12, 13, 14] [] [] ⟨[(0, .av (.one (lst 7 TEdge.c p1))), (1, .av (.one (lst 7 TEdge.c p2))), (12, tI ((p1.length : Int))), (13, tI v13), (14, tB (decide ((v13 : Int) < ((p1.length : Int)))))], []⟩ .nil (by kernel_rfl) .nil <| ath_n <| aw_seq ?_
   refine aw_cond (decide ((v13 : Int) < ((p1.length : Int)))) (by kernel_rfl) (fun h2 => ?_) (fun h2 => ?_)
   ·have g2 := of_decide_eq_true h2
    refine aw_skip <| ath_n ?_
    refine aw_seq <| aw_block <| aw_seq ?_
    refine aw_region eqok [] [] [] [0, 1, 5, 12, 13] [] [] ⟨[(0, .av (.one (lst 7 TEdge.c p1))), (1, .av (.one (lst 7 TEdge.c p2))), (5, tI v13), (12, tI ((p1.length : Int))), (13, tI v13)], []⟩ .nil (by kernel_rfl) .nil <| ath_n <| aw_seq ?_
    refine aw_draw mixed eqok [] [] [] [0, 1, 12, 13, 24] [] [0 ≤ (v13 : Int) ∧ (v13 : Int) < ((p1.length : Nat) : Int), 0 ≤ (v13 : Int) ∧ (v13 : Int) < ((p2.length : Nat) : Int)] ⟨[(0, .av (.one (lst 7 TEdge.c p1))), (1, .av (.one (lst 7 TEdge.c p2))), (12, tI ((p1.length : Int))), (13, tI v13), (24, tB (!(decide (((p1.getD v13.toNat default).Kind) = ((p2.getD v13.toNat default).Kind)) && (decide ((((p1.getD v13.toNat default).A).X) = (((p2.getD v13.toNat default).A).X)) && (decide ((((p1.getD v13.toNat default).A).Y) = (((p2.getD v13.toNat default).A).Y)) && (decide ((((p1.getD v13.toNat default).B).X) = (((p2.getD v13.toNat default).B).X)) && (decide ((((p1.getD v13.toNat default).B).Y) = (((p2.getD v13.toNat default).B).Y)) && (decide ((((p1.getD v13.toNat default).C).X) = (((p2.getD v13.toNat default).C).X)) && (decide ((((p1.getD v13.toNat default).C).Y) = (((p2.getD v13.toNat default).C).Y)) && true)))))))))], []⟩ .nil (by kernel_rfl) (by kernel_rfl) (.cons au1 (.cons au1 .nil)) <| ath_n ?_
    refine aw_cond (!(decide (((p1.getD v13.toNat default).Kind) = ((p2.getD v13.toNat default).Kind)) && (decide ((((p1.getD v13.toNat default).A).X) = (((p2.getD v13.toNat default).A).X)) && (decide ((((p1.getD v13.toNat default).A).Y) = (((p2.getD v13.toNat default).A).Y)) && (decide ((((p1.getD v13.toNat default).B).X) = (((p2.getD v13.toNat default).B).X)) && (decide ((((p1.getD v13.toNat default).B).Y) = (((p2.getD v13.toNat default).B).Y)) && (decide ((((p1.getD v13.toNat default).C).X) = (((p2.getD v13.toNat default).C).X)) && (decide ((((p1.getD v13.toNat default).C).Y) = (((p2.getD v13.toNat default).C).Y)) && true)))))))) (by kernel_rfl) (fun h3 => ?_) (fun h3 => ?_)
    ·refine aw_seq ?_
     refine aw_region eqok [] [] [] [4] [] [] ⟨[(4, tB false)], []⟩ .nil (by kernel_rfl) .nil <| ath_n ?_
     refine aw_ret <| abl_r ?_
     refine ath_r <| ath_r ?_
     refine abl_r <| ath_r ?_
     exact ⟨_, Cv.refl _, .inl rfl, .av (.one (.b false)), by kernel_rfl, tve_eq (by rw [← hF0]; first | (simp only [FequalE_l0, h2, h3, cond_true, cond_false]; done) | (simp only [FequalE_l0, h2, h3, cond_true, cond_false]; rfl))⟩
    ·refine aw_skip <| abl_n <| ath_n ?_
     refine aw_region eqok [] [] [] [0, 1, 12, 13] [] [] ⟨[(0, .av (.one (lst 7 TEdge.c p1))), (1, .av (.one (lst 7 TEdge.c p2))), (12, tI ((p1.length : Int))), (13, tI (W64 (v13 + 1)))], []⟩ .nil (by kernel_rfl) .nil ?_
     (try rw [(show W64 (v13 + 1) = v13 + 1 from W64_id (by omega) au7)])
     refine ath_n ?_
     refine ⟨(n0, v13 + 1), ⟨?_, ?_, (by rw [← hF0]; simp only [FequalE_l0, h2, h3, cond_true, cond_false])⟩, Nat.lt_succ_self _, cv_eq (by kernel_rfl)⟩
     ·show ((((p1.length : Int))) - (v13 + 1)).toNat < n0; omega
     ·exact ⟨(by show 0 ≤ (v13 + 1); first | trivial | omega | exact at0 | exact at1 | exact at2 | (simp; omega) | simp), (by show ((v13 + 1) ≤ ((p1.length : Int)) ∨ (v13 + 1) = 0); first | trivial | omega | exact at0 | exact at1 | exact at2 | (simp; omega) | simp)⟩
   ·have g2 := of_decide_eq_false h2
    refine aw_exit <| ath_e ?_
    refine ath_e <| abl_hit ?_
    refine ath_n <| aw_seq ?_
    refine aw_region eqok [] [] [] [4] [] [] ⟨[(4, tB true)], []⟩ .nil (by kernel_rfl) .nil <| ath_n <| aw_ret ?_
    exact ⟨_, Cv.refl _, .inl rfl, .av (.one (.b true)), by kernel_rfl, tve_eq (by rw [← hF0]; first | (simp only [FequalE_l0, h2, cond_true, cond_false]; done) | (simp only [FequalE_l0, h2, cond_true, cond_false]; rfl))⟩
theorem okequalE (p1 : (List TEdge)) (p2 : (List TEdge)) (h0 : (p1.length : Int) ≤ 1000000) : CallOk Try.prog (cequalE p1 p2).1 (cequalE p1 p2).2.1 (cequalE p1 p2).2.2 := callOk_pure (fun _ _ => by kernel_rfl) fun _ => pequalE p1 p2 h0
def FSameS (a : TShape) (b : TShape) : Bool := bif bif decide ((a.Kind : Int) = b.Kind) then decide ((a.R : Int) = b.R) else false then FequalE a.Edges b.Edges else false
def cSameS (a : TShape) (b : TShape) : FuncId × List Av × Ef := (27, [.agg (TShape.c a), .agg (TShape.c b)], .val [] (.av (.one (.b (FSameS a b)))))
theorem pSameS (a : TShape) (b : TShape) (h0 : (a.Edges.length : Int) ≤ 1000000) (h1 : (b.Edges.length : Int) ≤ 1000000) : Pure Try.prog 27 (cSameS a b).2.1 (.av (.one (.b (FSameS a b)))) := by
 refine pure_of_awF Try.func27 rfl (by kernel_rfl) (by kernel_rfl) fun W0 M0 => ?_
 refine aw_seq ?_
 refine aw_region eqok [] [] [] [2, 3] [2, 3] [] ⟨[(2, tP 2 0), (3, tP 3 0)], [(2, .cells (TShape.c a) 26), (3, .cells (TShape.c b) 26)]⟩ .nil (by kernel_rfl) .nil <| ath_n <| aw_seq ?_
 refine aw_region eqok [] [] [(22, cequalE a.Edges b.Edges)] [4] [] [((decide ((a.Kind : Int) = b.Kind)) = true) → ((decide ((a.Kind : Int) = b.Kind)) = true), ((decide ((a.Kind : Int) = b.Kind)) = true) → ((decide ((a.Kind : Int) = b.Kind)) = true), ((decide ((a.Kind : Int) = b.Kind)) = true) → ((decide ((a.Kind : Int) = b.Kind)) = true), ((decide ((a.Kind : Int) = b.Kind)) = true) → ((decide ((a.Kind : Int) = b.Kind)) = true), (decide ((a.Kind : Int) = b.Kind)) = true → ((decide ((a.Kind : Int) = b.Kind)) = true), ((bif decide ((a.Kind : Int) = b.Kind) then decide ((a.R : Int) = b.R) else false) = true) → ((bif decide ((a.Kind : Int) = b.Kind) then decide ((a.R : Int) = b.R) else false) = true), ((bif decide ((a.Kind : Int) = b.Kind) then decide ((a.R : Int) = b.R) else false) = true) → ((bif decide ((a.Kind : Int) = b.Kind) then decide ((a.R : Int) = b.R) else false) = true), ((bif decide ((a.Kind : Int) = b.Kind) then decide ((a.R : Int) = b.R) else false) = true) → ((bif decide ((a.Kind : Int) = b.Kind) then decide ((a.R : Int) = b.R) else false) = true), ((bif decide ((a.Kind : Int) = b.Kind) then decide ((a.R : Int) = b.R) else false) = true) → ((bif decide ((a.Kind : Int) = b.Kind) then decide ((a.R : Int) = b.R) else false) = true), ((bif decide ((a.Kind : Int) = b.Kind) then decide ((a.R : Int) = b.R) else false) = true) → (Same (cequalE a.Edges b.Edges).2.1), (bif decide ((a.Kind : Int) = b.Kind) then decide ((a.R : Int) = b.R) else false) = true → ((bif decide ((a.Kind : Int) = b.Kind) then decide ((a.R : Int) = b.R) else false) = true)] ⟨[(4, tB (bif bif decide ((a.Kind : Int) = b.Kind) then decide ((a.R : Int) = b.R) else false then FequalE a.Edges b.Edges else false))], []⟩ (.cons (okequalE a.Edges b.Edges au0) .nil) (by kernel_rfl) (.cons id (.cons id (.cons id (.cons id (.cons id (.cons id (.cons id (.cons id (.cons id (.cons (fun _ => rfl) (.cons id .nil))))))))))) <| ath_n <| aw_ret ?_
 exact ⟨_, Cv.refl _, .inl rfl, .av (.one (.b (bif bif decide ((a.Kind : Int) = b.Kind) then decide ((a.R : Int) = b.R) else false then FequalE a.Edges b.Edges else false))), by kernel_rfl, tve_eq (by rfl)⟩
theorem okSameS (a : TShape) (b : TShape) (h0 : (a.Edges.length : Int) ≤ 1000000) (h1 : (b.Edges.length : Int) ≤ 1000000) : CallOk Try.prog (cSameS a b).1 (cSameS a b).2.1 (cSameS a b).2.2 := callOk_pure (fun _ _ => by kernel_rfl) fun _ => pSameS a b h0 h1
end Go.Proofs.Ytpnlegfdkkcnlaa
namespace Go.Proofs.Ytpnlegfdkkcnlaa
set_option maxRecDepth 100000
open Go.RowKit
set_option linter.unusedVariables false
set_option linter.unusedSimpArgs false
def Flaw09pt (x0 : Int) (x1 : Int) : TPoint := TPoint.mk x0 x1
def claw09pt (x0 : Int) (x1 : Int) : FuncId × List Av × Ef := (14, [.one (.i x0), .one (.i x1)], .val [] (.av (.agg (TPoint.c (Flaw09pt x0 x1)))))
theorem plaw09pt (x0 : Int) (x1 : Int) : Pure Try.prog 14 (claw09pt x0 x1).2.1 (.av (.agg (TPoint.c (Flaw09pt x0 x1)))) := by
 refine pure_of_awF Try.func14 rfl (by kernel_rfl) (by kernel_rfl) fun W0 M0 => ?_
 refine aw_seq ?_
 refine aw_region eqok [] [] [] [0, 1, 4] [4] [] ⟨[(0, tI x0), (1, tI x1), (4, tP 4 0)], [(4, .cells [.i 0, .i 0] 29)]⟩ .nil (by kernel_rfl) .nil <| ath_n <| aw_seq ?_
 refine aw_region eqok [] [] [] [4] [4] [] ⟨[(4, tP 4 0)], [(4, .cells [.i x0, .i x1] 29)]⟩ .nil (by kernel_rfl) .nil <| ath_n <| aw_ret ?_
 exact ⟨_, Cv.refl _, .inl rfl, .av (.agg [.i x0, .i x1]), by kernel_rfl, tve_eq (by rfl)⟩
theorem oklaw09pt (x0 : Int) (x1 : Int) : CallOk Try.prog (claw09pt x0 x1).1 (claw09pt x0 x1).2.1 (claw09pt x0 x1).2.2 := callOk_pure (fun _ _ => by kernel_rfl) fun _ => plaw09pt x0 x1
def Flaw09line (x0 : TPoint) (x1 : TPoint) : TEdge := TEdge.mk 1 x0 x1 (TPoint.mk 0 0)
def claw09line (x0 : TPoint) (x1 : TPoint) : FuncId × List Av × Ef := (19, [.agg (TPoint.c x0), .agg (TPoint.c x1)], .val [] (.av (.agg (TEdge.c (Flaw09line x0 x1)))))
theorem plaw09line (x0 : TPoint) (x1 : TPoint) : Pure Try.prog 19 (claw09line x0 x1).2.1 (.av (.agg (TEdge.c (Flaw09line x0 x1)))) := by
 refine pure_of_awF Try.func19 rfl (by kernel_rfl) (by kernel_rfl) fun W0 M0 => ?_
 refine aw_seq ?_
 refine aw_region eqok [] [] [] [2, 3, 4] [2, 3, 4] [] ⟨[(2, tP 2 0), (3, tP 3 0), (4, tP 4 0)], [(2, .cells (TPoint.c x0) 29), (3, .cells (TPoint.c x1) 29), (4, .cells [.i 0, .i 0, .i 0, .i 0, .i 0, .i 0, .i 0] 35)]⟩ .nil (by kernel_rfl) .nil <| ath_n <| aw_seq ?_
 refine aw_region eqok [] [] [] [4] [4] [] ⟨[(4, tP 4 0)], [(4, .cells [.i 1, .i x0.X, .i x0.Y, .i x1.X, .i x1.Y, .i 0, .i 0] 35)]⟩ .nil (by kernel_rfl) .nil <| ath_n <| aw_ret ?_
 exact ⟨_, Cv.refl _, .inl rfl, .av (.agg [.i 1, .i x0.X, .i x0.Y, .i x1.X, .i x1.Y, .i 0, .i 0]), by kernel_rfl, tve_eq (by rfl)⟩
theorem oklaw09line (x0 : TPoint) (x1 : TPoint) : CallOk Try.prog (claw09line x0 x1).1 (claw09line x0 x1).2.1 (claw09line x0 x1).2.2 := callOk_pure (fun _ _ => by kernel_rfl) fun _ => plaw09line x0 x1
def FinsideL_l0 (s : TShape) (want : ByteArray) (l : (List TPoint)) : Nat → Int → Bool
 | 0, _ => default
 | n0 + 1, k => bif bif decide ((k : Int) < ((l.length : Int))) then decide ((k : Int) < ((want.size : Int))) else false then (bif !((FInsideS s (l.getD k.toNat default)) == (decide (((byteAt want k.toNat) : Int) = 49))) then (false) else ((FinsideL_l0 s want l n0) (k + 1))) else (true)
def FinsideL (s : TShape) (want : ByteArray) (l : (List TPoint)) : Bool := FinsideL_l0 s want l (((l.length : Int) - 0).toNat + 1) 0
def cinsideL (s : TShape) (want : ByteArray) (l : (List TPoint)) : FuncId × List Av × Ef := (37, [.agg (TShape.c s), .one (.s want), .one (lst 2 TPoint.c l)], .val [] (.av (.one (.b (FinsideL s want l)))))
theorem pinsideL (s : TShape) (want : ByteArray) (l : (List TPoint)) (hl : (s.Edges.length : Int) ≤ 1000000) (h2 : (want.size : Int) ≤ 1000000) (h3 : (l.length : Int) ≤ 1000000) : Pure Try.prog 37 (cinsideL s want l).2.1 (.av (.one (.b (FinsideL s want l)))) := by
 refine pure_of_awF Try.func37 rfl (by kernel_rfl) (by kernel_rfl) fun W0 M0 => ?_
 refine aw_seq ?_
 refine aw_region eqok [] [] [] [1, 2, 3] [3] [] ⟨[(1, .av (.one (.s want))), (2, .av (.one (lst 2 TPoint.c l))), (3, tP 3 0)], [(3, .cells (TShape.c s) 26)]⟩ .nil (by kernel_rfl) .nil <| ath_n ?_
 refine aw_seq <| aw_seq ?_
 refine aw_region eqok [] [] [] [1, 2, 3, 7] [3] [] ⟨[(1, .av (.one (.s want))), (2, .av (.one (lst 2 TPoint.c l))), (3, tP 3 0), (7, tI 0)], [(3, .cells (TShape.c s) 26)]⟩ .nil (by kernel_rfl) .nil <| ath_n <| aw_block ?_
 refine aw_loopC (ι := Nat × Int) (fun x => ⟨[(1, .av (.one (.s want))), (2, .av (.one (lst 2 TPoint.c l))), (3, tP 3 0), (7, tI x.2)], [(3, .cells (TShape.c s) 26)]⟩) (fun x => ((l.length : Int) - x.2).toNat < x.1 ∧ (0 ≤ x.2 ∧ 0 ≤ x.2) ∧ FinsideL_l0 s want l x.1 x.2 = FinsideL s want l) (fun x => x.1) ?_ (((l.length : Int) - 0).toNat + 1, 0) ⟨Nat.lt_succ_self _, ⟨(by show 0 ≤ 0; first | trivial | omega | exact at0 | exact at1 | exact at2 | (simp; omega) | simp), (by show 0 ≤ 0; first | trivial | omega | exact at0 | exact at1 | exact at2 | (simp; omega) | simp)⟩, (by simp only [FinsideL, cond_true, cond_false])⟩
 rintro ⟨n0, k⟩ ⟨hn, hinv, hF⟩
 have hm0 : ((l.length : Int) - k).toNat < n0 := hn; have hinv0 : 0 ≤ k ∧ 0 ≤ k := hinv; have hF0 : FinsideL_l0 s want l n0 k = FinsideL s want l := hF; clear hn hinv hF
 cases n0 with
 | zero => exact absurd hm0 (Nat.not_lt_zero _)
 | succ n0 =>
  refine aw_seq <| aw_seq ?_
  refine aw_region eqok [] [] [] [1, 2, 3, 7, 17] [3] [((decide ((k : Int) < ((l.length : Int)))) = true) → ((decide ((k : Int) < ((l.length : Int)))) = true), ((decide ((k : Int) < ((l.length : Int)))) = true) → ((decide ((k : Int) < ((l.length : Int)))) = true), ((decide ((k : Int) < ((l.length : Int)))) = true) → ((decide ((k : Int) < ((l.length : Int)))) = true), (decide ((k : Int) < ((l.length : Int)))) = true → ((decide ((k : Int) < ((l.length : Int)))) = true)] ⟨[(1, .av (.one (.s want))), (2, .av (.one (lst 2 TPoint.c l))), (3, tP 3 0), (7, tI k), (17, tB (bif decide ((k : Int) < ((l.length : Int))) then decide ((k : Int) < ((want.size : Int))) else false))], [(3, .cells (TShape.c s) 26)]⟩ .nil (by kernel_rfl) (.cons id (.cons id (.cons id (.cons id .nil)))) <| ath_n ?_
  refine aw_cond (bif decide ((k : Int) < ((l.length : Int))) then decide ((k : Int) < ((want.size : Int))) else false) (by kernel_rfl) (fun h1 => ?_) (fun h1 => ?_)
  ·have g1 := and_dec h1
   refine aw_skip <| ath_n ?_
   refine aw_seq <| aw_block <| aw_seq ?_
   refine aw_draw mixed eqok [] [] [(25, cInsideS s (l.getD k.toNat default))] [1, 2, 3, 7, 30] [3] [0 ≤ (k : Int) ∧ (k : Int) < ((l.length : Nat) : Int), Same (cInsideS s (l.getD k.toNat default)).2.1, 0 ≤ (k : Int) ∧ (k : Int) < ((want).size : Int)] ⟨[(1, .av (.one (.s want))), (2, .av (.one (lst 2 TPoint.c l))), (3, tP 3 0), (7, tI k), (30, tB (!((FInsideS s (l.getD k.toNat default)) == (decide (((byteAt want k.toNat) : Int) = 49)))))], [(3, .cells (TShape.c s) 26)]⟩ (.cons (okInsideS s (l.getD k.toNat default) au0) .nil) (by kernel_rfl) (by kernel_rfl) (.cons au1 (.cons rfl (.cons au1 .nil))) <| ath_n ?_
   refine aw_cond (!((FInsideS s (l.getD k.toNat default)) == (decide (((byteAt want k.toNat) : Int) = 49)))) (by kernel_rfl) (fun h2 => ?_) (fun h2 => ?_)
   ·refine aw_seq ?_
    refine aw_region eqok [] [] [] [6] [] [] ⟨[(6, tB false)], []⟩ .nil (by kernel_rfl) .nil <| ath_n ?_
    refine aw_ret <| abl_r ?_
    refine ath_r <| ath_r ?_
    refine abl_r <| ath_r ?_
    exact ⟨_, Cv.refl _, .inl rfl, .av (.one (.b false)), by kernel_rfl, tve_eq (by rw [← hF0]; first | (simp only [FinsideL_l0, h1, h2, cond_true, cond_false]; done) | (simp only [FinsideL_l0, h1, h2, cond_true, cond_false]; rfl))⟩
   ·refine aw_skip <| abl_n <| ath_n ?_
    refine aw_region eqok [] [] [] [1, 2, 3, 7] [3] [] ⟨[(1, .av (.one (.s want))), (2, .av (.one (lst 2 TPoint.c l))), (3, tP 3 0), (7, tI (W64 (k + 1)))], [(3, .cells (TShape.c s) 26)]⟩ .nil (by kernel_rfl) .nil ?_
    (try rw [(show W64 (k + 1) = k + 1 from W64_id (by omega) (by omega))])
    refine ath_n ?_
    refine ⟨(n0, k + 1), ⟨?_, ?_, (by rw [← hF0]; simp only [FinsideL_l0, h1, h2, cond_true, cond_false])⟩, Nat.lt_succ_self _, cv_eq (by kernel_rfl)⟩
    ·show ((l.length : Int) - (k + 1)).toNat < n0; omega
    ·exact ⟨(by show 0 ≤ (k + 1); first | trivial | omega | exact at0 | exact at1 | exact at2 | (simp; omega) | simp), (by show 0 ≤ (k + 1); first | trivial | omega | exact at0 | exact at1 | exact at2 | (simp; omega) | simp)⟩
  ·refine aw_exit <| ath_e ?_
   refine ath_e <| abl_hit ?_
   refine ath_n <| aw_seq ?_
   refine aw_region eqok [] [] [] [6] [] [] ⟨[(6, tB true)], []⟩ .nil (by kernel_rfl) .nil <| ath_n <| aw_ret ?_
   exact ⟨_, Cv.refl _, .inl rfl, .av (.one (.b true)), by kernel_rfl, tve_eq (by rw [← hF0]; first | (simp only [FinsideL_l0, h1, cond_true, cond_false]; done) | (simp only [FinsideL_l0, h1, cond_true, cond_false]; rfl))⟩
theorem okinsideL (s : TShape) (want : ByteArray) (l : (List TPoint)) (hl : (s.Edges.length : Int) ≤ 1000000) (h2 : (want.size : Int) ≤ 1000000) (h3 : (l.length : Int) ≤ 1000000) : CallOk Try.prog (cinsideL s want l).1 (cinsideL s want l).2.1 (cinsideL s want l).2.2 := callOk_pure (fun _ _ => by kernel_rfl) fun _ => pinsideL s want l hl h2 h3
def wsanity9_0 : TEdge := Flaw09line (Flaw09pt 0 0) (Flaw09pt 10 0)
def wsanity9_1 : (Nat → Nat → Cl) := colsC 7 2 [.i wsanity9_0.Kind, .i wsanity9_0.A.X, .i wsanity9_0.A.Y, .i wsanity9_0.B.X, .i wsanity9_0.B.Y, .i wsanity9_0.C.X, .i wsanity9_0.C.Y, .i 2, .i ((Flaw09pt 10 0).X), .i ((Flaw09pt 10 0).Y), .i ((Flaw09pt 15 5).X), .i ((Flaw09pt 15 5).Y), .i ((Flaw09pt 10 5).X), .i ((Flaw09pt 10 5).Y)]
def wsanity9_2 : (Nat → Nat → Cl) := colsC 7 3 [.i 2, .i ((Flaw09pt 5 0).X), .i ((Flaw09pt 5 0).Y), .i ((Flaw09pt 0 5).X), .i ((Flaw09pt 0 5).Y), .i 0, .i 0, .i ((Flaw09line (Flaw09pt 0 5) (Flaw09pt 0 0)).Kind), .i (((Flaw09line (Flaw09pt 0 5) (Flaw09pt 0 0)).A).X), .i (((Flaw09line (Flaw09pt 0 5) (Flaw09pt 0 0)).A).Y), .i (((Flaw09line (Flaw09pt 0 5) (Flaw09pt 0 0)).B).X), .i (((Flaw09line (Flaw09pt 0 5) (Flaw09pt 0 0)).B).Y), .i (((Flaw09line (Flaw09pt 0 5) (Flaw09pt 0 0)).C).X), .i (((Flaw09line (Flaw09pt 0 5) (Flaw09pt 0 0)).C).Y), .i ((Flaw09line (Flaw09pt 0 0) (Flaw09pt 5 0)).Kind), .i (((Flaw09line (Flaw09pt 0 0) (Flaw09pt 5 0)).A).X), .i (((Flaw09line (Flaw09pt 0 0) (Flaw09pt 5 0)).A).Y), .i (((Flaw09line (Flaw09pt 0 0) (Flaw09pt 5 0)).B).X), .i (((Flaw09line (Flaw09pt 0 0) (Flaw09pt 5 0)).B).Y), .i (((Flaw09line (Flaw09pt 0 0) (Flaw09pt 5 0)).C).X), .i (((Flaw09line (Flaw09pt 0 0) (Flaw09pt 5 0)).C).Y)]
def wsanity9_3 : Bool := decide (((FCheckS (TShape.mk 1 [wsanity9_0, TEdge.mk 2 (Flaw09pt 10 0) (Flaw09pt 15 5) (Flaw09pt 10 5)] 2)) : Int) = 0)
def wsanity9_4 : Bool := bif wsanity9_3 then decide (((FCheckS (TShape.mk 1 ([wsanity9_0, TEdge.mk 2 (Flaw09pt 10 0) (Flaw09pt 15 5) (Flaw09pt 10 5)].drop (1 : Int).toNat) 2)) : Int) = 0) else false
def wsanity9_5 : Bool := bif wsanity9_4 then decide (((FCheckS (TShape.mk 2 [TEdge.mk 2 (Flaw09pt 5 0) (Flaw09pt 0 5) (TPoint.mk 0 0), Flaw09line (Flaw09pt 0 5) (Flaw09pt 0 0), Flaw09line (Flaw09pt 0 0) (Flaw09pt 5 0)] 0)) : Int) = 0) else false
def wsanity9_6 : Bool := bif wsanity9_5 then decide (((FCheckS (TShape.mk 2 ([TEdge.mk 2 (Flaw09pt 5 0) (Flaw09pt 0 5) (TPoint.mk 0 0), Flaw09line (Flaw09pt 0 5) (Flaw09pt 0 0), Flaw09line (Flaw09pt 0 0) (Flaw09pt 5 0)].take (2 : Int).toNat) 0)) : Int) = 12) else false
def wsanity9_7 : Bool := decide (((FCheckS (TShape.mk 2 [TEdge.mk 2 (Flaw09pt 5 0) (Flaw09pt 0 5) (TPoint.mk 0 0), Flaw09line (Flaw09pt 0 5) (Flaw09pt 0 0), Flaw09line (Flaw09pt 0 0) (Flaw09pt 5 0)] 1)) : Int) = 3)
def wsanity9_8 : Bool := bif wsanity9_7 then decide (((FCheckS (TShape.mk 1 [wsanity9_0, TEdge.mk 2 (Flaw09pt 10 0) (Flaw09pt 15 5) (Flaw09pt 10 5)] ((-1)))) : Int) = 3) else false
def wsanity9_9 : Bool := bif wsanity9_8 then decide (((FCheckS (TShape.mk 1 [] 0)) : Int) = 12) else false
def wsanity9_10 : Bool := bif wsanity9_9 then (decide (((FBox (TShape.mk 1 [wsanity9_0, TEdge.mk 2 (Flaw09pt 10 0) (Flaw09pt 15 5) (Flaw09pt 10 5)] 2)).X0) = ((-2))) && (decide (((FBox (TShape.mk 1 [wsanity9_0, TEdge.mk 2 (Flaw09pt 10 0) (Flaw09pt 15 5) (Flaw09pt 10 5)] 2)).Y0) = ((-2))) && (decide (((FBox (TShape.mk 1 [wsanity9_0, TEdge.mk 2 (Flaw09pt 10 0) (Flaw09pt 15 5) (Flaw09pt 10 5)] 2)).X1) = 17) && (decide (((FBox (TShape.mk 1 [wsanity9_0, TEdge.mk 2 (Flaw09pt 10 0) (Flaw09pt 15 5) (Flaw09pt 10 5)] 2)).Y1) = 7) && true)))) else false
def wsanity9_11 : (Nat → Nat → Cl) := colsC 2 7 [.i ((Flaw09pt 5 2).X), .i ((Flaw09pt 5 2).Y), .i ((Flaw09pt 5 3).X), .i ((Flaw09pt 5 3).Y), .i ((Flaw09pt ((-2)) 0).X), .i ((Flaw09pt ((-2)) 0).Y), .i ((Flaw09pt ((-2)) 1).X), .i ((Flaw09pt ((-2)) 1).Y), .i ((Flaw09pt 14 2).X), .i ((Flaw09pt 14 2).Y), .i ((Flaw09pt 17 5).X), .i ((Flaw09pt 17 5).Y), .i ((Flaw09pt 10 5).X), .i ((Flaw09pt 10 5).Y)]
def wsanity9_12 : Bool := FinsideL (TShape.mk 1 [wsanity9_0, TEdge.mk 2 (Flaw09pt 10 0) (Flaw09pt 15 5) (Flaw09pt 10 5)] 2) (({ data := #[49, 48, 49, 48, 49, 49, 48] } : ByteArray)) [Flaw09pt 5 2, Flaw09pt 5 3, Flaw09pt ((-2)) 0, Flaw09pt ((-2)) 1, Flaw09pt 14 2, Flaw09pt 17 5, Flaw09pt 10 5]
def wsanity9_13 : (Nat → Nat → Cl) := colsC 2 5 [.i ((Flaw09pt 3 4).X), .i ((Flaw09pt 3 4).Y), .i ((Flaw09pt 4 4).X), .i ((Flaw09pt 4 4).Y), .i ((Flaw09pt 0 2).X), .i ((Flaw09pt 0 2).Y), .i ((Flaw09pt 1 1).X), .i ((Flaw09pt 1 1).Y), .i ((Flaw09pt ((-1)) 1).X), .i ((Flaw09pt ((-1)) 1).Y)]
def wsanity9_14 : Bool := bif wsanity9_12 then FinsideL (TShape.mk 2 [TEdge.mk 2 (Flaw09pt 5 0) (Flaw09pt 0 5) (TPoint.mk 0 0), Flaw09line (Flaw09pt 0 5) (Flaw09pt 0 0), Flaw09line (Flaw09pt 0 0) (Flaw09pt 5 0)] 0) (({ data := #[49, 48, 49, 49, 48] } : ByteArray)) [Flaw09pt 3 4, Flaw09pt 4 4, Flaw09pt 0 2, Flaw09pt 1 1, Flaw09pt ((-1)) 1] else false
def wsanity9_15 : Bool := bif wsanity9_6 then wsanity9_10 else false
def wsanity9_16 : Bool := bif wsanity9_15 then wsanity9_14 else false
def wsanity9_17 : Bool := bif wsanity9_16 then FSameS (TShape.mk 1 [wsanity9_0, TEdge.mk 2 (Flaw09pt 10 0) (Flaw09pt 15 5) (Flaw09pt 10 5)] 2) (TShape.mk 1 [wsanity9_0, TEdge.mk 2 (Flaw09pt 10 0) (Flaw09pt 15 5) (Flaw09pt 10 5)] 2) else false
def wsanity9_18 : Bool := bif wsanity9_17 then !(FSameS (TShape.mk 1 [wsanity9_0, TEdge.mk 2 (Flaw09pt 10 0) (Flaw09pt 15 5) (Flaw09pt 10 5)] 2) (TShape.mk 2 [TEdge.mk 2 (Flaw09pt 5 0) (Flaw09pt 0 5) (TPoint.mk 0 0), Flaw09line (Flaw09pt 0 5) (Flaw09pt 0 0), Flaw09line (Flaw09pt 0 0) (Flaw09pt 5 0)] 0)) else false
def Fsanity9 : Bool := wsanity9_18
def csanity9 : FuncId × List Av × Ef := (11, [], .val [] (.av (.one (.b Fsanity9))))
theorem psanity9  : Pure Try.prog 11 (csanity9 ).2.1 (.av (.one (.b Fsanity9))) := by
 refine pure_of_awF Try.func11 rfl (by kernel_rfl) (by kernel_rfl) fun W0 M0 => ?_
 refine aw_seq ?_
 refine aw_region eqok [] [] [] [] [] [] ⟨[], []⟩ .nil (by kernel_rfl) .nil <| ath_n <| aw_seq ?_
 refine aw_region eqok [] [] [(10, claw09pt 0 0), (11, claw09pt 10 0), (12, claw09line (Flaw09pt 0 0) (Flaw09pt 10 0)), (13, claw09pt 10 0), (14, claw09pt 15 5), (15, claw09pt 10 5)] [1] [1] [Same (claw09pt 0 0).2.1, Same (claw09pt 10 0).2.1, Same (claw09line (Flaw09pt 0 0) (Flaw09pt 10 0)).2.1, Same (claw09pt 10 0).2.1, Same (claw09pt 15 5).2.1, Same (claw09pt 10 5).2.1] ⟨[(1, tP 1 0)], [(1, .cells [.i 1, .list true 7 2 wsanity9_1, .i 2] 26)]⟩ (.cons (oklaw09pt 0 0) (.cons (oklaw09pt 10 0) (.cons (oklaw09line (Flaw09pt 0 0) (Flaw09pt 10 0)) (.cons (oklaw09pt 10 0) (.cons (oklaw09pt 15 5) (.cons (oklaw09pt 10 5) .nil)))))) (by kernel_rfl) (.cons rfl (.cons rfl (.cons rfl (.cons rfl (.cons rfl (.cons rfl .nil)))))) <| ath_n <| aw_seq ?_
 refine aw_region eqok [] [] [(19, claw09pt 5 0), (20, claw09pt 0 5), (22, claw09pt 0 5), (23, claw09pt 0 0), (24, claw09line (Flaw09pt 0 5) (Flaw09pt 0 0)), (25, claw09pt 0 0), (26, claw09pt 5 0), (27, claw09line (Flaw09pt 0 0) (Flaw09pt 5 0))] [1, 2] [1, 2] [Same (claw09pt 5 0).2.1, Same (claw09pt 0 5).2.1, Same (claw09pt 0 5).2.1, Same (claw09pt 0 0).2.1, Same (claw09line (Flaw09pt 0 5) (Flaw09pt 0 0)).2.1, Same (claw09pt 0 0).2.1, Same (claw09pt 5 0).2.1, Same (claw09line (Flaw09pt 0 0) (Flaw09pt 5 0)).2.1] ⟨[(1, tP 1 0), (2, tP 2 0)], [(1, .cells [.i 1, .list true 7 2 wsanity9_1, .i 2] 26), (2, .cells [.i 2, .list true 7 3 wsanity9_2, .i 0] 26)]⟩ (.cons (oklaw09pt 5 0) (.cons (oklaw09pt 0 5) (.cons (oklaw09pt 0 5) (.cons (oklaw09pt 0 0) (.cons (oklaw09line (Flaw09pt 0 5) (Flaw09pt 0 0)) (.cons (oklaw09pt 0 0) (.cons (oklaw09pt 5 0) (.cons (oklaw09line (Flaw09pt 0 0) (Flaw09pt 5 0)) .nil)))))))) (by kernel_rfl) (.cons rfl (.cons rfl (.cons rfl (.cons rfl (.cons rfl (.cons rfl (.cons rfl (.cons rfl .nil)))))))) <| ath_n <| aw_seq ?_
 refine aw_draw mixed eqok [] [] [] [1, 2, 3, 4, 5, 6] [1, 2, 3, 4, 5, 6] [] ⟨[(1, tP 1 0), (2, tP 2 0), (3, tP 3 0), (4, tP 4 0), (5, tP 5 0), (6, tP 6 0)], [(1, .cells [.i 1, .list true 7 2 wsanity9_1, .i 2] 26), (2, .cells [.i 2, .list true 7 3 wsanity9_2, .i 0] 26), (3, .cells [.i 1, .list true 7 2 wsanity9_1, .i 2] 26), (4, .cells [.i 2, .list true 7 3 wsanity9_2, .i 0] 26), (5, .cells [.i 2, .list true 7 3 wsanity9_2, .i 0] 26), (6, .cells [.i 1, .list true 7 2 wsanity9_1, .i 2] 26)]⟩ .nil (by kernel_rfl) (by kernel_rfl) .nil <| ath_n <| aw_seq ?_
 refine aw_draw mixed eqok [] [] [] [1, 2, 3, 4, 5, 6] [1, 2, 3, 4, 5, 6] [0 ≤ (1 : Int) ∧ (1 : Int) ≤ (((2 : Nat) : Int) : Int) ∧ (((2 : Nat) : Int) : Int) ≤ ((2 : Nat) : Int), 0 ≤ (0 : Int) ∧ (0 : Int) ≤ (2 : Int) ∧ (2 : Int) ≤ ((3 : Nat) : Int)] ⟨[(1, tP 1 0), (2, tP 2 0), (3, tP 3 0), (4, tP 4 0), (5, tP 5 0), (6, tP 6 0)], [(1, .cells [.i 1, .list true 7 2 wsanity9_1, .i 2] 26), (2, .cells [.i 2, .list true 7 3 wsanity9_2, .i 0] 26), (3, .cells [.i 1, .list false 7 ((((2 : Nat) : Int) : Int).toNat - (1 : Int).toNat) (fun i j => (wsanity9_1) (i + (1 : Int).toNat) j), .i 2] 26), (4, .cells [.i 2, .list false 7 ((2 : Int).toNat - (0 : Int).toNat) (fun i j => (wsanity9_2) (i + (0 : Int).toNat) j), .i 0] 26), (5, .cells [.i 2, .list true 7 3 wsanity9_2, .i 0] 26), (6, .cells [.i 1, .list true 7 2 wsanity9_1, .i 2] 26)]⟩ .nil (by kernel_rfl) (by kernel_rfl) (.cons au1 (.cons au1 .nil)) <| ath_n ?_
 refine aw_cv (Cv.trans (cv_ce (⟨[(1, tP 1 0), (2, tP 2 0), (3, tP 3 0), (4, tP 4 0), (5, tP 5 0), (6, tP 6 0)], [(1, .cells [.i 1, .list true 7 2 wsanity9_1, .i 2] 26), (2, .cells [.i 2, .list true 7 3 wsanity9_2, .i 0] 26), (3, .cells [.i 1, lst 7 TEdge.c ([wsanity9_0, TEdge.mk 2 (Flaw09pt 10 0) (Flaw09pt 15 5) (Flaw09pt 10 5)].drop (1 : Int).toNat), .i 2] 26), (4, .cells [.i 2, lst 7 TEdge.c ([TEdge.mk 2 (Flaw09pt 5 0) (Flaw09pt 0 5) (TPoint.mk 0 0), Flaw09line (Flaw09pt 0 5) (Flaw09pt 0 0), Flaw09line (Flaw09pt 0 0) (Flaw09pt 5 0)].take (2 : Int).toNat), .i 0] 26), (5, .cells [.i 2, .list true 7 3 wsanity9_2, .i 0] 26), (6, .cells [.i 1, .list true 7 2 wsanity9_1, .i 2] 26)]⟩) (.cons ⟨rfl, .refl _⟩ (.cons ⟨rfl, .refl _⟩ (.cons ⟨rfl, .refl _⟩ (.cons ⟨rfl, .refl _⟩ (.cons ⟨rfl, .refl _⟩ (.cons ⟨rfl, .refl _⟩ .nil)))))) (.cons ⟨rfl, .refl _⟩ (.cons ⟨rfl, .refl _⟩ (.cons ⟨rfl, .cells _ (.cons (.refl _) (.cons (cle_told false (told_drop (a := 1) (told_lit (c := TEdge.c) (xs := ([wsanity9_0, TEdge.mk 2 (Flaw09pt 10 0) (Flaw09pt 15 5) (Flaw09pt 10 5)] : List TEdge)) rfl (by kernel_rfl)) (by have hc := (show 0 ≤ (1 : Int) ∧ (1 : Int) ≤ (((2 : Nat) : Int) : Int) ∧ (((2 : Nat) : Int) : Int) ≤ ((2 : Nat) : Int) from au1); exact hc.1) (by have hc := (show 0 ≤ (1 : Int) ∧ (1 : Int) ≤ (((2 : Nat) : Int) : Int) ∧ (((2 : Nat) : Int) : Int) ≤ ((2 : Nat) : Int) from au1); exact hc.2.1))) (.cons (.refl _) .nil)))⟩ (.cons ⟨rfl, .cells _ (.cons (.refl _) (.cons (cle_told false (told_take (b := 2) (told_lit (c := TEdge.c) (xs := ([TEdge.mk 2 (Flaw09pt 5 0) (Flaw09pt 0 5) (TPoint.mk 0 0), Flaw09line (Flaw09pt 0 5) (Flaw09pt 0 0), Flaw09line (Flaw09pt 0 0) (Flaw09pt 5 0)] : List TEdge)) rfl (by kernel_rfl)) (by have hc := (show 0 ≤ (0 : Int) ∧ (0 : Int) ≤ (2 : Int) ∧ (2 : Int) ≤ ((3 : Nat) : Int) from au1); exact hc.2.1) (by have hc := (show 0 ≤ (0 : Int) ∧ (0 : Int) ≤ (2 : Int) ∧ (2 : Int) ≤ ((3 : Nat) : Int) from au1); exact hc.2.2))) (.cons (.refl _) .nil)))⟩ (.cons ⟨rfl, .refl _⟩ (.cons ⟨rfl, .refl _⟩ .nil))))))) (Cv.refl _)) <| aw_seq ?_
 refine aw_region eqok [] [] [] [1, 2, 3, 4, 5, 6] [1, 2, 3, 4, 5, 6] [] ⟨[(1, tP 1 0), (2, tP 2 0), (3, tP 3 0), (4, tP 4 0), (5, tP 5 0), (6, tP 6 0)], [(1, .cells [.i 1, .list true 7 2 wsanity9_1, .i 2] 26), (2, .cells [.i 2, .list true 7 3 wsanity9_2, .i 0] 26), (3, .cells [.i 1, lst 7 TEdge.c ([wsanity9_0, TEdge.mk 2 (Flaw09pt 10 0) (Flaw09pt 15 5) (Flaw09pt 10 5)].drop (1 : Int).toNat), .i 2] 26), (4, .cells [.i 2, lst 7 TEdge.c ([TEdge.mk 2 (Flaw09pt 5 0) (Flaw09pt 0 5) (TPoint.mk 0 0), Flaw09line (Flaw09pt 0 5) (Flaw09pt 0 0), Flaw09line (Flaw09pt 0 0) (Flaw09pt 5 0)].take (2 : Int).toNat), .i 0] 26), (5, .cells [.i 2, .list true 7 3 wsanity9_2, .i 1] 26), (6, .cells [.i 1, .list true 7 2 wsanity9_1, .i ((-1))] 26)]⟩ .nil (by kernel_rfl) .nil <| ath_n <| aw_seq ?_
 refine aw_region eqok [] [] [(45, ceI [.agg [.i 1, .list true 7 2 wsanity9_1, .i 2]] (cCheckS (TShape.mk 1 [wsanity9_0, TEdge.mk 2 (Flaw09pt 10 0) (Flaw09pt 15 5) (Flaw09pt 10 5)] 2))), (49, cCheckS (TShape.mk 1 ([wsanity9_0, TEdge.mk 2 (Flaw09pt 10 0) (Flaw09pt 15 5) (Flaw09pt 10 5)].drop (1 : Int).toNat) 2)), (54, ceI [.agg [.i 2, .list true 7 3 wsanity9_2, .i 0]] (cCheckS (TShape.mk 2 [TEdge.mk 2 (Flaw09pt 5 0) (Flaw09pt 0 5) (TPoint.mk 0 0), Flaw09line (Flaw09pt 0 5) (Flaw09pt 0 0), Flaw09line (Flaw09pt 0 0) (Flaw09pt 5 0)] 0))), (59, cCheckS (TShape.mk 2 ([TEdge.mk 2 (Flaw09pt 5 0) (Flaw09pt 0 5) (TPoint.mk 0 0), Flaw09line (Flaw09pt 0 5) (Flaw09pt 0 0), Flaw09line (Flaw09pt 0 0) (Flaw09pt 5 0)].take (2 : Int).toNat) 0))] [1, 2, 5, 6, 7] [1, 2, 5, 6] [Same (ceI [.agg [.i 1, .list true 7 2 wsanity9_1, .i 2]] (cCheckS (TShape.mk 1 [wsanity9_0, TEdge.mk 2 (Flaw09pt 10 0) (Flaw09pt 15 5) (Flaw09pt 10 5)] 2))).2.1, ((wsanity9_3) = true) → ((wsanity9_3) = true), ((wsanity9_3) = true) → (Same (cCheckS (TShape.mk 1 ([wsanity9_0, TEdge.mk 2 (Flaw09pt 10 0) (Flaw09pt 15 5) (Flaw09pt 10 5)].drop (1 : Int).toNat) 2)).2.1), ((wsanity9_3) = true) → ((wsanity9_3) = true), (wsanity9_3) = true → ((wsanity9_3) = true), ((wsanity9_4) = true) → ((wsanity9_4) = true), ((wsanity9_4) = true) → (Same (ceI [.agg [.i 2, .list true 7 3 wsanity9_2, .i 0]] (cCheckS (TShape.mk 2 [TEdge.mk 2 (Flaw09pt 5 0) (Flaw09pt 0 5) (TPoint.mk 0 0), Flaw09line (Flaw09pt 0 5) (Flaw09pt 0 0), Flaw09line (Flaw09pt 0 0) (Flaw09pt 5 0)] 0))).2.1), ((wsanity9_4) = true) → ((wsanity9_4) = true), (wsanity9_4) = true → ((wsanity9_4) = true), ((wsanity9_5) = true) → ((wsanity9_5) = true), ((wsanity9_5) = true) → (Same (cCheckS (TShape.mk 2 ([TEdge.mk 2 (Flaw09pt 5 0) (Flaw09pt 0 5) (TPoint.mk 0 0), Flaw09line (Flaw09pt 0 5) (Flaw09pt 0 0), Flaw09line (Flaw09pt 0 0) (Flaw09pt 5 0)].take (2 : Int).toNat) 0)).2.1), ((wsanity9_5) = true) → ((wsanity9_5) = true), (wsanity9_5) = true → ((wsanity9_5) = true)] ⟨[(1, tP 1 0), (2, tP 2 0), (5, tP 5 0), (6, tP 6 0), (7, tB wsanity9_6)], [(1, .cells [.i 1, .list true 7 2 wsanity9_1, .i 2] 26), (2, .cells [.i 2, .list true 7 3 wsanity9_2, .i 0] 26), (5, .cells [.i 2, .list true 7 3 wsanity9_2, .i 1] 26), (6, .cells [.i 1, .list true 7 2 wsanity9_1, .i ((-1))] 26)]⟩ (.cons (callOk_ce (okCheckS (TShape.mk 1 [wsanity9_0, TEdge.mk 2 (Flaw09pt 10 0) (Flaw09pt 15 5) (Flaw09pt 10 5)] 2) au0) (.cons (.agg (.cons (.refl _) (.cons (cle_told true (told_lit (c := TEdge.c) (xs := ([wsanity9_0, TEdge.mk 2 (Flaw09pt 10 0) (Flaw09pt 15 5) (Flaw09pt 10 5)] : List TEdge)) rfl (by kernel_rfl))) (.cons (.refl _) .nil)))) .nil)) (.cons (okCheckS (TShape.mk 1 ([wsanity9_0, TEdge.mk 2 (Flaw09pt 10 0) (Flaw09pt 15 5) (Flaw09pt 10 5)].drop (1 : Int).toNat) 2) au0) (.cons (callOk_ce (okCheckS (TShape.mk 2 [TEdge.mk 2 (Flaw09pt 5 0) (Flaw09pt 0 5) (TPoint.mk 0 0), Flaw09line (Flaw09pt 0 5) (Flaw09pt 0 0), Flaw09line (Flaw09pt 0 0) (Flaw09pt 5 0)] 0) au0) (.cons (.agg (.cons (.refl _) (.cons (cle_told true (told_lit (c := TEdge.c) (xs := ([TEdge.mk 2 (Flaw09pt 5 0) (Flaw09pt 0 5) (TPoint.mk 0 0), Flaw09line (Flaw09pt 0 5) (Flaw09pt 0 0), Flaw09line (Flaw09pt 0 0) (Flaw09pt 5 0)] : List TEdge)) rfl (by kernel_rfl))) (.cons (.refl _) .nil)))) .nil)) (.cons (okCheckS (TShape.mk 2 ([TEdge.mk 2 (Flaw09pt 5 0) (Flaw09pt 0 5) (TPoint.mk 0 0), Flaw09line (Flaw09pt 0 5) (Flaw09pt 0 0), Flaw09line (Flaw09pt 0 0) (Flaw09pt 5 0)].take (2 : Int).toNat) 0) au0) .nil)))) (by kernel_rfl) (.cons rfl (.cons id (.cons (fun _ => rfl) (.cons id (.cons id (.cons id (.cons (fun _ => rfl) (.cons id (.cons id (.cons id (.cons (fun _ => rfl) (.cons id (.cons id .nil))))))))))))) <| ath_n <| aw_seq ?_
 refine aw_region eqok [] [] [(63, ceI [.agg [.i 2, .list true 7 3 wsanity9_2, .i 1]] (cCheckS (TShape.mk 2 [TEdge.mk 2 (Flaw09pt 5 0) (Flaw09pt 0 5) (TPoint.mk 0 0), Flaw09line (Flaw09pt 0 5) (Flaw09pt 0 0), Flaw09line (Flaw09pt 0 0) (Flaw09pt 5 0)] 1))), (67, ceI [.agg [.i 1, .list true 7 2 wsanity9_1, .i ((-1))]] (cCheckS (TShape.mk 1 [wsanity9_0, TEdge.mk 2 (Flaw09pt 10 0) (Flaw09pt 15 5) (Flaw09pt 10 5)] ((-1))))), (72, ceI [.agg [.i 1, .val (.slice none 0 0), .i 0]] (cCheckS (TShape.mk 1 [] 0))), (77, ceI [.agg [.i 1, .list true 7 2 wsanity9_1, .i 2]] (cBox (TShape.mk 1 [wsanity9_0, TEdge.mk 2 (Flaw09pt 10 0) (Flaw09pt 15 5) (Flaw09pt 10 5)] 2)))] [1, 2, 7, 8] [1, 2] [Same (ceI [.agg [.i 2, .list true 7 3 wsanity9_2, .i 1]] (cCheckS (TShape.mk 2 [TEdge.mk 2 (Flaw09pt 5 0) (Flaw09pt 0 5) (TPoint.mk 0 0), Flaw09line (Flaw09pt 0 5) (Flaw09pt 0 0), Flaw09line (Flaw09pt 0 0) (Flaw09pt 5 0)] 1))).2.1, ((wsanity9_7) = true) → ((wsanity9_7) = true), ((wsanity9_7) = true) → (Same (ceI [.agg [.i 1, .list true 7 2 wsanity9_1, .i ((-1))]] (cCheckS (TShape.mk 1 [wsanity9_0, TEdge.mk 2 (Flaw09pt 10 0) (Flaw09pt 15 5) (Flaw09pt 10 5)] ((-1))))).2.1), ((wsanity9_7) = true) → ((wsanity9_7) = true), (wsanity9_7) = true → ((wsanity9_7) = true), ((wsanity9_8) = true) → ((wsanity9_8) = true), ((wsanity9_8) = true) → (Same (ceI [.agg [.i 1, .val (.slice none 0 0), .i 0]] (cCheckS (TShape.mk 1 [] 0))).2.1), ((wsanity9_8) = true) → ((wsanity9_8) = true), (wsanity9_8) = true → ((wsanity9_8) = true), ((wsanity9_9) = true) → ((wsanity9_9) = true), ((wsanity9_9) = true) → (Same (ceI [.agg [.i 1, .list true 7 2 wsanity9_1, .i 2]] (cBox (TShape.mk 1 [wsanity9_0, TEdge.mk 2 (Flaw09pt 10 0) (Flaw09pt 15 5) (Flaw09pt 10 5)] 2))).2.1), ((wsanity9_9) = true) → ((wsanity9_9) = true), ((wsanity9_9) = true) → ((wsanity9_9) = true), (wsanity9_9) = true → ((wsanity9_9) = true)] ⟨[(1, tP 1 0), (2, tP 2 0), (7, tB wsanity9_6), (8, tB wsanity9_10)], [(1, .cells [.i 1, .list true 7 2 wsanity9_1, .i 2] 26), (2, .cells [.i 2, .list true 7 3 wsanity9_2, .i 0] 26)]⟩ (.cons (callOk_ce (okCheckS (TShape.mk 2 [TEdge.mk 2 (Flaw09pt 5 0) (Flaw09pt 0 5) (TPoint.mk 0 0), Flaw09line (Flaw09pt 0 5) (Flaw09pt 0 0), Flaw09line (Flaw09pt 0 0) (Flaw09pt 5 0)] 1) au0) (.cons (.agg (.cons (.refl _) (.cons (cle_told true (told_lit (c := TEdge.c) (xs := ([TEdge.mk 2 (Flaw09pt 5 0) (Flaw09pt 0 5) (TPoint.mk 0 0), Flaw09line (Flaw09pt 0 5) (Flaw09pt 0 0), Flaw09line (Flaw09pt 0 0) (Flaw09pt 5 0)] : List TEdge)) rfl (by kernel_rfl))) (.cons (.refl _) .nil)))) .nil)) (.cons (callOk_ce (okCheckS (TShape.mk 1 [wsanity9_0, TEdge.mk 2 (Flaw09pt 10 0) (Flaw09pt 15 5) (Flaw09pt 10 5)] ((-1))) au0) (.cons (.agg (.cons (.refl _) (.cons (cle_told true (told_lit (c := TEdge.c) (xs := ([wsanity9_0, TEdge.mk 2 (Flaw09pt 10 0) (Flaw09pt 15 5) (Flaw09pt 10 5)] : List TEdge)) rfl (by kernel_rfl))) (.cons (.refl _) .nil)))) .nil)) (.cons (callOk_ce (okCheckS (TShape.mk 1 [] 0) au0) (.cons (.agg (.cons (.refl _) (.cons (cle_nil 7 TEdge.c) (.cons (.refl _) .nil)))) .nil)) (.cons (callOk_ce (okBox (TShape.mk 1 [wsanity9_0, TEdge.mk 2 (Flaw09pt 10 0) (Flaw09pt 15 5) (Flaw09pt 10 5)] 2) au0) (.cons (.agg (.cons (.refl _) (.cons (cle_told true (told_lit (c := TEdge.c) (xs := ([wsanity9_0, TEdge.mk 2 (Flaw09pt 10 0) (Flaw09pt 15 5) (Flaw09pt 10 5)] : List TEdge)) rfl (by kernel_rfl))) (.cons (.refl _) .nil)))) .nil)) .nil)))) (by kernel_rfl) (.cons rfl (.cons id (.cons (fun _ => rfl) (.cons id (.cons id (.cons id (.cons (fun _ => rfl) (.cons id (.cons id (.cons id (.cons (fun _ => rfl) (.cons id (.cons id (.cons id .nil)))))))))))))) <| ath_n <| aw_seq ?_
 refine aw_draw mixed eqok [] [] [(82, claw09pt 5 2), (83, claw09pt 5 3), (84, claw09pt ((-2)) 0), (85, claw09pt ((-2)) 1), (86, claw09pt 14 2), (87, claw09pt 17 5), (88, claw09pt 10 5), (90, ceI [.agg [.i 1, .list true 7 2 wsanity9_1, .i 2], .one (.s (({ data := #[49, 48, 49, 48, 49, 49, 48] } : ByteArray))), .one (.list true 2 7 wsanity9_11)] (cinsideL (TShape.mk 1 [wsanity9_0, TEdge.mk 2 (Flaw09pt 10 0) (Flaw09pt 15 5) (Flaw09pt 10 5)] 2) (({ data := #[49, 48, 49, 48, 49, 49, 48] } : ByteArray)) [Flaw09pt 5 2, Flaw09pt 5 3, Flaw09pt ((-2)) 0, Flaw09pt ((-2)) 1, Flaw09pt 14 2, Flaw09pt 17 5, Flaw09pt 10 5])), (93, claw09pt 3 4), (94, claw09pt 4 4), (95, claw09pt 0 2), (96, claw09pt 1 1), (97, claw09pt ((-1)) 1), (99, ceI [.agg [.i 2, .list true 7 3 wsanity9_2, .i 0], .one (.s (({ data := #[49, 48, 49, 49, 48] } : ByteArray))), .one (.list true 2 5 wsanity9_13)] (cinsideL (TShape.mk 2 [TEdge.mk 2 (Flaw09pt 5 0) (Flaw09pt 0 5) (TPoint.mk 0 0), Flaw09line (Flaw09pt 0 5) (Flaw09pt 0 0), Flaw09line (Flaw09pt 0 0) (Flaw09pt 5 0)] 0) (({ data := #[49, 48, 49, 49, 48] } : ByteArray)) [Flaw09pt 3 4, Flaw09pt 4 4, Flaw09pt 0 2, Flaw09pt 1 1, Flaw09pt ((-1)) 1]))] [1, 2, 7, 8, 9] [1, 2] [Same (claw09pt 5 2).2.1, Same (claw09pt 5 3).2.1, Same (claw09pt ((-2)) 0).2.1, Same (claw09pt ((-2)) 1).2.1, Same (claw09pt 14 2).2.1, Same (claw09pt 17 5).2.1, Same (claw09pt 10 5).2.1, Same (ceI [.agg [.i 1, .list true 7 2 wsanity9_1, .i 2], .one (.s (({ data := #[49, 48, 49, 48, 49, 49, 48] } : ByteArray))), .one (.list true 2 7 wsanity9_11)] (cinsideL (TShape.mk 1 [wsanity9_0, TEdge.mk 2 (Flaw09pt 10 0) (Flaw09pt 15 5) (Flaw09pt 10 5)] 2) (({ data := #[49, 48, 49, 48, 49, 49, 48] } : ByteArray)) [Flaw09pt 5 2, Flaw09pt 5 3, Flaw09pt ((-2)) 0, Flaw09pt ((-2)) 1, Flaw09pt 14 2, Flaw09pt 17 5, Flaw09pt 10 5])).2.1, ((wsanity9_12) = true) → (Same (claw09pt 3 4).2.1), ((wsanity9_12) = true) → (Same (claw09pt 4 4).2.1), ((wsanity9_12) = true) → (Same (claw09pt 0 2).2.1), ((wsanity9_12) = true) → (Same (claw09pt 1 1).2.1), ((wsanity9_12) = true) → (Same (claw09pt ((-1)) 1).2.1), ((wsanity9_12) = true) → ((wsanity9_12) = true), ((wsanity9_12) = true) → ((wsanity9_12) = true), ((wsanity9_12) = true) → ((wsanity9_12) = true), ((wsanity9_12) = true) → ((wsanity9_12) = true), ((wsanity9_12) = true) → ((wsanity9_12) = true), ((wsanity9_12) = true) → ((wsanity9_12) = true), ((wsanity9_12) = true) → ((wsanity9_12) = true), ((wsanity9_12) = true) → (Same (ceI [.agg [.i 2, .list true 7 3 wsanity9_2, .i 0], .one (.s (({ data := #[49, 48, 49, 49, 48] } : ByteArray))), .one (.list true 2 5 wsanity9_13)] (cinsideL (TShape.mk 2 [TEdge.mk 2 (Flaw09pt 5 0) (Flaw09pt 0 5) (TPoint.mk 0 0), Flaw09line (Flaw09pt 0 5) (Flaw09pt 0 0), Flaw09line (Flaw09pt 0 0) (Flaw09pt 5 0)] 0) (({ data := #[49, 48, 49, 49, 48] } : ByteArray)) [Flaw09pt 3 4, Flaw09pt 4 4, Flaw09pt 0 2, Flaw09pt 1 1, Flaw09pt ((-1)) 1])).2.1), (wsanity9_12) = true → ((wsanity9_12) = true)] ⟨[(1, tP 1 0), (2, tP 2 0), (7, tB wsanity9_6), (8, tB wsanity9_10), (9, tB wsanity9_14)], [(1, .cells [.i 1, .list true 7 2 wsanity9_1, .i 2] 26), (2, .cells [.i 2, .list true 7 3 wsanity9_2, .i 0] 26)]⟩ (.cons (oklaw09pt 5 2) (.cons (oklaw09pt 5 3) (.cons (oklaw09pt ((-2)) 0) (.cons (oklaw09pt ((-2)) 1) (.cons (oklaw09pt 14 2) (.cons (oklaw09pt 17 5) (.cons (oklaw09pt 10 5) (.cons (callOk_ce (okinsideL (TShape.mk 1 [wsanity9_0, TEdge.mk 2 (Flaw09pt 10 0) (Flaw09pt 15 5) (Flaw09pt 10 5)] 2) (({ data := #[49, 48, 49, 48, 49, 49, 48] } : ByteArray)) [Flaw09pt 5 2, Flaw09pt 5 3, Flaw09pt ((-2)) 0, Flaw09pt ((-2)) 1, Flaw09pt 14 2, Flaw09pt 17 5, Flaw09pt 10 5] au0 au0 au0) (.cons (.agg (.cons (.refl _) (.cons (cle_told true (told_lit (c := TEdge.c) (xs := ([wsanity9_0, TEdge.mk 2 (Flaw09pt 10 0) (Flaw09pt 15 5) (Flaw09pt 10 5)] : List TEdge)) rfl (by kernel_rfl))) (.cons (.refl _) .nil)))) (.cons (AvE.refl _) (.cons (.one (cle_told true (told_lit (c := TPoint.c) (xs := ([Flaw09pt 5 2, Flaw09pt 5 3, Flaw09pt ((-2)) 0, Flaw09pt ((-2)) 1, Flaw09pt 14 2, Flaw09pt 17 5, Flaw09pt 10 5] : List TPoint)) rfl (by kernel_rfl)))) .nil)))) (.cons (oklaw09pt 3 4) (.cons (oklaw09pt 4 4) (.cons (oklaw09pt 0 2) (.cons (oklaw09pt 1 1) (.cons (oklaw09pt ((-1)) 1) (.cons (callOk_ce (okinsideL (TShape.mk 2 [TEdge.mk 2 (Flaw09pt 5 0) (Flaw09pt 0 5) (TPoint.mk 0 0), Flaw09line (Flaw09pt 0 5) (Flaw09pt 0 0), Flaw09line (Flaw09pt 0 0) (Flaw09pt 5 0)] 0) (({ data := #[49, 48, 49, 49, 48] } : ByteArray)) [Flaw09pt 3 4, Flaw09pt 4 4, Flaw09pt 0 2, Flaw09pt 1 1, Flaw09pt ((-1)) 1] au0 au0 au0) (.cons (.agg (.cons (.refl _) (.cons (cle_told true (told_lit (c := TEdge.c) (xs := ([TEdge.mk 2 (Flaw09pt 5 0) (Flaw09pt 0 5) (TPoint.mk 0 0), Flaw09line (Flaw09pt 0 5) (Flaw09pt 0 0), Flaw09line (Flaw09pt 0 0) (Flaw09pt 5 0)] : List TEdge)) rfl (by kernel_rfl))) (.cons (.refl _) .nil)))) (.cons (AvE.refl _) (.cons (.one (cle_told true (told_lit (c := TPoint.c) (xs := ([Flaw09pt 3 4, Flaw09pt 4 4, Flaw09pt 0 2, Flaw09pt 1 1, Flaw09pt ((-1)) 1] : List TPoint)) rfl (by kernel_rfl)))) .nil)))) .nil)))))))))))))) (by kernel_rfl) (by kernel_rfl) (.cons rfl (.cons rfl (.cons rfl (.cons rfl (.cons rfl (.cons rfl (.cons rfl (.cons rfl (.cons (fun _ => rfl) (.cons (fun _ => rfl) (.cons (fun _ => rfl) (.cons (fun _ => rfl) (.cons (fun _ => rfl) (.cons id (.cons id (.cons id (.cons id (.cons id (.cons id (.cons id (.cons (fun _ => rfl) (.cons id .nil)))))))))))))))))))))) <| ath_n <| aw_seq ?_
 refine aw_region eqok [] [] [(111, ceI [.agg [.i 1, .list true 7 2 wsanity9_1, .i 2], .agg [.i 1, .list true 7 2 wsanity9_1, .i 2]] (cSameS (TShape.mk 1 [wsanity9_0, TEdge.mk 2 (Flaw09pt 10 0) (Flaw09pt 15 5) (Flaw09pt 10 5)] 2) (TShape.mk 1 [wsanity9_0, TEdge.mk 2 (Flaw09pt 10 0) (Flaw09pt 15 5) (Flaw09pt 10 5)] 2))), (116, ceI [.agg [.i 1, .list true 7 2 wsanity9_1, .i 2], .agg [.i 2, .list true 7 3 wsanity9_2, .i 0]] (cSameS (TShape.mk 1 [wsanity9_0, TEdge.mk 2 (Flaw09pt 10 0) (Flaw09pt 15 5) (Flaw09pt 10 5)] 2) (TShape.mk 2 [TEdge.mk 2 (Flaw09pt 5 0) (Flaw09pt 0 5) (TPoint.mk 0 0), Flaw09line (Flaw09pt 0 5) (Flaw09pt 0 0), Flaw09line (Flaw09pt 0 0) (Flaw09pt 5 0)] 0)))] [0] [] [(wsanity9_6) = true → ((wsanity9_6) = true), (wsanity9_15) = true → ((wsanity9_15) = true), ((wsanity9_16) = true) → ((wsanity9_16) = true), ((wsanity9_16) = true) → ((wsanity9_16) = true), ((wsanity9_16) = true) → (Same (ceI [.agg [.i 1, .list true 7 2 wsanity9_1, .i 2], .agg [.i 1, .list true 7 2 wsanity9_1, .i 2]] (cSameS (TShape.mk 1 [wsanity9_0, TEdge.mk 2 (Flaw09pt 10 0) (Flaw09pt 15 5) (Flaw09pt 10 5)] 2) (TShape.mk 1 [wsanity9_0, TEdge.mk 2 (Flaw09pt 10 0) (Flaw09pt 15 5) (Flaw09pt 10 5)] 2))).2.1), (wsanity9_16) = true → ((wsanity9_16) = true), ((wsanity9_17) = true) → ((wsanity9_17) = true), ((wsanity9_17) = true) → ((wsanity9_17) = true), ((wsanity9_17) = true) → (Same (ceI [.agg [.i 1, .list true 7 2 wsanity9_1, .i 2], .agg [.i 2, .list true 7 3 wsanity9_2, .i 0]] (cSameS (TShape.mk 1 [wsanity9_0, TEdge.mk 2 (Flaw09pt 10 0) (Flaw09pt 15 5) (Flaw09pt 10 5)] 2) (TShape.mk 2 [TEdge.mk 2 (Flaw09pt 5 0) (Flaw09pt 0 5) (TPoint.mk 0 0), Flaw09line (Flaw09pt 0 5) (Flaw09pt 0 0), Flaw09line (Flaw09pt 0 0) (Flaw09pt 5 0)] 0))).2.1), ((wsanity9_17) = true) → ((wsanity9_17) = true), (wsanity9_17) = true → ((wsanity9_17) = true)] ⟨[(0, tB wsanity9_18)], []⟩ (.cons (callOk_ce (okSameS (TShape.mk 1 [wsanity9_0, TEdge.mk 2 (Flaw09pt 10 0) (Flaw09pt 15 5) (Flaw09pt 10 5)] 2) (TShape.mk 1 [wsanity9_0, TEdge.mk 2 (Flaw09pt 10 0) (Flaw09pt 15 5) (Flaw09pt 10 5)] 2) au0 au0) (.cons (.agg (.cons (.refl _) (.cons (cle_told true (told_lit (c := TEdge.c) (xs := ([wsanity9_0, TEdge.mk 2 (Flaw09pt 10 0) (Flaw09pt 15 5) (Flaw09pt 10 5)] : List TEdge)) rfl (by kernel_rfl))) (.cons (.refl _) .nil)))) (.cons (.agg (.cons (.refl _) (.cons (cle_told true (told_lit (c := TEdge.c) (xs := ([wsanity9_0, TEdge.mk 2 (Flaw09pt 10 0) (Flaw09pt 15 5) (Flaw09pt 10 5)] : List TEdge)) rfl (by kernel_rfl))) (.cons (.refl _) .nil)))) .nil))) (.cons (callOk_ce (okSameS (TShape.mk 1 [wsanity9_0, TEdge.mk 2 (Flaw09pt 10 0) (Flaw09pt 15 5) (Flaw09pt 10 5)] 2) (TShape.mk 2 [TEdge.mk 2 (Flaw09pt 5 0) (Flaw09pt 0 5) (TPoint.mk 0 0), Flaw09line (Flaw09pt 0 5) (Flaw09pt 0 0), Flaw09line (Flaw09pt 0 0) (Flaw09pt 5 0)] 0) au0 au0) (.cons (.agg (.cons (.refl _) (.cons (cle_told true (told_lit (c := TEdge.c) (xs := ([wsanity9_0, TEdge.mk 2 (Flaw09pt 10 0) (Flaw09pt 15 5) (Flaw09pt 10 5)] : List TEdge)) rfl (by kernel_rfl))) (.cons (.refl _) .nil)))) (.cons (.agg (.cons (.refl _) (.cons (cle_told true (told_lit (c := TEdge.c) (xs := ([TEdge.mk 2 (Flaw09pt 5 0) (Flaw09pt 0 5) (TPoint.mk 0 0), Flaw09line (Flaw09pt 0 5) (Flaw09pt 0 0), Flaw09line (Flaw09pt 0 0) (Flaw09pt 5 0)] : List TEdge)) rfl (by kernel_rfl))) (.cons (.refl _) .nil)))) .nil))) .nil)) (by kernel_rfl) (.cons id (.cons id (.cons id (.cons id (.cons (fun _ => rfl) (.cons id (.cons id (.cons id (.cons (fun _ => rfl) (.cons id (.cons id .nil))))))))))) <| ath_n <| aw_ret ?_
 exact ⟨_, Cv.refl _, .inl rfl, .av (.one (.b wsanity9_18)), by kernel_rfl, tve_eq (by rfl)⟩
theorem oksanity9  : CallOk Try.prog (csanity9 ).1 (csanity9 ).2.1 (csanity9 ).2.2 := callOk_pure (fun _ _ => by kernel_rfl) fun _ => psanity9
end Go.Proofs.Ytpnlegfdkkcnlaa
namespace Go.Proofs.Ytpnlegfdkkcnlaa
set_option maxRecDepth 100000
open Go.RowKit
set_option linter.unusedVariables false
set_option linter.unusedSimpArgs false
def wAt9_0 (l : (List Int)) : FuncId × List Av × Ef := (38, ([.one (.ptr 1000 0), .one (.i 100)] : List Av).map (renA 1000 12), wrI 12 (.cells [lst 1 (fun x => [.i x]) l, .i 0] 69) (tI ((FNext (TDraw.mk l 0) 100).1)) (.cells (TDraw.c ((FNext (TDraw.mk l 0) 100).2)) 69))
def wAt9_1 (l : (List Int)) : FuncId × List Av × Ef := (38, ([.one (.ptr 1000 0), .one (.i 5)] : List Av).map (renA 1000 12), wrI 12 (.cells (TDraw.c ((FNext (TDraw.mk l 0) 100).2)) 69) (tI ((FNext ((FNext (TDraw.mk l 0) 100).2) 5).1)) (.cells (TDraw.c ((FNext ((FNext (TDraw.mk l 0) 100).2) 5).2)) 69))
def wAt9_3 (s : TShape) (l : (List Int)) : TEdge := s.Edges.getD ((Int.tmod ((FNext (TDraw.mk l 0) 100).1) ((s.Edges.length : Int))).toNat) default
def wAt9_4 (s : TShape) (l : (List Int)) : TPoint := FAt06 (wAt9_3 s l) (l.drop (min ((l.length : Int)) 2 : Int).toNat)
def wAt9_5 (s : TShape) (l : (List Int)) : TPoint := Fref05Add (wAt9_4 s l) (TPoint.mk (W64 (Int.tdiv (W64 (3 * s.R)) 5)) (W64 (Int.tdiv (W64 (4 * s.R)) 5)))
def FAt9 (s : TShape) (l : (List Int)) : TPoint := bif decide ((((s.Edges.length : Int)) : Int) = 0) then (TPoint.mk 0 0) else (TPoint.mk (bif decide ((((FNext ((FNext (TDraw.mk l 0) 100).2) 5).1) : Int) = 1) then (W64 (((wAt9_4 s l).X) + s.R)) else (bif decide ((((FNext ((FNext (TDraw.mk l 0) 100).2) 5).1) : Int) = 2) then ((wAt9_4 s l).X) else (bif decide ((((FNext ((FNext (TDraw.mk l 0) 100).2) 5).1) : Int) = 3) then ((wAt9_5 s l).X) else ((wAt9_4 s l).X)))) (bif decide ((((FNext ((FNext (TDraw.mk l 0) 100).2) 5).1) : Int) = 1) then ((wAt9_4 s l).Y) else (bif decide ((((FNext ((FNext (TDraw.mk l 0) 100).2) 5).1) : Int) = 2) then (W64 (((wAt9_4 s l).Y) - s.R)) else (bif decide ((((FNext ((FNext (TDraw.mk l 0) 100).2) 5).1) : Int) = 3) then ((wAt9_5 s l).Y) else ((wAt9_4 s l).Y)))))
def cAt9 (s : TShape) (l : (List Int)) : FuncId × List Av × Ef := (13, [.agg (TShape.c s), .one (lst 1 (fun x => [.i x]) l)], .val [] (.av (.agg (TPoint.c (FAt9 s l)))))
theorem au11 {p : Prop} (h : p := by first | exact idx_tmod (next_b _ 100 (by decide) (by decide)).1 (by omega) | exact in_next _ _ _ (by decide) (by decide) (by decide) | decide | omega) : p := h
theorem pAt9 (s : TShape) (l : (List Int)) (hl : (l.length : Int) ≤ 9223372036854775807) (h0 : (s.Edges.length : Int) ≤ 1000000) : Pure Try.prog 13 (cAt9 s l).2.1 (.av (.agg (TPoint.c (FAt9 s l)))) := by
 refine pure_of_awF Try.func13 rfl (by kernel_rfl) (by kernel_rfl) fun W0 M0 => ?_
 have hd0 := draw_new hl
 refine aw_seq ?_
 refine aw_region eqok [] [] [] [1, 2, 4] [2, 4] [] ⟨[(1, .av (.one (lst 1 (fun x => [.i x]) l))), (2, tP 2 0), (4, tP 4 0)], [(2, .cells (TShape.c s) 26), (4, .cells [.i 0, .i 0] 29)]⟩ .nil (by kernel_rfl) .nil <| ath_n <| aw_seq ?_
 refine aw_region eqok [] [] [] [1, 2, 4, 5] [2, 4, 12] [] ⟨[(1, .av (.one (lst 1 (fun x => [.i x]) l))), (2, tP 2 0), (4, tP 4 0), (5, tP 12 0)], [(2, .cells (TShape.c s) 26), (4, .cells [.i 0, .i 0] 29), (12, .cells [lst 1 (fun x => [.i x]) l, .i 0] 69)]⟩ .nil (by kernel_rfl) .nil <| ath_n <| aw_seq ?_
 refine aw_region eqok [] [] [(14, (wAt9_0 l))] [1, 2, 4, 5, 6] [2, 4, 12] [Same ((wAt9_0 l)).2.1, SameB (.cells [lst 1 (fun x => [.i x]) l, .i 0] 69)] ⟨[(1, .av (.one (lst 1 (fun x => [.i x]) l))), (2, tP 2 0), (4, tP 4 0), (5, tP 12 0), (6, tI ((FNext (TDraw.mk l 0) 100).1))], [(2, .cells (TShape.c s) 26), (4, .cells [.i 0, .i 0] 29), (12, .cells (TDraw.c ((FNext (TDraw.mk l 0) 100).2)) 69)]⟩ (.cons (callOk_wr (fun _ _ => by kernel_rfl) (by kernel_rfl) (by kernel_rfl) (pNext (TDraw.mk l 0) 100 au3 au4)) .nil) (by kernel_rfl) (.cons rfl (.cons rfl .nil)) <| ath_n <| aw_seq ?_
 refine aw_region eqok [] [] [(16, (wAt9_1 l))] [1, 2, 4, 6, 7] [2, 4] [Same ((wAt9_1 l)).2.1, SameB (.cells (TDraw.c ((FNext (TDraw.mk l 0) 100).2)) 69)] ⟨[(1, .av (.one (lst 1 (fun x => [.i x]) l))), (2, tP 2 0), (4, tP 4 0), (6, tI ((FNext (TDraw.mk l 0) 100).1)), (7, tI ((FNext ((FNext (TDraw.mk l 0) 100).2) 5).1))], [(2, .cells (TShape.c s) 26), (4, .cells [.i 0, .i 0] 29)]⟩ (.cons (callOk_wr (fun _ _ => by kernel_rfl) (by kernel_rfl) (by kernel_rfl) (pNext ((FNext (TDraw.mk l 0) 100).2) 5 au3 au4)) .nil) (by kernel_rfl) (.cons rfl (.cons rfl .nil)) <| ath_n ?_
 refine aw_seq <| aw_seq ?_
 refine aw_region eqok [] [] [] [1, 2, 4, 6, 7, 20] [2, 4] [] ⟨[(1, .av (.one (lst 1 (fun x => [.i x]) l))), (2, tP 2 0), (4, tP 4 0), (6, tI ((FNext (TDraw.mk l 0) 100).1)), (7, tI ((FNext ((FNext (TDraw.mk l 0) 100).2) 5).1)), (20, tB (decide ((((s.Edges.length : Int)) : Int) = 0)))], [(2, .cells (TShape.c s) 26), (4, .cells [.i 0, .i 0] 29)]⟩ .nil (by kernel_rfl) .nil <| ath_n ?_
 refine aw_cond (decide ((((s.Edges.length : Int)) : Int) = 0)) (by kernel_rfl) (fun h1 => ?_) (fun h1 => ?_)
 ·have g1 := of_decide_eq_true h1
  refine aw_seq ?_
  refine aw_region eqok [] [] [] [4] [4] [] ⟨[(4, tP 4 0)], [(4, .cells [.i 0, .i 0] 29)]⟩ .nil (by kernel_rfl) .nil <| ath_n ?_
  refine aw_ret <| ath_r ?_
  exact ⟨_, Cv.refl _, .inl rfl, .av (.agg [.i 0, .i 0]), by kernel_rfl, tve_eq (by first | (simp only [FAt9, h1, cond_true, cond_false]; done) | (simp only [FAt9, h1, cond_true, cond_false]; rfl))⟩
 ·have g1 := of_decide_eq_false h1
  refine aw_skip <| ath_n <| aw_seq ?_
  refine aw_draw mixed eqok [] [] [(36, ceI [.agg (TEdge.c (wAt9_3 s l)), .one (.list false 1 ((((l.length : Nat) : Int) : Int).toNat - (min ((l.length : Int)) 2 : Int).toNat) (fun i j => (rowF (fun x => [.i x]) l) (i + (min ((l.length : Int)) 2 : Int).toNat) j))] (cAt06 (wAt9_3 s l) (l.drop (min ((l.length : Int)) 2 : Int).toNat)))] [2, 4, 7, 8] [2, 4, 8] [((s.Edges.length : Int) : Int) ≠ 0, 0 ≤ (Int.tmod ((FNext (TDraw.mk l 0) 100).1) ((s.Edges.length : Int)) : Int) ∧ (Int.tmod ((FNext (TDraw.mk l 0) 100).1) ((s.Edges.length : Int)) : Int) < ((s.Edges.length : Nat) : Int), 0 ≤ (min ((l.length : Int)) 2 : Int) ∧ (min ((l.length : Int)) 2 : Int) ≤ (((l.length : Nat) : Int) : Int) ∧ (((l.length : Nat) : Int) : Int) ≤ ((l.length : Nat) : Int), Same (ceI [.agg (TEdge.c (wAt9_3 s l)), .one (.list false 1 ((((l.length : Nat) : Int) : Int).toNat - (min ((l.length : Int)) 2 : Int).toNat) (fun i j => (rowF (fun x => [.i x]) l) (i + (min ((l.length : Int)) 2 : Int).toNat) j))] (cAt06 (wAt9_3 s l) (l.drop (min ((l.length : Int)) 2 : Int).toNat))).2.1] ⟨[(2, tP 2 0), (4, tP 4 0), (7, tI ((FNext ((FNext (TDraw.mk l 0) 100).2) 5).1)), (8, tP 8 0)], [(2, .cells (TShape.c s) 26), (4, .cells [.i 0, .i 0] 29), (8, .cells (TPoint.c (wAt9_4 s l)) 29)]⟩ (.cons (callOk_ce (okAt06 (wAt9_3 s l) (l.drop (min ((l.length : Int)) 2 : Int).toNat) (by first | assumption | (simp only [List.length_drop]; omega))) (.cons (AvE.refl _) (.cons (.one (cle_told false (told_drop (a := min ((l.length : Int)) 2) (told_rfl 1 (fun x => [.i x]) l) (by have hc := (show 0 ≤ (min ((l.length : Int)) 2 : Int) ∧ (min ((l.length : Int)) 2 : Int) ≤ (((l.length : Nat) : Int) : Int) ∧ (((l.length : Nat) : Int) : Int) ≤ ((l.length : Nat) : Int) from au11); exact hc.1) (by have hc := (show 0 ≤ (min ((l.length : Int)) 2 : Int) ∧ (min ((l.length : Int)) 2 : Int) ≤ (((l.length : Nat) : Int) : Int) ∧ (((l.length : Nat) : Int) : Int) ≤ ((l.length : Nat) : Int) from au11); exact hc.2.1)))) .nil))) .nil) (by kernel_rfl) (by kernel_rfl) (.cons (by omega) (.cons au11 (.cons au11 (.cons rfl .nil)))) <| ath_n <| aw_seq ?_
  refine aw_region eqok [] [] [] [4, 7, 8, 9] [4, 8] [] ⟨[(4, tP 4 0), (7, tI ((FNext ((FNext (TDraw.mk l 0) 100).2) 5).1)), (8, tP 8 0), (9, tI s.R)], [(4, .cells [.i 0, .i 0] 29), (8, .cells (TPoint.c (wAt9_4 s l)) 29)]⟩ .nil (by kernel_rfl) .nil <| ath_n ?_
  refine aw_seq <| aw_seq ?_
  refine aw_region eqok [] [] [] [4, 8, 9, 39] [4, 8] [] ⟨[(4, tP 4 0), (8, tP 8 0), (9, tI s.R), (39, tI ((FNext ((FNext (TDraw.mk l 0) 100).2) 5).1))], [(4, .cells [.i 0, .i 0] 29), (8, .cells (TPoint.c (wAt9_4 s l)) 29)]⟩ .nil (by kernel_rfl) .nil <| ath_n ?_
  refine aw_joinC (⟨[(4, tP 4 0), (8, tP 8 0)], [(4, .cells [.i 0, .i 0] 29), (8, .cells [.i (bif decide ((((FNext ((FNext (TDraw.mk l 0) 100).2) 5).1) : Int) = 1) then (W64 (((wAt9_4 s l).X) + s.R)) else (bif decide ((((FNext ((FNext (TDraw.mk l 0) 100).2) 5).1) : Int) = 2) then ((wAt9_4 s l).X) else (bif decide ((((FNext ((FNext (TDraw.mk l 0) 100).2) 5).1) : Int) = 3) then ((wAt9_5 s l).X) else ((wAt9_4 s l).X)))), .i (bif decide ((((FNext ((FNext (TDraw.mk l 0) 100).2) 5).1) : Int) = 1) then ((wAt9_4 s l).Y) else (bif decide ((((FNext ((FNext (TDraw.mk l 0) 100).2) 5).1) : Int) = 2) then (W64 (((wAt9_4 s l).Y) - s.R)) else (bif decide ((((FNext ((FNext (TDraw.mk l 0) 100).2) 5).1) : Int) = 3) then ((wAt9_5 s l).Y) else ((wAt9_4 s l).Y))))] 29)]⟩) ?_ ?_
  ·refine aw_block <| aw_seq ?_
   refine aw_region eqok [] [] [] [4, 8, 9, 39, 40] [4, 8] [] ⟨[(4, tP 4 0), (8, tP 8 0), (9, tI s.R), (39, tI ((FNext ((FNext (TDraw.mk l 0) 100).2) 5).1)), (40, tB (decide ((((FNext ((FNext (TDraw.mk l 0) 100).2) 5).1) : Int) = 1)))], [(4, .cells [.i 0, .i 0] 29), (8, .cells (TPoint.c (wAt9_4 s l)) 29)]⟩ .nil (by kernel_rfl) .nil <| ath_n ?_
   refine aw_cond (decide ((((FNext ((FNext (TDraw.mk l 0) 100).2) 5).1) : Int) = 1)) (by kernel_rfl) (fun h2 => ?_) (fun h2 => ?_)
   ·have g2 := of_decide_eq_true h2
    refine aw_region eqok [] [] [] [4, 8] [4, 8] [] ⟨[(4, tP 4 0), (8, tP 8 0)], [(4, .cells [.i 0, .i 0] 29), (8, .cells [.i (W64 (((wAt9_4 s l).X) + s.R)), .i ((wAt9_4 s l).Y)] 29)]⟩ .nil (by kernel_rfl) .nil <| abl_n <| ath_n ?_
    refine cv_eq ?_
    first | rfl | (simp only [h2, cond_true, cond_false]; done) | (simp only [h2, cond_true, cond_false]; rfl)
   ·have g2 := of_decide_eq_false h2
    refine aw_seq ?_
    refine aw_region eqok [] [] [] [4, 8, 9, 39, 47] [4, 8] [] ⟨[(4, tP 4 0), (8, tP 8 0), (9, tI s.R), (39, tI ((FNext ((FNext (TDraw.mk l 0) 100).2) 5).1)), (47, tB (decide ((((FNext ((FNext (TDraw.mk l 0) 100).2) 5).1) : Int) = 2)))], [(4, .cells [.i 0, .i 0] 29), (8, .cells (TPoint.c (wAt9_4 s l)) 29)]⟩ .nil (by kernel_rfl) .nil <| ath_n ?_
    refine aw_cond (decide ((((FNext ((FNext (TDraw.mk l 0) 100).2) 5).1) : Int) = 2)) (by kernel_rfl) (fun h3 => ?_) (fun h3 => ?_)
    ·have g3 := of_decide_eq_true h3
     refine aw_region eqok [] [] [] [4, 8] [4, 8] [] ⟨[(4, tP 4 0), (8, tP 8 0)], [(4, .cells [.i 0, .i 0] 29), (8, .cells [.i ((wAt9_4 s l).X), .i (W64 (((wAt9_4 s l).Y) - s.R))] 29)]⟩ .nil (by kernel_rfl) .nil <| abl_n <| ath_n ?_
     refine cv_eq ?_
     first | rfl | (simp only [h2, h3, cond_true, cond_false]; done) | (simp only [h2, h3, cond_true, cond_false]; rfl)
    ·have g3 := of_decide_eq_false h3
     refine aw_seq ?_
     refine aw_region eqok [] [] [] [4, 8, 9, 54] [4, 8] [] ⟨[(4, tP 4 0), (8, tP 8 0), (9, tI s.R), (54, tB (decide ((((FNext ((FNext (TDraw.mk l 0) 100).2) 5).1) : Int) = 3)))], [(4, .cells [.i 0, .i 0] 29), (8, .cells (TPoint.c (wAt9_4 s l)) 29)]⟩ .nil (by kernel_rfl) .nil <| ath_n ?_
     refine aw_cond (decide ((((FNext ((FNext (TDraw.mk l 0) 100).2) 5).1) : Int) = 3)) (by kernel_rfl) (fun h4 => ?_) (fun h4 => ?_)
     ·have g4 := of_decide_eq_true h4
      refine aw_region eqok [] [] [(64, cref05Add (wAt9_4 s l) (TPoint.mk (W64 (Int.tdiv (W64 (3 * s.R)) 5)) (W64 (Int.tdiv (W64 (4 * s.R)) 5))))] [4, 8] [4, 8] [(5 : Int) ≠ 0, (5 : Int) ≠ 0, Same (cref05Add (wAt9_4 s l) (TPoint.mk (W64 (Int.tdiv (W64 (3 * s.R)) 5)) (W64 (Int.tdiv (W64 (4 * s.R)) 5)))).2.1] ⟨[(4, tP 4 0), (8, tP 8 0)], [(4, .cells [.i 0, .i 0] 29), (8, .cells (TPoint.c (wAt9_5 s l)) 29)]⟩ (.cons (okref05Add (wAt9_4 s l) (TPoint.mk (W64 (Int.tdiv (W64 (3 * s.R)) 5)) (W64 (Int.tdiv (W64 (4 * s.R)) 5)))) .nil) (by kernel_rfl) (.cons (by omega) (.cons (by omega) (.cons rfl .nil))) <| abl_n <| ath_n ?_
      refine cv_eq ?_
      first | rfl | (simp only [h2, h3, h4, cond_true, cond_false]; done) | (simp only [h2, h3, h4, cond_true, cond_false]; rfl)
     ·have g4 := of_decide_eq_false h4
      refine aw_skip <| abl_n <| ath_n ?_
      refine Cv.trans (cv_keep [4, 8] [4, 8] (⟨[(4, tP 4 0), (8, tP 8 0)], [(4, .cells [.i 0, .i 0] 29), (8, .cells (TPoint.c (wAt9_4 s l)) 29)]⟩) (by kernel_rfl)) (cv_eq ?_)
      first | rfl | (simp only [h2, h3, h4, cond_true, cond_false]; done) | (simp only [h2, h3, h4, cond_true, cond_false]; rfl)
  refine aw_seq ?_
  refine aw_region eqok [] [] [] [4] [4] [] ⟨[(4, tP 4 0)], [(4, .cells [.i (bif decide ((((FNext ((FNext (TDraw.mk l 0) 100).2) 5).1) : Int) = 1) then (W64 (((wAt9_4 s l).X) + s.R)) else (bif decide ((((FNext ((FNext (TDraw.mk l 0) 100).2) 5).1) : Int) = 2) then ((wAt9_4 s l).X) else (bif decide ((((FNext ((FNext (TDraw.mk l 0) 100).2) 5).1) : Int) = 3) then ((wAt9_5 s l).X) else ((wAt9_4 s l).X)))), .i (bif decide ((((FNext ((FNext (TDraw.mk l 0) 100).2) 5).1) : Int) = 1) then ((wAt9_4 s l).Y) else (bif decide ((((FNext ((FNext (TDraw.mk l 0) 100).2) 5).1) : Int) = 2) then (W64 (((wAt9_4 s l).Y) - s.R)) else (bif decide ((((FNext ((FNext (TDraw.mk l 0) 100).2) 5).1) : Int) = 3) then ((wAt9_5 s l).Y) else ((wAt9_4 s l).Y))))] 29)]⟩ .nil (by kernel_rfl) .nil <| ath_n <| aw_ret ?_
  exact ⟨_, Cv.refl _, .inl rfl, .av (.agg [.i (bif decide ((((FNext ((FNext (TDraw.mk l 0) 100).2) 5).1) : Int) = 1) then (W64 (((wAt9_4 s l).X) + s.R)) else (bif decide ((((FNext ((FNext (TDraw.mk l 0) 100).2) 5).1) : Int) = 2) then ((wAt9_4 s l).X) else (bif decide ((((FNext ((FNext (TDraw.mk l 0) 100).2) 5).1) : Int) = 3) then ((wAt9_5 s l).X) else ((wAt9_4 s l).X)))), .i (bif decide ((((FNext ((FNext (TDraw.mk l 0) 100).2) 5).1) : Int) = 1) then ((wAt9_4 s l).Y) else (bif decide ((((FNext ((FNext (TDraw.mk l 0) 100).2) 5).1) : Int) = 2) then (W64 (((wAt9_4 s l).Y) - s.R)) else (bif decide ((((FNext ((FNext (TDraw.mk l 0) 100).2) 5).1) : Int) = 3) then ((wAt9_5 s l).Y) else ((wAt9_4 s l).Y))))]), by kernel_rfl, tve_eq (by first | (simp only [FAt9, h1, cond_true, cond_false]; done) | (simp only [FAt9, h1, cond_true, cond_false]; rfl))⟩
theorem okAt9 (s : TShape) (l : (List Int)) (hl : (l.length : Int) ≤ 9223372036854775807) (h0 : (s.Edges.length : Int) ≤ 1000000) : CallOk Try.prog (cAt9 s l).1 (cAt9 s l).2.1 (cAt9 s l).2.2 := callOk_pure (fun _ _ => by kernel_rfl) fun _ => pAt9 s l hl h0
end Go.Proofs.Ytpnlegfdkkcnlaa
