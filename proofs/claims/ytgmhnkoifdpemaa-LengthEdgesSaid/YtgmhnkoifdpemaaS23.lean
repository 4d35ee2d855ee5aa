/-
  No statement is proved in this text. It holds the rule for a range over a function.
-/
import Derived.Test.YtgmhnkoifdpemaaS22
namespace Go.Proofs.Ytgmhnkoifdpemaa
open Go.RowKit
set_option linter.unusedSimpArgs false
set_option linter.unusedVariables false
/-- What a round for the item x leaves. -/
def RPost (Q : Exit → AS → Prop) (t0 : List (Nat × Tv)) (h0 : List (Nat × Blk)) (Fm : Nat → Prop) (x : Nat) : Exit → AS → Prop
  | .normal, s' => (∀ n b, get h0 n = some b → get s'.h n = some b) ∧ (Fm x → Fm (x + 1))
  | .ret, s' => HsM s'.h ∧ (Fm x → Q .ret ⟨t0, s'.h⟩)
  | .exit id, s' => HsM s'.h ∧ (Fm x → Q (.exit id) ⟨t0, s'.h⟩)
  | _, _ => False
def QC (Q : Exit → AS → Prop) : Code → AS → Prop
  | .ret, s => Q .ret s
  | .exit id, s => Q (.exit id) s
  | _, _ => False
def Blk.isC : Blk → Bool
  | .cells .. => true
  | _ => false
theorem isC_isM {b : Blk} (h : b.isC = true) : b.isM = false := by cases b <;> first | rfl | cases h
theorem bkM_isM {b : Blk} (h : BkM b) : b.isM = false := by cases b <;> first | rfl | exact h.elim
theorem range_app {pre : List Nat} {x : Nat} (h : pre ++ [x] = List.range (pre.length + 1)) : pre = List.range pre.length ∧ x = pre.length := by
  rw [List.range_succ] at h
  have := List.append_inj h (by simp)
  exact ⟨this.1, by simpa using this.2⟩
def putM (D : Nat) (M : Nat → Option Obj) (b : Nat) : Option Obj := bif Nat.beq b D then some (.deferred (some [])) else M b
theorem defs_of {M0 M : Nat → Option Obj} : ∀ {l : List Deferred} {d : Deferred}, DefsOk M0 M l → d ∈ l → ∃ D, d = { target := .collected D, args := #[] } ∧ M D = some (.deferred (some []))
  | d0 :: l, d, h, hd => by
    rcases List.mem_cons.1 hd with rfl | hd
    · obtain ⟨⟨D, h1, h2, _⟩, _⟩ := h
      exact ⟨D, h1, h2⟩
    · exact defs_of h.2 hd
theorem sim_mark {N : Nat} {W0 W : World} {XA X : Nat → Option Loc} {M0 M : Nat → Option Obj} {σ : Nat → Loc} {T : Nat → Option Tv} {H : Nat → Option Blk} {a : Act} {D : Nat} (hs : Sim N W0 XA M0 M σ T H a W)
    (hD : W.heap[D]? = some (.deferred (some []))) (hD0 : M0 D = none) (hDl : W0.heap.size ≤ D) (hne : ∀ d' ∈ a.defers, d' ≠ { target := .collected D, args := #[] }) (hpin : ∀ m x, X m = some x → N ≤ m ∧ σ m = x) (hXA : ∀ b, inX XA b → W0.heap.size ≤ b ∨ inX X b) (hnf : ¬ Flat X) :
    Sim N W0 X M0 (putM D M) σ T H { a with defers := { target := .collected D, args := #[] } :: a.defers } W := by
  have hM : ∀ b o, M b = some o → putM D M b = some o := fun b o h => by
    unfold putM
    cases hb : Nat.beq b D with
    | true =>
      have := Nat.eq_of_beq_eq_true hb
      subst this
      have h2 := hs.imm b o h
      rw [hD] at h2
      exact h2
    | false => exact h
  have hput : putM D M D = some (.deferred (some [])) := by unfold putM; rw [Nat.beq_refl]; rfl
  have hoth : ∀ b, b ≠ D → putM D M b = M b := fun b h => by unfold putM; rw [show Nat.beq b D = false by rw [beqN]; simp [h]]; rfl
  refine ⟨hs.os, hs.tape, hs.output, hs.size, fun b hb hx => hs.old b hb fun h => ?_, fun b o h => hM b o (hs.sub b o h), fun b o h h' => ?_, hpin, ⟨⟨⟨D, rfl, hput, hD0, hne⟩, DefsOk.mono hM hs.defers.1⟩, fun h => absurd h hnf⟩, hs.room, fun i v h => RT_mono hM (fun _ _ => rfl) (hs.tmps i v h), fun b o h => ?_, fun n b h => (hs.blk n b h).mono hM (fun _ _ => rfl) (fun _ => rfl), fun n b h => ?_, hs.inj⟩
  · rcases hXA b h with h | h
    · omega
    · exact hx h
  · by_cases e : b = D
    · subst e; exact hDl
    · rw [hoth b e] at h; exact hs.new b o h h'
  · by_cases e : b = D
    · subst e; rw [hput] at h; injection h with h; subst h; exact hD
    · rw [hoth b e] at h; exact hs.imm b o h
  · by_cases hn : (σ n).nil = true
    · exact .inl hn
    · rcases hs.loc n b h with h1 | ⟨h1, h2⟩
      · exact .inl h1
      · refine .inr ⟨?_, ?_⟩
        · rw [hoth _ fun e => ?_]
          · exact h1
          · have h3 := hs.blk n b h
            cases b with
            | cells l ty => obtain ⟨_, c, hc, _⟩ := h3; rw [e, hD] at hc; cases hc
            | row sz len f ty =>
              rcases h3 with ⟨h4, _⟩ | ⟨_, c, hc, _⟩
              · exact hn h4
              · rw [e, hD] at hc; cases hc
            | omap => obtain ⟨_, es, ck, g, hc, _⟩ := h3; rw [e, hD] at hc; cases hc
        · rcases h2 with h2 | h2
          · exact .inl h2
          · exact hXA _ h2
section
variable {P : Program} {N : Nat} {W0 : World} {X : Nat → Option Loc} {M0 : Nat → Option Obj}
theorem aw_range {Q : Exit → AS → Prop} {g : Operand} {ps : Array Tmp} {assign body : Code} {t0 : List (Nat × Tv)} {h0 : List (Nat × Blk)} (pids : List Nat) (fid q : Nat) {gf : FuncId} {k : Nat} {caps : Nat → Cl} {n : Nat} {E : Fin n → List Av} (S1 : Fin n → AS) (Fm : Nat → Prop)
    (hnf : ¬ Flat X) (hXf : X fid = none) (hXp : ∀ m x, X m = some x → memO pids m = true)
    (hg : evT (get t0) g = some (.av (.one (.clo gf k caps)))) (hcd : (Cl.clo gf k caps).dv = true) (eg : ∀ args w, (callFunc gf args).run P w = .ok (.enter gf args) w)
    (It : IterOk P gf k caps n E) (hE : ∀ x, (E x).length = ps.size) (hps : ∀ p ∈ ps.toList, p < N)
    (hpv : ∀ i v, get t0 i = some v → pvT pids v = true ∧ v.no fid = true) (hh : ∀ m b, get h0 m = some b → memO pids m = true ∧ b.isC = true ∧ b.no fid = true ∧ m ≠ fid) (hpc : ∀ m, memO pids m = true → ∃ b, get h0 m = some b) (hfp : memO pids fid = false) (hfN : N ≤ fid) (hpN : ∀ m ∈ pids, N ≤ m)
    (hmem : ∀ m ∈ pids, memO pids m = true) (hq : memO pids q = true) (hEf : ∀ x i v, get (setps t0 ps.toList (E x)) i = some v → v.no fid = true)
    (hm : HsM h0) (hS1 : ∀ x, TsM (S1 x).t ∧ HsM (S1 x).h ∧ (∀ m b, get h0 m = some b → get (S1 x).h m = some b) ∧ (∀ m b, get (S1 x).h m = some b → memO pids m = true ∧ b.isC = true))
    (hF : Fm 0)
    (hassign : ∀ l W1 M1 X1 x, PX pids X1 → AWp P (some l) N W1 X1 M1 assign (fun e s' => e = .normal ∧ s' = S1 x) ⟨setps t0 ps.toList (E x), h0⟩)
    (hbody : ∀ l W1 M1 X1 x, PX pids X1 → AWp P (some l) N W1 X1 M1 body (RPost Q t0 h0 Fm x.val) (S1 x))
    (hdone : Fm n → Q .normal ⟨t0, h0⟩) : AWp P none N W0 X M0 (.rangeFunc g ps assign body) Q ⟨t0, h0⟩ := by
  intro M σ a w hs
  have hcell : ∀ m, memO pids m = true → (σ m).nil = false := fun m hm' => by
    obtain ⟨b, hb⟩ := hpc m hm'
    have h1 := hs.blk m b hb
    have h2 := (hh m b hb).2.1
    cases b with
    | cells l ty => exact h1.1
    | row => cases h2
    | omap => cases h2
  -- the iterator's value
  have hgv := evT_ok hs.tmps hg
  obtain ⟨cs, hgv1, hgv2, hgv3⟩ := hgv
  have hcaps : ∀ i, i < k → RC M (caps i) (cs.getD i undef) := fun i hi => (R_dv (List.all_eq_true.1 hcd i (List.mem_range.2 hi))).1 (hgv3 i hi)
  obtain ⟨encs, henc, hseq⟩ := It M w cs (fun b => ∃ m, memO pids m = true ∧ (σ m).b = b) hs.imm (fun b ⟨m, hmm, hb⟩ => by
    obtain ⟨bk, hbk⟩ := hpc m hmm
    have h1 := (hs.blk m bk hbk).lt (hcell m hmm)
    rcases hs.loc m bk hbk with h | ⟨h, _⟩
    · rw [hcell m hmm] at h; cases h
    · rw [hb] at h h1; exact ⟨h1, h⟩) hgv2 hcaps
  have hsz : ∀ x, (encs x).size = ps.size := fun x => by
    have := (henc x).length
    rw [hE x] at this
    simpa using this.symm
  -- names
  have hXP : ∀ m x, pinX pids σ X m = some x → m ≠ fid ∧ N ≤ m ∧ σ m = x := fun m x hx => by
    unfold pinX at hx
    cases hmm : memO pids m with
    | true => rw [hmm] at hx; injection hx with hx; exact ⟨fun e => (by subst e; rw [hfp] at hmm; cases hmm), hpN m (memO_mem hmm), hx⟩
    | false => rw [hmm] at hx; rw [hXp m x hx] at hmm; cases hmm
  have hXPm : ∀ m x, pinX pids σ X m = some x → memO pids m = true := fun m x hx => by
    unfold pinX at hx
    cases hmm : memO pids m with
    | true => rfl
    | false => rw [hmm] at hx; rw [hXp m x hx] at hmm; cases hmm
  have hPp : ∀ m, memO pids m = true → pinX pids σ X m = some (σ m) := fun m h => by unfold pinX; rw [h]; rfl
  have hflat : Flat (flatX fid ⟨(σ q).b, 424242, true⟩ (pinX pids σ X)) := ⟨fid, _, by unfold flatX; rw [Nat.beq_refl]; rfl, rfl, rfl⟩
  have hFP : ∀ b, inX (pinX pids σ X) b ↔ inX (flatX fid ⟨(σ q).b, 424242, true⟩ (pinX pids σ X)) b := fun b => by
    constructor
    · rintro ⟨m, x, h1, h2⟩
      refine ⟨m, x, ?_, h2⟩
      unfold flatX
      rw [show Nat.beq m fid = false by rw [beqN]; simp [(hXP m x h1).1]]
      exact h1
    · exact flatX_inX (fl := ⟨(σ q).b, 424242, true⟩) (hPp q hq) rfl
  have hinO : ∀ b, inX (flatX fid ⟨(σ q).b, 424242, true⟩ (pinX pids σ X)) b → ∃ m, memO pids m = true ∧ (σ m).b = b := fun b hb => by
    obtain ⟨m, x, h1, h2⟩ := (hFP b).2 hb
    have hmm := hXPm m x h1
    rw [hPp m hmm] at h1; injection h1 with h1; subst h1
    exact ⟨m, hmm, h2⟩
  have hPX : ∀ b, inX (pinX pids σ X) b → W0.heap.size ≤ b ∨ inX X b := fun b ⟨m, x, h1, h2⟩ => by
    have hmm := hXPm m x h1
    rw [hPp m hmm] at h1; injection h1 with h1; subst h1
    obtain ⟨b', hb'⟩ := hpc m hmm
    rcases hs.loc m b' hb' with h | ⟨_, h⟩
    · rw [hcell m hmm] at h; cases h
    · rw [h2] at h; exact h
  have hflatP : ∀ M4, (∀ b o, M b = some o → M4 b = some o) → DefsX (pinX pids σ X) M0 M4 a.defers := fun M4 h4 => ⟨DefsOk.mono h4 hs.defers.1, fun ⟨m, x, h1, h2, _⟩ => by
    have hmm := hXPm m x h1
    rw [hPp m hmm] at h1; injection h1 with h1; subst h1
    rw [hcell m hmm] at h2; cases h2⟩
  have hT0 : ∀ (M4 : Nat → Option Obj) (σ4 : Nat → Loc), (∀ b o, M b = some o → M4 b = some o) → (∀ m, memO pids m = true → σ4 m = σ m) → ∀ i v, get t0 i = some v → RT M4 σ4 v (a.tmps.getD i undef) := fun M4 σ4 h4 hσ i v hv =>
    RT_mono h4 (fun d hd => hσ d (hmem d (pvT_no (hpv i v hv).1 hd))) (hs.tmps i v hv)
  have hs0 : Sim N W0 (pinX pids σ X) M0 M σ (get t0) (get h0) a w := ⟨hs.os, hs.tape, hs.output, hs.size, fun b hb hx => hs.old b hb fun ⟨m, x, h1, h2⟩ => hx ⟨m, σ m, hPp m (hXp m x h1), by rw [(hs.pin m x h1).2]; exact h2⟩, hs.sub, hs.new, fun m x hx => ⟨(hXP m x hx).2.1, (hXP m x hx).2.2⟩, hflatP M (fun _ _ h => h), hs.room, hs.tmps, hs.imm, hs.blk, fun m b hb => .inr ⟨by
      rcases hs.loc m b hb with h | h
      · rw [hcell m (hh m b hb).1] at h; cases h
      · exact h.1, .inr ⟨m, σ m, hPp m (hh m b hb).1, rfl⟩⟩, hs.inj⟩
  have hlt : ∀ b o, M b = some o → b < w.heap.size := fun b o h => (Array.getElem?_eq_some_iff.1 (hs.imm b o h)).1
  have hCgrow : ∀ {X' : Nat → Option Loc} {M1 : Nat → Option Obj} {σ1 : Nat → Loc} {T : Nat → Option Tv} {H : Nat → Option Blk} {b : Act} {A B : World} {row : Option Nat}, Sim N W0 X' M0 M1 σ1 T H b A → (∀ n b, H n = some b → b.isM = false) → Cln M M1 → A.grownBy B row → (∀ r, row = some r → w.heap.size ≤ r ∧ ∃ o : Obj, A.heap[r]? = some o ∧ o.isCells = false) → Sim N W0 X' M0 M1 σ1 T H b B := by
    intro X' M1 σ1 T H b A B row h1 hH h2 h3 h4
    refine sim_grown h1 hH h3 fun r e => ?_
    exact by
      obtain ⟨h5, o, h6, h7⟩ := h4 r e
      refine ⟨Nat.le_trans hs.size h5, ⟨o, h6, h7⟩, ?_⟩
      cases hM1 : M1 r with
      | none => rfl
      | some o' =>
        have h8 := h1.imm r o' hM1
        rw [h6] at h8; injection h8 with h8; subst h8
        have := hlt r _ (h2.2 r _ hM1 h7)
        omega
  -- what holds between two rounds, and within one
  obtain ⟨XP, hXPd⟩ : ∃ XP, pinX pids σ X = XP := ⟨_, rfl⟩
  obtain ⟨XF, hXFd⟩ : ∃ XF, flatX fid ⟨(σ q).b, 424242, true⟩ (pinX pids σ X) = XF := ⟨_, rfl⟩
  let SI : World → Prop := fun W => ∃ M' σ', Sim N W0 (pinX pids σ X) M0 M' σ' (get t0) (get h0) a W ∧ Cln M M'
  let Ax : Fin n → Act → World → Prop := fun x a' W => ∃ M' σ', Sim N W0 (flatX fid ⟨(σ q).b, 424242, true⟩ (pinX pids σ X)) M0 M' σ' (get (S1 x).t) (get (S1 x).h) a' W ∧ Cln M M'
  have hcells : ∀ {X' : Nat → Option Loc} {M1 : Nat → Option Obj} {σ1 : Nat → Loc} {T : Nat → Option Tv} {H : Nat → Option Blk} {b : Act} {A : World}, Sim N W0 X' M0 M1 σ1 T H b A → ∀ m x, H m = some x → x.isC = true → ∃ o : Obj, A.heap[(σ1 m).b]? = some o ∧ o.isCells = true := fun h1 m x hx hc => by
    have h2 := h1.blk m x hx
    cases x with
    | cells l ty => obtain ⟨_, c, h3, _⟩ := h2; exact ⟨_, h3, rfl⟩
    | row => cases hc
    | omap => cases hc
  have hσP : ∀ {X' : Nat → Option Loc} {M1 : Nat → Option Obj} {σ1 : Nat → Loc} {T : Nat → Option Tv} {H : Nat → Option Blk} {b : Act} {A W1 : World} {Mb : Nat → Option Obj}, Sim N W1 X' Mb M1 σ1 T H b A → (∀ m, memO pids m = true → X' m = some (σ m)) → ∀ m, memO pids m = true → σ1 m = σ m := fun h1 h2 m hmm => (h1.pin m _ (h2 m hmm)).2
  have hFpin : ∀ m, memO pids m = true → flatX fid ⟨(σ q).b, 424242, true⟩ (pinX pids σ X) m = some (σ m) := fun m hmm => by
    unfold flatX
    rw [show Nat.beq m fid = false by rw [beqN]; simp; intro e; subst e; rw [hfp] at hmm; cases hmm]
    exact hPp m hmm
  have hPXF : PX pids (flatX fid ⟨(σ q).b, 424242, true⟩ (pinX pids σ X)) := fun m y hy => by
    by_cases hm2 : m = fid
    · subst hm2
      unfold flatX at hy
      rw [Nat.beq_refl] at hy
      injection hy with hy; subst hy
      exact ⟨q, hq, σ q, hFpin q hq, rfl⟩
    · unfold flatX at hy
      rw [show Nat.beq m fid = false by rw [beqN]; simp [hm2]] at hy
      have hmm := hXPm m y hy
      exact ⟨m, hmm, y, by unfold flatX; rw [show Nat.beq m fid = false by rw [beqN]; simp [hm2]]; exact hy, rfl⟩
  refine wpIn_wide.2 ((wpIn_wide (n := 2)).1 ?_)
  refine wpIn_rangeFunc_ownH (F := FW none) (n := 2) rfl (by decide) hgv1 trivial eg hseq (fun h1 h2 => ⟨Nat.le_trans h1.1 h2.1, fun b o hb hc ho => h2.2 b o (h1.2 b o hb hc ho) hc ho⟩) (fun W l o o' hl ho hoc hw => ⟨by simp, fun b o2 hb hb2 _ => ?_⟩) (Below.refl _ _) hsz
    (fun pre W => SI W ∧ (pre.map Fin.val = List.range pre.length → Fm pre.length))
    (fun c pre W => ∃ hx, (∃ M' σ', Sim N W0 (pinX pids σ X) M0 M' σ' (get t0) (get hx) a W ∧ Cln M M') ∧ (∀ j, pre.map Fin.val = List.range (j + 1) → QC Q c ⟨t0, hx⟩) ∧ ∀ n b, get hx n = some b → b.isM = false)
    ?hI ?hIx ⟨⟨M, σ, hs0, fun _ _ h => h, fun _ _ h _ => h⟩, fun _ => hF⟩ Ax ?hAx ?assign ?body ?done ?stop
  · rw [World.putObj_heap_other (fun e => by subst e; rw [ho] at hb; injection hb with hb; subst hb; rw [hoc] at hb2; cases hb2)]
    exact hb
  case hI =>
    rintro pre A B row ⟨⟨M', σ', h1, h2⟩, h3⟩ hg' hr
    exact ⟨⟨M', σ', hCgrow h1 (fun m b hb => isC_isM (hh m b hb).2.1) h2 hg' hr, h2⟩, h3⟩
  case hIx =>
    rintro c pre A B row ⟨hx, ⟨M', σ', h1, h2⟩, h3, hnm⟩ hg' hr
    exact ⟨hx, ⟨M', σ', hCgrow h1 hnm h2 hg' hr, h2⟩, h3, hnm⟩
  case hAx =>
    rintro x a' _ A B row ⟨M', σ', h1, h2⟩ hg' hr
    exact ⟨M', σ', hCgrow h1 (fun m b hb => isC_isM ((hS1 x).2.2.2 m b hb).2) h2 hg' hr, h2⟩
  case assign =>
    rintro l pre x W K ⟨⟨M', σ', h1, h2⟩, h3⟩ hK
    have hσ' := hσP h1 hPp
    obtain ⟨hfs, hft⟩ := fold_ok ps.toList (E x) (encs x).toList t0 a.tmps (hT0 M' σ' h2.1 hσ') hs.room ((henc x).mono fun e _ v hv => RA_mono h2.1 (fun _ _ => rfl) (hv σ')) (by simpa using (hE x).symm) hps
    have efold : (ps.zip (encs x)).foldl (fun t (p, v) => t.setIfInBounds p v) a.tmps = (ps.toList.zip (encs x).toList).foldl (fun t (y : Tmp × Value) => t.setIfInBounds y.1 y.2) a.tmps := by
      rw [← Array.foldl_toList, Array.toList_zip]
    rw [efold]
    have hin := sim_into (fid := fid) (fl := ⟨(σ q).b, 424242, true⟩) (T' := get (setps t0 ps.toList (E x))) h1 (a2 := { tmps := _, defers := [] }) rfl hfs hfN hfp hft (hEf x) (fun m b hb => ⟨(hh m b hb).2.2.2, (hh m b hb).2.2.1, memO_mem (hh m b hb).1⟩) hXf hmem
    refine wpIn_mono (hassign l W M' _ x hPXF M' _ _ W hin) ?_
    rintro e a' W' ⟨s', M3, σ3, ⟨rfl, rfl⟩, hr⟩
    have hC := cutM_cln h2 hr.sub
    have hσ3 := hσP hr hFpin
    refine hK a' W' ⟨hr.size, fun b o hb ho hoc => ?_⟩ ⟨hr.size, fun b o hb hb2 ho => (hr.old b (Array.getElem?_eq_some_iff.1 hb).1 (fun hX => ho (hinO b hX))).trans hb⟩ ⟨⟨_, σ3, sim_out (T2 := get t0) (H2 := get h0) (a2 := a) h1 hr (fun b hb => .inl ((hFP b).2 hb)) (hS1 x).2.2.1 (fun m b hb => hm m b hb) hs.room (hT0 _ σ3 hC.1 hσ3) (fun m y hy => ?_) (fun b => Iff.rfl) (hflatP _ hC.1), hC⟩, h3⟩ ⟨_, σ3, sim_out (T2 := get (S1 x).t) (H2 := get (S1 x).h) (a2 := a') h1 hr (fun b hb => .inl ((hFP b).2 hb)) (fun _ _ h => h) (hS1 x).2.1 hr.room (fun i v hv => RT_cut (cutM_cells hr.sub) (hr.tmps i v hv) ((hS1 x).1 i v hv)) (fun m y hy => hr.pin m y hy) hFP ⟨by rw [hr.defers.2 hflat]; trivial, fun _ => hr.defers.2 hflat⟩, hC⟩
    · have hblt := (Array.getElem?_eq_some_iff.1 ho).1
      refine (hr.old b hblt fun hX => ?_).trans ho
      obtain ⟨m, y, hy, hb2⟩ := (hFP b).2 hX
      have hmm := hXPm m y hy
      rw [hPp m hmm] at hy; injection hy with hy; subst hy
      obtain ⟨bb, hbb⟩ := hpc m hmm
      obtain ⟨o2, h4, h5⟩ := hcells h1 m bb hbb (hh m bb hbb).2.1
      rw [hσ' m hmm, hb2, ho] at h4; injection h4 with h4; subst h4
      rw [hoc] at h5; cases h5
    · have hmm := hXPm m y hy
      refine ⟨(hXP m y hy).2.1, (hσ3 m hmm).trans (hXP m y hy).2.2⟩
  case body =>
    rintro l pre x a' W hl hrec ⟨_, hFm⟩ ⟨M', σ', h1, h2⟩ hlen
    have hd : a'.defers = [] := h1.defers.2 hflat
    have hb1 := sim_base (p1 := pids) h1 hd hpN (fun m b hb => ((hS1 x).2.2.2 m b hb).1)
    have hσ' := hσP h1 hFpin
    have hXB : ∀ b, inX (pinX pids σ' (flatX fid ⟨(σ q).b, 424242, true⟩ (pinX pids σ X))) b → (inX (flatX fid ⟨(σ q).b, 424242, true⟩ (pinX pids σ X)) b ∨ W0.heap.size ≤ b) ∧ ∃ o : Obj, W.heap[b]? = some o ∧ o.isCells = true := by
      rintro b ⟨m, y, hy, hyb⟩
      unfold pinX at hy
      cases hmm : memO pids m with
      | true =>
        rw [hmm] at hy; injection hy with hy; subst hy
        obtain ⟨bb, hbb0⟩ := hpc m hmm
        have hbb := (hS1 x).2.2.1 m bb hbb0
        have hc := hcells h1 m bb hbb ((hS1 x).2.2.2 m bb hbb).2
        rw [hyb] at hc
        refine ⟨?_, hc⟩
        have hnil : (σ' m).nil = false := by
          have h5 := h1.blk m bb hbb
          have h6 := ((hS1 x).2.2.2 m bb hbb).2
          cases bb with
          | cells l ty => exact h5.1
          | row => cases h6
          | omap => cases h6
        rcases h1.loc m bb hbb with h | ⟨_, h⟩
        · rw [hnil] at h; cases h
        · rw [hyb] at h; exact h.symm
      | false =>
        rw [hmm] at hy
        have hin : inX (flatX fid ⟨(σ q).b, 424242, true⟩ (pinX pids σ X)) b := ⟨m, y, hy, hyb⟩
        refine ⟨.inl hin, ?_⟩
        obtain ⟨m2, y2, hy2, hb2⟩ := (hFP b).2 hin
        have hmm2 := hXPm m2 y2 hy2
        rw [hPp m2 hmm2] at hy2; injection hy2 with hy2; subst hy2
        obtain ⟨bb, hbb⟩ := hpc m2 hmm2
        have hc := hcells h1 m2 bb ((hS1 x).2.2.1 m2 bb hbb) (hh m2 bb hbb).2.1
        rw [hσ' m2 hmm2, hb2] at hc
        exact hc
    refine wpIn_mono (hbody l W M' _ x (fun m y hy => by
      unfold pinX at hy
      cases hmm : memO pids m with
      | true => rw [hmm] at hy; injection hy with hy; subst hy; exact ⟨m, hmm, σ' m, by unfold pinX; rw [hmm]; rfl, rfl⟩
      | false =>
        rw [hmm] at hy
        obtain ⟨q2, hq2, y2, hy2, he2⟩ := hPXF m y hy
        refine ⟨q2, hq2, σ' q2, by unfold pinX; rw [hq2]; rfl, ?_⟩
        rw [hFpin q2 hq2] at hy2; injection hy2 with hy2; subst hy2
        rw [hσ' q2 hq2]; exact he2) M' _ _ W hb1) ?_
    rintro e a2 W' ⟨s', M3, σ3, hpost, hr⟩
    have hC := cutM_cln h2 hr.sub
    have hXBp : ∀ m, memO pids m = true → pinX pids σ' (flatX fid ⟨(σ q).b, 424242, true⟩ (pinX pids σ X)) m = some (σ m) := fun m hmm => by
      unfold pinX
      cases hm1 : memO pids m with
      | true => rw [← hσ' m hmm]; rfl
      | false => exact hFpin m hmm
    have hσ3 := hσP hr hXBp
    have hkeep : KeepsFrom w.heap.size W W' := ⟨hr.size, fun b o hb ho hoc => by
      refine (hr.old b (Array.getElem?_eq_some_iff.1 ho).1 fun hX => ?_).trans ho
      obtain ⟨_, o2, h4, h5⟩ := hXB b hX
      rw [ho] at h4; injection h4 with h4; subst h4
      rw [hoc] at h5; cases h5⟩
    have hKp : KpS (fun b => ∃ m, memO pids m = true ∧ (σ m).b = b) W W' := ⟨hr.size, fun b o hb hb2 ho => (hr.old b (Array.getElem?_eq_some_iff.1 hb).1 (fun ⟨m, y, hy, hyb⟩ => by
      unfold pinX at hy
      cases hmm : memO pids m with
      | true => rw [hmm] at hy; injection hy with hy; subst hy; exact ho ⟨m, hmm, by rw [← hσ' m hmm]; exact hyb⟩
      | false => rw [hmm] at hy; exact ho (hinO b ⟨m, y, hy, hyb⟩))).trans hb⟩
    have hsim : ∀ hx : List (Nat × Blk), (∀ m b, get hx m = some b → get s'.h m = some b) → HsM hx → ∃ M' σ', Sim N W0 (pinX pids σ X) M0 M' σ' (get t0) (get hx) a W' ∧ Cln M M' := fun hx hx1 hx2 =>
      ⟨_, σ3, sim_out (T2 := get t0) (H2 := get hx) (a2 := a) h1 hr (fun b hb => (hXB b hb).1) hx1 (fun m b hb => hx2 m b hb) hs.room (hT0 _ σ3 hC.1 hσ3) (fun m y hy => ⟨(hXP m y hy).2.1, (hσ3 m (hXPm m y hy)).trans (hXP m y hy).2.2⟩) (fun b => (hFP b).symm) (hflatP _ hC.1), hC⟩
    have hok : ∀ j, (pre ++ [x]).map Fin.val = List.range (j + 1) → Fm x.val := fun j hj => by
      rw [List.map_append] at hj
      have hjl : j = (pre.map Fin.val).length := by
        have := congrArg List.length hj
        simp at this
        simp; omega
      subst hjl
      obtain ⟨h4, h5⟩ := range_app hj
      have h6 : x.val = pre.length := by simpa using h5
      rw [h6]
      exact hFm (by simpa using h4)
    cases e with
    | normal =>
      refine ⟨hkeep, hKp, hsim h0 hpost.1 hm, fun hj => ?_⟩
      have hj' : (pre ++ [x]).map Fin.val = List.range (pre.length + 1) := by simpa using hj
      have h7 := hpost.2 (hok _ hj')
      have h8 : x.val = pre.length := by
        rw [List.map_append] at hj'
        have : pre.length = (pre.map Fin.val).length := by simp
        rw [this] at hj'
        have := (range_app hj').2
        simpa using this
      rw [h8] at h7
      simpa using h7
    | ret => exact ⟨hkeep, s'.h, hsim s'.h (fun _ _ h => h) hpost.1, fun j hj => hpost.2 (hok j hj), fun m b hb => bkM_isM (hpost.1 m b hb)⟩
    | exit id => exact ⟨hkeep, s'.h, hsim s'.h (fun _ _ h => h) hpost.1, fun j hj => hpost.2 (hok j hj), fun m b hb => bkM_isM (hpost.1 m b hb)⟩
    | goto l => exact hpost.elim
    | panic => exact hpost
    | outgrown => exact hpost
  all_goals
    have hmark : ∀ (D : Nat) (W : World) (M' : Nat → Option Obj) (σ' : Nat → Loc) (hx : List (Nat × Blk)), w.heap.size ≤ D → W.heap[D]? = some (.deferred (some [])) → Sim N W0 (pinX pids σ X) M0 M' σ' (get t0) (get hx) a W → Sim N W0 X M0 (putM D M') σ' (get t0) (get hx) { a with defers := { target := .collected D, args := #[] } :: a.defers } W := fun D W M' σ' hx hD hK h1 =>
      sim_mark h1 hK (by
        cases h0D : M0 D with
        | none => rfl
        | some o => have := hlt D o (hs.sub D o h0D); omega) (Nat.le_trans hs.size hD) (fun d' hd' e => by
        obtain ⟨D', h3, h4⟩ := defs_of hs.defers.1 hd'
        rw [h3] at e
        injection e with e1 _
        injection e1 with e1
        subst e1
        have := hlt _ _ h4
        omega) (fun m x hx => ⟨(hs.pin m x hx).1, (hσP h1 hPp m (hXp m x hx)).trans (hs.pin m x hx).2⟩) hPX hnf
  case done =>
    rintro D xs W hD hS ⟨⟨M', σ', h1, h2⟩, hFm⟩ hK
    have hlen : xs.length = n := by
      have := congrArg List.length hS
      simpa using this
    exact ⟨⟨t0, h0⟩, _, σ', hdone (by have := hFm (by rw [hlen]; exact hS); rwa [hlen] at this), hmark D W M' σ' h0 hD hK h1⟩
  case stop =>
    rintro D c pre W hD ⟨j, hj, hpre⟩ ⟨hx, ⟨M', σ', h1, h2⟩, h3⟩ hK
    have hq2 := h3.1 j hpre
    cases c with
    | ret => exact wpIn_ret ⟨⟨t0, hx⟩, _, σ', hq2, hmark D W M' σ' hx hD hK h1⟩
    | exit id => exact wpIn_exit ⟨⟨t0, hx⟩, _, σ', hq2, hmark D W M' σ' hx hD hK h1⟩
    | _ => exact hq2.elim
end
end Go.Proofs.Ytgmhnkoifdpemaa
