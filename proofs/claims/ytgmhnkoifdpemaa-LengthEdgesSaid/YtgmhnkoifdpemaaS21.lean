/-
  No statement is proved in this text. It holds the rule for a range over a function, where what the rounds keep is told.
-/
import Derived.RangeFuncNested
import Derived.ControlIn
import Derived.Test.YtgmhnkoifdpemaaS20
namespace Go.Proofs.Ytgmhnkoifdpemaa
open Go.RowKit
set_option linter.unusedSimpArgs false
set_option linter.unusedVariables false
/-- No map stands in it. -/
inductive NM : Cl → Prop
  | val (v : Value) : NM (.val v)
  | ptr (n off : Nat) : NM (.ptr n off)
  | own (n sz len : Nat) : NM (.own n sz len)
  | rptr (n sz i off : Nat) : NM (.rptr n sz i off)
  | om (n : Nat) : NM (.om n)
  | list (t : Bool) (sz len : Nat) (f : Nat → Nat → Cl) (h : ∀ i j, NM (f i j)) : NM (.list t sz len f)
  | eptr (sz len : Nat) (f : Nat → Nat → Cl) (i off : Nat) (h : ∀ i j, NM (f i j)) : NM (.eptr sz len f i off)
  | clo (g : FuncId) (k : Nat) (caps : Nat → Cl) (h : ∀ i, NM (caps i)) : NM (.clo g k caps)
section
variable {M M' : Nat → Option Obj}
theorem cellM_cells (h : ∀ b c t f, M b = some (.cells c t f) → M' b = some (.cells c t f)) {b o : Nat} {v : Value} (hv : cellM M b o = some v) : cellM M' b o = some v := by
  unfold cellM at *
  cases hb : M b with
  | none => rw [hb] at hv; cases hv
  | some x =>
    rw [hb] at hv
    cases x with
    | cells c t f => rw [h b c t f hb]; exact hv
    | _ => cases hv
theorem RC_cut (h : ∀ b c t f, M b = some (.cells c t f) → M' b = some (.cells c t f)) {c : Cl} {V : Value} (hr : RC M c V) : NM c → RC M' c V := by
  induction hr with
  | val v h0 => intro _; exact .val v h0
  | nil t sz f h0 => intro _; exact .nil t sz f h0
  | mt t sz f a cap => intro _; exact .mt t sz f a cap
  | list t sz len f b off cap g h1 h2 h4 ih =>
    intro hn
    cases hn with
    | list _ _ _ _ hf => exact .list t sz len f b off cap g (fun i j hi hj => cellM_cells h (h1 i j hi hj)) (fun i j hi hj => ih i j hi hj (hf i j)) h4
  | clo f k caps cs h1 h2 ih =>
    intro hn
    cases hn with
    | clo _ _ _ hf => exact .clo f k caps cs h1 fun i hi => ih i hi (hf i)
  | eptr sz len f i off b base g h1 h2 ih =>
    intro hn
    cases hn with
    | eptr _ _ _ _ _ hf => exact .eptr sz len f i off b base g (fun j hj => cellM_cells h (h1 j hj)) (fun j hj => ih j hj (hf i j))
  | mp => intro hn; cases hn
theorem R_cut (h : ∀ b c t f, M b = some (.cells c t f) → M' b = some (.cells c t f)) {σ : Nat → Loc} : ∀ {c : Cl} {V : Value}, R M σ c V → NM c → R M' σ c V
  | .val _, _, hr, _ => hr
  | .ptr .., _, hr, _ => hr
  | .own .., _, hr, _ => hr
  | .rptr .., _, hr, _ => hr
  | .list .., _, hr, hn => RC_cut h hr hn
  | .eptr .., _, hr, hn => RC_cut h hr hn
  | .mp .., _, _, hn => by cases hn
  | .om .., _, hr, _ => hr
  | .clo g k caps, _, hr, hn => by
    obtain ⟨cs, h1, h2, h3⟩ := hr
    cases hn with
    | clo _ _ _ hf => exact ⟨cs, h1, h2, fun i hi => R_cut h (h3 i hi) (hf i)⟩
def AvM (x : Av) : Prop := ∀ c ∈ x.cells, NM c
def TvM : Tv → Prop
  | .av x => AvM x
  | .tup l => ∀ x ∈ l, AvM x
  | .grd _ x => AvM x
def BkM : Blk → Prop
  | .cells l _ => ∀ c ∈ l, NM c
  | .row _ _ f _ => ∀ i j, NM (f i j)
  | .omap .. => False
def HsM (h : List (Nat × Blk)) : Prop := ∀ n b, get h n = some b → BkM b
def TsM (t : List (Nat × Tv)) : Prop := ∀ n b, get t n = some b → TvM b
theorem RA_cut (h : ∀ b c t f, M b = some (.cells c t f) → M' b = some (.cells c t f)) {σ : Nat → Loc} {x : Av} {V : Value} (hr : RA M σ x V) (hn : AvM x) : RA M' σ x V := by
  cases x with
  | one c => exact R_cut h hr (hn c (by simp [Av.cells]))
  | agg l =>
    obtain ⟨vs, h1, h2⟩ := hr
    exact ⟨vs, h1, h2.mono fun c hc b hb => R_cut h hb (hn c (by simpa [Av.cells] using hc))⟩
theorem RT_cut (h : ∀ b c t f, M b = some (.cells c t f) → M' b = some (.cells c t f)) {σ : Nat → Loc} {x : Tv} {V : Value} (hr : RT M σ x V) (hn : TvM x) : RT M' σ x V := by
  cases x with
  | av x => exact RA_cut h hr hn
  | tup l =>
    obtain ⟨vs, h1, h2⟩ := hr
    exact ⟨vs, h1, h2.mono fun c hc b hb => RA_cut h hb (hn c hc)⟩
  | grd g x => exact ⟨fun hg => RA_cut h (hr.1 hg) hn, hr.2⟩
theorem BlkOk_cut (h : ∀ b c t f, M b = some (.cells c t f) → M' b = some (.cells c t f)) {σ : Nat → Loc} {w : World} {x : Loc} {b : Blk} (hr : BlkOk M σ w x b) (hn : BkM b) : BlkOk M' σ w x b := by
  cases b with
  | cells l ty =>
    obtain ⟨h0, c, hc, hl⟩ := hr
    exact ⟨h0, c, hc, hl.mono fun a ha b hb => R_cut h hb (hn a ha)⟩
  | row sz len f ty =>
    rcases hr with hr | ⟨h0, c, hc, h1, h2, h3, g, hg⟩
    · exact .inl hr
    · exact .inr ⟨h0, c, hc, h1, h2, h3, g, fun i j hi hj => ⟨(hg i j hi hj).1, RC_cut h (hg i j hi hj).2 (hn i j)⟩⟩
  | omap agg nv len kf vf =>
    obtain ⟨h0, es, ck, g, hc, h1, h2, h3⟩ := hr
    exact hn.elim
end
theorem dv_no {d : Nat} : ∀ {c : Cl}, c.dv = true → c.no d = true
  | .val _, _ => rfl
  | .list .., _ => rfl
  | .eptr .., _ => rfl
  | .mp .., _ => rfl
  | .clo _ k caps, h => by
    simp only [Cl.dv, Cl.no, List.all_eq_true] at *
    exact fun i hi => dv_no (h i hi)
/-- A value that leads to no own block, or a pointer to one of some. -/
def pvT (ids : List Nat) : Tv → Bool
  | .av (.one (.ptr n _)) => memO ids n
  | .av x => x.dv
  | .tup l => l.all Av.dv
  | .grd _ x => x.dv
theorem av_dv_no {d : Nat} {x : Av} (h : x.dv = true) : x.no d = true := by
  cases x with
  | one c => exact dv_no h
  | agg l => simp only [Av.dv, Av.no, List.all_eq_true] at *; exact fun c hc => dv_no (h c hc)
theorem memO_mem : ∀ {l : List Nat} {n : Nat}, memO l n = true → n ∈ l
  | [], _, h => by cases h
  | k :: r, n, h => by
    simp only [memO] at h
    cases hk : Nat.beq k n with
    | true => have := Nat.eq_of_beq_eq_true hk; subst this; exact List.mem_cons_self ..
    | false => rw [hk] at h; exact List.mem_cons_of_mem _ (memO_mem h)
theorem pvT_no {ids : List Nat} {d : Nat} {v : Tv} (h : pvT ids v = true) (hd : v.no d = false) : d ∈ ids := by
  have key : ∀ x : Av, x.dv = true → x.no d = false → False := fun x h1 h2 => by rw [av_dv_no h1] at h2; cases h2
  cases v with
  | av x =>
    cases x with
    | one c =>
      cases c with
      | ptr n off =>
        have hn : n = d := by simp [Tv.no, Av.no, Cl.no] at hd; exact hd
        subst hn
        exact memO_mem h
      | _ => exact (key (.one _) h hd).elim
    | agg l => exact (key (.agg l) h hd).elim
  | tup l =>
    simp only [pvT, List.all_eq_true] at h
    simp only [Tv.no] at hd
    have : l.all (Av.no d) = true := by rw [List.all_eq_true]; exact fun x hx => av_dv_no (h x hx)
    rw [this] at hd; cases hd
  | grd g x => exact (key x h hd).elim
def setps (t : List (Nat × Tv)) : List Tmp → List Av → List (Nat × Tv)
  | p :: ps, e :: es => setps ((p, .av e) :: t) ps es
  | _, _ => t
theorem fold_ok {M : Nat → Option Obj} {σ : Nat → Loc} {N : Nat} : ∀ (ps : List Tmp) (es : List Av) (vs : List Value) (t : List (Nat × Tv)) (tm : Array Value), (∀ i v, get t i = some v → RT M σ v (tm.getD i undef)) → tm.size = N → L2 (RA M σ) es vs → ps.length = es.length → (∀ p ∈ ps, p < N) →
    ((ps.zip vs).foldl (fun t (x : Tmp × Value) => t.setIfInBounds x.1 x.2) tm).size = N ∧ ∀ i v, get (setps t ps es) i = some v → RT M σ v (((ps.zip vs).foldl (fun t (x : Tmp × Value) => t.setIfInBounds x.1 x.2) tm).getD i undef)
  | [], [], _, t, tm, h, hs, hl, _, _ => ⟨hs, h⟩
  | [], _ :: _, _, _, _, _, _, _, hn, _ => by simp at hn
  | _ :: _, [], _, _, _, _, _, _, hn, _ => by simp at hn
  | p :: ps, e :: es, vs, t, tm, h, hs, hl, hn, hp => by
    cases hl with
    | cons h1 h2 =>
      rename_i v vs
      refine fold_ok ps es vs ((p, .av e) :: t) (tm.setIfInBounds p v) (fun i u hu => ?_) (by simpa using hs) h2 (by simpa using hn) (fun q hq => hp q (List.mem_cons_of_mem _ hq))
      have hpN := hp p (List.mem_cons_self ..)
      simp only [get, beqN] at hu
      by_cases hi : p = i
      · subst hi
        simp at hu; subst hu
        have hpt : p < tm.size := by rw [hs]; exact hpN
        have : (tm.setIfInBounds p v).getD p undef = v := by simp [Array.getD_eq_getD_getElem?, hpt]
        rw [this]; exact h1
      · simp [hi] at hu
        have : (tm.setIfInBounds p v).getD i undef = tm.getD i undef := by simp [Array.getD_eq_getD_getElem?, Array.getElem?_setIfInBounds, hi]
        rw [this]; exact h i u hu
/-- What a round that goes on keeps: all cells but those of the caller's own blocks. -/
def KpS (Ow : Nat → Prop) (W W' : World) : Prop := W.heap.size ≤ W'.heap.size ∧ ∀ b (o : Obj), W.heap[b]? = some o → o.isCells = true → ¬ Ow b → W'.heap[b]? = some o
/-- What an iterator gives: n rounds, in order, of which E tells the values. -/
def IterOk (P : Program) (gf : FuncId) (k : Nat) (caps : Nat → Cl) (n : Nat) (E : Fin n → List Av) : Prop :=
  ∀ (M : Nat → Option Obj) (w : World) (cs : Array Value) (Ow : Nat → Prop), (∀ b o, M b = some o → w.heap[b]? = some o) → (∀ b, Ow b → b < w.heap.size ∧ M b = none) → cs.size = k → (∀ i, i < k → RC M (caps i) (cs.getD i undef)) →
    ∃ encs : Fin n → Array Value, (∀ x, L2 (fun e v => ∀ σ, RA M σ e v) (E x) (encs x).toList) ∧
      SeqStopsK (FW none) 1 P gf cs encs (KpS Ow) (fun xs => xs.map Fin.val = List.range n) (fun pre => ∃ j, j < n ∧ pre.map Fin.val = List.range (j + 1)) n w
section
variable {P : Program} {N : Nat} {W0 W W' : World} {X : Nat → Option Loc} {M0 M : Nat → Option Obj} {σ : Nat → Loc} {T : Nat → Option Tv} {H : Nat → Option Blk} {a : Act}
def Blk.isM : Blk → Bool
  | .omap .. => true
  | _ => false
theorem sim_grown (hs : Sim N W0 X M0 M σ T H a W) (hH : ∀ n b, H n = some b → b.isM = false) {row : Option Nat} (hg : W.grownBy W' row) (hr : ∀ r, row = some r → W0.heap.size ≤ r ∧ (∃ o : Obj, W.heap[r]? = some o ∧ o.isCells = false) ∧ M r = none) : Sim N W0 X M0 M σ T H a W' := by
  have hsame : ∀ b (o : Obj), W.heap[b]? = some o → (o.isCells = true ∨ M b = some o ∨ b < W0.heap.size) → W'.heap[b]? = some o := fun b o hb hc => by
    refine (hg.block b (Array.getElem?_eq_some_iff.1 hb).1 fun e => ?_).trans hb
    obtain ⟨h1, ⟨o', h2, h3⟩, h4⟩ := hr b e.symm
    rw [hb] at h2; injection h2 with h2; subst h2
    rcases hc with h | h | h
    · rw [h3] at h; cases h
    · rw [h4] at h; cases h
    · omega
  refine ⟨hg.os.trans hs.os, hg.tape.trans hs.tape, hg.output.trans hs.output, Nat.le_trans hs.size hg.size, fun b hb hx => ?_, hs.sub, hs.new, hs.pin, hs.defers, hs.room, hs.tmps, fun b o h => hsame b o (hs.imm b o h) (.inr (.inl h)), fun n b h => ?_, hs.loc, hs.inj⟩
  · have h1 := hs.old b hb hx
    have h2 : W0.heap[b]? = some W0.heap[b] := Array.getElem?_eq_getElem hb
    rw [h2] at h1 ⊢
    exact hsame b _ h1 (.inr (.inr hb))
  · refine (hs.blk n b h).mono (fun _ _ h => h) (fun _ _ => rfl) fun hn => ?_
    have hb := hs.blk n b h
    cases b with
    | cells l ty => obtain ⟨_, c, hc, _⟩ := hb; rw [hc]; exact hsame _ _ hc (.inl rfl)
    | row sz len f ty =>
      rcases hb with ⟨h0, _⟩ | ⟨_, c, hc, _⟩
      · rw [hn] at h0; cases h0
      · rw [hc]; exact hsame _ _ hc (.inl rfl)
    | omap => have := hH n _ h; cases this
end
end Go.Proofs.Ytgmhnkoifdpemaa
