/-
  No statement is proved in this text. It shows that the model does what the effects say: values, loads, stores.
-/
import Derived.Test.YtgmhnkoifdpemaaS2
namespace Go.Proofs.Ytgmhnkoifdpemaa
open Go.RowKit

section
variable {P : Program} {M : Nat → Option Obj} {σ : Nat → Loc} {w : World} {h : Nat → Option Blk}

theorem Keep.refl (hi : ∀ b o, M b = some o → w.heap[b]? = some o) (ex : Nat → Prop) : Keep w w M M ex := ⟨rfl, rfl, rfl, Nat.le_refl _, fun _ _ _ => rfl, fun _ _ h => h, fun _ _ h h' => by (rw [h] at h'; cases h'), hi⟩

/-- What an operation does: a value; nothing; a call. -/
def Does (P : Program) (o : Oper) (a : Act) (w : World) (G : Value → World → Prop) : Prop :=
  (∃ V w', (execOp a.eval o).run P w = .ok (.value V) w' ∧ G V w') ∨ (∃ w', (execOp a.eval o).run P w = .ok .skip w' ∧ G undef w') ∨
  (∃ f args, (execOp a.eval o).run P w = .ok (.enter f args) w ∧ Calls P f args w (fun en w' => ∃ V, en = .returned V ∧ G V w'))
/-- The widest fence, in a round of a loop over an iterator or in none. -/
def FW (rd : Option Nat) : Fence := { Fence.wide with round := rd }
theorem FW_none : FW none = Fence.wide := rfl
theorem Does.wp {rd : Option Nat} {o : Oper} {a : Act} {G : Value → World → Prop} (hd : Does P o a w G) {K : Act → World → Prop} {Q : Exit → Act → World → Prop} (hK : ∀ V w', G V w' → K (a.put o.dst V) w') (hnd : ∀ c, o.op ≠ .defer c) : o.wpIn (FW rd) 0 P a w K Q := by
  refine ⟨fun _ _ => trivial, ?_⟩
  rw [Oper.semAt_eq _ _ _ hnd]
  rcases hd with ⟨V, w', hr, hg⟩ | ⟨w', hr, hg⟩ | ⟨f, args, hr, hc⟩ <;> rw [hr]
  · exact hK _ _ hg
  · exact hK _ _ hg
  · refine ⟨fun h => (by cases h), ?_⟩
    have h1 : CallsIn (FW rd) (0 - 1) P f args w (fun en w' => ∃ V, en = .returned V ∧ G V w') := callsIn_wide.2 hc
    refine h1.mono ?_
    rintro e w' ⟨V, rfl, hg⟩
    exact hK _ _ hg
theorem Does.mono {o : Oper} {a : Act} {G G' : Value → World → Prop} (hd : Does P o a w G) (hG : ∀ V w', G V w' → G' V w') : Does P o a w G' := by
  rcases hd with ⟨V, w', hr, hg⟩ | ⟨w', hr, hg⟩ | ⟨f, args, hr, hc⟩
  · exact .inl ⟨V, w', hr, hG _ _ hg⟩
  · exact .inr (.inl ⟨w', hr, hG _ _ hg⟩)
  · exact .inr (.inr ⟨f, args, hr, hc.mono fun e w' ⟨V, he, hg⟩ => ⟨V, he, hG _ _ hg⟩⟩)
/-- The outcome that an effect promises. -/
def Good (P : Program) (M : Nat → Option Obj) (σ : Nat → Loc) (o : Oper) (a : Act) (w : World) (g : Eg) : Prop := Does P o a w fun V w' => ∃ M' σ', Outg M σ w o.dst V w' M' σ' g
theorem good_val {o : Oper} {a : Act} {v : Tv} {V : Value} (hi : ∀ b o, M b = some o → w.heap[b]? = some o) (hr : (execOp a.eval o).run P w = .ok (.value V) w) (hv : RT M σ v V) : Good P M σ o a w (.val v) :=
  .inl ⟨V, w, hr, M, σ, Keep.refl hi _, rfl, hv⟩
theorem res_val {cs cs' : List Prop} {v : Tv} {g : Eg} (hr : res h (.val cs v) = some (cs', g)) : cs' = cs ∧ g = .val v := by
  simp only [res, Option.some.injEq, Prod.mk.injEq] at hr; exact ⟨hr.1.symm, hr.2.symm⟩

/-! ### Cells -/
theorem cellM_world (hi : ∀ b o, M b = some o → w.heap[b]? = some o) {b o : Nat} {v : Value} (hc : cellM M b o = some v) : w.cell? ⟨b, o, none⟩ = some v := by
  unfold cellM at hc
  split at hc
  · rename_i c e f hm
    simp only [World.cell?, hi _ _ hm]
    exact hc
  · cases hc
theorem R_one {c : Cl} {V : Value} (hc : R M σ c V) : V.oneCell' = true := by
  cases c <;> simp only [R] at hc
  · obtain ⟨rfl, h1⟩ := hc; exact h1
  · subst hc; rfl
  · split at hc
    · rw [hc.2]; rfl
    · subst hc; rfl
  · subst hc; rfl
  · cases hc <;> rfl
  · cases hc <;> rfl
  · obtain ⟨cs, rfl, _⟩ := hc; rfl
  · cases hc; rfl
  · subst hc; rfl
theorem cells_one {V : Value} (h1 : V.oneCell' = true) : V.cells = #[V] := by cases V <;> first | rfl | cases h1
theorem RA_cells {x : Av} {V : Value} (hx : RA M σ x V) : L2 (R M σ) x.cells V.cells.toList := by
  cases x with
  | one c => rw [cells_one (R_one hx)]; exact .cons hx .nil
  | agg l => obtain ⟨vs, rfl, hl⟩ := hx; simpa [Value.cells, Av.cells] using hl
theorem one_of_L2 {l : List Cl} {vs : List Value} (hl : L2 (R M σ) l vs) : ∀ v ∈ vs, v.oneCell' = true := by
  induction hl with
  | nil => intro v hv; cases hv
  | cons h1 _ ih => intro v hv; cases hv with
    | head => exact R_one h1
    | tail _ hm => exact ih _ hm

/-- A variable is loaded whose cells are known. -/
theorem run_loadVar {T : TypeId} {t : TI} (ht : ti P T = some t) {b off : Nat} {l : List Cl} {vs : List Value} {v : Av} (hl : L2 (R M σ) l vs) (n : Nat) (hw : ∀ (j : Nat) u, n ≤ j → j < n + t.size ∨ (t.agg = false ∧ j = n) → vs[j]? = some u → w.cell? ⟨b, off + j, none⟩ = some u) (hv : partC t l n = some v) :
    ∃ V, (loadVar T ⟨b, off + n, none⟩).run P w = .ok V w ∧ RA M σ v V := by
  obtain ⟨h1, h2, _, _, _⟩ := run_ti ht w
  unfold partC at hv
  simp only [loadVar, Sem.run_bind, h2, Result.andThen_ok]
  cases ha : t.agg with
  | true =>
    simp only [ha, cond_true] at hv
    cases hb : Nat.ble (n + t.size) l.length with
    | false => rw [hb] at hv; cases hv
    | true =>
      rw [hb] at hv
      simp only [cond_true, Option.some.injEq] at hv
      subst hv
      have hle : n + t.size ≤ l.length := Nat.le_of_ble_eq_true hb
      have hlen := hl.length
      have hcs := run_loadCells_list (P := P) (w := w) (a := ⟨b, off + n, none⟩) (cs := (vs.drop n).take t.size) (by
        intro j u hj
        rw [List.getElem?_take] at hj
        split at hj
        · rename_i hjt
          rw [List.getElem?_drop] at hj
          have := hw (n + j) u (by omega) (.inl (by omega)) hj
          rw [Addr.add_lit, show off + n + j = off + (n + j) by omega]; exact this
        · cases hj)
      have hsz : ((vs.drop n).take t.size).length = t.size := by simp; omega
      rw [hsz] at hcs
      simp only [if_true, Sem.run_bind, h1, Result.andThen_ok, hcs, Sem.run_pure]
      exact ⟨_, rfl, _, rfl, (hl.drop n).take t.size⟩
  | false =>
    simp only [ha, cond_false] at hv
    cases hg : l[n]? with
    | none => rw [hg] at hv; cases hv
    | some c =>
      rw [hg] at hv
      simp only [Option.map_some, Option.some.injEq] at hv
      subst hv
      obtain ⟨u, hu, hR⟩ := hl.get n c hg
      have := hw n u (by omega) (.inr ⟨ha, rfl⟩) hu
      simp only [Bool.false_eq_true, if_false, run_load, this]
      exact ⟨u, rfl, hR⟩
theorem length_cellsF (f : Nat → Nat → Cl) (i : Nat) : ∀ n off, (cellsF f i off n).length = n
  | 0, _ => rfl
  | n + 1, off => by simp [cellsF, length_cellsF f i n]
theorem get_cellsF (f : Nat → Nat → Cl) (i : Nat) : ∀ (n off j : Nat), j < n → (cellsF f i off n)[j]? = some (f i (off + j))
  | 0, _, _, h => absurd h (by omega)
  | n + 1, off, 0, _ => rfl
  | n + 1, off, j + 1, h => by
    simp only [cellsF, List.getElem?_cons_succ]
    rw [get_cellsF f i n (off + 1) j (by omega), show off + 1 + j = off + (j + 1) by omega]
theorem RC_R {c : Cl} {V : Value} (hc : RC M c V) : R M σ c V := by
  induction hc with
  | val v h1 => exact ⟨rfl, h1⟩
  | nil t sz f h0 => exact .nil t sz f h0
  | mt t sz f a cap => exact .mt t sz f a cap
  | clo f k caps cs h1 _ ih => exact ⟨cs, rfl, h1, ih⟩
  | list t sz len f b off cap g h1 h2 h4 _ => exact .list t sz len f b off cap g h1 h2 h4
  | eptr sz len f i off b base g h1 h2 _ => exact .eptr sz len f i off b base g h1 h2
  | mp agg nv len kf vf b es clock g h0 h1 h2 h3 _ => exact .mp agg nv len kf vf b es clock g h0 h1 h2 h3

theorem load_ok {T : TypeId} {p : Operand} {o : Oper} {a : Act} {x : Tv} {e : Ef} {cs : List Prop} {g : Eg} (ho : o.op = .load T p) (hx : RT M σ x (a.eval p)) (he : effLoad P T x = some e) (hs : Std M σ w h) (hr : res h e = some (cs, g)) (hc : AllP cs) : Good P M σ o a w g := by
  unfold effLoad at he
  cases ht : ti P T with
  | none => rw [ht] at he; cases he
  | some t =>
    rw [ht] at he
    simp only at he
    split at he
    · rename_i n off
      injection he with he
      subst he
      simp only [res, geth] at hr
      cases hn : h n with
      | none => rw [hn] at hr; cases hr
      | some blk =>
        rw [hn] at hr
        simp only at hr
        cases blk with
        | row => cases hr
        | omap => cases hr
        | cells l ty =>
          simp only at hr
          cases hp : partC t l off with
          | none => rw [hp] at hr; cases hr
          | some v =>
            rw [hp] at hr
            simp only [Option.map_some, Option.some.injEq, Prod.mk.injEq] at hr
            obtain ⟨rfl, rfl⟩ := hr
            obtain ⟨hnil, c, hblk, hl⟩ := hs.blk n _ hn
            obtain ⟨V, hV, hRV⟩ := run_loadVar (w := w) ht (b := (σ n).b) (off := 0) hl off (fun j u _ _ hj => by simp only [World.cell?, hblk]; simpa using hj) hp
            have hx' : a.eval p = .pointer (some ⟨(σ n).b, off, none⟩) := hx
            refine good_val hs.imm (V := V) ?_ hRV
            rw [Nat.zero_add] at hV
            simp only [execOp, ho, hx', Instr.loadAt, Instr.sureAddr, Sem.run_bind, Sem.run_pure, Result.andThen_ok, hV]
    · rename_i n sz i off
      injection he with he
      subst he
      simp only [res, geth] at hr
      cases hn : h n with
      | none => rw [hn] at hr; cases hr
      | some blk =>
        rw [hn] at hr
        simp only at hr
        cases blk with
        | cells => cases hr
        | omap => cases hr
        | row sz' len f ty =>
          simp only at hr
          cases hb : (Nat.beq sz' sz && Nat.ble (off + t.size) sz) with
          | false => rw [hb] at hr; cases hr
          | true =>
            rw [hb] at hr
            simp only [cond_true] at hr
            simp only [Bool.and_eq_true] at hb
            obtain ⟨hb1, hb2⟩ := hb
            have := Nat.eq_of_beq_eq_true hb1
            subst this
            have hle := Nat.le_of_ble_eq_true hb2
            cases hp : partC t (cellsF f i 0 sz') off with
            | none => rw [hp] at hr; cases hr
            | some v =>
              rw [hp] at hr
              simp only [Option.map_some, Option.some.injEq, Prod.mk.injEq] at hr
              obtain ⟨rfl, rfl⟩ := hr
              have hi := hc.head
              rcases hs.blk n _ hn with ⟨_, h0⟩ | ⟨hnil, c, hblk, hsz, hcap, _, gv, hg⟩
              · omega
              have hl : L2 (R M σ) (cellsF f i 0 sz') ((List.range sz').map (gv i)) := by
                refine L2.of (by simp [length_cellsF]) fun j x y hx hy => ?_
                have hj : j < sz' := by have := (List.getElem?_eq_some_iff.1 hx).1; rwa [length_cellsF] at this
                rw [get_cellsF _ _ _ _ _ hj] at hx
                simp [hj] at hx hy
                subst hx; subst hy
                exact RC_R (hg i j hi hj).2
              obtain ⟨V, hV, hRV⟩ := run_loadVar (w := w) ht (b := (σ n).b) (off := i * sz') hl off (fun j u _ _ hj => by
                have hjs : j < sz' := by have := (List.getElem?_eq_some_iff.1 hj).1; simpa using this
                simp [hjs] at hj
                subst hj
                simp only [World.cell?, hblk]
                exact (hg i j hi hjs).1) hp
              have hx' : a.eval p = .pointer (some ⟨(σ n).b, i * sz' + off, none⟩) := hx
              refine good_val hs.imm (V := V) ?_ hRV
              simp only [execOp, ho, hx', Instr.loadAt, Instr.sureAddr, Sem.run_bind, Sem.run_pure, Result.andThen_ok, hV]
    · rename_i sz len f i off
      cases hp : partC t (cellsF f i 0 sz) off with
      | none => rw [hp] at he; cases he
      | some v =>
        rw [hp] at he
        simp only [Option.map_some, Option.some.injEq] at he
        subst he
        obtain ⟨rfl, rfl⟩ := res_val hr
        have hx' : RC M (.eptr sz len f i off) (a.eval p) := hx
        generalize hV0 : a.eval p = V0 at hx'
        cases hx' with
        | eptr _ _ _ _ _ b base gv h1 h2 =>
          have hl : L2 (R M σ) (cellsF f i 0 sz) ((List.range sz).map gv) := by
            refine L2.of (by simp [length_cellsF]) fun j x y hx hy => ?_
            have hj : j < sz := by have := (List.getElem?_eq_some_iff.1 hx).1; rwa [length_cellsF] at this
            rw [get_cellsF _ _ _ _ _ hj] at hx
            simp [hj] at hx hy
            subst hx; subst hy
            exact RC_R (h2 j hj)
          obtain ⟨V, hV, hRV⟩ := run_loadVar (w := w) ht (b := b) (off := base) hl off (fun j u _ _ hj => by
            have hjs : j < sz := by have := (List.getElem?_eq_some_iff.1 hj).1; simpa using this
            simp [hjs] at hj
            subst hj
            exact cellM_world hs.imm (h1 j hjs)) hp
          refine good_val hs.imm (V := V) ?_ hRV
          simp only [execOp, ho, hV0, Instr.loadAt, Instr.sureAddr, Sem.run_bind, Sem.run_pure, Result.andThen_ok, hV]
    · cases he

/-! ### Stores -/
def setV : List Value → Nat → List Value → List Value
  | l, _, [] => l
  | l, off, v :: vs => setV (l.set off v) (off + 1) vs
theorem L2_set {l : List Cl} {vs : List Value} : ∀ {m : List Cl} {us : List Value} (off : Nat), L2 (R M σ) m us → L2 (R M σ) l vs → L2 (R M σ) (setL l off m) (setV vs off us) := by
  intro m us off hm
  induction hm generalizing l vs off with
  | nil => exact fun h => h
  | cons h1 _ ih => exact fun h => ih _ (h.set off h1)
theorem length_setV : ∀ (us l : List Value) (off : Nat), (setV l off us).length = l.length
  | [], _, _ => rfl
  | u :: us, l, off => by simp [setV, length_setV us]
theorem get_setV : ∀ (us l : List Value) (off j : Nat), off + us.length ≤ l.length → (setV l off us)[j]? = if off ≤ j ∧ j < off + us.length then us[j - off]? else l[j]?
  | [], l, off, j, _ => by simp [setV]; intro h1 h2; omega
  | u :: us, l, off, j, hle => by
    simp only [setV, List.length_cons] at *
    rw [get_setV us (l.set off u) (off + 1) j (by simp; omega)]
    by_cases h1 : off + 1 ≤ j ∧ j < off + 1 + us.length
    · rw [if_pos h1, if_pos (by omega)]
      rw [show j - off = (j - (off + 1)) + 1 by omega, List.getElem?_cons_succ]
    · rw [if_neg h1]
      by_cases h2 : j = off
      · subst h2
        rw [if_pos (by omega)]
        simp [show j < l.length by omega]
      · rw [if_neg (by omega), List.getElem?_set_ne (by omega)]
/-- Values stored one behind the other into one block. -/
theorem run_storeCellsL {b : Nat} {ty : TypeId} : ∀ (us c : List Value) (off : Nat) (w : World), w.heap[b]? = some (.cells c.toArray ty) → off + us.length ≤ c.length → (∀ v ∈ us, v.oneCell' = true) → ∀ i a0, a0 + i = off →
    ∃ w', (storeCells ⟨b, a0, none⟩ us i).run P w = .ok () w' ∧ w'.heap[b]? = some (.cells (setV c off us).toArray ty) ∧ w'.heap.size = w.heap.size ∧ w'.os = w.os ∧ w'.tape = w.tape ∧ w'.output = w.output ∧ ∀ k, k ≠ b → w'.heap[k]? = w.heap[k]?
  | [], c, off, w, hb, _, _, i, a0, _ => ⟨w, rfl, by simpa [setV] using hb, rfl, rfl, rfl, rfl, fun _ _ => rfl⟩
  | u :: us, c, off, w, hb, hle, h1, i, a0, hoff => by
    subst hoff
    simp only [List.length_cons] at hle
    have hcell : w.cell? ⟨b, a0 + i, none⟩ = some c[a0 + i] := by simp [World.cell?, hb, show a0 + i < c.length by omega]
    have hfr : w.frozen? ⟨b, a0 + i, none⟩ = false := by simp [World.frozen?, hb]
    have hset : (w.setCell ⟨b, a0 + i, none⟩ u).heap[b]? = some (.cells (c.set (a0 + i) u).toArray ty) := by
      simp [World.setCell, Array.getElem?_modify, hb]
    obtain ⟨w', h2, h3, h4, h5, h6, h7, h8⟩ := run_storeCellsL us (c.set (a0 + i) u) (a0 + i + 1) _ hset (by simp; omega) (fun v hv => h1 v (by simp [hv])) (i + 1) a0 (by omega)
    refine ⟨w', ?_, h3, by rw [h4]; simp, h5, h6, h7, fun k hk => by rw [h8 k hk]; exact Below.heap_setCell _ _ _ _ hk⟩
    simp only [storeCells, Sem.run_bind, Addr.add_lit]
    rw [run_store P w _ u .plain (h1 u (by simp)), hcell]
    simp only [hfr, Bool.false_eq_true, if_false, Result.andThen_ok]
    exact h2
theorem RC_of_dv {c : Cl} {V : Value} (hd : c.dv = true) (hc : R M σ c V) : RC M c V := (R_dv hd).1 hc
theorem store_ok {T : TypeId} {p q : Operand} {o : Oper} {a : Act} {x : Tv} {v : Av} {e : Ef} {cs : List Prop} {g : Eg} (ho : o.op = .store T p q) (hx : RT M σ x (a.eval p)) (hv : RA M σ v (a.eval q)) (he : effStore P T x v = some e) (hs : Std M σ w h) (hr : res h e = some (cs, g)) (hc : AllP cs) : Good P M σ o a w g := by
  unfold effStore at he
  cases ht : ti P T with
  | none => rw [ht] at he; cases he
  | some t =>
    rw [ht] at he
    simp only at he
    have hcells := RA_cells hv
    have hlen := hcells.length
    obtain ⟨h1, _, _, _, _⟩ := run_ti ht w
    have hone := one_of_L2 hcells
    cases hbe : Nat.beq v.cells.length t.size with
    | false => rw [hbe] at he; cases he
    | true =>
    rw [hbe] at he
    simp only [cond_true] at he
    have hsz := Nat.eq_of_beq_eq_true hbe
    have hsize : ¬ ((a.eval q).cells.size ≠ t.size) := by rw [← hsz, hlen]; simp
    split at he
    · rename_i n off
      injection he with he
      subst he
      simp only [res, geth] at hr
      cases hn : h n with
      | none => rw [hn] at hr; cases hr
      | some blk =>
        rw [hn] at hr
        cases blk with
        | row => cases hr
        | omap => cases hr
        | cells l ty =>
          simp only at hr
          cases hb : Nat.ble (off + v.cells.length) l.length with
          | false => rw [hb] at hr; cases hr
          | true =>
            rw [hb] at hr
            simp only [cond_true, Option.some.injEq, Prod.mk.injEq] at hr
            obtain ⟨rfl, rfl⟩ := hr
            have hle := Nat.le_of_ble_eq_true hb
            obtain ⟨hnil, c, hblk, hl⟩ := hs.blk n _ hn
            have hx' : a.eval p = .pointer (some ⟨(σ n).b, off, none⟩) := hx
            obtain ⟨w', h2, h3, h4, h5, h6, h7, h8⟩ := run_storeCellsL (P := P) (a.eval q).cells.toList c off w hblk (by rw [← hlen, ← hl.length]; exact hle) hone 0 off (by omega)
            have hb' : (σ n).b < w.heap.size := (Array.getElem?_eq_some_iff.1 hblk).1
            refine .inr (.inl ⟨w', ?_, M, σ, ⟨h5, h6, h7, by omega, fun b hb hne => h8 b fun e => hne ⟨hnil, e⟩, fun _ _ h => h, fun _ _ h h' => by (rw [h] at h'; cases h'), fun b o hm => ?_⟩, rfl, ⟨[], rfl, .nil⟩, hnil, _, h3, L2_set off hcells hl⟩)
            · simp only [execOp, ho, hx', Instr.storeAt, Instr.sureAddr, storeVar, Sem.run_bind, Sem.run_pure, Result.andThen_ok, h1, hsize, if_false, h2]
            · rw [h8 b fun e => ?_]
              · exact hs.imm b o hm
              · rcases hs.loc n _ hn with hk | hk
                · rw [hnil] at hk; cases hk
                · rw [e, hk] at hm; cases hm
    · rename_i n sz i off
      cases hdv : v.dv with
      | false => rw [hdv] at he; cases he
      | true =>
      rw [hdv] at he
      simp only [cond_true] at he
      injection he with he
      subst he
      simp only [res, geth] at hr
      cases hn : h n with
      | none => rw [hn] at hr; cases hr
      | some blk =>
        rw [hn] at hr
        cases blk with
        | cells => cases hr
        | omap => cases hr
        | row sz' len f ty =>
          simp only at hr
          cases hb : (Nat.beq sz' sz && Nat.ble (off + v.cells.length) sz) with
          | false => rw [hb] at hr; cases hr
          | true =>
            rw [hb] at hr
            simp only [cond_true, Option.some.injEq, Prod.mk.injEq] at hr
            obtain ⟨rfl, rfl⟩ := hr
            simp only [Bool.and_eq_true] at hb
            obtain ⟨hb1, hb2⟩ := hb
            have := Nat.eq_of_beq_eq_true hb1
            subst this
            have hle := Nat.le_of_ble_eq_true hb2
            have hi := hc.head
            rcases hs.blk n _ hn with ⟨_, h0⟩ | ⟨hnil, c, hblk, hcsz, hcap, hmax, gv, hg⟩
            · omega
            have hx' : a.eval p = .pointer (some ⟨(σ n).b, i * sz' + off, none⟩) := hx
            have hrow : i * sz' + sz' ≤ c.size := by
              have : (i + 1) * sz' ≤ (σ n).cap * sz' := Nat.mul_le_mul_right _ (by omega)
              rw [Nat.add_mul, Nat.one_mul] at this
              omega
            obtain ⟨w', h2, h3, h4, h5, h6, h7, h8⟩ := run_storeCellsL (P := P) (a.eval q).cells.toList c.toList (i * sz' + off) w hblk (by rw [← hlen]; simp; omega) hone 0 (i * sz' + off) (by omega)
            have hb' : (σ n).b < w.heap.size := (Array.getElem?_eq_some_iff.1 hblk).1
            refine .inr (.inl ⟨w', ?_, M, σ, ⟨h5, h6, h7, by omega, fun b hb hne => h8 b fun e => hne ⟨hnil, e⟩, fun _ _ h => h, fun _ _ h h' => by (rw [h] at h'; cases h'), fun b o hm => ?_⟩, rfl, ⟨[], rfl, .nil⟩, .inr ⟨hnil, _, h3, by simp [length_setV]; exact hcsz, hcap, hmax,
              fun i' j => if i' = i ∧ off ≤ j ∧ j < off + v.cells.length then (a.eval q).cells.toList.getD (j - off) undef else gv i' j, fun i' j hi' hj => ?_⟩⟩)
            · simp only [execOp, ho, hx', Instr.storeAt, Instr.sureAddr, storeVar, Sem.run_bind, Sem.run_pure, Result.andThen_ok, h1, hsize, if_false, h2]
            · rw [h8 b fun e => ?_]
              · exact hs.imm b o hm
              · rcases hs.loc n _ hn with hk | hk
                · rw [hnil] at hk; cases hk
                · rw [e, hk] at hm; cases hm
            · simp only [List.getElem?_toArray]
              rw [get_setV _ _ _ _ (by rw [← hlen]; simp; omega), ← hlen]
              by_cases hin : i' = i ∧ off ≤ j ∧ j < off + v.cells.length
              · obtain ⟨rfl, ha, hb⟩ := hin
                rw [if_pos (by omega)]
                simp only [if_pos (⟨trivial, ha, hb⟩ : True ∧ off ≤ j ∧ j < off + v.cells.length)]
                have hjl : j - off < v.cells.length := by omega
                obtain ⟨u, hu, hR⟩ := hcells.get (j - off) _ (List.getElem?_eq_getElem hjl)
                rw [show i' * sz' + j - (i' * sz' + off) = j - off by omega, hu]
                refine ⟨by simp [List.getD, hu], ?_⟩
                simp only [List.getD, hu, Option.getD_some, List.getElem?_eq_getElem hjl]
                refine RC_of_dv ?_ hR
                revert hdv
                cases v with
                | one c => intro hd; simp [Av.cells] at hjl ⊢; exact hd
                | agg l => intro hd; exact (List.all_eq_true.1 hd) _ (List.getElem_mem _)
              · simp only [if_neg hin]
                rw [if_neg ?_]
                · simpa using hg i' j hi' hj
                · intro hcon
                  rcases Nat.lt_trichotomy i' i with hlt | heq | hgt
                  · have : (i' + 1) * sz' ≤ i * sz' := Nat.mul_le_mul_right _ (by omega)
                    rw [Nat.add_mul, Nat.one_mul] at this; omega
                  · subst heq; exact hin ⟨rfl, by omega, by omega⟩
                  · have : (i + 1) * sz' ≤ i' * sz' := Nat.mul_le_mul_right _ (by omega)
                    rw [Nat.add_mul, Nat.one_mul] at this; omega
    · cases he
end
end Go.Proofs.Ytgmhnkoifdpemaa
