/-
  No statement is proved in this text. It holds contracts of functions that read or write blocks of their caller, and rules that say a state in other words.
-/
import Derived.Test.YtgmhnkoifdpemaaS14
namespace Go.Proofs.Ytgmhnkoifdpemaa
open Go.RowKit
set_option linter.unusedSimpArgs false
set_option linter.unusedVariables false

/-- A value without lists. -/
def Cl.sc : Cl → Bool
  | .val _ => true
  | .clo _ k _ => Nat.beq k 0
  | _ => false
def Av.sc : Av → Bool
  | .one c => c.sc
  | .agg l => l.all Cl.sc
def Tv.sc : Tv → Bool
  | .av x => x.sc
  | .tup l => l.all Av.sc
  | .grd _ _ => false
theorem RT_sc {M M' : Nat → Option Obj} {σ σ' : Nat → Loc} {r : Tv} {U : Value} (hd : r.sc = true) (h : RT M σ r U) : RT M' σ' r U := by
  have cl : ∀ {c : Cl} {U : Value}, c.sc = true → R M σ c U → R M' σ' c U := fun {c U} hd h => by
    cases c with
    | val v => exact h
    | clo f k caps =>
      have := Nat.eq_of_beq_eq_true hd
      subst this
      obtain ⟨cs, h1, h2, _⟩ := h
      exact ⟨cs, h1, h2, fun i hi => absurd hi (by omega)⟩
    | list => cases hd
    | eptr => cases hd
    | mp => cases hd
    | ptr => cases hd
    | own => cases hd
    | rptr => cases hd
    | om => cases hd
  have av : ∀ {x : Av} {U : Value}, x.sc = true → RA M σ x U → RA M' σ' x U := fun {x U} hd h => by
    cases x with
    | one c => exact cl hd h
    | agg l => obtain ⟨vs, h1, h2⟩ := h; exact ⟨vs, h1, h2.mono fun c hc b hb => cl ((List.all_eq_true.1 hd) c hc) hb⟩
  cases r with
  | av x => exact av hd h
  | tup l => obtain ⟨vs, h1, h2⟩ := h; exact ⟨vs, h1, h2.mono fun c hc b hb => av ((List.all_eq_true.1 hd) c hc) hb⟩
  | grd g x => cases hd

section
variable {P : Program}
theorem listF_map (g : Nat → Cl) {k i : Nat} (hi : i < k) : listF ((List.range k).map g) i = g i := by
  simp [listF, List.getD_eq_getElem?_getD, hi]
/-- A captured variable, as one that nobody changes. -/
def toC (cs : List (Nat × Blk)) : Cl → Cl
  | .ptr n off => match get cs n with
    | some (.cells l _) => .eptr l.length 1 (fun _ j => l.getD j default) 0 off
    | _ => .ptr n off
  | .clo f k caps => .clo f k (listF ((List.range k).map fun i => toC cs (caps i)))
  | x => x
def toE (cs : List (Nat × Blk)) : Av → Av
  | .one c => .one (toC cs c)
  | .agg l => .agg (l.map (toC cs))
def capOk : Blk → Bool
  | .cells l _ => l.all Cl.dv
  | _ => false
theorem geth_get {h : Nat → Option Blk} : ∀ {ns : List Nat} {bs : List Blk}, geth h ns = some bs → ∀ n b, get (ns.zip bs) n = some b → h n = some b
  | [], bs, hg, n, b, hz => by simp [get] at hz
  | m :: ns, bs, hg, n, b, hz => by
    simp only [geth] at hg
    split at hg
    · rename_i b0 bs0 h1 h2
      injection hg with hg
      subst hg
      simp only [List.zip_cons_cons, get, beqN] at hz
      by_cases hmn : m = n
      · subst hmn; simp at hz; subst hz; exact h1
      · simp [hmn] at hz; exact geth_get h2 n b hz
    · cases hg
theorem callOk_rd {f : FuncId} {xs : List Av} {ns : List Nat} {bs : List Blk} {r : Tv} (h1 : ∀ args w, (callFunc f args).run P w = .ok (.enter f args) w) (hb : bs.all capOk = true) (hr : r.sc = true) (h : Pure P f (xs.map (toE (ns.zip bs))) r) : CallOk P f xs (rdI ns bs r) := by
  classical
  refine .inl ⟨h1, fun M σ w hh args cs' g hs hargs hres hc => ?_⟩
  simp only [rdI, res] at hres
  split at hres
  · rename_i bs' hg
    simp only [Option.some.injEq, Prod.mk.injEq] at hres
    obtain ⟨rfl, rfl⟩ := hres
    have := hc.head
    subst this
    let M' : Nat → Option Obj := fun b => if ∃ n bl, get (ns.zip bs') n = some bl ∧ (σ n).b = b then w.heap[b]? else M b
    have himm : ∀ b o, M' b = some o → w.heap[b]? = some o := fun b o hm => by
      simp only [M'] at hm
      split at hm
      · exact hm
      · exact hs.imm b o hm
    have hsub : ∀ b o, M b = some o → M' b = some o := fun b o hm => by
      simp only [M']
      split
      · exact hs.imm b o hm
      · exact hm
    have hC : ∀ {c : Cl} {V : Value}, R M σ c V → R M' σ (toC (ns.zip bs') c) V := by
      intro c
      induction c with
      | ptr n off =>
        intro V hR
        simp only [toC]
        split
        · rename_i l T hgl
          have hh := geth_get hg n _ hgl
          obtain ⟨hnil, c, hblk, hl⟩ := hs.blk n _ hh
          have hcap : l.all Cl.dv = true := by
            have : (Blk.cells l T) ∈ bs' := by
              have := get_mem hgl
              exact (List.of_mem_zip this).2
            exact (List.all_eq_true.1 hb) _ this
          have hV0 : V = .pointer (some ⟨(σ n).b, off, none⟩) := hR
          subst hV0
          have hM' : M' (σ n).b = some (.cells c.toArray T) := by
            simp only [M']
            rw [if_pos ⟨n, _, hgl, rfl⟩]; exact hblk
          show RC M' _ _
          have := RC.eptr (M := M') l.length 1 (fun _ j => l.getD j default) 0 off (σ n).b 0 (fun j => c.getD j undef) (fun j hj => by
            have hjc : j < c.length := by rw [← hl.length]; exact hj
            simp only [cellM, hM', Nat.zero_add, List.getElem?_toArray]
            simp [List.getD, hjc]) (fun j hj => by
            obtain ⟨u, hu, hRu⟩ := hl.get j _ (List.getElem?_eq_getElem hj)
            simp only [List.getD, List.getElem?_eq_getElem hj, hu, Option.getD_some]
            exact RC_mono hsub ((R_dv ((List.all_eq_true.1 hcap) _ (List.getElem_mem _))).1 hRu))
          rw [Nat.zero_add] at this
          exact this
        · exact hR
      | clo f k caps ih =>
        intro V hR
        obtain ⟨cs, e1, e2, e3⟩ := hR
        exact ⟨cs, e1, e2, fun i hi => by rw [listF_map _ hi]; exact ih i (e3 i hi)⟩
      | val v => intro V hR; exact hR
      | own => intro V hR; exact R_mono hsub (fun _ _ => rfl) hR
      | rptr => intro V hR; exact R_mono hsub (fun _ _ => rfl) hR
      | om => intro V hR; exact R_mono hsub (fun _ _ => rfl) hR
      | list => intro V hR; exact R_mono hsub (fun _ _ => rfl) hR
      | eptr => intro V hR; exact R_mono hsub (fun _ _ => rfl) hR
      | mp => intro V hR; exact R_mono hsub (fun _ _ => rfl) hR
    have hx : L2 (RA M' σ) (xs.map (toE (ns.zip bs'))) args := by
      refine L2.of (by rw [List.length_map]; exact hargs.length) fun i x V hx hV => ?_
      rw [List.getElem?_map] at hx
      obtain ⟨x0, hx0, rfl⟩ := Option.map_eq_some_iff.1 hx
      obtain ⟨V', hV', hR⟩ := hargs.get i x0 hx0
      rw [hV] at hV'; injection hV' with hV'; subst hV'
      cases x0 with
      | one c => exact hC hR
      | agg l =>
        obtain ⟨vs, e1, e2⟩ := hR
        refine ⟨vs, e1, ?_⟩
        clear hx0 e1 hx
        induction e2 with
        | nil => exact .nil
        | cons e3 _ ih => exact .cons (hC e3) ih
    refine (h M' σ w args himm hx).mono ?_
    rintro en w' ⟨U, hU, M'', hk, hRU⟩
    exact ⟨U, hU, fun dst _ => ⟨M, σ, ⟨hk.os, hk.tape, hk.output, hk.size, hk.old, fun _ _ h => h, fun _ _ h h' => by (rw [h] at h'; cases h'), fun b o hm => hk.imm b o (hk.sub b o (hsub b o hm))⟩, rfl, RT_sc hr (hRU σ)⟩⟩
  · cases hres

/-- A function that changes one block of its caller's, which stands under the id K. -/
def Wr (P : Program) (f : FuncId) (K : Nat) (xs : List Av) (b0 : Blk) (r : Tv) (b1 : Blk) : Prop := ∀ (M : Nat → Option Obj) (σ : Nat → Loc) (w : World) (args : List Value), (∀ b o, M b = some o → w.heap[b]? = some o) → BlkOk M σ w (σ K) b0 → (σ K).nil = false → M (σ K).b = none → L2 (RA M σ) xs args →
  Calls P f args.toArray w fun en w' => ∃ U, en = .returned U ∧ ∃ M', Keep w w' M M' (only (σ K)) ∧ (∀ σ', RT M' σ' r U) ∧ ∀ σ', BlkOk M' σ' w' (σ K) b1
theorem BlkOk_any {M : Nat → Option Obj} {σ σ' : Nat → Loc} {w : World} {x : Loc} {b : Blk} (hd : capOk b = true) (h : BlkOk M σ w x b) : BlkOk M σ' w x b := by
  cases b with
  | row => cases hd
  | omap => cases hd
  | cells l ty =>
    obtain ⟨h0, c, hc, hl⟩ := h
    exact ⟨h0, c, hc, hl.mono fun a ha b hb => (R_dv ((List.all_eq_true.1 hd) a ha)).2 ((R_dv ((List.all_eq_true.1 hd) a ha)).1 hb)⟩
theorem wr_of_aw {f : FuncId} {fn : Func} {c : Code} (hf : P.funcs[f]? = some fn) (hb : fn.body = some c) {K : Nat} {xs : List Av} {b0 b1 : Blk} {r : Tv} (hN : Nat.ble xs.length fn.ntmps = true) (hK : Nat.ble fn.ntmps K = true) (hd : r.dv = true) (hd1 : capOk b1 = true)
    (h : ∀ (W0 : World) (M0 : Nat → Option Obj) (X : Nat → Option Loc), (∀ k x, X k = some x → some K = some k) → AWp P none fn.ntmps W0 X M0 c (RetQ P fn fun r' s' => r' = r ∧ get s'.h K = some b1) ⟨entryT 0 xs, [(K, b0)]⟩) : Wr P f K xs b0 r b1 := by
  intro M σ w args himm hblk hnil hM hargs
  let X : Nat → Option Loc := upd noX K (some (σ K))
  have hX : X K = some (σ K) := upd_same _ _ _
  have one : ∀ n b, get [(K, b0)] n = some b → n = K ∧ b = b0 := fun n b hn => by
    simp only [get, beqN] at hn
    by_cases hk : K = n
    · simp [hk] at hn; exact ⟨hk.symm, hn.symm⟩
    · simp [hk] at hn
  have pins : ∀ n x, X n = some x → n = K ∧ x = σ K := fun n x hx => by
    by_cases hk : n = K
    · subst hk; rw [hX] at hx; injection hx with hx; exact ⟨rfl, hx.symm⟩
    · simp only [X] at hx; rw [upd_ne _ _ hk] at hx; cases hx
  refine calls_of_aw (X := X) (σ := σ) (h0 := [(K, b0)]) hf hb (Nat.le_of_ble_eq_true hN) himm hargs (fun n b hn => ?_) (fun n b hn => ?_) (fun n x hx => ?_) (fun n m b c hn hm hne => ?_) (h w M X (fun k x hk => by rw [(pins k x hk).1])) ?_
  · obtain ⟨rfl, rfl⟩ := one n b hn; exact hblk
  · obtain ⟨rfl, rfl⟩ := one n b hn; exact .inr ⟨hM, n, σ n, hX, rfl⟩
  · obtain ⟨rfl, rfl⟩ := pins n x hx; exact ⟨Nat.le_of_ble_eq_true hK, rfl⟩
  · exact absurd ((one n b hn).1.trans (one m c hm).1.symm) hne
  · rintro r' s' M' σ' a' w' U ⟨rfl, hb1⟩ hs hR
    have hpin := (hs.pin K _ hX).2
    have hbk := hs.blk K _ hb1
    rw [hpin] at hbk
    refine ⟨U, rfl, M', ⟨hs.os, hs.tape, hs.output, hs.size, fun b hb hne => hs.old b hb ?_, hs.sub, hs.new, hs.imm⟩, fun σ'' => RT_any hd hR, fun σ'' => BlkOk_any hd1 hbk⟩
    rintro ⟨n, x, hx, rfl⟩
    obtain ⟨rfl, rfl⟩ := pins n x hx
    exact hne ⟨hnil, rfl⟩
/-- The id K goes by the caller's id n. -/
def renA (K n : Nat) : Av → Av
  | .one (.ptr m off) => bif Nat.beq m K then .one (.ptr n off) else .one (.ptr m off)
  | x => x
def renOk (K : Nat) : Av → Bool
  | .one (.ptr m _) => Nat.beq m K
  | x => x.dv
theorem callOk_wr {f : FuncId} {K n : Nat} {xs : List Av} {b0 b1 : Blk} {r : Tv} (h1 : ∀ args w, (callFunc f args).run P w = .ok (.enter f args) w) (hx : xs.all (renOk K) = true) (hd0 : capOk b0 = true) (h : Wr P f K xs b0 r b1) : CallOk P f (xs.map (renA K n)) (wrI n b0 r b1) := by
  refine .inl ⟨h1, fun M σ w hh args cs' g hs hargs hres hc => ?_⟩
  simp only [wrI, res, geth] at hres
  cases hn : hh n with
  | none => rw [hn] at hres; cases hres
  | some b =>
    rw [hn] at hres
    simp only [Option.some.injEq, Prod.mk.injEq] at hres
    obtain ⟨rfl, rfl⟩ := hres
    have := hc.head
    subst this
    have hblk := hs.blk n _ hn
    have hnil : (σ n).nil = false := by
      cases b with
      | row => cases hd0
      | omap => cases hd0
      | cells l ty => exact hblk.1
    have hM : M (σ n).b = none := by
      rcases hs.loc n _ hn with h | h
      · rw [hnil] at h; cases h
      · exact h
    let σ2 : Nat → Loc := upd σ K (σ n)
    have hK : σ2 K = σ n := upd_same _ _ _
    have hargs2 : L2 (RA M σ2) xs args := by
      refine L2.of (by have := hargs.length; simpa using this) fun i x V hxi hV => ?_
      obtain ⟨V', hV', hR⟩ := hargs.get i (renA K n x) (by rw [List.getElem?_map, hxi]; rfl)
      rw [hV] at hV'; injection hV' with hV'; subst hV'
      have hok := (List.all_eq_true.1 hx) x (List.mem_of_getElem? hxi)
      unfold renOk at hok
      split at hok
      · rename_i m off
        simp only [renA, hok, cond_true] at hR
        have := Nat.eq_of_beq_eq_true hok
        subst this
        have hR' : V = .pointer (some ⟨(σ n).b, off, none⟩) := hR
        show V = .pointer (some ⟨(σ2 m).b, off, none⟩)
        rw [hK]; exact hR'
      · rename_i hne
        have : renA K n x = x := by
          unfold renA
          split
          · rename_i m off; exact (hne m off rfl).elim
          · rfl
        rw [this] at hR
        have := RT_any (σ' := σ2) (r := .av x) hok hR
        exact this
    refine (h M σ2 w args hs.imm (by rw [hK]; exact BlkOk_any hd0 hblk) (by rw [hK]; exact hnil) (by rw [hK]; exact hM) hargs2).mono ?_
    rintro en w' ⟨U, hU, M', hk, hR, hb⟩
    rw [hK] at hk
    refine ⟨U, hU, fun dst _ => ⟨M', σ, hk, rfl, hR σ, ?_⟩⟩
    have := hb σ
    rw [hK] at this
    exact this
end

/-! ### Loops of few rounds -/
def ARounds (P : Program) (rd : Option Nat) (N : Nat) (W0 : World) (X : Nat → Option Loc) (M0 : Nat → Option Obj) (c : Code) (Q : Exit → AS → Prop) : Nat → AS → Prop
  | 0, _ => False
  | n + 1, s => AWp P rd N W0 X M0 c (ATh (ARounds P rd N W0 X M0 c Q n) Q) s
theorem aw_round {P : Program} {rd : Option Nat} {N : Nat} {W0 : World} {X : Nat → Option Loc} {M0 : Nat → Option Obj} {c : Code} {Q : Exit → AS → Prop} {n : Nat} {s : AS} (h : AWp P rd N W0 X M0 c (ATh (ARounds P rd N W0 X M0 c Q n) Q) s) : ARounds P rd N W0 X M0 c Q (n + 1) s := h
theorem aw_unroll {P : Program} {rd : Option Nat} {N : Nat} {W0 : World} {X : Nat → Option Loc} {M0 : Nat → Option Obj} {c : Code} {Q : Exit → AS → Prop} {s : AS} (n : Nat) (h : ARounds P rd N W0 X M0 c Q n s) : AWp P rd N W0 X M0 (.loop c) Q s := by
  have key : ∀ n s, ARounds P rd N W0 X M0 c Q n s → ∀ M σ a w, Sim N W0 X M0 M σ (get s.t) (get s.h) a w → Code.roundsIn (FW rd) 0 P c (fun e a' w' => ∃ s' M' σ', Q e s' ∧ Sim N W0 X M0 M' σ' (get s'.t) (get s'.h) a' w') n a w := by
    intro n
    induction n with
    | zero => intro s h; exact h.elim
    | succ n ih =>
      intro s h M σ a w hs
      rw [roundsIn_succ]
      refine wpIn_mono (h M σ a w hs) ?_
      rintro e a' w' ⟨s', M', σ', h1, h2⟩
      cases e with
      | normal => exact ih s' h1 M' σ' a' w' h2
      | _ => exact ⟨s', M', σ', h1, h2⟩
  intro M σ a w hs
  exact wpIn_loop_rounds n (key n s h M σ a w hs)
/-! ### A state in other words -/
inductive ClE : Cl → Cl → Prop
  | refl (c : Cl) : ClE c c
  | list (t t' : Bool) (sz len : Nat) (f f' : Nat → Nat → Cl) (h : ∀ i j, i < len → j < sz → ClE (f i j) (f' i j)) (ht : t' = true → t = true) : ClE (.list t sz len f) (.list t' sz len f')
  | nil (sz : Nat) (f : Nat → Nat → Cl) : ClE (.val (.slice none 0 0)) (.list false sz 0 f)
  | own (n sz : Nat) {l l' : Nat} (h : l = l') : ClE (.own n sz l) (.own n sz l')
  | clo (f : FuncId) (k : Nat) (c c' : Nat → Cl) (h : ∀ i, i < k → c i = c' i) : ClE (.clo f k c) (.clo f k c')
theorem RC_ClE {M : Nat → Option Obj} {c c' : Cl} (he : ClE c c') : ∀ V, RC M c V → RC M c' V := by
  induction he with
  | refl => exact fun _ h => h
  | nil sz f => intro V h; cases h with | val _ _ => exact RC.nil _ _ _ rfl
  | own n sz hl => intro V h; cases h
  | clo f k c c' hc =>
    intro V h
    cases h with
    | clo _ _ _ cs h1 h2 => exact .clo _ _ _ cs h1 fun i hi => by rw [← hc i hi]; exact h2 i hi
  | list t t' sz len f f' hf ht ih =>
    intro V h
    cases h with
    | nil _ _ _ h0 =>
      refine .nil _ _ _ ?_
      cases t' with
      | false => rfl
      | true => rw [ht rfl] at h0; cases h0
    | mt _ _ _ p0 cap => exact .mt _ _ _ p0 cap
    | list _ _ _ _ b off cap g h1 h2 h4 => exact .list _ _ _ _ b off cap g h1 (fun i j hi hj => ih i j hi hj _ (h2 i j hi hj)) h4
theorem R_ClE {M : Nat → Option Obj} {σ : Nat → Loc} {c c' : Cl} {V : Value} (he : ClE c c') (h : R M σ c V) : R M σ c' V := by
  cases he with
  | refl => exact h
  | nil sz f => obtain ⟨rfl, _⟩ := h; exact RC.nil _ _ _ rfl
  | own n sz hl => subst hl; exact h
  | clo f k c c' hc =>
    obtain ⟨cs, h1, h2, h3⟩ := h
    exact ⟨cs, h1, h2, fun i hi => by rw [← hc i hi]; exact h3 i hi⟩
  | list t t' sz len f f' hf ht => exact RC_ClE (.list t t' sz len f f' hf ht) V h
section
variable {P : Program} {rd : Option Nat} {N : Nat} {W0 : World} {X : Nat → Option Loc} {M0 M : Nat → Option Obj} {Q : Exit → AS → Prop} {s : AS}
theorem aw_setT {c : Code} (k : Nat) (x x' : Cl) (S : AS) (hk : get s.t k = some (.av (.one x))) (he : ClE x x') (hS : (⟨put s.t k (.av (.one x')), s.h⟩ : AS) = S) (h : AWp P rd N W0 X M0 c Q S) : AWp P rd N W0 X M0 c Q s := by
  intro M σ a w hs
  subst hS
  refine h M σ a w ⟨hs.os, hs.tape, hs.output, hs.size, hs.old, hs.sub, hs.new, hs.pin, hs.defers, hs.room, fun i v hv => ?_, hs.imm, hs.blk, hs.loc, hs.inj⟩
  rw [get_put] at hv
  by_cases hki : k = i
  · simp only [hki, if_true, Option.some.injEq] at hv
    subst hv
    subst hki
    exact R_ClE he (hs.tmps k _ hk)
  · simp only [hki, if_false] at hv
    exact hs.tmps i v hv
theorem aw_setH {c : Code} (n i : Nat) (l : List Cl) (ty : TypeId) (x x' : Cl) (S : AS) (hk : get s.h n = some (.cells l ty)) (hl : l[i]? = some x) (he : ClE x x') (hS : (⟨s.t, put s.h n (.cells (l.set i x') ty)⟩ : AS) = S) (h : AWp P rd N W0 X M0 c Q S) : AWp P rd N W0 X M0 c Q s := by
  intro M σ a w hs
  subst hS
  have dom : ∀ m b, get (put s.h n (.cells (l.set i x') ty)) m = some b → ∃ b', get s.h m = some b' := fun m b hb => by
    rw [get_put] at hb
    by_cases hnm : n = m
    · subst hnm; exact ⟨_, hk⟩
    · simp only [hnm, if_false] at hb; exact ⟨_, hb⟩
  refine h M σ a w ⟨hs.os, hs.tape, hs.output, hs.size, hs.old, hs.sub, hs.new, hs.pin, hs.defers, hs.room, hs.tmps, hs.imm, fun m b hb => ?_, fun m b hb => (dom m b hb).elim fun b' hb' => hs.loc m b' hb', fun m1 m2 b1 b2 h1 h2 hne => (dom m1 b1 h1).elim fun b1' h1' => (dom m2 b2 h2).elim fun b2' h2' => hs.inj m1 m2 b1' b2' h1' h2' hne⟩
  rw [get_put] at hb
  by_cases hnm : n = m
  · subst hnm
    simp only [if_true, Option.some.injEq] at hb
    subst hb
    obtain ⟨h0, cc, hc, hL⟩ := hs.blk n _ hk
    refine ⟨h0, cc, hc, ?_⟩
    refine L2.of (by rw [List.length_set]; exact hL.length) fun j a b ha hb => ?_
    by_cases hij : i = j
    · subst hij
      have hlt : i < l.length := (List.getElem?_eq_some_iff.1 hl).1
      rw [List.getElem?_set_self hlt] at ha
      injection ha with ha; subst ha
      obtain ⟨b', hb', hR⟩ := hL.get i x hl
      rw [hb] at hb'; injection hb' with hb'; subst hb'
      exact R_ClE he hR
    · rw [List.getElem?_set_ne hij] at ha
      obtain ⟨b', hb', hR⟩ := hL.get j a ha
      rw [hb] at hb'; injection hb' with hb'; subst hb'
      exact hR
  · simp only [hnm, if_false] at hb
    exact hs.blk m b hb
end
end Go.Proofs.Ytgmhnkoifdpemaa
