/-
  No statement is proved in this text. It holds the rules by which a function's text is gone through with abstract states.
-/
import Derived.Test.YtgmhnkoifdpemaaS11
namespace Go.Proofs.Ytgmhnkoifdpemaa
open Go.RowKit
set_option linter.unusedSimpArgs false
set_option linter.unusedVariables false

/-- What a piece of text does from the state s on. -/
def AWp (P : Program) (rd : Option Nat) (N : Nat) (W0 : World) (X : Nat → Option Loc) (M0 : Nat → Option Obj) (c : Code) (Q : Exit → AS → Prop) (s : AS) : Prop :=
  ∀ M σ a w, Sim N W0 X M0 M σ (get s.t) (get s.h) a w → c.wpIn (FW rd) 0 P (fun e a' w' => ∃ s' M' σ', Q e s' ∧ Sim N W0 X M0 M' σ' (get s'.t) (get s'.h) a' w') a w
def ATh (K : AS → Prop) (Q : Exit → AS → Prop) : Exit → AS → Prop
  | .normal, s => K s
  | e, s => Q e s
def ABl (id : Nat) (Q : Exit → AS → Prop) : Exit → AS → Prop
  | .exit id', s => if id' = id then Q .normal s else Q (.exit id') s
  | e, s => Q e s
/-- Only some slots and blocks are kept. -/
def keepL {α : Type} (l : List (Nat × α)) : List Nat → List (Nat × α)
  | [] => []
  | n :: r => match get l n with
    | some v => (n, v) :: keepL l r
    | none => keepL l r
def keepS (ts hs : List Nat) (s : AS) : AS := ⟨keepL s.t ts, keepL s.h hs⟩
theorem get_keepL {α : Type} (l : List (Nat × α)) : ∀ (ns : List Nat) (n : Nat) (v : α), get (keepL l ns) n = some v → get l n = some v
  | [], n, v, h => by cases h
  | k :: r, n, v, h => by
    simp only [keepL] at h
    split at h
    · rename_i u hu
      simp only [get, beqN] at h
      by_cases hk : k = n
      · subst hk; simp at h; subst h; exact hu
      · simp [hk] at h; exact get_keepL l r n v h
    · exact get_keepL l r n v h
def getO (l : List (Nat × FuncId × List Av × Ef)) (d : Nat) : Option (FuncId × List Av × Ef) := get l d
inductive TblOk (P : Program) : List (Nat × FuncId × List Av × Ef) → Prop
  | nil : TblOk P []
  | cons {d : Nat} {c : FuncId × List Av × Ef} {l : List (Nat × FuncId × List Av × Ef)} : CallOk P c.1 c.2.1 c.2.2 → TblOk P l → TblOk P ((d, c) :: l)
theorem TblOk.env {P : Program} {E : TypeId → Option (List Kd)} (hE : EqOk P ⟨fun _ => none, E, fun _ => false, fun _ => none⟩) {O : Nat → Bool} {q : Nat → Option (Bool × Nat)} {l : List (Nat × FuncId × List Av × Ef)} (hl : TblOk P l) : EnvOk P ⟨getO l, E, O, q⟩ := by
  refine ⟨hE, fun d f xs e h => ?_⟩
  have hm : (d, f, xs, e) ∈ l := get_mem h
  clear h
  induction hl with
  | nil => cases hm
  | cons h1 _ ih =>
    cases hm with
    | head => exact h1
    | tail _ hm => exact ih hm
def memO : List Nat → Nat → Bool
  | [], _ => false
  | k :: r, n => bif Nat.beq k n then true else memO r n
/-- What a region's call asks: that it is called as the contract says. -/
def Same (x : List Av) : Prop := x = x
def SameBs (b : List Blk) : Prop := b = b
def SameB (b : Blk) : Prop := b = b
def A64 (a b : Int) : Int := IntKind.i64.wrap ((BitVec.ofInt 64 a &&& BitVec.ofInt 64 b).toNat)
def W64 (x : Int) : Int := IntKind.i64.wrap x
theorem of_not_decide_true {p : Prop} [Decidable p] (h : (!decide p) = true) : ¬ p := by simpa using h
theorem of_not_decide_false {p : Prop} [Decidable p] (h : (!decide p) = false) : p := by simpa using h
theorem W64_def (x : Int) : W64 x = (x + 9223372036854775808) % 18446744073709551616 - 9223372036854775808 := by
  unfold W64; rw [IntKind.wrap_i64]
theorem W64_id {x : Int} (h1 : -9223372036854775808 ≤ x) (h2 : x ≤ 9223372036854775807) : W64 x = x := by
  unfold W64; rw [IntKind.wrap_i64]; omega
/-- A slice whose elements are those of a list. -/
def lst {α : Type} [Inhabited α] (sz : Nat) (c : α → List Cl) (xs : List α) : Cl := .list false sz xs.length fun i j => (c (xs.getD i default)).getD j default
/-- A call that changes the block n, of which all is known. -/
def wrI (n : Nat) (b0 : Blk) (r : Tv) (b1 : Blk) : Ef := .wr n [] fun b _ => some ([b = b0], r, b1)
/-- A call that reads blocks of which all is known. -/
def rdI (ns : List Nat) (bs : List Blk) (r : Tv) : Ef := .rd ns fun b => some ([b = bs], r)
def runK (P : Program) (V : Env P) (N : Nat) (l : List Oper) (ts hs : List Nat) (s : AS) : Option (List Prop × AS) := match runL P V N l.toArray l s with
  | some (cs, s1) => some (cs, keepS ts hs s1)
  | none => none

theorem ath_n {K : AS → Prop} {Q : Exit → AS → Prop} {s : AS} (h : K s) : ATh K Q .normal s := h
theorem ath_e {K : AS → Prop} {Q : Exit → AS → Prop} {s : AS} {id : Nat} (h : Q (.exit id) s) : ATh K Q (.exit id) s := h
theorem ath_r {K : AS → Prop} {Q : Exit → AS → Prop} {s : AS} (h : Q .ret s) : ATh K Q .ret s := h
theorem abl_n {Q : Exit → AS → Prop} {s : AS} {id : Nat} (h : Q .normal s) : ABl id Q .normal s := h
theorem abl_r {Q : Exit → AS → Prop} {s : AS} {id : Nat} (h : Q .ret s) : ABl id Q .ret s := h
theorem abl_hit {Q : Exit → AS → Prop} {s : AS} {id : Nat} (h : Q .normal s) : ABl id Q (.exit id) s := by simp only [ABl, if_true]; exact h
theorem abl_miss {Q : Exit → AS → Prop} {s : AS} {id id' : Nat} (hne : Nat.beq id' id = false) (h : Q (.exit id') s) : ABl id Q (.exit id') s := by
  have : id' ≠ id := fun e => by subst e; rw [Nat.beq_refl] at hne; cases hne
  simp only [ABl, if_neg this]; exact h

section
variable {P : Program} {V : Env P} {rd : Option Nat} {N : Nat} {W0 : World} {X : Nat → Option Loc} {M0 M : Nat → Option Obj} {σ : Nat → Loc} {w : World} {a : Act} {Q : Exit → AS → Prop} {s : AS}

theorem sim_sub {S : AS} (hs : Sim N W0 X M0 M σ (get s.t) (get s.h) a w) (ht : ∀ i v, get S.t i = some v → get s.t i = some v) (hh : ∀ i v, get S.h i = some v → get s.h i = some v) : Sim N W0 X M0 M σ (get S.t) (get S.h) a w :=
  ⟨hs.os, hs.tape, hs.output, hs.size, hs.old, hs.sub, hs.new, hs.pin, hs.defers, hs.room, fun i v h => hs.tmps i v (ht i v h), hs.imm, fun n b h => hs.blk n b (hh n b h), fun n b h => hs.loc n b (hh n b h), fun n m b c h1 h2 => hs.inj n m b c (hh n b h1) (hh m c h2)⟩
theorem sim_keep (hs : Sim N W0 X M0 M σ (get s.t) (get s.h) a w) (ts ns : List Nat) : Sim N W0 X M0 M σ (get (keepS ts ns s).t) (get (keepS ts ns s).h) a w := sim_sub hs (fun i v h => get_keepL _ _ _ _ h) (fun i v h => get_keepL _ _ _ _ h)
theorem aw_join {c : Code} {K : AS → Prop} (ts ns : List Nat) (S : AS) (h1 : AWp P rd N W0 X M0 c (ATh (fun s' => keepS ts ns s' = S) Q) s) (h2 : K S) : AWp P rd N W0 X M0 c (ATh K Q) s := by
  intro M σ a w hs
  refine wpIn_mono (h1 M σ a w hs) ?_
  rintro e a' w' ⟨s', M', σ', h3, h4⟩
  cases e with
  | normal =>
    have h3 : keepS ts ns s' = S := h3
    subst h3
    exact ⟨_, M', σ', h2, sim_keep h4 ts ns⟩
  | _ => exact ⟨s', M', σ', h3, h4⟩
theorem aw_mono {c : Code} {Q' : Exit → AS → Prop} (h : AWp P rd N W0 X M0 c Q s) (hq : ∀ e s, Q e s → Q' e s) : AWp P rd N W0 X M0 c Q' s := fun M σ a w hs => wpIn_mono (h M σ a w hs) fun e a' w' ⟨s', M', σ', h1, h2⟩ => ⟨s', M', σ', hq _ _ h1, h2⟩
theorem aw_keep {c : Code} (ts ns : List Nat) (S : AS) (hS : keepS ts ns s = S) (h : AWp P rd N W0 X M0 c Q S) : AWp P rd N W0 X M0 c Q s := fun M σ a w hs => h M σ a w (by rw [← hS]; exact sim_keep hs ts ns)
theorem aw_cast {c : Code} (S : AS) (hS : s = S) (h : AWp P rd N W0 X M0 c Q S) : AWp P rd N W0 X M0 c Q s := by rw [hS]; exact h
theorem aw_seq {x y : Code} (h : AWp P rd N W0 X M0 x (ATh (AWp P rd N W0 X M0 y Q) Q) s) : AWp P rd N W0 X M0 (.seq x y) Q s := by
  intro M σ a w hs
  refine wpIn_seq (wpIn_mono (h M σ a w hs) ?_)
  rintro e a' w' ⟨s', M', σ', h1, h2⟩
  cases e with
  | normal => exact h1 M' σ' a' w' h2
  | _ => exact ⟨s', M', σ', h1, h2⟩
theorem aw_skip (h : Q .normal s) : AWp P rd N W0 X M0 .skip Q s := fun M σ a w hs => wpIn_skip ⟨s, M, σ, h, hs⟩
theorem aw_ret (h : Q .ret s) : AWp P rd N W0 X M0 .ret Q s := fun M σ a w hs => wpIn_ret ⟨s, M, σ, h, hs⟩
theorem aw_exit {id : Nat} (h : Q (.exit id) s) : AWp P rd N W0 X M0 (.exit id) Q s := fun M σ a w hs => wpIn_exit ⟨s, M, σ, h, hs⟩
theorem aw_label {l : Nat} (h : Q .normal s) : AWp P rd N W0 X M0 (.label l) Q s := fun M σ a w hs => wpIn_label ⟨s, M, σ, h, hs⟩
theorem aw_block {id : Nat} {c : Code} (h : AWp P rd N W0 X M0 c (ABl id Q) s) : AWp P rd N W0 X M0 (.block id c) Q s := by
  intro M σ a w hs
  refine wpIn_block (wpIn_mono (h M σ a w hs) ?_)
  rintro e a' w' ⟨s', M', σ', h1, h2⟩
  cases e with
  | exit id' =>
    simp only [ABl] at h1
    simp only [Exit.inBlock]
    split
    · rename_i he; rw [if_pos he] at h1; exact ⟨s', M', σ', h1, h2⟩
    · rename_i he; rw [if_neg he] at h1; exact ⟨s', M', σ', h1, h2⟩
  | _ => exact ⟨s', M', σ', h1, h2⟩
theorem aw_cond {c : Operand} {x y : Code} (b : Bool) (hc : evT (get s.t) c = some (.av (.one (.val (.bool b))))) (h1 : b = true → AWp P rd N W0 X M0 x Q s) (h2 : b = false → AWp P rd N W0 X M0 y Q s) : AWp P rd N W0 X M0 (.cond c x y) Q s := by
  intro M σ a w hs
  have hv : a.eval c = .bool b := (evT_ok hs.tmps hc).1
  exact wpIn_cond_split hv (fun hb => h1 hb M σ a w hs) (fun hb => h2 hb M σ a w hs)
theorem aw_cond_t {c : Operand} {x y : Code} (hc : evT (get s.t) c = some (.av (.one (.val (.bool true))))) (h1 : AWp P rd N W0 X M0 x Q s) : AWp P rd N W0 X M0 (.cond c x y) Q s := aw_cond true hc (fun _ => h1) (fun h => by cases h)
theorem aw_cond_f {c : Operand} {x y : Code} (hc : evT (get s.t) c = some (.av (.one (.val (.bool false))))) (h1 : AWp P rd N W0 X M0 y Q s) : AWp P rd N W0 X M0 (.cond c x y) Q s := aw_cond false hc (fun h => by cases h) (fun _ => h1)
theorem runL_ok (hV : EnvOk P V) {ops : Array Oper} {Q' : Exit → Act → World → Prop} : ∀ (l : List Oper) (s s1 : AS) (cs : List Prop), runL P V N ops l s = some (cs, s1) → AllP cs → ∀ M σ a w, Sim N W0 X M0 M σ (get s.t) (get s.h) a w → (∀ M' σ' a' w', Sim N W0 X M0 M' σ' (get s1.t) (get s1.h) a' w' → Q' .normal a' w') → wpListIn (FW rd) 0 P ops Q' l a w
  | [], s, s1, cs, hr, hc, M, σ, a, w, hs, hK => by
    simp only [runL, Option.some.injEq, Prod.mk.injEq] at hr
    obtain ⟨_, rfl⟩ := hr
    exact hK M σ a w hs
  | o :: l, s, s1, cs, hr, hc, M, σ, a, w, hs, hK => by
    simp only [runL] at hr
    split at hr
    · rename_i cs1 s2 h1
      split at hr
      · rename_i ds s3 h2
        simp only [Option.some.injEq, Prod.mk.injEq] at hr
        obtain ⟨rfl, rfl⟩ := hr
        obtain ⟨hc1, hc2⟩ := hc.append
        refine wpListIn_step fun K hK' => ?_
        refine step_any hV h1 hc1 hs (fun _ _ => rfl) (fun _ _ => rfl) (fun hn d hd => step_fresh h1 hn hd) fun M' σ' a' w' hs' => hK' _ _ (runL_ok hV l s2 s3 ds h2 hc2 M' σ' a' w' ?_ hK)
        rw [(step_frame h1).1, (step_frame h1).2]
        exact hs'
      · cases hr
    · cases hr
theorem aw_region {E : TypeId → Option (List Kd)} (hE : EqOk P ⟨fun _ => none, E, fun _ => false, fun _ => none⟩) {id : Nat} {l : List Oper} (ow : List Nat) (qs : List (Nat × (Bool × Nat))) (tbl : List (Nat × FuncId × List Av × Ef)) (ts ns : List Nat) (cs : List Prop) (S : AS) (htbl : TblOk P tbl) (hr : runK P ⟨getO tbl, E, memO ow, get qs⟩ N l ts ns s = some (cs, S)) (hc : AllP cs) (h : Q .normal S) : AWp P rd N W0 X M0 (.region id l.toArray false) Q s := by
  have hV := htbl.env (O := memO ow) (q := get qs) hE
  intro M σ a w hs
  unfold runK at hr
  split at hr
  · rename_i cs1 s1 h1
    simp only [Option.some.injEq, Prod.mk.injEq] at hr
    obtain ⟨rfl, rfl⟩ := hr
    exact wpIn_region_lit (runL_ok hV l s s1 cs1 h1 hc M σ a w hs fun M' σ' a' w' hs' => ⟨_, M', σ', h, sim_keep hs' ts ns⟩)
  · cases hr
theorem aw_loop {ι : Type} {c : Code} (S : ι → AS) (Inv : ι → Prop) (μ : ι → Nat) (round : ∀ x, Inv x → AWp P rd N W0 X M0 c (ATh (fun s' => ∃ y, Inv y ∧ μ y < μ x ∧ s' = S y) Q) (S x)) (x : ι) (hx : Inv x) : AWp P rd N W0 X M0 (.loop c) Q (S x) := by
  have key : ∀ n x, μ x < n → Inv x → ∀ M σ a w, Sim N W0 X M0 M σ (get (S x).t) (get (S x).h) a w → Code.roundsIn (FW rd) 0 P c (fun e a' w' => ∃ s' M' σ', Q e s' ∧ Sim N W0 X M0 M' σ' (get s'.t) (get s'.h) a' w') n a w := by
    intro n
    induction n with
    | zero => intro x h; omega
    | succ n ih =>
      intro x hlt hx M σ a w hs
      rw [roundsIn_succ]
      refine wpIn_mono (round x hx M σ a w hs) ?_
      rintro e a' w' ⟨s', M', σ', h1, h2⟩
      cases e with
      | normal =>
        obtain ⟨y, hy, hm, rfl⟩ := h1
        exact ih y (by omega) hy M' σ' a' w' h2
      | _ => exact ⟨s', M', σ', h1, h2⟩
  intro M σ a w hs
  exact wpIn_loop_rounds (μ x + 1) (key _ x (Nat.lt_succ_self _) hx M σ a w hs)

/-! ### Results -/
def Tv.dv : Tv → Bool
  | .av x => x.dv
  | .tup l => l.all Av.dv
  | .grd _ _ => false
def res1 (P : Program) (s : AS) : ResultVar → Option Av
  | .tmp t => match get s.t t with
    | some (.av x) => some x
    | _ => none
  | .cell p T => match get s.t p, ti P T with
    | some (.av (.one (.ptr n off))), some t => match get s.h n with
      | some (.cells l _) => partC t l off
      | _ => none
    | _, _ => none
def resL (P : Program) (s : AS) : List ResultVar → Option (List Av)
  | [] => some []
  | r :: rs => match res1 P s r, resL P s rs with
    | some x, some l => some (x :: l)
    | _, _ => none
def resT (P : Program) (s : AS) (rs : List ResultVar) : Option Tv := match resL P s rs with
  | some [x] => some (.av x)
  | some l => some (.tup l)
  | none => none
theorem res1_ok (hs : Sim N W0 X M0 M σ (get s.t) (get s.h) a w) {F : ResultVar → Sem Value} (hF1 : ∀ t, F (.tmp t) = pure (a.tmps.getD t undef)) (hF2 : ∀ p T, F (.cell p T) = (do loadVar T (← asAddr (a.tmps.getD p undef)))) {r : ResultVar} {x : Av} (h : res1 P s r = some x) : ∃ U, (F r).run P w = .ok U w ∧ RA M σ x U := by
  cases r with
  | tmp t =>
    simp only [res1] at h
    split at h
    · rename_i y hy
      injection h with h; subst h
      exact ⟨_, by rw [hF1]; rfl, hs.tmps t _ hy⟩
    · cases h
  | cell p T =>
    simp only [res1] at h
    split at h
    · rename_i n off t h1 h2
      split at h
      · rename_i l ty hb
        obtain ⟨hnil, c, hblk, hl⟩ := hs.blk n _ hb
        have hp : a.tmps.getD p undef = .pointer (some ⟨(σ n).b, off, none⟩) := hs.tmps p _ h1
        obtain ⟨U, hU, hR⟩ := run_loadVar (w := w) h2 (b := (σ n).b) (off := 0) hl off (fun j u _ _ hj => by simp only [World.cell?, hblk]; simpa using hj) h
        rw [Nat.zero_add] at hU
        refine ⟨U, ?_, hR⟩
        rw [hF2]
        simp only [hp, asAddr, Sem.run_bind, Sem.run_pure, Result.andThen_ok, hU]
      · cases h
    · cases h
theorem resL_ok (hs : Sim N W0 X M0 M σ (get s.t) (get s.h) a w) {F : ResultVar → Sem Value} (hF1 : ∀ t, F (.tmp t) = pure (a.tmps.getD t undef)) (hF2 : ∀ p T, F (.cell p T) = (do loadVar T (← asAddr (a.tmps.getD p undef)))) : ∀ {rs : List ResultVar} {l : List Av}, resL P s rs = some l → ∃ vs : List Value, (rs.mapM F).run P w = .ok vs w ∧ L2 (RA M σ) l vs
  | [], l, h => by simp only [resL, Option.some.injEq] at h; subst h; exact ⟨[], by simp, .nil⟩
  | r :: rs, l, h => by
    simp only [resL] at h
    split at h
    · rename_i x l' h1 h2
      injection h with h; subst h
      obtain ⟨U, hU, hR⟩ := res1_ok hs hF1 hF2 h1
      obtain ⟨vs, hvs, hL⟩ := resL_ok hs hF1 hF2 h2
      refine ⟨U :: vs, ?_, .cons hR hL⟩
      rw [List.mapM_cons]
      simp only [Sem.run_bind, Sem.run_pure]
      rw [hU]
      simp only [Result.andThen_ok]
      rw [hvs]
      rfl
    · cases h
theorem resT_ok (hs : Sim N W0 X M0 M σ (get s.t) (get s.h) a w) {fn : Func} {r : Tv} (h : resT P s fn.results.toList = some r) : ∃ U, (results fn a.tmps).run P w = .ok U w ∧ RT M σ r U := by
  unfold resT at h
  have hm : ∀ l, resL P s fn.results.toList = some l → ∃ vs : List Value, (results fn a.tmps).run P w = .ok (if h : vs.toArray.size = 1 then vs.toArray[0] else .tuple vs.toArray) w ∧ L2 (RA M σ) l vs := by
    intro l hl
    unfold results
    rw [Array.mapM_eq_mapM_toList]
    simp only [Sem.run_bind, Sem.run_map]
    have key : ∀ F : ResultVar → Sem Value, (∀ t, F (.tmp t) = pure (a.tmps.getD t undef)) → (∀ p T, F (.cell p T) = (do loadVar T (← asAddr (a.tmps.getD p undef)))) → ∃ vs : List Value, (((fn.results.toList.mapM F).run P w).andThen fun a w' => .ok a.toArray w').andThen (fun a w' => (pure (if h : a.size = 1 then a[0] else Value.tuple a) : Sem Value).run P w') = .ok (if h : vs.toArray.size = 1 then vs.toArray[0] else .tuple vs.toArray) w ∧ L2 (RA M σ) l vs := fun F hF1 hF2 => by
      obtain ⟨vs, h1, h2⟩ := resL_ok hs hF1 hF2 hl
      refine ⟨vs, ?_, h2⟩
      rw [h1]
      rfl
    exact key _ (fun _ => rfl) (fun _ _ => rfl)
  split at h
  · rename_i x hx
    injection h with h; subst h
    obtain ⟨vs, h1, h2⟩ := hm _ hx
    cases h2 with | cons h3 h4 =>
    cases h4
    exact ⟨_, h1, h3⟩
  · rename_i l hne hl
    injection h with h; subst h
    obtain ⟨vs, h1, h2⟩ := hm _ hl
    have : ¬ vs.toArray.size = 1 := by
      have := h2.length
      intro e
      simp at e
      match l, this with
      | [x], _ => exact hne x rfl
      | [], h => simp at h; omega
      | _ :: _ :: _, h => simp at h; omega
    rw [dif_neg this] at h1
    exact ⟨_, h1, vs, rfl, h2⟩
  · cases h

/-- What is asked at a function's end. -/
def RetQ (P : Program) (fn : Func) (φ : Tv → AS → Prop) : Exit → AS → Prop := fun e s => (e = .ret ∨ e = .normal) ∧ ∃ r, resT P s fn.results.toList = some r ∧ φ r s
def entryT : Nat → List Av → List (Nat × Tv)
  | _, [] => []
  | k, x :: r => (k, .av x) :: entryT (k + 1) r
theorem get_entryT : ∀ (l : List Av) (k i : Nat) (v : Tv), get (entryT k l) i = some v → k ≤ i ∧ ∃ x, l[i - k]? = some x ∧ v = .av x
  | [], k, i, v, h => by cases h
  | y :: r, k, i, v, h => by
    simp only [entryT, get, beqN] at h
    by_cases hk : k = i
    · subst hk; simp at h; subst h; exact ⟨Nat.le_refl _, y, by simp, rfl⟩
    · simp [hk] at h
      obtain ⟨h1, x, h2, h3⟩ := get_entryT r (k + 1) i v h
      refine ⟨by omega, x, ?_, h3⟩
      rw [show i - k = (i - (k + 1)) + 1 by omega, List.getElem?_cons_succ]
      exact h2
/-- A mark is taken. -/
theorem sim_take {T : Nat → Option Tv} {H : Nat → Option Blk} {tm : Array Value} {d : Deferred} {ds : List Deferred} (hs : Sim N W0 X M0 M σ T H { tmps := tm, defers := d :: ds } w) :
    ∃ D w' M', d.target = .collected D ∧ (Instr.takeDeferred D).run P w = .ok [] w' ∧ Sim N W0 X M0 M' σ T H { tmps := tm, defers := ds } w' := by
  obtain ⟨⟨⟨D, rfl, hD, h0, hne⟩, hds⟩, hfl⟩ := hs.defers
  have hw := hs.imm D _ hD
  have hlt : D < w.heap.size := (Array.getElem?_eq_some_iff.1 hw).1
  have hother : ∀ b, b ≠ D → (w.putObj D (.deferred none)).heap[b]? = w.heap[b]? := fun b hb => World.putObj_heap_other (fun e => hb e)
  obtain ⟨M', hM⟩ : ∃ M' : Nat → Option Obj, M' = fun b => if b = D then none else M b := ⟨_, rfl⟩
  have hM1 : ∀ b, b ≠ D → M' b = M b := fun b hb => by subst hM; simp [hb]
  have hMD : M' D = none := by subst hM; simp
  have hcell : ∀ b o v, cellM M b o = some v → cellM M' b o = some v := fun b o v hc => by
    by_cases hb : b = D
    · subst hb; simp [cellM, hD] at hc
    · unfold cellM at *; rw [hM1 b hb]; exact hc
  have hRC : ∀ {c : Cl} {V : Value}, RC M c V → RC M' c V := fun h => by
    induction h with
    | val v h => exact .val v h
    | nil t sz f h0 => exact .nil t sz f h0
    | mt t sz f a cap => exact .mt t sz f a cap
    | clo f k caps cs h1 _ ih => exact .clo f k caps cs h1 ih
    | list t sz len f b off cap g h1 _ h4 ih => exact .list t sz len f b off cap g (fun i j hi hj => hcell _ _ _ (h1 i j hi hj)) ih h4
    | eptr sz len f i off b base g h1 _ ih => exact .eptr sz len f i off b base g (fun j hj => hcell _ _ _ (h1 j hj)) ih
    | mp agg nv len kf vf b es clock g k0 h1 h2 _ ih => exact .mp agg nv len kf vf b es clock g (by rw [hM1 b (fun e => by subst e; rw [hD] at k0; cases k0)]; exact k0) h1 h2 ih
  have hR : ∀ {c : Cl} {V : Value}, R M σ c V → R M' σ c V := by
    intro c
    induction c with
    | list => intro V h; exact hRC h
    | eptr => intro V h; exact hRC h
    | mp => intro V h; exact hRC h
    | clo f k caps ih =>
      intro V h
      obtain ⟨cs, h1, h2, h3⟩ := h
      exact ⟨cs, h1, h2, fun i hi => ih i (h3 i hi)⟩
    | val v => intro V h; exact h
    | ptr => intro V h; exact h
    | own => intro V h; exact h
    | rptr => intro V h; exact h
    | om => intro V h; exact h
  have hRA : ∀ {x : Av} {V : Value}, RA M σ x V → RA M' σ x V := fun {x V} h => by
    cases x with
    | one c => exact hR h
    | agg l => obtain ⟨vs, h1, h2⟩ := h; exact ⟨vs, h1, h2.mono fun _ _ _ h => hR h⟩
  have hRT : ∀ {x : Tv} {V : Value}, RT M σ x V → RT M' σ x V := fun {x V} h => by
    cases x with
    | av x => exact hRA h
    | tup l => obtain ⟨vs, h1, h2⟩ := h; exact ⟨vs, h1, h2.mono fun _ _ _ h => hRA h⟩
    | grd g x => exact ⟨fun hg => hRA (h.1 hg), h.2⟩
  have hblkne : ∀ n b, H n = some b → (σ n).nil = false → (σ n).b ≠ D := fun n b hb hn e => by
    rcases hs.loc n b hb with h | ⟨h1, _⟩
    · rw [hn] at h; cases h
    · rw [e, hD] at h1; cases h1
  refine ⟨D, _, M', rfl, run_takeDeferred hw, ⟨hs.os, hs.tape, hs.output, by simpa using hs.size, fun b hb hx => ?_, fun b o h => ?_, fun b o h h' => ?_, hs.pin, ?_, hs.room, fun i v h => hRT (hs.tmps i v h), fun b o h => ?_, fun n b h => ?_, fun n b h => ?_, hs.inj⟩⟩
  · have : b ≠ D := fun e => by subst e; have := hs.new _ _ hD h0; omega
    rw [hother b this]; exact hs.old b hb hx
  · have : b ≠ D := fun e => by subst e; rw [h0] at h; cases h
    rw [hM1 b this]; exact hs.sub b o h
  · by_cases e : b = D
    · subst e; rw [hMD] at h; cases h
    · rw [hM1 b e] at h; exact hs.new b o h h'
  · have : ∀ l : List Deferred, (∀ d' ∈ l, d' ≠ { target := .collected D, args := #[] }) → DefsOk M0 M l → DefsOk M0 M' l := by
      intro l
      induction l with
      | nil => intro _ _; trivial
      | cons d l ih =>
        rintro hl ⟨⟨D', h1, h2, h3, h4⟩, h5⟩
        refine ⟨⟨D', h1, ?_, h3, h4⟩, ih (fun d' hd => hl d' (by simp [hd])) h5⟩
        have : D' ≠ D := fun e => by subst e; exact hl d (by simp) h1
        rw [hM1 _ this]; exact h2
    exact ⟨this ds hne hds, fun hf => by cases hfl hf⟩
  · by_cases e : b = D
    · subst e; rw [hMD] at h; cases h
    · rw [hM1 b e] at h; rw [hother b e]; exact hs.imm b o h
  · have h1 := hs.blk n b h
    cases b with
    | cells l ty =>
      obtain ⟨g0, c, g1, g2⟩ := h1
      exact ⟨g0, c, (hother _ (hblkne n _ h g0)).trans g1, g2.mono fun _ _ _ h => hR h⟩
    | row sz len f ty =>
      rcases h1 with h1 | ⟨g0, c, g1, g2, g3, g4, g, g5⟩
      · exact .inl h1
      · exact .inr ⟨g0, c, (hother _ (hblkne n _ h g0)).trans g1, g2, g3, g4, g, fun i j hi hj => ⟨(g5 i j hi hj).1, hRC (g5 i j hi hj).2⟩⟩
    | omap agg nv len kf vf =>
      obtain ⟨g0, es, ck, g, g1, g2, g3, g4⟩ := h1
      exact ⟨g0, es, ck, g, (hother _ (hblkne n _ h g0)).trans g1, g2, g3, fun i j hi hj => hRC (g4 i j hi hj)⟩
  · rcases hs.loc n b h with h1 | ⟨h1, h2⟩
    · exact .inl h1
    · by_cases hn : (σ n).nil = true
      · exact .inl hn
      · refine .inr ⟨?_, h2⟩
        rw [hM1 _ (hblkne n b h (by simpa using hn))]; exact h1
theorem leaves_marks {fn : Func} {R : Ending → World → Prop} {T : Nat → Option Tv} {H : Nat → Option Blk} {tm : Array Value} : ∀ (ds : List Deferred) {M : Nat → Option Obj} {w : World}, Sim N W0 X M0 M σ T H { tmps := tm, defers := ds } w →
    (∀ M'' w'', Sim N W0 X M0 M'' σ T H { tmps := tm, defers := [] } w'' → ∃ U, (results fn tm).run P w'' = .ok U w'' ∧ R (.returned U) w'') → LeavesInM (FW none) 0 P fn tm R ds .returning w
  | [], M, w, hs, hR => hR M w hs
  | d :: ds, M, w, hs, hR => by
    obtain ⟨D, w', M', h1, h2, h3⟩ := sim_take (P := P) hs
    exact ⟨by simp, .inl ⟨D, w', h1, h2, leaves_marks ds h3 hR⟩⟩
/-- A function's text, from its first state on, gives what it returns. -/
theorem calls_of_aw {f : FuncId} {fn : Func} {c : Code} (hf : P.funcs[f]? = some fn) (hb : fn.body = some c) {xs : List Av} {h0 : List (Nat × Blk)} {args : List Value} {φ : Tv → AS → Prop} (hN : xs.length ≤ fn.ntmps)
    (himm : ∀ b o, M b = some o → w.heap[b]? = some o) (hargs : L2 (RA M σ) xs args) (hblk : ∀ n b, get h0 n = some b → BlkOk M σ w (σ n) b) (hloc : ∀ n b, get h0 n = some b → (σ n).nil = true ∨ (M (σ n).b = none ∧ inX X (σ n).b)) (hpin : ∀ n x, X n = some x → fn.ntmps ≤ n ∧ σ n = x) (hinj : ∀ n m b c, get h0 n = some b → get h0 m = some c → n ≠ m → (σ n).nil = true ∨ (σ m).nil = true ∨ (σ n).b ≠ (σ m).b)
    (h : AWp P none fn.ntmps w X M c (RetQ P fn φ) ⟨entryT 0 xs, h0⟩) {R' : Ending → World → Prop} (hR : ∀ r s' M' σ' a' w' U, φ r s' → Sim fn.ntmps w X M M' σ' (get s'.t) (get s'.h) a' w' → RT M' σ' r U → R' (.returned U) w') : Calls P f args.toArray w R' := by
  have hlen := hargs.length
  refine callsIn_wide.1 (callsIn_of_wp_marks (F := FW none) (n := 0) hf hb trivial (wpIn_mono (h M σ _ w ⟨rfl, rfl, rfl, Nat.le_refl _, fun _ _ _ => rfl, fun _ _ h => h, fun _ _ h h' => by (rw [h] at h'; cases h'), hpin, DefsX.nil, by simp; omega, fun i v hv => ?_, himm, hblk, fun n b hb => (hloc n b hb).imp id fun ⟨h1, h2⟩ => ⟨h1, .inr h2⟩, hinj⟩) ?_))
  · obtain ⟨_, x, hx, rfl⟩ := get_entryT _ _ _ _ hv
    rw [Nat.sub_zero] at hx
    obtain ⟨u, hu, hRu⟩ := hargs.get i x hx
    have : (args.toArray ++ Array.replicate (fn.ntmps - args.toArray.size) undef).getD i undef = u := by
      have hi : i < args.length := (List.getElem?_eq_some_iff.1 hu).1
      rw [Array.getD_eq_getD_getElem?, Array.getElem?_append_left (by simpa using hi)]
      simp [hu]
    show RA M σ x _
    rw [this]
    exact hRu
  · rintro e a' w' ⟨s', M', σ', ⟨he, r, hr, hφ⟩, hs'⟩
    have key := leaves_marks (fn := fn) (R := R') a'.defers hs' fun M'' w'' hs'' => by
      obtain ⟨U, hU, hRU⟩ := resT_ok hs'' hr
      exact ⟨U, hU, hR r s' M'' σ' _ w'' U hφ hs'' hRU⟩
    rcases he with rfl | rfl
    · exact key
    · exact key

/-- A function that only computes: from arguments that read as xs it returns r; what was there before stays. -/
def Pure (P : Program) (f : FuncId) (xs : List Av) (r : Tv) : Prop := ∀ (M : Nat → Option Obj) (σ : Nat → Loc) (w : World) (args : List Value), (∀ b o, M b = some o → w.heap[b]? = some o) → L2 (RA M σ) xs args →
  Calls P f args.toArray w fun en w' => ∃ U, en = .returned U ∧ ∃ M', Keep w w' M M' never ∧ ∀ σ', RT M' σ' r U
theorem RT_any {M : Nat → Option Obj} {σ σ' : Nat → Loc} {r : Tv} {U : Value} (hd : r.dv = true) (h : RT M σ r U) : RT M σ' r U := by
  have cl : ∀ {c : Cl} {U : Value}, c.dv = true → R M σ c U → R M σ' c U := fun hd h => (R_dv hd).2 ((R_dv hd).1 h)
  have av : ∀ {x : Av} {U : Value}, x.dv = true → RA M σ x U → RA M σ' x U := fun {x U} hd h => by
    cases x with
    | one c => exact cl hd h
    | agg l => obtain ⟨vs, h1, h2⟩ := h; exact ⟨vs, h1, h2.mono fun c hc b hb => cl ((List.all_eq_true.1 hd) c hc) hb⟩
  cases r with
  | av x => exact av hd h
  | tup l => obtain ⟨vs, h1, h2⟩ := h; exact ⟨vs, h1, h2.mono fun c hc b hb => av ((List.all_eq_true.1 hd) c hc) hb⟩
  | grd g x => cases hd
theorem pure_of_aw {f : FuncId} {fn : Func} {c : Code} (hf : P.funcs[f]? = some fn) (hb : fn.body = some c) {xs : List Av} {r : Tv} (hN : Nat.ble xs.length fn.ntmps = true) (hd : r.dv = true)
    (h : ∀ (W0 : World) (M0 : Nat → Option Obj), AWp P none fn.ntmps W0 noX M0 c (RetQ P fn fun r' _ => r' = r) ⟨entryT 0 xs, []⟩) : Pure P f xs r := by
  intro M σ w args himm hargs
  refine calls_of_aw (X := noX) (σ := σ) (h0 := []) hf hb (Nat.le_of_ble_eq_true hN) himm hargs (fun n b h => by cases h) (fun n b h => by cases h) (fun n x h => by cases h) (fun n m b c h => by cases h) (h w M) ?_
  rintro r' s' M' σ' a' w' U rfl hs hR
  exact ⟨U, rfl, M', ⟨hs.os, hs.tape, hs.output, hs.size, fun b hb _ => hs.old b hb (not_inX b), hs.sub, hs.new, hs.imm⟩, fun σ'' => RT_any hd hR⟩
theorem callOk_pure {f : FuncId} {xs : List Av} {cs : List Prop} {r : Tv} (h1 : ∀ args w, (callFunc f args).run P w = .ok (.enter f args) w) (h : AllP cs → Pure P f xs r) : CallOk P f xs (.val cs r) := by
  refine .inl ⟨h1, fun M σ w h' args cs' g hs hargs hr hc => ?_⟩
  obtain ⟨rfl, rfl⟩ := res_val hr
  refine (h hc M σ w args hs.imm hargs).mono ?_
  rintro en w' ⟨U, hU, M', hk, hR⟩
  exact ⟨U, hU, fun dst _ => ⟨M', σ, hk, rfl, hR σ⟩⟩
end
end Go.Proofs.Ytgmhnkoifdpemaa
