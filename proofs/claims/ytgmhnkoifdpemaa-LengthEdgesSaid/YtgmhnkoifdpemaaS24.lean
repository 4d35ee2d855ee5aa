/-
  No statement is proved in this text. It holds rules for iterators: what a text does that calls the function that it is handed.
-/
import Derived.Test.YtgmhnkoifdpemaaS23
namespace Go.Proofs.Ytgmhnkoifdpemaa
open Go.RowKit
set_option linter.unusedSimpArgs false
set_option linter.unusedVariables false
abbrev IQ := Exit → AS → (World → Prop) → Bool → Prop
/-- What an iterator may rely on: nothing that it holds lies in the caller's own blocks; if the function that it was handed has said 'no more', nothing. -/
def IOk (Ow : Nat → Prop) (n0 : Nat) (al : Bool) (M : Nat → Option Obj) (W0 : World) : Prop := al = true → n0 ≤ W0.heap.size ∧ ∀ b o, M b = some o → ¬ Ow b
/-- What a text of an iterator does from the state s on; J holds of the world that is looked back at, which may be another one behind it. -/
def IWp (P : Program) (N : Nat) (Ow : Nat → Prop) (n0 : Nat) (c : Code) (Q : IQ) (s : AS) (J : World → Prop) (al : Bool) : Prop :=
  ∀ W0 M σ a w, (J W0 ∧ a.defers = [] ∧ IOk Ow n0 al M W0) → Sim N W0 noX M M σ (get s.t) (get s.h) a w → c.wpIn (FW none) 0 P (fun e a' w' => ∃ s' J' al' W0' M' σ', Q e s' J' al' ∧ (J' W0' ∧ a'.defers = [] ∧ IOk Ow n0 al' M' W0') ∧ Sim N W0' noX M' M' σ' (get s'.t) (get s'.h) a' w') a w
def ITh (K : AS → (World → Prop) → Bool → Prop) (Q : IQ) : IQ
  | .normal, s, J, M => K s J M
  | e, s, J, M => Q e s J M
def IBl (id : Nat) (Q : IQ) : IQ
  | .exit id', s, J, M => if id' = id then Q .normal s J M else Q (.exit id') s J M
  | e, s, J, M => Q e s J M
theorem tv_dv_no {d : Nat} {v : Tv} (h : v.dv = true) : v.no d = true := by
  cases v with
  | av x => exact av_dv_no h
  | tup l =>
    simp only [Tv.dv, Tv.no, List.all_eq_true] at *
    exact fun x hx => av_dv_no (h x hx)
  | grd g x => cases h
section
variable {P : Program} {N : Nat} {Ow : Nat → Prop} {n0 : Nat} {Q : IQ} {s : AS} {J : World → Prop} {al : Bool} {Mc : Nat → Option Obj}
def flatN (N b : Nat) (m : Nat) : Option Loc := bif Nat.beq m N then some ⟨b, 424242, true⟩ else none
theorem flatN_of {b m : Nat} {x : Loc} (hx : flatN N b m = some x) : m = N ∧ x = ⟨b, 424242, true⟩ := by
  unfold flatN at hx
  cases hb : Nat.beq m N with
  | true => rw [hb] at hx; injection hx with hx; exact ⟨Nat.eq_of_beq_eq_true hb, hx.symm⟩
  | false => rw [hb] at hx; cases hx
theorem flatN_in {b b' : Nat} (h : inX (flatN N b) b') : b' = b := by
  obtain ⟨m, x, h1, h2⟩ := h
  rw [(flatN_of h1).2] at h2
  exact h2.symm
theorem flatN_flat {b : Nat} : Flat (flatN N b) := ⟨N, ⟨b, 424242, true⟩, by unfold flatN; rw [Nat.beq_refl]; rfl, rfl, rfl⟩
theorem sim_flat {W0 w : World} {M : Nat → Option Obj} {σ : Nat → Loc} {a : Act} (hdv : ∀ i v, get s.t i = some v → v.dv = true) (hh : s.h = []) (hd : a.defers = []) (hs : Sim N W0 noX Mc M σ (get s.t) (get s.h) a w) :
    Sim N W0 (flatN N W0.heap.size) Mc M (upd σ N ⟨W0.heap.size, 424242, true⟩) (get s.t) (get s.h) a w := by
  refine ⟨hs.os, hs.tape, hs.output, hs.size, fun b hb _ => hs.old b hb (not_inX b), hs.sub, hs.new, fun m x hx => ?_, ⟨by rw [hd]; trivial, fun _ => hd⟩, hs.room, fun i v hv => RT_mono (fun _ _ h => h) (fun d hd => ?_) (hs.tmps i v hv), hs.imm, fun n b hb => ?_, fun n b hb => ?_, fun n m b c hb => ?_⟩
  · obtain ⟨rfl, rfl⟩ := flatN_of hx
    exact ⟨Nat.le_refl _, by unfold upd; rw [Nat.beq_refl]; rfl⟩
  · rw [tv_dv_no (hdv i v hv)] at hd; cases hd
  all_goals rw [hh] at hb; cases hb
theorem sim_unflat {W0 w : World} {M : Nat → Option Obj} {σ : Nat → Loc} {a : Act} {T : Nat → Option Tv} {H : Nat → Option Blk} (h2 : Sim N W0 (flatN N W0.heap.size) Mc M σ T H a w) : a.defers = [] ∧ Sim N W0 noX M M σ T H a w := by
  have hd := h2.defers.2 flatN_flat
  refine ⟨hd, h2.os, h2.tape, h2.output, h2.size, fun b hb _ => h2.old b hb fun h => ?_, fun _ _ h => h, fun b o h h' => (by rw [h] at h'; cases h'), fun m x hx => (by cases hx), ⟨by rw [hd]; trivial, fun _ => hd⟩, h2.room, h2.tmps, h2.imm, h2.blk, fun n b hb => (h2.loc n b hb).imp id fun h => ⟨h.1, ?_⟩, h2.inj⟩
  · have := flatN_in h; omega
  · rcases h.2 with h | h
    · exact .inl h
    · exact .inl (Nat.le_of_eq (flatN_in h).symm)
theorem iok_new {W0 w : World} {M M' : Nat → Option Obj} {X : Nat → Option Loc} {σ : Nat → Loc} {T : Nat → Option Tv} {H : Nat → Option Blk} {a : Act} (h : IOk Ow n0 al M W0) (hO : ∀ b, Ow b → b < n0) (hs : Sim N W0 X M M' σ T H a w) : IOk Ow n0 al M' W0 := fun ha => by
  obtain ⟨h1, h2⟩ := h ha
  refine ⟨h1, fun b o hb ho => ?_⟩
  cases hM : M b with
  | some o' => exact h2 b o' hM ho
  | none => have := hs.new b o hb hM; have := hO b ho; omega
/-- A piece in which the function that is handed is not called. -/
theorem iw_lift (hO : ∀ b, Ow b → b < n0) {c : Code} (hdv : ∀ i v, get s.t i = some v → v.dv = true) (hh : s.h = []) (h : ∀ W0 X1 M1, AWp P none N W0 X1 M1 c (fun e s' => Q e s' J al) s) : IWp P N Ow n0 c Q s J al := by
  intro W0 M σ a w hJ hs
  refine wpIn_mono (h W0 _ M M _ a w (sim_flat hdv hh hJ.2.1 hs)) ?_
  rintro e a' w' ⟨s', M', σ', h1, h2⟩
  obtain ⟨hd, h3⟩ := sim_unflat h2
  exact ⟨s', J, al, W0, M', σ', h1, ⟨hJ.1, hd, iok_new hJ.2.2 hO h2⟩, h3⟩
theorem iw_seq {x y : Code} (h : IWp P N Ow n0 x (ITh (fun s' J' M' => IWp P N Ow n0 y Q s' J' M') Q) s J al) : IWp P N Ow n0 (.seq x y) Q s J al := by
  intro W0 M σ a w hJ hs
  refine wpIn_seq (wpIn_mono (h W0 M σ a w hJ hs) ?_)
  rintro e a' w' ⟨s', J', al', W0', M', σ', h1, h2, h3⟩
  cases e with
  | normal => exact h1 W0' M' σ' a' w' h2 h3
  | _ => exact ⟨s', J', al', W0', M', σ', h1, h2, h3⟩
theorem iw_block {id : Nat} {c : Code} (h : IWp P N Ow n0 c (IBl id Q) s J al) : IWp P N Ow n0 (.block id c) Q s J al := by
  intro W0 M σ a w hJ hs
  refine wpIn_block (wpIn_mono (h W0 M σ a w hJ hs) ?_)
  rintro e a' w' ⟨s', J', al', W0', M', σ', h1, h2, h3⟩
  cases e with
  | exit id' =>
    simp only [IBl] at h1
    simp only [Exit.inBlock]
    split
    · rename_i he; rw [if_pos he] at h1; exact ⟨s', J', al', W0', M', σ', h1, h2, h3⟩
    · rename_i he; rw [if_neg he] at h1; exact ⟨s', J', al', W0', M', σ', h1, h2, h3⟩
  | _ => exact ⟨s', J', al', W0', M', σ', h1, h2, h3⟩
theorem iw_cond {c : Operand} {x y : Code} (b : Bool) (hc : evT (get s.t) c = some (.av (.one (.val (.bool b))))) (h1 : b = true → IWp P N Ow n0 x Q s J al) (h2 : b = false → IWp P N Ow n0 y Q s J al) : IWp P N Ow n0 (.cond c x y) Q s J al := by
  intro W0 M σ a w hJ hs
  have hv : a.eval c = .bool b := (evT_ok hs.tmps hc).1
  exact wpIn_cond_split hv (fun hb => h1 hb W0 M σ a w hJ hs) (fun hb => h2 hb W0 M σ a w hJ hs)
theorem iw_skip (h : Q .normal s J al) : IWp P N Ow n0 .skip Q s J al := fun W0 M σ a w hJ hs => wpIn_skip ⟨s, J, al, W0, M, σ, h, hJ, hs⟩
theorem iw_ret (h : Q .ret s J al) : IWp P N Ow n0 .ret Q s J al := fun W0 M σ a w hJ hs => wpIn_ret ⟨s, J, al, W0, M, σ, h, hJ, hs⟩
theorem iw_exit {id : Nat} (h : Q (.exit id) s J al) : IWp P N Ow n0 (.exit id) Q s J al := fun W0 M σ a w hJ hs => wpIn_exit ⟨s, J, al, W0, M, σ, h, hJ, hs⟩
theorem iw_loop {ι : Type} {c : Code} (S : ι → AS) (Jf : ι → World → Prop) (Inv : ι → Prop) (μ : ι → Nat) (round : ∀ x, Inv x → IWp P N Ow n0 c (ITh (fun s' J' al' => ∃ y, Inv y ∧ μ y < μ x ∧ s' = S y ∧ J' = Jf y ∧ al' = al) Q) (S x) (Jf x) al) (x : ι) (hx : Inv x) : IWp P N Ow n0 (.loop c) Q (S x) (Jf x) al := by
  have key : ∀ n x, μ x < n → Inv x → ∀ W0 M σ a w, (Jf x W0 ∧ a.defers = [] ∧ IOk Ow n0 al M W0) → Sim N W0 noX M M σ (get (S x).t) (get (S x).h) a w → Code.roundsIn (FW none) 0 P c (fun e a' w' => ∃ s' J' al' W0' M' σ', Q e s' J' al' ∧ (J' W0' ∧ a'.defers = [] ∧ IOk Ow n0 al' M' W0') ∧ Sim N W0' noX M' M' σ' (get s'.t) (get s'.h) a' w') n a w := by
    intro n
    induction n with
    | zero => intro x h; omega
    | succ n ih =>
      intro x hlt hx W0 M σ a w hJ hs
      rw [roundsIn_succ]
      refine wpIn_mono (round x hx W0 M σ a w hJ hs) ?_
      rintro e a' w' ⟨s', J', al', W0', M', σ', h1, h2, h3⟩
      cases e with
      | normal =>
        obtain ⟨y, hy, hm, rfl, rfl, rfl⟩ := h1
        exact ih y (by omega) hy W0' M' σ' a' w' h2 h3
      | _ => exact ⟨s', J', al', W0', M', σ', h1, h2, h3⟩
  intro W0 M σ a w hJ hs
  exact wpIn_loop_rounds (μ x + 1) (key (μ x + 1) x (Nat.lt_succ_self _) hx W0 M σ a w hJ hs)
end
/-- A value that its cells tell whole. -/
def Cl.isV : Cl → Bool
  | .val _ => true
  | _ => false
def Cl.toV : Cl → Value
  | .val v => v
  | _ => undef
def Av.isV : Av → Bool
  | .one c => c.isV
  | .agg l => l.all Cl.isV
def Av.toV : Av → Value
  | .one c => c.toV
  | .agg l => .agg (l.map Cl.toV).toArray
theorem L2_toV {M : Nat → Option Obj} {σ : Nat → Loc} : ∀ {l : List Cl} {vs : List Value}, L2 (R M σ) l vs → l.all Cl.isV = true → vs = l.map Cl.toV
  | [], _, h, _ => by cases h; rfl
  | c :: l, _, h, hv => by
    cases h with
    | cons h1 h2 =>
      simp only [List.all_cons, Bool.and_eq_true] at hv
      rw [L2_toV h2 hv.2]
      cases c with
      | val v => rw [h1.1]; rfl
      | _ => cases hv.1
theorem RA_toV {M : Nat → Option Obj} {σ : Nat → Loc} {x : Av} {V : Value} (h : RA M σ x V) (hv : x.isV = true) : V = x.toV := by
  cases x with
  | one c =>
    cases c with
    | val v => exact h.1
    | _ => cases hv
  | agg l =>
    obtain ⟨vs, rfl, h2⟩ := h
    rw [L2_toV h2 hv]; rfl
theorem toV_RA {M : Nat → Option Obj} {σ : Nat → Loc} {x : Av} (hv : x.isV = true) (ho : ∀ c ∈ x.cells, c.toV.oneCell' = true) : RA M σ x x.toV := by
  cases x with
  | one c =>
    cases c with
    | val v => exact ⟨rfl, ho (.val v) (by simp [Av.cells])⟩
    | _ => cases hv
  | agg l =>
    refine ⟨_, rfl, ?_⟩
    simp only [Av.isV] at hv
    simp only [Av.cells] at ho
    induction l with
    | nil => exact .nil
    | cons c l ih =>
      simp only [List.all_cons, Bool.and_eq_true] at hv
      refine .cons ?_ (ih hv.2 fun c hc => ho c (List.mem_cons_of_mem _ hc))
      cases c with
      | val v => exact ⟨rfl, ho (.val v) (List.mem_cons_self ..)⟩
      | _ => cases hv.1
section
variable {P : Program} {V : Env P} {N : Nat} {W0 : World} {X : Nat → Option Loc} {M0 M : Nat → Option Obj} {σ : Nat → Loc} {w : World} {a : Act}
/-- A call of the function that an iterator is handed. -/
theorem yield_wp {o : Oper} {c : Call} {f : Operand} {ly : Nat} {xs : List Av} {T : Nat → Option Tv} (hT : ∀ i v, T i = some v → RT M σ v (a.tmps.getD i undef)) (ho : o.op = .call c) (hcf : c.callee = .value f) (hf : evT T f = some (.av (.one (.val (.func (.yield ly) #[] #[]))))) (hxs : argsC (evT T) c.args.toList = some xs) (hv : xs.all Av.isV = true)
    {R : Ending → World → Prop} (hY : YieldAt (FW none) 0 P ly (xs.map Av.toV).toArray w R) {K : Act → World → Prop} {Q : Exit → Act → World → Prop} (hK : ∀ e w', R e w' → ∃ V, e = .returned V ∧ K (a.put o.dst V) w') : o.wpIn (FW none) 0 P a w K Q := by
  obtain ⟨fn, tmps, assign, body, hy, hR⟩ := hY
  refine ⟨fun _ _ => trivial, ?_⟩
  rw [Oper.semAt_eq _ _ _ (fun d h => by rw [ho] at h; cases h)]
  have hfv := (evT_ok hT hf).1
  have hargs := args_ok (fun x v => evT_ok hT) _ _ hxs
  have hmap : c.args.map a.eval = (xs.map Av.toV).toArray := by
    have e : c.args.toList.map a.eval = xs.map Av.toV := by
      clear hxs hy hR
      revert hargs hv
      generalize c.args.toList.map a.eval = vs
      intro hv hargs
      induction hargs with
      | nil => rfl
      | cons h1 _ ih =>
        simp only [List.all_cons, Bool.and_eq_true] at hv
        rw [ih hv.2, List.map_cons, RA_toV h1 hv.1]
    rw [← e]
    apply Array.ext'; simp
  have hres : (execOp a.eval o).run P w = .ok (.round ly fn tmps assign body) w := by
    simp only [execOp, ho, Sem.run_bind, resolve, hcf, hfv, Deferred.ofValue, hmap]
    simpa [invoke] using hy
  rw [hres, Oper.uponIn_round]
  refine ⟨fun h => (by cases h), ?_⟩
  have h1 : RoundIn (FW none) (0 - 1) P ly fn tmps assign body w R := hR
  refine h1.mono ?_
  rintro e w' he
  obtain ⟨V, rfl, hk⟩ := hK e w' he
  exact hk
end
end Go.Proofs.Ytgmhnkoifdpemaa
