/-
  No statement is proved in this text. It holds the rule for a region whose order is drawn, in which an iterator calls the function that it is handed.
-/
import Derived.Test.YtgmhnkoifdpemaaS24
namespace Go.Proofs.Ytgmhnkoifdpemaa
open Go.RowKit
set_option linter.unusedSimpArgs false
set_option linter.unusedVariables false
section
variable {P : Program} {V : Env P} {rd : Option Nat} {N : Nat} {W0 : World} {X : Nat → Option Loc} {M0 : Nat → Option Obj} {l1 l2 : List Oper} {o : Oper} {s0 : AS}
theorem getD_tf {L : Array Bool} {j : Nat} (h : j < L.size) : L.getD j true = L.getD j false := by simp [h]
theorem closed_head {l r : List Oper} {L : Array Bool} (h : Closed (l ++ r) L) : Closed l L := fun j o ho => h j o (by rw [List.getElem?_append_left (List.getElem?_eq_some_iff.1 ho).1]; exact ho)
theorem head_any (hV : EnvOk P V) (hrun : RunsOk P V N l1 s0) (hback1 : backB l1 = true) (hord : Ordered P V N l1 s0 (fun j i => ((masks l1 []).getD j 0).testBit i = true)) (hback : backB (l1 ++ o :: l2) = true)
    (hk : ∀ j, j < l1.length → ((masks (l1 ++ o :: l2) []).getD l1.length 0).testBit j = true) (hlater : ∀ i, l1.length < i → i < (l1 ++ o :: l2).length → ((masks (l1 ++ o :: l2) []).getD i 0).testBit l1.length = true) (hg : ∀ x ∈ l1, x.guard = none)
    {Q : Exit → Act → World → Prop} (hlast : ∀ (f : Nat) (L : Array Bool) (a : Act) (w : World), L.size = (l1 ++ o :: l2).length → (∀ j, L.getD j false = decide (j < l1.length)) → (List.range (l1 ++ o :: l2).length).countP (fun j => !L.getD j false) ≤ f + 1 →
      (∃ M σ, Sim N W0 X M0 M σ (get (stN P V N l1 s0 l1.length).t) (get (stN P V N l1 s0 l1.length).h) a w) → wpOpIn (FW rd) 0 P (l1 ++ o :: l2).toArray Q l1.length (wpAnyIn (FW rd) 0 P .any (l1 ++ o :: l2).toArray Q f (L.setIfInBounds l1.length true)) a w) :
    ∀ (f : Nat) (L : Array Bool) (a : Act) (w : World), L.size = (l1 ++ o :: l2).length → Closed (l1 ++ o :: l2) L → (∀ j, l1.length ≤ j → L.getD j false = false) → (List.range (l1 ++ o :: l2).length).countP (fun j => !L.getD j false) ≤ f → InvL P V N W0 X M0 l1 s0 L a w → wpAnyIn (FW rd) 0 P .any (l1 ++ o :: l2).toArray Q f L a w := by
  have hlen : (l1 ++ o :: l2).length = l1.length + (l2.length + 1) := by simp
  intro f
  induction f with
  | zero =>
    intro L a w hsz hcl hno hcnt hinv
    exfalso
    have h0 : (List.range (l1 ++ o :: l2).length).countP (fun j => !L.getD j false) = 0 := by omega
    rw [List.countP_eq_zero] at h0
    have := h0 l1.length (List.mem_range.2 (by omega))
    rw [hno _ (Nat.le_refl _)] at this
    simp at this
  | succ f ih =>
    intro L a w hsz hcl hno hcnt hinv
    have anc := fun i o' ho' hpre => closed_anc hback hcl (i + 1) i (Nat.lt_succ_self _) o' ho' hpre
    have allready : ∀ n j, j < n → j < (l1 ++ o :: l2).length → Region.ready .any (l1 ++ o :: l2).toArray L = [] → L.getD j false = true := by
      intro n
      induction n with
      | zero => intro j h; omega
      | succ n ihn =>
        intro j hj hjl hr
        cases hd : L.getD j false with
        | true => rfl
        | false =>
          have ho := List.getElem?_eq_getElem hjl
          have : j ∈ Region.ready .any (l1 ++ o :: l2).toArray L := by
            rw [mem_ready]
            refine ⟨?_, (l1 ++ o :: l2)[j], by simp, fun e he hb => ?_⟩
            · have hj' : j < L.size := by omega
              simp [hj'] at hd ⊢; exact hd
            · have h1 := (List.all_eq_true.1 hback) ((l1 ++ o :: l2)[j], j) (List.mem_zipIdx_iff_getElem?.2 ho)
              have h2 := (List.all_eq_true.1 h1) e (by simpa using he)
              simp only [hb, Bool.not_true, Bool.false_or] at h2
              have hlt := Nat.le_of_ble_eq_true h2
              exact ihn e.on (by omega) (by omega) hr
          rw [hr] at this; cases this
    refine ⟨fun hr => ?_, fun i hi => ?_⟩
    · exfalso
      have := allready (l1.length + 1) l1.length (by omega) (by omega) hr
      rw [hno _ (Nat.le_refl _)] at this; cases this
    · rw [mem_ready] at hi
      obtain ⟨h1, oi, hoi, hpre⟩ := hi
      have ho' : (l1 ++ o :: l2)[i]? = some oi := by simpa using hoi
      have hil : i < (l1 ++ o :: l2).length := (List.getElem?_eq_some_iff.1 ho').1
      have hun : L.getD i false = false := by
        have hi' : i < L.size := by omega
        simp [hi'] at h1 ⊢; exact h1
      rcases Nat.lt_trichotomy i l1.length with hlt | heq | hgt
      · have ho1 : l1[i]? = some oi := by rw [List.getElem?_append_left hlt] at ho'; exact ho'
        unfold wpOpIn
        rw [hoi]
        have hfin := draw_step (rd := rd) (a := a) (w := w) (Q := Q) (K := wpAnyIn (FW rd) 0 P .any (l1 ++ o :: l2).toArray Q f (L.setIfInBounds i true)) hV hrun hback1 hord (by omega) (closed_head hcl) hinv ho1 hun hpre fun a' w' hinv' => by
          refine ih _ a' w' (by simp [hsz]) ?_ (fun j hj => ?_) ?_ hinv'
          · intro j oj hj hd e he hb
            by_cases hji : j = i
            · subst hji
              rw [ho'] at hj; injection hj with hj; subst hj
              exact getD_set_true (hpre e he hb)
            · rw [getD_set_ne false (Ne.symm hji)] at hd
              exact getD_set_true (hcl j oj hj hd e he hb)
          · rw [getD_set_ne false (by omega)]; exact hno j hj
          · have hlt2 : (List.range (l1 ++ o :: l2).length).countP (fun j => !(L.setIfInBounds i true).getD j false) < (List.range (l1 ++ o :: l2).length).countP (fun j => !L.getD j false) := by
              refine countP_lt ?_ (List.mem_range.2 hil) ?_ ?_
              · intro j _ hj
                by_cases hji : i = j
                · subst hji; simp [show i < L.size by omega] at hj
                · rwa [getD_set_ne false hji] at hj
              · rw [hun]; rfl
              · simp [show i < L.size by omega]
            omega
        have hgi : oi.guard = none := hg oi (List.mem_of_getElem? ho1)
        have hw : ∀ ys, Region.wanted oi ys = true := fun ys => by simp [Region.wanted, hgi]
        simp only [hw, if_true] at hfin ⊢
        exact hfin
      · subst heq
        have hall : ∀ j, L.getD j false = decide (j < l1.length) := fun j => by
          by_cases hj : j < l1.length
          · rw [decide_eq_true hj]
            exact (anc l1.length oi ho' hpre j (hk j hj)).1
          · rw [decide_eq_false hj]
            exact hno j (by omega)
        refine hlast f L a w hsz hall hcnt ?_
        obtain ⟨M, σ, T, H, hs, hT, hH⟩ := hinv
        have eT : T = get (stN P V N l1 s0 l1.length).t := by
          funext x
          obtain ⟨k, hk2, hag, he⟩ := hT x
          rw [he]
          refine same_t hrun hk2 (Nat.le_refl _) hag fun j oj hj hd => ?_
          have hjl : j < l1.length := (List.getElem?_eq_some_iff.1 hj).1
          exact ⟨fun _ => hjl, fun _ => by rw [hall, decide_eq_true hjl]⟩
        have eH : H = get (stN P V N l1 s0 l1.length).h := by
          funext x
          obtain ⟨k, hk2, hag, he⟩ := hH x
          rw [he]
          refine same_h hrun hk2 (Nat.le_refl _) hag fun j oj hj hd => ?_
          have hjl : j < l1.length := (List.getElem?_eq_some_iff.1 hj).1
          exact ⟨fun _ => hjl, fun _ => by rw [hall, decide_eq_true hjl]⟩
        rw [eT, eH] at hs
        exact ⟨M, σ, hs⟩
      · exfalso
        have := (anc i oi ho' hpre l1.length (hlater i hgt hil)).1
        rw [hno _ (Nat.le_refl _)] at this; cases this
/-- Two operations at most are left, the one behind the other. -/
theorem tail_any (hback : backB (l1 ++ o :: l2) = true) (h2 : l2.length ≤ 1) {Q : Exit → Act → World → Prop} {f : Nat} {L : Array Bool} {a : Act} {w : World} (hsz : L.size = (l1 ++ o :: l2).length) (hall : ∀ j, L.getD j false = decide (j < l1.length)) (hcnt : (List.range (l1 ++ o :: l2).length).countP (fun j => !L.getD j false) ≤ f + 1)
    (hg : ∀ x ∈ l2, x.guard = none) (hQ1 : l2 = [] → Q .normal a w) (hQ2 : ∀ u, l2 = [u] → u.wpIn (FW rd) 0 P a w (fun a' w' => Q .normal a' w') Q) : wpAnyIn (FW rd) 0 P .any (l1 ++ o :: l2).toArray Q f (L.setIfInBounds l1.length true) a w := by
  have hL1 : ∀ j, (L.setIfInBounds l1.length true).getD j false = decide (j < l1.length + 1) := fun j => by
    by_cases hj : l1.length = j
    · subst hj
      have hlt : l1.length < L.size := by rw [hsz]; simp
      simp [hlt]
    · rw [getD_set_ne false hj, hall]
      exact decide_eq_decide.2 (by omega)
  have hdone : ∀ (L' : Array Bool) (f' : Nat) (a' : Act) (w' : World), L'.size = (l1 ++ o :: l2).length → (∀ j, j < (l1 ++ o :: l2).length → L'.getD j false = true) → Q .normal a' w' → wpAnyIn (FW rd) 0 P .any (l1 ++ o :: l2).toArray Q f' L' a' w' := by
    intro L' f' a' w' hs' hd' hq
    have hr : Region.ready .any (l1 ++ o :: l2).toArray L' = [] := by
      rw [List.eq_nil_iff_forall_not_mem]
      intro j hj
      rw [mem_ready] at hj
      obtain ⟨h1, oj, hoj, _⟩ := hj
      have hjl : j < (l1 ++ o :: l2).length := (List.getElem?_eq_some_iff.1 (by simpa using hoj : (l1 ++ o :: l2)[j]? = some oj)).1
      have := hd' j hjl
      have hj' : j < L'.size := by omega
      simp [hj'] at h1 this
      rw [h1] at this; cases this
    cases f' with
    | zero => exact ⟨hr, hq⟩
    | succ f' => exact ⟨fun _ => hq, fun i hi => by rw [hr] at hi; cases hi⟩
  cases l2 with
  | nil => exact hdone _ _ _ _ (by simpa using hsz) (fun j hj => by rw [hL1]; simp at hj; exact decide_eq_true hj) (hQ1 rfl)
  | cons u r =>
    have hr0 : r = [] := by
      cases r with
      | nil => rfl
      | cons => simp at h2
    subst hr0
    have hlen : (l1 ++ o :: [u]).length = l1.length + 2 := by simp
    cases f with
    | zero =>
      exfalso
      have hlt : (List.range (l1 ++ o :: [u]).length).countP (fun j => !(L.setIfInBounds l1.length true).getD j false) < (List.range (l1 ++ o :: [u]).length).countP (fun j => !L.getD j false) := by
        refine countP_lt ?_ (List.mem_range.2 (show l1.length < _ by omega)) ?_ ?_
        · intro j _ hj
          rw [hL1] at hj
          rw [hall]
          simp at hj ⊢; omega
        · rw [hall]; simp
        · rw [hL1]; simp
      have h0 : (List.range (l1 ++ o :: [u]).length).countP (fun j => !(L.setIfInBounds l1.length true).getD j false) = 0 := by omega
      rw [List.countP_eq_zero] at h0
      have := h0 (l1.length + 1) (List.mem_range.2 (by omega))
      rw [hL1] at this
      simp at this
    | succ f =>
      have hu : (l1 ++ o :: [u])[l1.length + 1]? = some u := by rw [List.getElem?_append_right (by omega)]; simp
      refine ⟨fun hr => ?_, fun i hi => ?_⟩
      · exfalso
        have : l1.length + 1 ∈ Region.ready .any (l1 ++ o :: [u]).toArray (L.setIfInBounds l1.length true) := by
          rw [mem_ready]
          refine ⟨?_, u, by simp, fun e he hb => ?_⟩
          · rw [getD_tf (by simp [hsz]), hL1]
            exact decide_eq_false (by omega)
          · have h1 := (List.all_eq_true.1 hback) (u, l1.length + 1) (List.mem_zipIdx_iff_getElem?.2 hu)
            have h3 := (List.all_eq_true.1 h1) e (by simpa using he)
            simp only [hb, Bool.not_true, Bool.false_or] at h3
            have hlt := Nat.le_of_ble_eq_true h3
            rw [hL1]
            exact decide_eq_true (by omega)
        rw [hr] at this; cases this
      · rw [mem_ready] at hi
        obtain ⟨h1, oi, hoi, hpre⟩ := hi
        have ho' : (l1 ++ o :: [u])[i]? = some oi := by simpa using hoi
        have hil : i < (l1 ++ o :: [u]).length := (List.getElem?_eq_some_iff.1 ho').1
        have hi1 : i = l1.length + 1 := by
          have h3 := hL1 i
          have h4 : i < (L.setIfInBounds l1.length true).size := by simp [hsz]; omega
          rw [getD_tf h4, h3] at h1
          have h5 := of_decide_eq_false h1
          omega
        subst hi1
        rw [hu] at ho'; injection ho' with ho'; subst ho'
        unfold wpOpIn
        rw [hoi]
        have hw : ∀ ys, Region.wanted u ys = true := fun ys => by simp [Region.wanted, hg u (by simp)]
        simp only [hw, if_true]
        refine Oper.wpIn_mono (fun a' w' hq => hdone _ _ _ _ (by simp [hsz]) (fun j hj => ?_) hq) (hQ2 u rfl)
        by_cases hji : l1.length + 1 = j
        · subst hji
          have h4 : l1.length + 1 < (L.setIfInBounds l1.length true).size := by simp [hsz]
          simp at h4
          simp [h4]
        · rw [getD_set_ne false hji, hL1]
          exact decide_eq_true (by omega)
end
def noM : Nat → Option Obj := fun _ => none
def celM (M : Nat → Option Obj) (b : Nat) : Option Obj := match M b with
  | some (.cells c t f) => some (.cells c t f)
  | _ => none
theorem celM_of {M : Nat → Option Obj} {b : Nat} {o : Obj} (h : celM M b = some o) : M b = some o ∧ o.isCells = true := by
  unfold celM at h
  cases hM : M b with
  | none => rw [hM] at h; cases h
  | some o' =>
    rw [hM] at h
    cases o' with
    | cells c t f => injection h with h; subst h; exact ⟨rfl, rfl⟩
    | _ => cases h
theorem celM_cells {M : Nat → Option Obj} (b : Nat) (c : Array Value) (t : TypeId) (f : Nat × Nat) (h : M b = some (.cells c t f)) : celM M b = some (.cells c t f) := by unfold celM; rw [h]
def maskB (l1 : List Oper) (o : Oper) (l2 : List Oper) : Bool :=
  backB (l1 ++ o :: l2) && ((List.range l1.length).all fun j => ((masks (l1 ++ o :: l2) []).getD l1.length 0).testBit j) && ((List.range l2.length).all fun j => ((masks (l1 ++ o :: l2) []).getD (l1.length + 1 + j) 0).testBit l1.length) &&
  (l1 ++ o :: l2).all fun x => match x.guard with | none => true | some _ => false
section
variable {P : Program} {N : Nat} {Ow : Nat → Prop} {n0 : Nat} {Q : IQ} {s : AS} {J : World → Prop}
theorem iw_yield (hO : ∀ b, Ow b → b < n0) (hm : P.follows .mixedOrders = true) {E : TypeId → Option (List Kd)} (hE : EqOk P ⟨fun _ => none, E, fun _ => false, fun _ => none⟩) {id : Nat} (l1 : List Oper) (o : Oper) (l2 : List Oper) (ow : List Nat) (qs : List (Nat × (Bool × Nat))) (ts ts2 : List Nat) (cs : List Prop) (T1 : List (Nat × Tv))
    (hr : runK P ⟨getO [], E, memO ow, get qs⟩ N l1 ts [] s = some (cs, ⟨T1, []⟩)) (hdraw : drawB P ⟨getO [], E, memO ow, get qs⟩ N l1 s = true) (hc : AllP cs) (hms : maskB l1 o l2 = true) (h2 : l2.length ≤ 1) {c : Call} {f : Operand} {ly d : Nat} (xs : List Av) (ho : o.op = .call c) (hcf : c.callee = .value f)
    (hf : evT (get T1) f = some (.av (.one (.val (.func (.yield ly) #[] #[]))))) (hxs : argsC (evT (get T1)) c.args.toList = some xs) (hv : xs.all Av.isV = true) (hod : o.dst = some d) (hdN : Nat.blt d N = true) (hT1 : ∀ i v, get T1 i = some v → v.dv = true ∧ TvM v)
    (hJg : ∀ A B, J A → A.grownBy B none → J B) (Jt Jf : World → Prop)
    (hY : ∀ W, J W → YieldAt (FW none) 0 P ly (xs.map Av.toV).toArray W (fun e W' => (e = .returned (.bool true) ∧ Jt W' ∧ KpS Ow W W') ∨ (e = .returned (.bool false) ∧ Jf W')))
    (c2 c3 : List Prop) (St Sf : AS) (h2t : runK P ⟨getO [], E, memO ow, get qs⟩ N l2 ts2 [] ⟨(d, tB true) :: T1, []⟩ = some (c2, St)) (hc2 : AllP c2) (h2f : runK P ⟨getO [], E, memO ow, get qs⟩ N l2 ts2 [] ⟨[(d, tB false)], []⟩ = some (c3, Sf)) (hc3 : AllP c3)
    (hQt : Q .normal St Jt true) (hQf : Q .normal Sf Jf false) (hdv : ∀ i v, get s.t i = some v → v.dv = true) (hh : s.h = []) : IWp P N Ow n0 (.region id (l1 ++ o :: l2).toArray true) Q s J true := by
  have hV : EnvOk P ⟨getO [], E, memO ow, get qs⟩ := (TblOk.nil (P := P)).env (O := memO ow) (q := get qs) hE
  simp only [maskB, Bool.and_eq_true] at hms
  obtain ⟨⟨⟨hback, hk⟩, hl⟩, hgs⟩ := hms
  have hguard : ∀ x ∈ l1 ++ o :: l2, x.guard = none := fun x hx => by
    have := List.all_eq_true.1 hgs x hx
    cases hg : x.guard with
    | none => rfl
    | some _ => rw [hg] at this; cases this
  intro W0 M σ a w hJ hs
  have hK : ∀ {l : List Oper} {u : List Nat} {a b : AS} {cc : List Prop}, runK P ⟨getO [], E, memO ow, get qs⟩ N l u [] a = some (cc, b) → ∃ b1, runL P ⟨getO [], E, memO ow, get qs⟩ N l.toArray l a = some (cc, b1) ∧ keepS u [] b1 = b := by
    intro l u a b cc h
    unfold runK at h
    split at h
    · rename_i c1 b1 h1
      simp only [Option.some.injEq, Prod.mk.injEq] at h
      obtain ⟨rfl, h⟩ := h
      exact ⟨b1, h1, h⟩
    · cases h
  obtain ⟨s1, hr1, hkeep⟩ := hK hr
  obtain ⟨e1, hruns⟩ := stN_of_run (s0 := s) l1 0 s s1 cs (fun j => by rw [Nat.zero_add]) rfl hr1 hc
  simp only [Nat.zero_add] at e1 hruns
  obtain ⟨hback1, hord⟩ := ordered_of hdraw
  have hs1 := sim_flat hdv hh hJ.2.1 hs
  have hs0 : Sim N W0 (flatN N W0.heap.size) M M (upd σ N ⟨W0.heap.size, 424242, true⟩) (get s.t) (get s.h) a { w with drawn := w.drawn + 1 } := ⟨hs1.os, hs1.tape, hs1.output, hs1.size, hs1.old, hs1.sub, hs1.new, hs1.pin, hs1.defers, hs1.room, hs1.tmps, hs1.imm, fun n b hb => (hs1.blk n b hb).mono (fun _ _ h => h) (fun _ _ => rfl) (fun _ => rfl), hs1.loc, hs1.inj⟩
  have hrep : ∀ (n j : Nat), (Array.replicate n false).getD j false = false := fun n j => by
    by_cases hj' : j < n
    · simp [hj']
    · simp [hj']
  have hinv : InvL P ⟨getO [], E, memO ow, get qs⟩ N W0 (flatN N W0.heap.size) M l1 s (Array.replicate (l1 ++ o :: l2).toArray.size false) a { w with drawn := w.drawn + 1 } :=
    ⟨M, _, get s.t, get s.h, hs0, fun x => ⟨0, Nat.zero_le _, fun j o hj hd => ⟨fun hh => (by rw [hrep] at hh; cases hh), fun hh => absurd hh (by omega)⟩, rfl⟩, fun m => ⟨0, Nat.zero_le _, fun j o hj hd => ⟨fun hh => (by rw [hrep] at hh; cases hh), fun hh => absurd hh (by omega)⟩, rfl⟩⟩
  refine wpIn_region_any hm (head_any (rd := none) hV hruns hback1 hord hback (fun j hj => List.all_eq_true.1 hk j (List.mem_range.2 hj)) (fun i h3 h4 => ?_) (fun x hx => hguard x (List.mem_append_left _ hx)) (fun f L a1 w1 hsz hall hcnt hsim => ?_) _ _ a _ (by simp) (fun j oj _ hd => by rw [hrep] at hd; cases hd) (fun j _ => hrep _ j) (Nat.le_trans List.countP_le_length (by simp)) hinv)
  · have := List.all_eq_true.1 hl (i - (l1.length + 1)) (List.mem_range.2 (by simp at h4; omega))
    rwa [show l1.length + 1 + (i - (l1.length + 1)) = i by omega] at this
  · obtain ⟨M1, σ1, hs2⟩ := hsim
    rw [← e1] at hs2
    have hs2 := sim_keep hs2 ts []
    rw [hkeep] at hs2
    obtain ⟨hd1, hs3⟩ := sim_unflat hs2
    have hgrow : W0.grownBy w1 none := { os := hs3.os, tape := hs3.tape, output := hs3.output, size := hs3.size, block := fun b hb _ => hs3.old b hb (not_inX b) }
    have hJ1 := hJg W0 w1 hJ.1 hgrow
    have hiok := iok_new hJ.2.2 hO hs2
    have hok : (l1 ++ o :: l2).toArray[l1.length]? = some o := by simp
    unfold wpOpIn
    rw [hok]
    have hw : ∀ ys, Region.wanted o ys = true := fun ys => by simp [Region.wanted, hguard o (by simp)]
    simp only [hw, if_true]
    have hdN' : d < N := by have := Nat.le_of_ble_eq_true hdN; omega
    have hput : ∀ (b : Bool) (T : List (Nat × Tv)) (M' : Nat → Option Obj) (σ' : Nat → Loc), (∀ i v, get T i = some v → RT M' σ' v (a1.tmps.getD i undef)) → ∀ i v, get ((d, tB b) :: T) i = some v → RT M' σ' v ((a1.put o.dst (.bool b)).tmps.getD i undef) := fun b T M' σ' hT i v hv => by
      have hds : d < a1.tmps.size := by rw [hs3.room]; exact hdN'
      simp only [get, beqN] at hv
      rw [hod]
      by_cases hi : d = i
      · subst hi
        simp at hv; subst hv
        have : (a1.put (some d) (.bool b)).tmps.getD d undef = .bool b := by simp [Act.put, Array.getD_eq_getD_getElem?, hds]
        rw [this]
        exact ⟨rfl, rfl⟩
      · simp [hi] at hv
        have : (a1.put (some d) (.bool b)).tmps.getD i undef = a1.tmps.getD i undef := by simp [Act.put, Array.getD_eq_getD_getElem?, Array.getElem?_setIfInBounds, hi]
        rw [this]; exact hT i v hv
    have hsize : ∀ b : Bool, (a1.put o.dst (.bool b)).tmps.size = N := fun b => by rw [hod]; simpa [Act.put] using hs3.room
    have hdef : ∀ b : Bool, (a1.put o.dst (.bool b)).defers = [] := fun b => by rw [hod]; simpa [Act.put] using hd1
    have hgo : ∀ (b : Bool) (w2 : World) (T : List (Nat × Tv)) (Mn : Nat → Option Obj) (S2 : AS) (cx : List Prop) (J2 : World → Prop) (al2 : Bool), IOk Ow n0 al2 Mn w2 → (∀ i v, get T i = some v → v.dv = true) → (∀ i v, get T i = some v → RT Mn σ1 v (a1.tmps.getD i undef)) → (∀ b o, Mn b = some o → w2.heap[b]? = some o) →
        runK P ⟨getO [], E, memO ow, get qs⟩ N l2 ts2 [] ⟨(d, tB b) :: T, []⟩ = some (cx, S2) → AllP cx → Q .normal S2 J2 al2 → J2 w2 →
        wpAnyIn (FW none) 0 P .any (l1 ++ o :: l2).toArray (fun e a' w' => ∃ s' J' al' W0' M' σ', Q e s' J' al' ∧ (J' W0' ∧ a'.defers = [] ∧ IOk Ow n0 al' M' W0') ∧ Sim N W0' noX M' M' σ' (get s'.t) (get s'.h) a' w') f (L.setIfInBounds l1.length true) (a1.put o.dst (.bool b)) w2 := by
      intro b w2 T Mn S2 cx J2 al2 hiok2 hdvT hT himm2 hrun2 hcx hQ2 hJ2
      have hs4 : Sim N w2 noX Mn Mn σ1 (get ((d, tB b) :: T)) (get []) (a1.put o.dst (.bool b)) w2 := ⟨rfl, rfl, rfl, Nat.le_refl _, fun _ _ _ => rfl, fun _ _ h => h, fun b o h h' => (by rw [h] at h'; cases h'), fun m x hx => (by cases hx), ⟨by rw [hdef b]; trivial, fun _ => hdef b⟩, hsize b, hput b T Mn σ1 hT, himm2, fun n b hb => (by cases hb), fun n b hb => (by cases hb), fun n m b c hb => (by cases hb)⟩
      have hdv2 : ∀ i v, get ((d, tB b) :: T) i = some v → v.dv = true := fun i v hv => by
        simp only [get, beqN] at hv
        by_cases hi : d = i
        · subst hi; simp at hv; subst hv; rfl
        · simp [hi] at hv; exact hdvT i v hv
      have hs5 := sim_flat (s := ⟨(d, tB b) :: T, []⟩) hdv2 rfl (hdef b) hs4
      refine tail_any hback h2 hsz hall hcnt (fun x hx => hguard x (by simp [hx])) (fun h0 => ?_) (fun u h0 => ?_)
      · subst h0
        obtain ⟨b1, hb1, hb2⟩ := hK hrun2
        simp only [runL, Option.some.injEq, Prod.mk.injEq] at hb1
        obtain ⟨_, rfl⟩ := hb1
        refine ⟨S2, J2, al2, w2, Mn, σ1, hQ2, ⟨hJ2, hdef b, hiok2⟩, ?_⟩
        rw [← hb2]
        exact sim_keep (s := ⟨(d, tB b) :: T, []⟩) hs4 ts2 []
      · subst h0
        obtain ⟨b1, hb1, hb2⟩ := hK hrun2
        have hlist := runL_ok (rd := none) hV (ops := [u].toArray) (Q' := fun e a' w' => ∃ s' J' al' W0' M' σ', Q e s' J' al' ∧ (J' W0' ∧ a'.defers = [] ∧ IOk Ow n0 al' M' W0') ∧ Sim N W0' noX M' M' σ' (get s'.t) (get s'.h) a' w') [u] _ b1 cx hb1 hcx _ _ _ _ hs5 fun M' σ' a' w' hs6 => by
          have hs6 := sim_keep hs6 ts2 []
          rw [hb2] at hs6
          obtain ⟨hd6, hs7⟩ := sim_unflat hs6
          exact ⟨S2, J2, al2, w2, M', σ', hQ2, ⟨hJ2, hd6, iok_new hiok2 hO hs6⟩, hs7⟩
        have hwu : ∀ ys, Region.wanted u ys = true := fun ys => by simp [Region.wanted, hguard u (by simp)]
        unfold wpListIn at hlist
        simp only [hwu, if_true] at hlist
        exact hlist
    refine yield_wp hs3.tmps ho hcf hf hxs hv (hY w1 hJ1) fun e w2 he => ?_
    rcases he with ⟨rfl, h5, h6⟩ | ⟨rfl, h5⟩
    · refine ⟨_, rfl, hgo true w2 T1 (celM M1) St c2 Jt true (fun _ => ⟨?_, fun b o' h => ?_⟩) (fun i v hv => (hT1 i v hv).1) (fun i v hv => RT_cut celM_cells (hs3.tmps i v hv) (hT1 i v hv).2) (fun b o' h => ?_) h2t hc2 hQt h5⟩
      · exact Nat.le_trans (hiok rfl).1 (Nat.le_trans hs3.size h6.1)
      · exact (hiok rfl).2 b o' (celM_of h).1
      · exact h6.2 b o' (hs3.imm b o' (celM_of h).1) (celM_of h).2 ((hiok rfl).2 b o' (celM_of h).1)
    · exact ⟨_, rfl, hgo false w2 [] noM Sf c3 Jf false (fun h => by cases h) (fun i v hv => by cases hv) (fun i v hv => by cases hv) (fun b o' h => by cases h) h2f hc3 hQf h5⟩
/-- The same, with the call at place k. -/
theorem iw_yieldK (hO : ∀ b, Ow b → b < n0) (hm : P.follows .mixedOrders = true) {E : TypeId → Option (List Kd)} (hE : EqOk P ⟨fun _ => none, E, fun _ => false, fun _ => none⟩) {id : Nat} {l : List Oper} (k : Nat) {o : Oper} (ho1 : l[k]? = some o) (ow : List Nat) (qs : List (Nat × (Bool × Nat))) (ts ts2 : List Nat) (cs : List Prop) (T1 : List (Nat × Tv))
    (hr : runK P ⟨getO [], E, memO ow, get qs⟩ N (l.take k) ts [] s = some (cs, ⟨T1, []⟩)) (hdraw : drawB P ⟨getO [], E, memO ow, get qs⟩ N (l.take k) s = true) (hc : AllP cs) (hms : maskB (l.take k) o (l.drop (k + 1)) = true) (h2 : Nat.ble (l.drop (k + 1)).length 1 = true) {c : Call} {f : Operand} {ly d : Nat} (xs : List Av) (ho : o.op = .call c) (hcf : c.callee = .value f)
    (hf : evT (get T1) f = some (.av (.one (.val (.func (.yield ly) #[] #[]))))) (hxs : argsC (evT (get T1)) c.args.toList = some xs) (hv : xs.all Av.isV = true) (hod : o.dst = some d) (hdN : Nat.blt d N = true) (hT1 : ∀ i v, get T1 i = some v → v.dv = true ∧ TvM v)
    (hJg : ∀ A B, J A → A.grownBy B none → J B) (Jt Jf : World → Prop)
    (hY : ∀ W, J W → YieldAt (FW none) 0 P ly (xs.map Av.toV).toArray W (fun e W' => (e = .returned (.bool true) ∧ Jt W' ∧ KpS Ow W W') ∨ (e = .returned (.bool false) ∧ Jf W')))
    (c2 c3 : List Prop) (St Sf : AS) (h2t : runK P ⟨getO [], E, memO ow, get qs⟩ N (l.drop (k + 1)) ts2 [] ⟨(d, tB true) :: T1, []⟩ = some (c2, St)) (hc2 : AllP c2) (h2f : runK P ⟨getO [], E, memO ow, get qs⟩ N (l.drop (k + 1)) ts2 [] ⟨[(d, tB false)], []⟩ = some (c3, Sf)) (hc3 : AllP c3)
    (hQt : Q .normal St Jt true) (hQf : Q .normal Sf Jf false) (hdv : ∀ i v, get s.t i = some v → v.dv = true) (hh : s.h = []) : IWp P N Ow n0 (.region id l.toArray true) Q s J true := by
  have e : l = l.take k ++ o :: l.drop (k + 1) := by
    obtain ⟨hk, ho2⟩ := List.getElem?_eq_some_iff.1 ho1
    rw [← ho2, List.getElem_cons_drop, List.take_append_drop]
  have := iw_yield (id := id) hO hm hE (l.take k) o (l.drop (k + 1)) ow qs ts ts2 cs T1 hr hdraw hc hms (Nat.le_of_ble_eq_true h2) xs ho hcf hf hxs hv hod hdN hT1 hJg Jt Jf hY c2 c3 St Sf h2t hc2 h2f hc3 hQt hQf hdv hh
  rwa [← e] at this
theorem ith_n {K : AS → (World → Prop) → Bool → Prop} {Q : IQ} {s : AS} {J : World → Prop} {al : Bool} (h : K s J al) : ITh K Q .normal s J al := h
theorem ith_x {K : AS → (World → Prop) → Bool → Prop} {Q : IQ} {s : AS} {J : World → Prop} {al : Bool} {id : Nat} (h : Q (.exit id) s J al) : ITh K Q (.exit id) s J al := h
theorem ibl_n {Q : IQ} {s : AS} {J : World → Prop} {al : Bool} {id : Nat} (h : Q .normal s J al) : IBl id Q .normal s J al := h
theorem ibl_hit {Q : IQ} {s : AS} {J : World → Prop} {al : Bool} {id : Nat} (h : Q .normal s J al) : IBl id Q (.exit id) s J al := by simp only [IBl, if_true]; exact h
theorem forall_get {α : Type} {p : α → Prop} : ∀ {l : List (Nat × α)}, (∀ x ∈ l, p x.2) → ∀ i v, get l i = some v → p v
  | [], _, _, _, h => by cases h
  | (k, x) :: l, h, i, v, hv => by
    simp only [get, beqN] at hv
    by_cases hi : k = i
    · subst hi; simp at hv; subst hv; exact h (k, x) (List.mem_cons_self ..)
    · simp [hi] at hv; exact forall_get (fun y hy => h y (List.mem_cons_of_mem _ hy)) i v hv
theorem nm_lst {α : Type} [Inhabited α] {sz : Nat} {c : α → List Cl} {xs : List α} (h : ∀ x, ∀ y ∈ c x, NM y) : NM (lst sz c xs) := by
  refine .list _ _ _ _ fun i j => ?_
  rw [List.getD_eq_getElem?_getD]
  cases hj : (c (xs.getD i default))[j]? with
  | none => exact .val _
  | some y => exact h _ y (List.mem_of_getElem? hj)
theorem nm_box {L : List Cl} {sz len i off : Nat} (h : ∀ y ∈ L, NM y) : NM (.eptr sz len (fun _ j => (L : List Cl).getD j default) i off) := by
  refine .eptr _ _ _ _ _ fun _ j => ?_
  show NM (L.getD j default)
  rw [List.getD_eq_getElem?_getD]
  cases hj : L[j]? with
  | none => exact .val _
  | some y => exact h y (List.mem_of_getElem? hj)
theorem bkM {l : List Cl} {ty : TypeId} (h : ∀ c ∈ l, NM c) : BkM (.cells l ty) := h
theorem nm_clo {g : FuncId} {k : Nat} {L : List Cl} (h : ∀ y ∈ L, NM y) : NM (.clo g k (listF L)) := by
  refine .clo _ _ _ fun i => ?_
  show NM (L.getD i default)
  rw [List.getD_eq_getElem?_getD]
  cases hj : L[i]? with
  | none => exact .val _
  | some y => exact h y (List.mem_of_getElem? hj)
theorem avM_one {c : Cl} (h : NM c) : TvM (.av (.one c)) := fun y hy => by simp only [Av.cells, List.mem_singleton] at hy; subst hy; exact h
end
end Go.Proofs.Ytgmhnkoifdpemaa
