/-
  No statement is proved in this text. It holds a part of what the proof of ItemsCells needs.
-/
import Derived.Test.YtheobjkgllmnmaaGreatItemsCellsQb
namespace Go.Proofs.YtheobjkgllmnmaaGreat
set_option maxRecDepth 100000
set_option linter.unusedVariables false
set_option linter.unusedSimpArgs false
section
open Go.RowKit Go.MapKept
section
variable {K V : Type} [Inhabited K] [Inhabited V]
def kfG (ck : K -> Value) (l : List (K × V)) : Nat -> Value := fun i => ck (l.getD i default).1
def vfG (c : V -> List Cl) (l : List (K × V)) : Nat -> Nat -> Cl := fun i j => (c (l.getD i default).2).getD j default
def mhas (eq : K -> K -> Bool) (l : List (K × V)) (k : K) : Bool := l.any fun e => eq e.1 k
def mfind (eq : K -> K -> Bool) (l : List (K × V)) (k : K) : Nat := l.findIdx fun e => eq e.1 k
def mput (eq : K -> K -> Bool) (l : List (K × V)) (k : K) (v : V) : List (K × V) := bif mhas eq l k then l.set (mfind eq l k) (k, v) else l ++ [(k, v)]
theorem mfind_lt {eq : K -> K -> Bool} {l : List (K × V)} {k : K} (h : mhas eq l k = true) : mfind eq l k < l.length /\ eq (l.getD (mfind eq l k) default).1 k = true /\ ∀ j, j < mfind eq l k -> eq (l.getD j default).1 k = false := by
 unfold mhas at h
 obtain ⟨x, hx, hxk⟩ := List.any_eq_true.1 h
 have hlt : l.findIdx (fun e => eq e.1 k) < l.length := List.findIdx_lt_length.2 ⟨x, hx, hxk⟩
 refine ⟨hlt, ?_, fun j hj => ?_⟩
 ·have := List.findIdx_getElem (w := hlt)
  unfold mfind
  rw [List.getD_eq_getElem?_getD, List.getElem?_eq_getElem hlt]
  exact this
 ·have := List.not_of_lt_findIdx hj
  have hj' : j < l.length := Nat.lt_trans hj hlt
  rw [List.getD_eq_getElem?_getD, List.getElem?_eq_getElem hj']
  exact this
theorem mhas_no {eq : K -> K -> Bool} {l : List (K × V)} {k : K} (h : mhas eq l k = false) : ∀ j, j < l.length -> eq (l.getD j default).1 k = false := by
 intro j hj
 unfold mhas at h
 have := (List.any_eq_false.1 h) l[j] (List.getElem_mem hj)
 rw [List.getD_eq_getElem?_getD, List.getElem?_eq_getElem hj]
 simpa using this
theorem lookK_of {P : Program} {E : TypeId -> Option (List Kd)} {kt : TypeId} {ck : K -> Value} {eq : K -> K -> Bool} (heq : ∀ a b, eq a b = true ↔ ck a = ck b) (hfit : ∀ k, KeyFit P E kt (ck k)) (l : List (K × V)) (k : K) :
  LookK P E kt l.length (kfG ck l) (ck k) (mhas eq l k) (mfind eq l k) := by
 refine ⟨hfit k, fun j _ => hfit _, fun h => ?_, fun h j hj => ?_⟩
 ·obtain ⟨h1, h2, h3⟩ := mfind_lt h
  refine ⟨h1, (heq _ _).1 h2, fun j hj e => ?_⟩
  have := (heq _ _).2 e
  rw [h3 j hj] at this
  cases this
 ·intro e
  have := (heq _ _).2 e
  rw [mhas_no h j hj] at this
  cases this
omit [Inhabited K] [Inhabited V] in
theorem mput_len (eq : K -> K -> Bool) (l : List (K × V)) (k : K) (v : V) : (bif mhas eq l k then l.length else l.length + 1) = (mput eq l k v).length := by
 unfold mput
 cases mhas eq l k <;> simp
theorem mput_get {eq : K -> K -> Bool} {l : List (K × V)} {k : K} {v : V} (j : Nat) (hj : j < (mput eq l k v).length) : (mput eq l k v).getD j default = bif Nat.beq j (bif mhas eq l k then mfind eq l k else l.length) then (k, v) else l.getD j default := by
 rw [<- mput_len] at hj
 unfold mput
 cases h : mhas eq l k with
 | true =>
  rw [h] at hj
  simp only [cond_true] at *
  have hlt := (mfind_lt h).1
  rw [List.getD_eq_getElem?_getD, List.getElem?_set, beqN]
  by_cases e : mfind eq l k = j
  ·subst e; simp [hlt]
  ·rw [if_neg e, decide_eq_false (Ne.symm e), cond_false, List.getD_eq_getElem?_getD]
 | false =>
  rw [h] at hj
  simp only [cond_false] at *
  rw [List.getD_eq_getElem?_getD, beqN]
  by_cases e : j = l.length
  ·subst e
   rw [decide_eq_true rfl, cond_true, List.getElem?_append_right (Nat.le_refl _), Nat.sub_self]
   rfl
  ·rw [decide_eq_false e, cond_false, List.getElem?_append_left (by omega), List.getD_eq_getElem?_getD]
theorem bke_mput {ck : K -> Value} {cv : V -> List Cl} {eq : K -> K -> Bool} {agg : Bool} {nv : Nat} (l : List (K × V)) (k : K) (v : V) (cells : List Cl) (hc : cells = cv v) :
  BlkE (.omap agg nv (bif mhas eq l k then l.length else l.length + 1) (fun j => bif Nat.beq j (bif mhas eq l k then mfind eq l k else l.length) then ck k else kfG ck l j) (fun j c => bif Nat.beq j (bif mhas eq l k then mfind eq l k else l.length) then cells.getD c default else vfG cv l j c))
   (.omap agg nv (mput eq l k v).length (kfG ck (mput eq l k v)) (vfG cv (mput eq l k v))) := by
 subst hc
 refine .omap agg nv (mput_len eq l k v) (fun j hj => ?_) (fun j c hj _ => ?_)
 ·unfold kfG
  rw [mput_get j hj]
  cases Nat.beq j (bif mhas eq l k then mfind eq l k else l.length) <;> rfl
 ·have : (bif Nat.beq j (bif mhas eq l k then mfind eq l k else l.length) then (cv v).getD c default else vfG cv l j c) = vfG cv (mput eq l k v) j c := by
   unfold vfG
   rw [mput_get j hj]
   cases Nat.beq j (bif mhas eq l k then mfind eq l k else l.length) <;> rfl
  rw [this]
  exact .refl _
theorem bke_mnew {ck : K -> Value} {cv : V -> List Cl} {agg : Bool} {nv : Nat} : BlkE (.omap agg nv 0 (fun _ => undef) (fun _ _ => default)) (.omap agg nv ([] : List (K × V)).length (kfG ck ([] : List (K × V))) (vfG cv ([] : List (K × V)))) :=
 .omap agg nv rfl (fun j hj => absurd hj (Nat.not_lt_zero _)) (fun j c hj _ => absurd hj (Nat.not_lt_zero _))
end
def eqS (a b : ByteArray) : Bool := a.toList == b.toList
theorem eqS_ok (a b : ByteArray) : eqS a b = true ↔ Value.string a = Value.string b := by
 unfold eqS
 rw [beq_iff_eq, Value.string.injEq]
 exact ⟨ba_inj, fun h => by rw [h]⟩
end
section
open Go.RowKit Go.MapKept
section
variable {P : Program} {rd : Option Nat} {N : Nat} {W0 : World} {X : Nat → Option Loc} {M0 : Nat → Option Obj} {Q : Exit → AS → Prop} {s : AS}
def AWL (P : Program) (rd : Option Nat) (N : Nat) (W0 : World) (X : Nat -> Option Loc) (M0 : Nat -> Option Obj) (ops : Array Oper) (l : List Oper) (K : AS -> Prop) (s : AS) : Prop :=
 ∀ M σ a w, Sim N W0 X M0 M σ (get s.t) (get s.h) a w -> ∀ Q' : Exit -> Act -> World -> Prop, (∀ s' M' σ' a' w', K s' -> Sim N W0 X M0 M' σ' (get s'.t) (get s'.h) a' w' -> Q' .normal a' w') -> wpListIn (FW rd) 0 P ops Q' l a w
theorem aw_regionL {id : Nat} {l : List Oper} (h : AWL P rd N W0 X M0 l.toArray l (Q .normal) s) : AWp P rd N W0 X M0 (.region id l.toArray false) Q s := by
 intro M σ a w hs
 exact wpIn_region_lit (h M σ a w hs _ fun s' M' σ' a' w' hk hs' => ⟨s', M', σ', hk, hs'⟩)
theorem runL_okA {V : Env P} (hV : EnvOk P V) {ops : Array Oper} {Q' : Exit -> Act -> World -> Prop} (l2 : List Oper) : ∀ (l : List Oper) (s s1 : AS) (cs : List Prop), runL P V N ops l s = some (cs, s1) -> AllP cs -> ∀ M σ a w, Sim N W0 X M0 M σ (get s.t) (get s.h) a w -> (∀ M' σ' a' w', Sim N W0 X M0 M' σ' (get s1.t) (get s1.h) a' w' -> wpListIn (FW rd) 0 P ops Q' l2 a' w') -> wpListIn (FW rd) 0 P ops Q' (l ++ l2) a w
 | [], s, s1, cs, hr, hc, M, σ, a, w, hs, hK => by
  simp only [runL, Option.some.injEq, Prod.mk.injEq] at hr
  obtain ⟨_, rfl⟩ := hr
  exact hK M σ a w hs
 | o :: l, s, s1, cs, hr, hc, M, σ, a, w, hs, hK => by
  simp only [runL] at hr
  split at hr
  ·rename_i cs1 s2 h1
   split at hr
   ·rename_i ds s3 h2
    simp only [Option.some.injEq, Prod.mk.injEq] at hr
    obtain ⟨rfl, rfl⟩ := hr
    obtain ⟨hc1, hc2⟩ := hc.append
    refine wpListIn_step fun K hK' => ?_
    refine step_any hV h1 hc1 hs (fun _ _ => rfl) (fun _ _ => rfl) (fun hn d hd => step_fresh h1 hn hd) fun M' σ' a' w' hs' => hK' _ _ (runL_okA hV l2 l s2 s3 ds h2 hc2 M' σ' a' w' ?_ hK)
    rw [(step_frame h1).1, (step_frame h1).2]
    exact hs'
   ·cases hr
  ·cases hr
def runKO (P : Program) (V : Env P) (N : Nat) (ops : Array Oper) (l : List Oper) (ts hs : List Nat) (s : AS) : Option (List Prop × AS) := match runL P V N ops l s with
 | some (cs, s1) => some (cs, keepS ts hs s1)
 | none => none
theorem awl_run {E : TypeId -> Option (List Kd)} (hE : EqOk P ⟨fun _ => none, E, fun _ => false, fun _ => none⟩) {ops : Array Oper} {l : List Oper} {K : AS -> Prop} (k : Nat) (ow : List Nat) (qs : List (Nat × (Bool × Nat))) (tbl : List (Nat × FuncId × List Av × Ef)) (ts ns : List Nat) (cs : List Prop) (S : AS) (htbl : TblOk P tbl)
  (hr : runKO P ⟨getO tbl, E, memO ow, get qs⟩ N ops (l.take k) ts ns s = some (cs, S)) (hc : AllP cs) (h : AWL P rd N W0 X M0 ops (l.drop k) K S) : AWL P rd N W0 X M0 ops l K s := by
 have hV := htbl.env (O := memO ow) (q := get qs) hE
 intro M σ a w hs Q' hQ'
 unfold runKO at hr
 split at hr
 ·rename_i cs1 s1 h1
  simp only [Option.some.injEq, Prod.mk.injEq] at hr
  obtain ⟨rfl, rfl⟩ := hr
  have key := runL_okA (Q' := Q') (rd := rd) hV (l.drop k) (l.take k) s s1 cs1 h1 hc M σ a w hs fun M' σ' a' w' hs' => h M' σ' a' w' (sim_keep hs' ts ns) Q' hQ'
  rw [List.take_append_drop] at key
  exact key
 ·cases hr
theorem awl_last {E : TypeId -> Option (List Kd)} (hE : EqOk P ⟨fun _ => none, E, fun _ => false, fun _ => none⟩) {ops : Array Oper} {l : List Oper} {K : AS -> Prop} (ow : List Nat) (qs : List (Nat × (Bool × Nat))) (tbl : List (Nat × FuncId × List Av × Ef)) (ts ns : List Nat) (cs : List Prop) (S : AS) (htbl : TblOk P tbl)
  (hr : runKO P ⟨getO tbl, E, memO ow, get qs⟩ N ops l ts ns s = some (cs, S)) (hc : AllP cs) (h : K S) : AWL P rd N W0 X M0 ops l K s := by
 have hV := htbl.env (O := memO ow) (q := get qs) hE
 intro M σ a w hs Q' hQ'
 unfold runKO at hr
 split at hr
 ·rename_i cs1 s1 h1
  simp only [Option.some.injEq, Prod.mk.injEq] at hr
  obtain ⟨rfl, rfl⟩ := hr
  exact runL_ok (Q' := Q') (rd := rd) hV l s s1 cs1 h1 hc M σ a w hs fun M' σ' a' w' hs' => hQ' _ M' σ' a' w' h (sim_keep hs' ts ns)
 ·cases hr
end
end
section
open Go.RowKit Go.MapKept
def stepT (P : Program) (V : Env P) (N : Nat) (o : Oper) (G : Prop) (s : AS) : Option (List Prop × AS) := match eff P V o.dst o.op (evG (get s.t) (stripL o.op)) with
 | some e => match res (get s.h) e with
  | some (cs, g) => bif goOk N s o.dst g then some (needG (get s.t) G (stripL o.op) ++ cs, goOn s o.dst g) else none
  | none => none
 | none => none
section
variable {P : Program} {rd : Option Nat} {N : Nat} {W0 : World} {X : Nat → Option Loc} {M0 : Nat → Option Obj} {s : AS}
theorem awl_skip {ops : Array Oper} {o : Oper} {l : List Oper} {K : AS -> Prop} (j : Nat) (want : Bool) (G : Prop) (S : AS) (hg : o.guard = some (j, want)) (hG : guardP (get s.t) ops j want = some G) (hGn : ¬ G) (hok : goOk N s o.dst (.val (.av (.one (.val (.bool false))))) = true) (hS : putT s o.dst (.grd G (.one (.val (.bool false)))) = S)
  (h : AWL P rd N W0 X M0 ops l K S) : AWL P rd N W0 X M0 ops (o :: l) K s := by
 subst hS
 intro M σ a w hs Q' hQ'
 refine wpListIn_step fun K0 hK' => ?_
 rw [if_neg (fun h => hGn ((wanted_guard hs.tmps hs.room hg hG).1 h))]
 refine ⟨fun _ _ => trivial, ?_⟩
 have hgo0 := goOk_of hok (fun n v b hg => by cases hg) (fun l v hg => by cases hg) (fun n q v b bq hg => by cases hg) (fun n b v hg => by cases hg)
 have hsim := sim_go hs (g := .val (.grd G (.one (.val (.bool false))))) (V := undef) (w' := w) (M' := M) (σ' := σ) ⟨Keep.refl hs.imm _, rfl, fun h => absurd h hGn, fun _ => rfl⟩ ⟨hgo0.1, trivial⟩
 rw [<- (get_goOn s o.dst _).1, <- (get_goOn s o.dst _).2] at hsim
 exact hK' _ _ (h M σ _ w hsim Q' hQ')
end
end
section
open Go.RowKit
def BkN : Blk -> Prop
 | .cells l _ => ∀ c ∈ l, NM c
 | .row _ _ f _ => ∀ i j, NM (f i j)
 | .omap _ _ _ _ vf => ∀ i j, NM (vf i j)
 | .rowx .. => False
theorem BlkOk_cutN {M M' : Nat -> Option Obj} (h : ∀ b c t f, M b = some (.cells c t f) -> M' b = some (.cells c t f)) {σ : Nat -> Loc} {w : World} {x : Loc} {b : Blk} (hr : BlkOk M σ w x b) (hn : BkN b) : BlkOk M' σ w x b := by
 cases b with
 | cells l ty =>
  obtain ⟨h0, c, hc, hl⟩ := hr
  exact ⟨h0, c, hc, hl.mono fun a ha b hb => R_cut h hb (hn a ha)⟩
 | row sz len f ty =>
  rcases hr with hr | ⟨h0, c, hc, h1, h2, h3, g, hg⟩
  ·exact .inl hr
  ·exact .inr ⟨h0, c, hc, h1, h2, h3, g, fun i j hi hj => ⟨(hg i j hi hj).1, RC_cut h (hg i j hi hj).2 (hn i j)⟩⟩
 | omap agg nv len kf vf =>
  obtain ⟨h0, es, ck, g, hc, h1, h2, h3⟩ := hr
  exact ⟨h0, es, ck, g, hc, h1, h2, fun i j hi hj => RC_cut h (h3 i j hi hj) (hn i j)⟩
 | rowx => exact hn.elim
def Blk.isP : Blk -> Bool
 | .cells .. => true
 | .omap .. => true
 | _ => false
def Blk.isR : Blk -> Bool
 | .row .. => true
 | _ => false
def slV : Value -> Bool
 | .slice (some _) _ _ => true
 | _ => false
def objCell (o : Obj) (k : Nat) : Option Value := match o with
 | .cells c _ _ => c[k]?
 | _ => none
def HeldW (bq off : Nat) (W : World) (b : Nat) : Prop := ∃ o len cap, W.heap[bq]? = some o /\ objCell o off = some (.slice (some ⟨b, 0, none⟩) len cap)
def heldB (q off r : Nat) (h : List (Nat × Blk)) : Bool := match get h q with
 | some (.cells l _) => (match get h r with
  | some (.row ..) => (match l[off]? with
   | some (.own r' _ _) => Nat.beq r' r
   | _ => false)
  | none => (match l[off]? with
   | none => true
   | some (.val v) => !slV v
   | some (.ptr ..) => true
   | _ => false)
  | _ => false)
 | _ => false
def PXr (pids : List Nat) (r : Nat) (G : Prop) (X : Nat -> Option Loc) : Prop := ∀ m x, X m = some x -> (∃ q, memO pids q = true /\ ∃ y, X q = some y /\ y.b = x.b) \/ (m = r /\ G /\ x.nil = false)
section
variable {N : Nat} {W0 W W' : World} {X XA : Nat → Option Loc} {M0 M M' M3 : Nat → Option Obj} {σ σ' σ3 : Nat → Loc} {T T' : Nat → Option Tv} {H H' : Nat → Option Blk} {a a' : Act} {h : List (Nat × Blk)} {q off r : Nat}
theorem held_in (hs : Sim N W0 X M0 M σ T (get h) a W) (hb : heldB q off r h = true) {b : Nat} (hh : HeldW (σ q).b off W b) : (∃ x, get h r = some x) /\ (σ r).nil = false /\ (σ r).b = b := by
 unfold heldB at hb
 cases hq : get h q with
 | none => rw [hq] at hb; cases hb
 | some bq =>
  rw [hq] at hb
  cases bq with
  | cells l ty =>
   obtain ⟨hn, c, hc, hl⟩ := hs.blk q _ hq
   obtain ⟨o, len, cap, ho, hcell⟩ := hh
   rw [hc] at ho; injection ho with ho; subst ho
   have hcl : c[off]? = some (.slice (some ⟨b, 0, none⟩) len cap) := by simpa [objCell] using hcell
   have hoff : off < l.length := by rw [hl.length]; exact (List.getElem?_eq_some_iff.1 hcl).1
   have hcl2 : l[off]? = some l[off] := List.getElem?_eq_getElem hoff
   obtain ⟨v, hv, hR⟩ := hl.get off _ hcl2
   rw [hcl] at hv; injection hv with hv; subst hv
   generalize l[off] = cl at hcl2 hR
   cases hr : get h r with
   | none =>
    simp only [hr, hcl2] at hb
    exfalso
    cases cl with
    | val u =>
     obtain ⟨h1, _⟩ := hR
     subst h1
     simp [slV] at hb
    | ptr n o => cases hR
    | _ => cases hb
   | some br =>
    simp only [hr, hcl2] at hb
    cases br with
    | row sz len' f ty' =>
     cases cl with
     | own r' sz' len'' =>
      have := Nat.eq_of_beq_eq_true hb
      subst this
      unfold R at hR
      split at hR
      ·cases hR.2
      ·rename_i hnil
       injection hR with h1
       injection h1 with h1
       injection h1 with h1
       exact ⟨⟨_, rfl⟩, by simpa using hnil, h1.symm⟩
     | _ => cases hb
    | _ => cases hb
  | _ => cases hb
theorem held_out (hs : Sim N W0 X M0 M σ T (get h) a W) (hb : heldB q off r h = true) {x : Blk} (hr : get h r = some x) (hn : (σ r).nil = false) : HeldW (σ q).b off W (σ r).b := by
 unfold heldB at hb
 cases hq : get h q with
 | none => rw [hq] at hb; cases hb
 | some bq =>
  rw [hq] at hb
  cases bq with
  | cells l ty =>
   obtain ⟨_, c, hc, hl⟩ := hs.blk q _ hq
   simp only [hr] at hb
   cases x with
   | row sz len' f ty' =>
    cases hcl : l[off]? with
    | none => simp only [hcl] at hb; cases hb
    | some cl =>
     simp only [hcl] at hb
     cases cl with
     | own r' sz' len'' =>
      have := Nat.eq_of_beq_eq_true hb
      subst this
      obtain ⟨v, hv, hR⟩ := hl.get off _ hcl
      unfold R at hR
      rw [hn] at hR
      exact ⟨_, len'', (σ r').cap, hc, by simp only [objCell, List.getElem?_toArray]; rw [hv]; exact congrArg some hR⟩
     | _ => cases hb
   | _ => cases hb
  | _ => cases hb
theorem sim_outN {Xr X2 : Nat -> Option Loc} (hs : Sim N W0 XA M0 M' σ' T H a W) (hr : Sim N W Xr M' M3 σ3 T' H' a' W') (hin : ∀ b, inX Xr b -> inX XA b \/ W0.heap.size <= b)
  {H2 : Nat -> Option Blk} (hH2 : ∀ n b, H2 n = some b -> H' n = some b) (hH : ∀ n b, H2 n = some b -> BkN b) {a2 : Act} {T2 : Nat -> Option Tv} (hsz : a2.tmps.size = N) (hT2 : ∀ i v, T2 i = some v -> RT (cutM M' M3) σ3 v (a2.tmps.getD i undef)) (hX2 : ∀ n x, X2 n = some x -> N <= n /\ σ3 n = x) (hX3 : ∀ b, inX XA b ↔ inX X2 b) (hd : DefsX X2 M0 (cutM M' M3) a2.defers) :
  Sim N W0 X2 M0 (cutM M' M3) σ3 T2 H2 a2 W' := by
 have hsub : ∀ b o, M' b = some o -> M3 b = some o := hr.sub
 refine ⟨hr.os.trans hs.os, hr.tape.trans hs.tape, hr.output.trans hs.output, Nat.le_trans hs.size hr.size, fun b hb hx => ?_, fun b o h => cutM_left (hs.sub b o h), fun b o h h' => ?_, hX2, hd, hsz, hT2, fun b o h => hr.imm b o (cutM_sub hsub h), fun n b h => BlkOk_cutN (cutM_cells hsub) (hr.blk n b (hH2 n b h)) (hH n b h), fun n b h => ?_, fun n m b c hb hc hne => hr.inj n m b c (hH2 n b hb) (hH2 m c hc) hne⟩
 ·have h1 : ¬ inX XA b := fun h => hx ((hX3 b).1 h)
  refine (hr.old b (Nat.lt_of_lt_of_le hb hs.size) fun h => ?_).trans (hs.old b hb h1)
  rcases hin b h with h | h
  ·exact h1 h
  ·omega
 ·cases h1 : M' b with
  | some o' => exact hs.new b o' h1 h'
  | none => exact Nat.le_trans hs.size (hr.new b o (cutM_sub hsub h) h1)
 ·refine (hr.loc n b (hH2 n b h)).imp id fun h => ⟨?_, ?_⟩
  ·cases hc : cutM M' M3 (σ3 n).b with
   | none => rfl
   | some o => have := cutM_sub hsub hc; rw [h.1] at this; cases this
  ·rcases h.2 with h | h
   ·exact .inl (Nat.le_trans hs.size h)
   ·rcases hin _ h with h | h
    ·exact .inr ((hX3 _).1 h)
    ·exact .inl h
theorem sim_grownN (hs : Sim N W0 X M0 M σ T H a W) {row : Option Nat} (hH : ∀ n b, H n = some b -> b.isM = true -> ∀ r, row = some r -> (σ n).b < r) (hg : W.grownBy W' row) (hr : ∀ r, row = some r -> W0.heap.size <= r /\ (∃ o : Obj, W.heap[r]? = some o /\ o.isCells = false) /\ M r = none) : Sim N W0 X M0 M σ T H a W' := by
 have hsame : ∀ b (o : Obj), W.heap[b]? = some o -> (o.isCells = true \/ M b = some o \/ b < W0.heap.size) -> W'.heap[b]? = some o := fun b o hb hc => by
  refine (hg.block b (Array.getElem?_eq_some_iff.1 hb).1 fun e => ?_).trans hb
  obtain ⟨h1, ⟨o', h2, h3⟩, h4⟩ := hr b e.symm
  rw [hb] at h2; injection h2 with h2; subst h2
  rcases hc with h | h | h
  ·rw [h3] at h; cases h
  ·rw [h4] at h; cases h
  ·omega
 refine ⟨hg.os.trans hs.os, hg.tape.trans hs.tape, hg.output.trans hs.output, Nat.le_trans hs.size hg.size, fun b hb hx => ?_, hs.sub, hs.new, hs.pin, hs.defers, hs.room, hs.tmps, fun b o h => hsame b o (hs.imm b o h) (.inr (.inl h)), fun n b h => ?_, hs.loc, hs.inj⟩
 ·have h1 := hs.old b hb hx
  have h2 : W0.heap[b]? = some W0.heap[b] := Array.getElem?_eq_getElem hb
  rw [h2] at h1 ⊢
  exact hsame b _ h1 (.inr (.inr hb))
 ·refine (hs.blk n b h).mono (fun _ _ h => h) (fun _ _ => rfl) fun hn => ?_
  have hb := hs.blk n b h
  cases b with
  | cells l ty => obtain ⟨_, c, hc, _⟩ := hb; rw [hc]; exact hsame _ _ hc (.inl rfl)
  | row sz len f ty =>
   rcases hb with ⟨h0, _⟩ | ⟨_, c, hc, _⟩
   ·rw [hn] at h0; cases h0
   ·rw [hc]; exact hsame _ _ hc (.inl rfl)
  | omap =>
   obtain ⟨_, es, ck, g, hc, _⟩ := hb
   exact hg.block _ (Array.getElem?_eq_some_iff.1 hc).1 fun e => by have := hH n _ h rfl _ e.symm; omega
  | rowx sz len f ty hh => obtain ⟨_, c, hc, _⟩ := hb; rw [hc]; exact hsame _ _ hc (.inl rfl)
theorem sim_baseS {fid : Nat} {XB : Nat -> Option Loc} {σ2 : Nat -> Loc} (hs : Sim N W0 XA M0 M' σ' T H a W) {a2 : Act} (hd : a2.defers = []) (hr : a2.tmps.size = N) (hpin : ∀ n x, XB n = some x -> N <= n /\ σ2 n = x) (hσ : ∀ n, n ≠ fid -> σ2 n = σ' n)
  (hT : ∀ i v, T' i = some v -> RT M' σ' v (a2.tmps.getD i undef) /\ v.no fid = true) (hHf : ∀ n b, H n = some b -> n ≠ fid /\ b.no fid = true /\ ((σ' n).nil = true \/ inX XB (σ' n).b)) : Sim N W XB M' M' σ2 T' H a2 W := by
 refine ⟨rfl, rfl, rfl, Nat.le_refl _, fun _ _ _ => rfl, fun _ _ h => h, fun b o h h' => by (rw [h] at h'; cases h'), hpin, ⟨by rw [hd]; trivial, fun _ => hd⟩, hr, fun i v hv => RT_mono (fun _ _ h => h) (fun d hd => hσ d fun e => ?_) (hT i v hv).1, hs.imm, fun n b hb => ?_, fun n b hb => ?_, fun n m b c hb hc hne => ?_⟩
 ·subst e; rw [(hT i v hv).2] at hd; cases hd
 ·obtain ⟨h1, h2, h3⟩ := hHf n b hb
  rw [hσ n h1]
  exact (hs.blk n b hb).mono (fun _ _ h => h) (fun d hd => hσ d fun e => by subst e; rw [h2] at hd; cases hd) (fun _ => rfl)
 ·obtain ⟨h1, h2, h3⟩ := hHf n b hb
  rw [hσ n h1]
  rcases hs.loc n b hb with h4 | h4
  ·exact .inl h4
  ·exact h3.imp id fun h => ⟨h4.1, .inr h⟩
 ·rw [hσ n (hHf n b hb).1, hσ m (hHf m c hc).1]
  exact hs.inj n m b c hb hc hne
end
end
section
open Go.RowKit
def rangeSB (N : Nat) (pids : List Nat) (fid q r : Nat) (t0 : List (Nat × Tv)) (ps : Array Tmp) : Bool :=
 t0.all (fun p => pvT pids p.2) && (pids.all (fun m => Nat.ble N m) && (!memO pids fid && (!memO pids r && (!Nat.beq r fid && (Nat.ble N fid && (Nat.ble N r && (memO pids q && ps.toList.all (fun p => Nat.blt p N))))))))
def famB (pids : List Nat) (fid q off r : Nat) (h : List (Nat × Blk)) : Bool :=
 h.all (fun p => (memO pids p.1 && p.2.isP || Nat.beq p.1 r && p.2.isR) && p.2.no fid) && (pids.all (fun m => (get h m).isSome) && heldB q off r h)
def HsN (h : List (Nat × Blk)) : Prop := ∀ n b, get h n = some b -> BkN b
theorem bkN_c {l : List Cl} {ty : TypeId} (h : ∀ c ∈ l, NM c) : BkN (.cells l ty) := h
theorem bkN_r {α : Type} [Inhabited α] {sz len : Nat} {c : α -> List Cl} {xs : List α} {ty : TypeId} (h : ∀ x, ∀ y ∈ c x, NM y) : BkN (.row sz len (rowF c xs) ty) := fun i j => by
 unfold rowF
 rw [List.getD_eq_getElem?_getD]
 cases hj : (c (xs.getD i default))[j]? with
 | none => exact .val _
 | some y => exact h _ y (List.mem_of_getElem? hj)
theorem bkN_o {κ α : Type} [Inhabited κ] [Inhabited α] {agg : Bool} {nv len : Nat} {kf : Nat -> Value} {c : α -> List Cl} {xs : List (κ × α)} (h : ∀ x, ∀ y ∈ c x, NM y) : BkN (.omap agg nv len kf (vfG c xs)) := fun i j => by
 unfold vfG
 rw [List.getD_eq_getElem?_getD]
 cases hj : (c (xs.getD i default).2)[j]? with
 | none => exact .val _
 | some y => exact h _ y (List.mem_of_getElem? hj)
def apartR (pids : List Nat) (n r : Nat) (s : AS) : Bool := !Nat.beq r n && pids.all fun q => !Nat.beq q n && match get s.h q with | some (.cells ..) => true | some (.omap ..) => true | _ => false
section
variable {P : Program} {N : Nat} {W0 : World} {X : Nat → Option Loc} {M0 : Nat → Option Obj} {s : AS}
theorem cv_fixPr (S : AS) (n : Nat) (l : List Cl) (ty : TypeId) (pids : List Nat) (r : Nat) {G : Prop} (hX : PXr pids r G X) (hK : apartR pids n r s = true) (hG : G -> ∃ b, get s.h r = some b) (hn : get s.h n = some (.cells l ty)) (hdv : l.all Cl.dv = true) (hS : fxS n l s = S) : Cv N W0 X M0 s S := by
 subst hS
 intro M σ a w hs
 simp only [apartR, Bool.and_eq_true, Bool.not_eq_true'] at hK
 obtain ⟨hrn, hK⟩ := hK
 obtain ⟨M', h1⟩ := sim_fix n l ty (fun hnil => by
  rintro ⟨m, x, h1, h2⟩
  have key : ∀ q y bk, q ≠ n -> X q = some y -> y.b = x.b -> (σ q).nil = false -> get s.h q = some bk -> False := fun q y bk hqn hy hyx h4 hb => by
   have h5 := (hs.pin q y hy).2
   rcases hs.inj q n _ _ hb hn hqn with h6 | h6 | h6
   ·rw [h4] at h6; cases h6
   ·rw [hnil] at h6; cases h6
   ·exact h6 (by rw [h5, hyx, h2])
  rcases hX m x h1 with ⟨q, hq, y, hy, hyx⟩ | ⟨rfl, hg, hxn⟩
  ·have h3 := List.all_eq_true.1 hK q (memO_in hq)
   simp only [Bool.and_eq_true, Bool.not_eq_true'] at h3
   have hqn : q ≠ n := fun e => by have := h3.1; rw [e, Nat.beq_refl] at this; cases this
   cases hb : get s.h q with
   | none => rw [hb] at h3; cases h3.2
   | some bk =>
    rw [hb] at h3
    refine key q y bk hqn hy hyx ?_ hb
    have h4 := hs.blk q _ hb
    cases bk with
    | row => cases h3.2
    | rowx => cases h3.2
    | omap => exact h4.1
    | cells lq tq => exact h4.1
  ·obtain ⟨bk, hb⟩ := hG hg
   refine key m x bk (fun e => by rw [e, Nat.beq_refl] at hrn; cases hrn) h1 rfl ?_ hb
   rw [(hs.pin m x h1).2]; exact hxn) hn hdv hs
 exact ⟨M', σ, h1⟩
end
end
section
open Go.RowKit
theorem mixed : Tryz.prog.follows .mixedOrders = true := by kernel_rfl
structure TPoint where
 X : Int
 Y : Int
 deriving Inhabited
def TPoint.c (x : TPoint) : List Cl := [.i x.X, .i x.Y]
structure TMotion where
 At : TPoint
 Turn : Int
 Mirror : Bool
 deriving Inhabited
def TMotion.c (x : TMotion) : List Cl := [.i x.At.X, .i x.At.Y, .i x.Turn, .b x.Mirror]
structure TEdge where
 Kind : Int
 A : TPoint
 B : TPoint
 C : TPoint
 deriving Inhabited
def TEdge.c (x : TEdge) : List Cl := [.i x.Kind, .i x.A.X, .i x.A.Y, .i x.B.X, .i x.B.Y, .i x.C.X, .i x.C.Y]
structure TRect where
 X0 : Int
 Y0 : Int
 X1 : Int
 Y1 : Int
 deriving Inhabited
def TRect.c (x : TRect) : List Cl := [.i x.X0, .i x.Y0, .i x.X1, .i x.Y1]
structure TDraw where
 L : (List Int)
 At : Int
 deriving Inhabited
def TDraw.c (x : TDraw) : List Cl := [lst 1 (fun x => [.i x]) x.L, .i x.At]
structure OpL where
 len : Nat
 f : Nat -> Nat -> Cl
 deriving Inhabited
abbrev opL (x : OpL) : Cl := .list false 8 x.len x.f
structure TPin where
 Ref : ByteArray
 Pad : ByteArray
 deriving Inhabited
def TPin.c (x : TPin) : List Cl := [.s x.Ref, .s x.Pad]
structure TNet where
 Name : ByteArray
 Pins : (List TPin)
 deriving Inhabited
def TNet.c (x : TNet) : List Cl := [.s x.Name, lst 2 TPin.c x.Pins]
structure TPlaced where
 Id : Int
 Ref : ByteArray
 Type' : ByteArray
 At : TPoint
 Turn : Int
 Under : Bool
 deriving Inhabited
def TPlaced.c (x : TPlaced) : List Cl := [.i x.Id, .s x.Ref, .s x.Type', .i x.At.X, .i x.At.Y, .i x.Turn, .b x.Under]
structure TShape where
 Kind : Int
 Edges : (List TEdge)
 R : Int
 deriving Inhabited
def TShape.c (x : TShape) : List Cl := [.i x.Kind, lst 7 TEdge.c x.Edges, .i x.R]
structure TPad where
 Name : ByteArray
 Shape : TShape
 At : TPoint
 Drill : Int
 deriving Inhabited
def TPad.c (x : TPad) : List Cl := [.s x.Name, .i x.Shape.Kind, lst 7 TEdge.c x.Shape.Edges, .i x.Shape.R, .i x.At.X, .i x.At.Y, .i x.Drill]
structure TLeg where
 Pad : ByteArray
 Group : Int
 deriving Inhabited
def TLeg.c (x : TLeg) : List Cl := [.s x.Pad, .i x.Group]
structure TGate where
 Kind : Int
 Legs : (List TLeg)
 deriving Inhabited
def TGate.c (x : TGate) : List Cl := [.i x.Kind, lst 2 TLeg.c x.Legs]
structure TType where
 Name : ByteArray
 Pads : (List TPad)
 Gates : (List TGate)
 deriving Inhabited
def TType.c (x : TType) : List Cl := [.s x.Name, lst 7 TPad.c x.Pads, lst 2 TGate.c x.Gates]
structure TTrack where
 Id : Int
 Net : ByteArray
 Layer : Int
 Shape : TShape
 deriving Inhabited
def TTrack.c (x : TTrack) : List Cl := [.i x.Id, .s x.Net, .i x.Layer, .i x.Shape.Kind, lst 7 TEdge.c x.Shape.Edges, .i x.Shape.R]
structure TVia where
 Id : Int
 Net : ByteArray
 At : TPoint
 R : Int
 Drill : Int
 From : Int
 To : Int
 deriving Inhabited
def TVia.c (x : TVia) : List Cl := [.i x.Id, .s x.Net, .i x.At.X, .i x.At.Y, .i x.R, .i x.Drill, .i x.From, .i x.To]
structure TPour where
 Id : Int
 Net : ByteArray
 Layer : Int
 Pitch : Int
 Priority : Int
 Relief : Int
 Spoke : Int
 Rects : (List TRect)
 deriving Inhabited
def TPour.c (x : TPour) : List Cl := [.i x.Id, .s x.Net, .i x.Layer, .i x.Pitch, .i x.Priority, .i x.Relief, .i x.Spoke, lst 4 TRect.c x.Rects]
structure TKeep where
 Id : Int
 Layer : Int
 Shape : TShape
 deriving Inhabited
def TKeep.c (x : TKeep) : List Cl := [.i x.Id, .i x.Layer, .i x.Shape.Kind, lst 7 TEdge.c x.Shape.Edges, .i x.Shape.R]
structure TSlot where
 Id : Int
 Shape : TShape
 deriving Inhabited
def TSlot.c (x : TSlot) : List Cl := [.i x.Id, .i x.Shape.Kind, lst 7 TEdge.c x.Shape.Edges, .i x.Shape.R]
structure TClass where
 Name : ByteArray
 Nets : (List ByteArray)
 deriving Inhabited
def TClass.c (x : TClass) : List Cl := [.s x.Name, lst 1 (fun x => [.s x]) x.Nets]
structure TCond where
 Op : Int
 Text : ByteArray
 N : Int
 Box : TRect
 L : OpL
 deriving Inhabited
def TCond.c (x : TCond) : List Cl := [.i x.Op, .s x.Text, .i x.N, .i x.Box.X0, .i x.Box.Y0, .i x.Box.X1, .i x.Box.Y1, opL x.L]
structure TRule where
 Name : ByteArray
 Priority : Int
 What : Int
 A : TCond
 B : TCond
 Value : Int
 deriving Inhabited
def TRule.c (x : TRule) : List Cl := [.s x.Name, .i x.Priority, .i x.What, .i x.A.Op, .s x.A.Text, .i x.A.N, .i x.A.Box.X0, .i x.A.Box.Y0, .i x.A.Box.X1, .i x.A.Box.Y1, opL x.A.L, .i x.B.Op, .s x.B.Text, .i x.B.N, .i x.B.Box.X0, .i x.B.Box.Y0, .i x.B.Box.X1, .i x.B.Box.Y1, opL x.B.L, .i x.Value]
structure TWaiver where
 A : Int
 B : Int
 Rule : ByteArray
 deriving Inhabited
def TWaiver.c (x : TWaiver) : List Cl := [.i x.A, .i x.B, .s x.Rule]
structure TMatch where
 Name : ByteArray
 Nets : (List ByteArray)
 Within : Int
 deriving Inhabited
def TMatch.c (x : TMatch) : List Cl := [.s x.Name, lst 1 (fun x => [.s x]) x.Nets, .i x.Within]
structure TBoard where
 Layers : Int
 Outline : TShape
 Parts : (List TPlaced)
 Nets : (List TNet)
 Tracks : (List TTrack)
 Vias : (List TVia)
 Pours : (List TPour)
 Keeps : (List TKeep)
 Slots : (List TSlot)
 Classes : (List TClass)
 Rules : (List TRule)
 Waivers : (List TWaiver)
 Matches : (List TMatch)
 deriving Inhabited
def TBoard.c (x : TBoard) : List Cl := [.i x.Layers, .i x.Outline.Kind, lst 7 TEdge.c x.Outline.Edges, .i x.Outline.R, lst 7 TPlaced.c x.Parts, lst 2 TNet.c x.Nets, lst 6 TTrack.c x.Tracks, lst 8 TVia.c x.Vias, lst 8 TPour.c x.Pours, lst 5 TKeep.c x.Keeps, lst 4 TSlot.c x.Slots, lst 2 TClass.c x.Classes, lst 20 TRule.c x.Rules, lst 3 TWaiver.c x.Waivers, lst 3 TMatch.c x.Matches]
structure TItem where
 Id : Int
 Pad : ByteArray
 Kind : Int
 Net : ByteArray
 From : Int
 To : Int
 Shape : TShape
 deriving Inhabited
def TItem.c (x : TItem) : List Cl := [.i x.Id, .s x.Pad, .i x.Kind, .s x.Net, .i x.From, .i x.To, .i x.Shape.Kind, lst 7 TEdge.c x.Shape.Edges, .i x.Shape.R]
structure TA23 where
 e0 : Int
 e1 : Int
 e2 : Int
 deriving Inhabited
def TA23.c (x : TA23) : List Cl := [.i x.e0, .i x.e1, .i x.e2]
structure TA295 where
 deriving Inhabited
def TA295.c (x : TA295) : List Cl := []
structure THole where
 Shape : TShape
 From : Int
 To : Int
 Plated : Bool
 deriving Inhabited
def THole.c (x : THole) : List Cl := [.i x.Shape.Kind, lst 7 TEdge.c x.Shape.Edges, .i x.Shape.R, .i x.From, .i x.To, .b x.Plated]
structure TA91 where
 e0 : TItem
 e1 : TItem
 deriving Inhabited
def TA91.c (x : TA91) : List Cl := [.i x.e0.Id, .s x.e0.Pad, .i x.e0.Kind, .s x.e0.Net, .i x.e0.From, .i x.e0.To, .i x.e0.Shape.Kind, lst 7 TEdge.c x.e0.Shape.Edges, .i x.e0.Shape.R, .i x.e1.Id, .s x.e1.Pad, .i x.e1.Kind, .s x.e1.Net, .i x.e1.From, .i x.e1.To, .i x.e1.Shape.Kind, lst 7 TEdge.c x.e1.Shape.Edges, .i x.e1.Shape.R]
def eqE : TypeId -> Option (List Kd) := fun T => get [(66, [.int .i64, .int .i64]), (68, [.int .i64, .int .i64, .int .i64, .int .i64, .int .i64, .int .i64, .int .i64]), (90, [.int .i64, .int .i64, .int .i64, .int .i64]), (106, [.str, .str])] T
theorem eqok : EqOk Tryz.prog ⟨fun _ => none, eqE, fun _ => false, fun _ => none⟩ := by
 intro T ks h
 have hm : (T, ks) ∈ _ := get_mem h
 simp only [List.mem_cons, Prod.mk.injEq, List.not_mem_nil, or_false] at hm
 rcases hm with ⟨rfl, rfl⟩ | ⟨rfl, rfl⟩ | ⟨rfl, rfl⟩ | ⟨rfl, rfl⟩
 all_goals exact ⟨by kernel_rfl, by kernel_rfl, _, rfl, rfl⟩
def FvecRight (x0 : TPoint) : Bool := bif decide (((max x0.X x0.Y) : Int) <= 67108864) then decide ((((-67108864)) : Int) <= (min x0.X x0.Y)) else false
def cvecRight (x0 : TPoint) : FuncId × List Av × Ef := (131, [.agg (TPoint.c x0)], .val [] (.av (.one (.b (FvecRight x0)))))
theorem kr {p : Prop} (h : p := by kernel_rfl) : p := h
theorem pvecRight (x0 : TPoint) : Pure Tryz.prog 131 (cvecRight x0).2.1 (.av (.one (.b (FvecRight x0)))) := by
 refine pure_of_awF Tryz.func131 rfl kr kr fun W0 M0 => ?_
 refine aw_seq ?_
 refine aw_region eqok [] [] [] [1] [1] [] ⟨[(1, tP 1 0)], [(1, .cells (TPoint.c x0) 66)]⟩ .nil kr .nil <| ath_n <| aw_seq ?_
 refine aw_region eqok [] [] [] [2] [] [((decide (((max x0.X x0.Y) : Int) <= 67108864)) = true) -> ((decide (((max x0.X x0.Y) : Int) <= 67108864)) = true), ((decide (((max x0.X x0.Y) : Int) <= 67108864)) = true) -> ((decide (((max x0.X x0.Y) : Int) <= 67108864)) = true), ((decide (((max x0.X x0.Y) : Int) <= 67108864)) = true) -> ((decide (((max x0.X x0.Y) : Int) <= 67108864)) = true), ((decide (((max x0.X x0.Y) : Int) <= 67108864)) = true) -> ((decide (((max x0.X x0.Y) : Int) <= 67108864)) = true), ((decide (((max x0.X x0.Y) : Int) <= 67108864)) = true) -> ((decide (((max x0.X x0.Y) : Int) <= 67108864)) = true), (decide (((max x0.X x0.Y) : Int) <= 67108864)) = true -> ((decide (((max x0.X x0.Y) : Int) <= 67108864)) = true)] ⟨[(2, tB (bif decide (((max x0.X x0.Y) : Int) <= 67108864) then decide ((((-67108864)) : Int) <= (min x0.X x0.Y)) else false))], []⟩ .nil kr (.cons id (.cons id (.cons id (.cons id (.cons id (.cons id .nil)))))) <| ath_n <| aw_ret ?_
 exact ⟨_, Cv.refl _, .inl rfl, .av (.one (.b (bif decide (((max x0.X x0.Y) : Int) <= 67108864) then decide ((((-67108864)) : Int) <= (min x0.X x0.Y)) else false))), by kernel_rfl, tve_eq (by rfl)⟩
theorem okvecRight (x0 : TPoint) : CallOk Tryz.prog (cvecRight x0).1 (cvecRight x0).2.1 (cvecRight x0).2.2 := callOk_pure (fun _ _ => by kernel_rfl) fun _ => pvecRight x0
def FvecSub (x0 : TPoint) (x1 : TPoint) : TPoint := TPoint.mk (W64 (x0.X - x1.X)) (W64 (x0.Y - x1.Y))
def cvecSub (x0 : TPoint) (x1 : TPoint) : FuncId × List Av × Ef := (137, [.agg (TPoint.c x0), .agg (TPoint.c x1)], .val [] (.av (.agg (TPoint.c (FvecSub x0 x1)))))
theorem pvecSub (x0 : TPoint) (x1 : TPoint) : Pure Tryz.prog 137 (cvecSub x0 x1).2.1 (.av (.agg (TPoint.c (FvecSub x0 x1)))) := by
 refine pure_of_awF Tryz.func137 rfl kr kr fun W0 M0 => ?_
 refine aw_seq ?_
 refine aw_region eqok [] [] [] [2, 3, 4] [2, 3, 4] [] ⟨[(2, tP 2 0), (3, tP 3 0), (4, tP 4 0)], [(2, .cells (TPoint.c x0) 66), (3, .cells (TPoint.c x1) 66), (4, .cells [.i 0, .i 0] 66)]⟩ .nil kr .nil <| ath_n <| aw_seq ?_
 refine aw_region eqok [] [] [] [4] [4] [] ⟨[(4, tP 4 0)], [(4, .cells [.i (W64 (x0.X - x1.X)), .i (W64 (x0.Y - x1.Y))] 66)]⟩ .nil kr .nil <| ath_n <| aw_ret ?_
 exact ⟨_, Cv.refl _, .inl rfl, .av (.agg [.i (W64 (x0.X - x1.X)), .i (W64 (x0.Y - x1.Y))]), by kernel_rfl, tve_eq (by rfl)⟩
theorem okvecSub (x0 : TPoint) (x1 : TPoint) : CallOk Tryz.prog (cvecSub x0 x1).1 (cvecSub x0 x1).2.1 (cvecSub x0 x1).2.2 := callOk_pure (fun _ _ => by kernel_rfl) fun _ => pvecSub x0 x1
def FvecAdd (x0 : TPoint) (x1 : TPoint) : TPoint := TPoint.mk (W64 (x0.X + x1.X)) (W64 (x0.Y + x1.Y))
def cvecAdd (x0 : TPoint) (x1 : TPoint) : FuncId × List Av × Ef := (119, [.agg (TPoint.c x0), .agg (TPoint.c x1)], .val [] (.av (.agg (TPoint.c (FvecAdd x0 x1)))))
theorem pvecAdd (x0 : TPoint) (x1 : TPoint) : Pure Tryz.prog 119 (cvecAdd x0 x1).2.1 (.av (.agg (TPoint.c (FvecAdd x0 x1)))) := by
 refine pure_of_awF Tryz.func119 rfl kr kr fun W0 M0 => ?_
 refine aw_seq ?_
 refine aw_region eqok [] [] [] [2, 3, 4] [2, 3, 4] [] ⟨[(2, tP 2 0), (3, tP 3 0), (4, tP 4 0)], [(2, .cells (TPoint.c x0) 66), (3, .cells (TPoint.c x1) 66), (4, .cells [.i 0, .i 0] 66)]⟩ .nil kr .nil <| ath_n <| aw_seq ?_
 refine aw_region eqok [] [] [] [4] [4] [] ⟨[(4, tP 4 0)], [(4, .cells [.i (W64 (x0.X + x1.X)), .i (W64 (x0.Y + x1.Y))] 66)]⟩ .nil kr .nil <| ath_n <| aw_ret ?_
 exact ⟨_, Cv.refl _, .inl rfl, .av (.agg [.i (W64 (x0.X + x1.X)), .i (W64 (x0.Y + x1.Y))]), by kernel_rfl, tve_eq (by rfl)⟩
theorem okvecAdd (x0 : TPoint) (x1 : TPoint) : CallOk Tryz.prog (cvecAdd x0 x1).1 (cvecAdd x0 x1).2.1 (cvecAdd x0 x1).2.2 := callOk_pure (fun _ _ => by kernel_rfl) fun _ => pvecAdd x0 x1
def FvecTurns (m : TMotion) : Int := A64 m.Turn 3
def cvecTurns (m : TMotion) : FuncId × List Av × Ef := (118, [.agg (TMotion.c m)], .val [] (.av (.one (.i (FvecTurns m)))))
theorem pvecTurns (m : TMotion) : Pure Tryz.prog 118 (cvecTurns m).2.1 (.av (.one (.i (FvecTurns m)))) := by
 refine pure_of_awF Tryz.func118 rfl kr kr fun W0 M0 => ?_
 refine aw_seq ?_
 refine aw_region eqok [] [] [] [1] [1] [] ⟨[(1, tP 1 0)], [(1, .cells (TMotion.c m) 74)]⟩ .nil kr .nil <| ath_n <| aw_seq ?_
 refine aw_region eqok [] [] [] [2] [] [] ⟨[(2, tI (A64 m.Turn 3))], []⟩ .nil kr .nil <| ath_n <| aw_ret ?_
 exact ⟨_, Cv.refl _, .inl rfl, .av (.one (.i (A64 m.Turn 3))), by kernel_rfl, tve_eq (by rfl)⟩
theorem okvecTurns (m : TMotion) : CallOk Tryz.prog (cvecTurns m).1 (cvecTurns m).2.1 (cvecTurns m).2.2 := callOk_pure (fun _ _ => by kernel_rfl) fun _ => pvecTurns m
theorem A64_3 (t : Int) : 0 <= A64 t 3 /\ A64 t 3 <= 3 := by
 unfold A64
 rw [IntKind.wrap_i64]
 have h : ((BitVec.ofInt 64 t &&& BitVec.ofInt 64 3).toNat) <= 3 := by
  rw [BitVec.toNat_and]
  exact Nat.le_trans Nat.and_le_right (by decide)
 generalize (BitVec.ofInt 64 t &&& BitVec.ofInt 64 3).toNat = n at *
 omega
theorem turns_b (m : TMotion) : 0 <= FvecTurns m /\ FvecTurns m <= 3 := A64_3 m.Turn
def FvecApply_l0 (m : TMotion) (p : TPoint) : Nat -> TPoint -> Int -> TPoint
 | 0, _, _ => default
 | n0 + 1, p', v13 => bif decide ((v13 : Int) < (FvecTurns m)) then ((FvecApply_l0 m p n0) (TPoint.mk (W64 (0 - p'.Y)) p'.X) (v13 + 1)) else (FvecAdd p' m.At)
def FvecApply (m : TMotion) (p : TPoint) : TPoint := FvecApply_l0 m p ((((FvecTurns m)) - 0).toNat + 1) (TPoint.mk (bif m.Mirror then (W64 (0 - p.X)) else p.X) p.Y) 0
def cvecApply (m : TMotion) (p : TPoint) : FuncId × List Av × Ef := (62, [.agg (TMotion.c m), .agg (TPoint.c p)], .val [] (.av (.agg (TPoint.c (FvecApply m p)))))
theorem at0 {p : Prop} (h : p := by simp only [List.length_append, List.length_cons, List.length_nil]; omega) : p := h
theorem at1 {p : Prop} (h : p := by simp only [List.length_set, List.length_append, List.length_cons, List.length_nil]; omega) : p := h
theorem at2 {p : Prop} (h : p := by simp only [W64_def]; omega) : p := h
theorem pvecApply (m : TMotion) (p : TPoint) : Pure Tryz.prog 62 (cvecApply m p).2.1 (.av (.agg (TPoint.c (FvecApply m p)))) := by
 refine pure_of_awF Tryz.func62 rfl kr kr fun W0 M0 => ?_
 refine aw_seq ?_
 refine aw_region eqok [] [] [] [2, 3, 4] [2, 3, 4] [] ⟨[(2, tP 2 0), (3, tP 3 0), (4, tP 4 0)], [(2, .cells (TMotion.c m) 74), (3, .cells (TPoint.c p) 66), (4, .cells [.i 0, .i 0] 66)]⟩ .nil kr .nil <| ath_n ?_
 refine aw_seq <| aw_seq ?_
 refine aw_region eqok [] [] [] [2, 3, 4, 6] [2, 3, 4] [] ⟨[(2, tP 2 0), (3, tP 3 0), (4, tP 4 0), (6, tB m.Mirror)], [(2, .cells (TMotion.c m) 74), (3, .cells (TPoint.c p) 66), (4, .cells [.i 0, .i 0] 66)]⟩ .nil kr .nil <| ath_n ?_
 refine aw_joinC (⟨[(2, tP 2 0), (3, tP 3 0), (4, tP 4 0)], [(2, .cells (TMotion.c m) 74), (3, .cells [.i (bif m.Mirror then (W64 (0 - p.X)) else p.X), .i p.Y] 66), (4, .cells [.i 0, .i 0] 66)]⟩) ?_ ?_
 ·refine aw_cond (m.Mirror) kr (fun h1 => ?_) (fun h1 => ?_)
  ·refine aw_region eqok [] [] [] [2, 3, 4] [2, 3, 4] [] ⟨[(2, tP 2 0), (3, tP 3 0), (4, tP 4 0)], [(2, .cells (TMotion.c m) 74), (3, .cells [.i (W64 (0 - p.X)), .i p.Y] 66), (4, .cells [.i 0, .i 0] 66)]⟩ .nil kr .nil <| ath_n ?_
   refine cv_eq ?_
   first | rfl | (simp only [h1, cond_true, cond_false] <;> rfl)
  ·refine aw_skip <| ath_n ?_
   refine Cv.trans (cv_keep [2, 3, 4] [2, 3, 4] (⟨[(2, tP 2 0), (3, tP 3 0), (4, tP 4 0)], [(2, .cells (TMotion.c m) 74), (3, .cells (TPoint.c p) 66), (4, .cells [.i 0, .i 0] 66)]⟩) kr) (cv_eq ?_)
   first | rfl | (simp only [h1, cond_true, cond_false] <;> rfl)
 refine aw_seq <| aw_seq ?_
 refine aw_region eqok [] [] [(12, cvecTurns m)] [2, 3, 4, 12, 13] [2, 3, 4] [Same (cvecTurns m).2.1] ⟨[(2, tP 2 0), (3, tP 3 0), (4, tP 4 0), (12, tI (FvecTurns m)), (13, tI 0)], [(2, .cells (TMotion.c m) 74), (3, .cells [.i (bif m.Mirror then (W64 (0 - p.X)) else p.X), .i p.Y] 66), (4, .cells [.i 0, .i 0] 66)]⟩ (.cons (okvecTurns m) .nil) kr (.cons rfl .nil) <| ath_n <| aw_block ?_
 refine aw_loopC (ι := Nat × TPoint × Int) (fun x => ⟨[(2, tP 2 0), (3, tP 3 0), (4, tP 4 0), (12, tI (FvecTurns m)), (13, tI x.2.2)], [(2, .cells (TMotion.c m) 74), (3, .cells (TPoint.c x.2.1) 66), (4, .cells [.i 0, .i 0] 66)]⟩) (fun x => (((FvecTurns m)) - x.2.2).toNat < x.1 /\ (0 <= x.2.2 /\ x.2.2 <= FvecTurns m) /\ FvecApply_l0 m p x.1 x.2.1 x.2.2 = FvecApply m p) (fun x => x.1) ?_ ((((FvecTurns m)) - 0).toNat + 1, TPoint.mk (bif m.Mirror then (W64 (0 - p.X)) else p.X) p.Y, 0) ⟨Nat.lt_succ_self _, (by show 0 <= 0 /\ 0 <= FvecTurns m; (have := turns_b m; omega)), (by simp only [FvecApply, cond_true, cond_false])⟩
 rintro ⟨n0, p', v13⟩ ⟨hn, hinv, hF⟩
 have hm0 : (((FvecTurns m)) - v13).toNat < n0 := hn; have hinv0 : 0 <= v13 /\ v13 <= FvecTurns m := hinv; have hF0 : FvecApply_l0 m p n0 p' v13 = FvecApply m p := hF; clear hn hinv hF
 cases n0 with
 | zero => exact absurd hm0 (Nat.not_lt_zero _)
 | succ n0 =>
  have ht := turns_b m
  have e1 : W64 (v13 + 1) = v13 + 1 := W64_id (by omega) (by omega)
  refine aw_seq ?_
  refine aw_region eqok [] [] [] [2, 3, 4, 12, 13, 14] [2, 3, 4] [] ⟨[(2, tP 2 0), (3, tP 3 0), (4, tP 4 0), (12, tI (FvecTurns m)), (13, tI v13), (14, tB (decide ((v13 : Int) < (FvecTurns m))))], [(2, .cells (TMotion.c m) 74), (3, .cells (TPoint.c p') 66), (4, .cells [.i 0, .i 0] 66)]⟩ .nil kr .nil <| ath_n <| aw_seq ?_
  refine aw_cond (decide ((v13 : Int) < (FvecTurns m))) kr (fun h1 => ?_) (fun h1 => ?_)
  ·have g1 := of_decide_eq_true h1
   refine aw_skip <| ath_n ?_
   refine aw_seq <| aw_block ?_
   refine aw_region eqok [] [] [] [2, 3, 4, 12, 13] [2, 3, 4] [] ⟨[(2, tP 2 0), (3, tP 3 0), (4, tP 4 0), (12, tI (FvecTurns m)), (13, tI v13)], [(2, .cells (TMotion.c m) 74), (3, .cells [.i (W64 (0 - p'.Y)), .i p'.X] 66), (4, .cells [.i 0, .i 0] 66)]⟩ .nil kr .nil <| abl_n <| ath_n ?_
   refine aw_region eqok [] [] [] [2, 3, 4, 12, 13] [2, 3, 4] [] ⟨[(2, tP 2 0), (3, tP 3 0), (4, tP 4 0), (12, tI (FvecTurns m)), (13, tI (W64 (v13 + 1)))], [(2, .cells (TMotion.c m) 74), (3, .cells [.i (W64 (0 - p'.Y)), .i p'.X] 66), (4, .cells [.i 0, .i 0] 66)]⟩ .nil kr .nil ?_
   (try rw [e1])
   refine ath_n ?_
   refine ⟨(n0, TPoint.mk (W64 (0 - p'.Y)) p'.X, v13 + 1), ⟨?_, ?_, (by rw [<- hF0]; simp only [FvecApply_l0, h1, cond_true, cond_false])⟩, Nat.lt_succ_self _, cv_eq kr⟩
   ·show (((FvecTurns m)) - (v13 + 1)).toNat < n0; omega
   ·exact (by show 0 <= (v13 + 1) /\ (v13 + 1) <= FvecTurns m; first | trivial | omega | exact at0 | exact at1 | exact at2 | (simp; omega) | simp)
  ·have g1 := of_decide_eq_false h1
   refine aw_exit <| ath_e ?_
   refine ath_e <| abl_hit ?_
   refine ath_n <| aw_seq ?_
   refine aw_region eqok [] [] [(25, cvecAdd p' m.At)] [4] [4] [Same (cvecAdd p' m.At).2.1] ⟨[(4, tP 4 0)], [(4, .cells (TPoint.c (FvecAdd p' m.At)) 66)]⟩ (.cons (okvecAdd p' m.At) .nil) kr (.cons rfl .nil) <| ath_n <| aw_ret ?_
   exact ⟨_, Cv.refl _, .inl rfl, .av (.agg (TPoint.c (FvecAdd p' m.At))), by kernel_rfl, tve_eq (by rw [<- hF0]; first | (simp only [FvecApply_l0, h1, cond_true, cond_false] <;> rfl))⟩
theorem okvecApply (m : TMotion) (p : TPoint) : CallOk Tryz.prog (cvecApply m p).1 (cvecApply m p).2.1 (cvecApply m p).2.2 := callOk_pure (fun _ _ => by kernel_rfl) fun _ => pvecApply m p
def FedgeBox (x0 : TEdge) : TRect := TRect.mk (min x0.A.X x0.B.X) (min x0.A.Y x0.B.Y) (max x0.A.X x0.B.X) (max x0.A.Y x0.B.Y)
def cedgeBox (x0 : TEdge) : FuncId × List Av × Ef := (82, [.agg (TEdge.c x0)], .val [] (.av (.agg (TRect.c (FedgeBox x0)))))
theorem pedgeBox (x0 : TEdge) : Pure Tryz.prog 82 (cedgeBox x0).2.1 (.av (.agg (TRect.c (FedgeBox x0)))) := by
 refine pure_of_awF Tryz.func82 rfl kr kr fun W0 M0 => ?_
 refine aw_seq ?_
 refine aw_region eqok [] [] [] [1, 2] [1, 2] [] ⟨[(1, tP 1 0), (2, tP 2 0)], [(1, .cells (TEdge.c x0) 68), (2, .cells [.i 0, .i 0, .i 0, .i 0] 90)]⟩ .nil kr .nil <| ath_n <| aw_seq ?_
 refine aw_region eqok [] [] [] [2] [2] [] ⟨[(2, tP 2 0)], [(2, .cells [.i (min x0.A.X x0.B.X), .i (min x0.A.Y x0.B.Y), .i (max x0.A.X x0.B.X), .i (max x0.A.Y x0.B.Y)] 90)]⟩ .nil kr .nil <| ath_n <| aw_ret ?_
 exact ⟨_, Cv.refl _, .inl rfl, .av (.agg [.i (min x0.A.X x0.B.X), .i (min x0.A.Y x0.B.Y), .i (max x0.A.X x0.B.X), .i (max x0.A.Y x0.B.Y)]), by kernel_rfl, tve_eq (by rfl)⟩
theorem okedgeBox (x0 : TEdge) : CallOk Tryz.prog (cedgeBox x0).1 (cedgeBox x0).2.1 (cedgeBox x0).2.2 := callOk_pure (fun _ _ => by kernel_rfl) fun _ => pedgeBox x0
def Fedgequarter (x0 : TEdge) (x1 : Int) : Bool := bif !((decide ((((FvecSub x0.A x0.C).X) : Int) = 0)) == (decide ((((FvecSub x0.A x0.C).Y) : Int) = 0))) then (decide (((FvecSub x0.B x0.C).X) = ((FvecApply (TMotion.mk (TPoint.mk 0 0) x1 false) (FvecSub x0.A x0.C)).X)) && (decide (((FvecSub x0.B x0.C).Y) = ((FvecApply (TMotion.mk (TPoint.mk 0 0) x1 false) (FvecSub x0.A x0.C)).Y)) && true)) else false
def cedgequarter (x0 : TEdge) (x1 : Int) : FuncId × List Av × Ef := (190, [.agg (TEdge.c x0), .one (.i x1)], .val [] (.av (.one (.b (Fedgequarter x0 x1)))))
theorem pedgequarter (x0 : TEdge) (x1 : Int) : Pure Tryz.prog 190 (cedgequarter x0 x1).2.1 (.av (.one (.b (Fedgequarter x0 x1)))) := by
 refine pure_of_awF Tryz.func190 rfl kr kr fun W0 M0 => ?_
 refine aw_seq ?_
 refine aw_region eqok [] [] [] [1, 2] [2] [] ⟨[(1, tI x1), (2, tP 2 0)], [(2, .cells (TEdge.c x0) 68)]⟩ .nil kr .nil <| ath_n <| aw_seq ?_
 refine aw_region eqok [] [] [(10, cvecSub x0.A x0.C)] [1, 2, 5] [2, 5] [Same (cvecSub x0.A x0.C).2.1] ⟨[(1, tI x1), (2, tP 2 0), (5, tP 5 0)], [(2, .cells (TEdge.c x0) 68), (5, .cells (TPoint.c (FvecSub x0.A x0.C)) 66)]⟩ (.cons (okvecSub x0.A x0.C) .nil) kr (.cons rfl .nil) <| ath_n <| aw_seq ?_
 refine aw_draw mixed eqok [] [] [(23, cvecSub x0.B x0.C), (27, cvecApply (TMotion.mk (TPoint.mk 0 0) x1 false) (FvecSub x0.A x0.C))] [4] [] [((!((decide ((((FvecSub x0.A x0.C).X) : Int) = 0)) == (decide ((((FvecSub x0.A x0.C).Y) : Int) = 0)))) = true) -> ((!((decide ((((FvecSub x0.A x0.C).X) : Int) = 0)) == (decide ((((FvecSub x0.A x0.C).Y) : Int) = 0)))) = true), ((!((decide ((((FvecSub x0.A x0.C).X) : Int) = 0)) == (decide ((((FvecSub x0.A x0.C).Y) : Int) = 0)))) = true) -> ((!((decide ((((FvecSub x0.A x0.C).X) : Int) = 0)) == (decide ((((FvecSub x0.A x0.C).Y) : Int) = 0)))) = true), ((!((decide ((((FvecSub x0.A x0.C).X) : Int) = 0)) == (decide ((((FvecSub x0.A x0.C).Y) : Int) = 0)))) = true) -> ((!((decide ((((FvecSub x0.A x0.C).X) : Int) = 0)) == (decide ((((FvecSub x0.A x0.C).Y) : Int) = 0)))) = true), ((!((decide ((((FvecSub x0.A x0.C).X) : Int) = 0)) == (decide ((((FvecSub x0.A x0.C).Y) : Int) = 0)))) = true) -> ((!((decide ((((FvecSub x0.A x0.C).X) : Int) = 0)) == (decide ((((FvecSub x0.A x0.C).Y) : Int) = 0)))) = true), ((!((decide ((((FvecSub x0.A x0.C).X) : Int) = 0)) == (decide ((((FvecSub x0.A x0.C).Y) : Int) = 0)))) = true) -> (Same (cvecSub x0.B x0.C).2.1), ((!((decide ((((FvecSub x0.A x0.C).X) : Int) = 0)) == (decide ((((FvecSub x0.A x0.C).Y) : Int) = 0)))) = true) -> ((!((decide ((((FvecSub x0.A x0.C).X) : Int) = 0)) == (decide ((((FvecSub x0.A x0.C).Y) : Int) = 0)))) = true), ((!((decide ((((FvecSub x0.A x0.C).X) : Int) = 0)) == (decide ((((FvecSub x0.A x0.C).Y) : Int) = 0)))) = true) -> ((!((decide ((((FvecSub x0.A x0.C).X) : Int) = 0)) == (decide ((((FvecSub x0.A x0.C).Y) : Int) = 0)))) = true), ((!((decide ((((FvecSub x0.A x0.C).X) : Int) = 0)) == (decide ((((FvecSub x0.A x0.C).Y) : Int) = 0)))) = true) -> ((!((decide ((((FvecSub x0.A x0.C).X) : Int) = 0)) == (decide ((((FvecSub x0.A x0.C).Y) : Int) = 0)))) = true), ((!((decide ((((FvecSub x0.A x0.C).X) : Int) = 0)) == (decide ((((FvecSub x0.A x0.C).Y) : Int) = 0)))) = true) -> (Same (cvecApply (TMotion.mk (TPoint.mk 0 0) x1 false) (FvecSub x0.A x0.C)).2.1), ((!((decide ((((FvecSub x0.A x0.C).X) : Int) = 0)) == (decide ((((FvecSub x0.A x0.C).Y) : Int) = 0)))) = true) -> ((!((decide ((((FvecSub x0.A x0.C).X) : Int) = 0)) == (decide ((((FvecSub x0.A x0.C).Y) : Int) = 0)))) = true), ((!((decide ((((FvecSub x0.A x0.C).X) : Int) = 0)) == (decide ((((FvecSub x0.A x0.C).Y) : Int) = 0)))) = true) -> ((!((decide ((((FvecSub x0.A x0.C).X) : Int) = 0)) == (decide ((((FvecSub x0.A x0.C).Y) : Int) = 0)))) = true), (!((decide ((((FvecSub x0.A x0.C).X) : Int) = 0)) == (decide ((((FvecSub x0.A x0.C).Y) : Int) = 0)))) = true -> ((!((decide ((((FvecSub x0.A x0.C).X) : Int) = 0)) == (decide ((((FvecSub x0.A x0.C).Y) : Int) = 0)))) = true)] ⟨[(4, tB (bif !((decide ((((FvecSub x0.A x0.C).X) : Int) = 0)) == (decide ((((FvecSub x0.A x0.C).Y) : Int) = 0))) then (decide (((FvecSub x0.B x0.C).X) = ((FvecApply (TMotion.mk (TPoint.mk 0 0) x1 false) (FvecSub x0.A x0.C)).X)) && (decide (((FvecSub x0.B x0.C).Y) = ((FvecApply (TMotion.mk (TPoint.mk 0 0) x1 false) (FvecSub x0.A x0.C)).Y)) && true)) else false))], []⟩ (.cons (okvecSub x0.B x0.C) (.cons (okvecApply (TMotion.mk (TPoint.mk 0 0) x1 false) (FvecSub x0.A x0.C)) .nil)) kr kr (.cons id (.cons id (.cons id (.cons id (.cons (fun _ => rfl) (.cons id (.cons id (.cons id (.cons (fun _ => rfl) (.cons id (.cons id (.cons id .nil)))))))))))) <| ath_n <| aw_ret ?_
 exact ⟨_, Cv.refl _, .inl rfl, .av (.one (.b (bif !((decide ((((FvecSub x0.A x0.C).X) : Int) = 0)) == (decide ((((FvecSub x0.A x0.C).Y) : Int) = 0))) then (decide (((FvecSub x0.B x0.C).X) = ((FvecApply (TMotion.mk (TPoint.mk 0 0) x1 false) (FvecSub x0.A x0.C)).X)) && (decide (((FvecSub x0.B x0.C).Y) = ((FvecApply (TMotion.mk (TPoint.mk 0 0) x1 false) (FvecSub x0.A x0.C)).Y)) && true)) else false))), by kernel_rfl, tve_eq (by rfl)⟩
theorem okedgequarter (x0 : TEdge) (x1 : Int) : CallOk Tryz.prog (cedgequarter x0 x1).1 (cedgequarter x0 x1).2.1 (cedgequarter x0 x1).2.2 := callOk_pure (fun _ _ => by kernel_rfl) fun _ => pedgequarter x0 x1
def Fedgelone (x0 : TEdge) : Bool := (decide (x0.C.X = 0) && (decide (x0.C.Y = 0) && true))
def cedgelone (x0 : TEdge) : FuncId × List Av × Ef := (172, [.agg (TEdge.c x0)], .val [] (.av (.one (.b (Fedgelone x0)))))
theorem pedgelone (x0 : TEdge) : Pure Tryz.prog 172 (cedgelone x0).2.1 (.av (.one (.b (Fedgelone x0)))) := by
 refine pure_of_awF Tryz.func172 rfl kr kr fun W0 M0 => ?_
 refine aw_seq ?_
 refine aw_region eqok [] [] [] [1] [1] [] ⟨[(1, tP 1 0)], [(1, .cells (TEdge.c x0) 68)]⟩ .nil kr .nil <| ath_n <| aw_seq ?_
 refine aw_region eqok [] [] [] [2] [] [] ⟨[(2, tB ((decide (x0.C.X = 0) && (decide (x0.C.Y = 0) && true))))], []⟩ .nil kr .nil <| ath_n <| aw_ret ?_
 exact ⟨_, Cv.refl _, .inl rfl, .av (.one (.b ((decide (x0.C.X = 0) && (decide (x0.C.Y = 0) && true))))), by kernel_rfl, tve_eq (by rfl)⟩
theorem okedgelone (x0 : TEdge) : CallOk Tryz.prog (cedgelone x0).1 (cedgelone x0).2.1 (cedgelone x0).2.2 := callOk_pure (fun _ _ => by kernel_rfl) fun _ => pedgelone x0
def Fedgeleftwards (x0 : TEdge) : Bool := Fedgequarter x0 1
def cedgeleftwards (x0 : TEdge) : FuncId × List Av × Ef := (175, [.agg (TEdge.c x0)], .val [] (.av (.one (.b (Fedgeleftwards x0)))))
theorem pedgeleftwards (x0 : TEdge) : Pure Tryz.prog 175 (cedgeleftwards x0).2.1 (.av (.one (.b (Fedgeleftwards x0)))) := by
 refine pure_of_awF Tryz.func175 rfl kr kr fun W0 M0 => ?_
 refine aw_seq ?_
 refine aw_region eqok [] [] [] [1] [1] [] ⟨[(1, tP 1 0)], [(1, .cells (TEdge.c x0) 68)]⟩ .nil kr .nil <| ath_n <| aw_seq ?_
 refine aw_region eqok [] [] [(4, cedgequarter x0 1)] [2] [] [Same (cedgequarter x0 1).2.1] ⟨[(2, tB (Fedgequarter x0 1))], []⟩ (.cons (okedgequarter x0 1) .nil) kr (.cons rfl .nil) <| ath_n <| aw_ret ?_
 exact ⟨_, Cv.refl _, .inl rfl, .av (.one (.b (Fedgequarter x0 1))), by kernel_rfl, tve_eq (by rfl)⟩
theorem okedgeleftwards (x0 : TEdge) : CallOk Tryz.prog (cedgeleftwards x0).1 (cedgeleftwards x0).2.1 (cedgeleftwards x0).2.2 := callOk_pure (fun _ _ => by kernel_rfl) fun _ => pedgeleftwards x0
def Fedgerightwards (x0 : TEdge) : Bool := Fedgequarter x0 3
def cedgerightwards (x0 : TEdge) : FuncId × List Av × Ef := (178, [.agg (TEdge.c x0)], .val [] (.av (.one (.b (Fedgerightwards x0)))))
theorem pedgerightwards (x0 : TEdge) : Pure Tryz.prog 178 (cedgerightwards x0).2.1 (.av (.one (.b (Fedgerightwards x0)))) := by
 refine pure_of_awF Tryz.func178 rfl kr kr fun W0 M0 => ?_
 refine aw_seq ?_
 refine aw_region eqok [] [] [] [1] [1] [] ⟨[(1, tP 1 0)], [(1, .cells (TEdge.c x0) 68)]⟩ .nil kr .nil <| ath_n <| aw_seq ?_
 refine aw_region eqok [] [] [(4, cedgequarter x0 3)] [2] [] [Same (cedgequarter x0 3).2.1] ⟨[(2, tB (Fedgequarter x0 3))], []⟩ (.cons (okedgequarter x0 3) .nil) kr (.cons rfl .nil) <| ath_n <| aw_ret ?_
 exact ⟨_, Cv.refl _, .inl rfl, .av (.one (.b (Fedgequarter x0 3))), by kernel_rfl, tve_eq (by rfl)⟩
theorem okedgerightwards (x0 : TEdge) : CallOk Tryz.prog (cedgerightwards x0).1 (cedgerightwards x0).2.1 (cedgerightwards x0).2.2 := callOk_pure (fun _ _ => by kernel_rfl) fun _ => pedgerightwards x0
def cfamilies1 : FuncId × List Av × Ef := (164, [.one (.i 1)], .val [] (.tup [.agg [.clo 172 0 (fun _ => default), .clo 173 0 (fun _ => default), .clo 174 0 (fun _ => default), .i 1], .one (.b true)]))
theorem pfamilies1  : Pure Tryz.prog 164 (cfamilies1 ).2.1 (.tup [.agg [.clo 172 0 (fun _ => default), .clo 173 0 (fun _ => default), .clo 174 0 (fun _ => default), .i 1], .one (.b true)]) := by
 refine pure_of_awF Tryz.func164 rfl kr kr fun W0 M0 => ?_
 refine aw_seq ?_
 refine aw_region eqok [] [] [] [0, 2] [2] [] ⟨[(0, tI 1), (2, tP 2 0)], [(2, .cells [.val .nilFunc, .val .nilFunc, .val .nilFunc, .i 0] 241)]⟩ .nil kr .nil <| ath_n ?_
 refine aw_seq <| aw_seq ?_
 refine aw_region eqok [] [] [] [0, 2, 4] [2] [] ⟨[(0, tI 1), (2, tP 2 0), (4, tI 1)], [(2, .cells [.val .nilFunc, .val .nilFunc, .val .nilFunc, .i 0] 241)]⟩ .nil kr .nil <| ath_n ?_
 refine aw_block <| aw_seq ?_
 refine aw_region eqok [] [] [] [0, 2, 4, 5] [2] [] ⟨[(0, tI 1), (2, tP 2 0), (4, tI 1), (5, tB true)], [(2, .cells [.val .nilFunc, .val .nilFunc, .val .nilFunc, .i 0] 241)]⟩ .nil kr .nil <| ath_n ?_
 refine aw_cond_t kr <| aw_seq ?_
 refine aw_region eqok [] [] [] [2, 3] [2] [] ⟨[(2, tP 2 0), (3, tB true)], [(2, .cells [.clo 172 0 (fun _ => default), .clo 173 0 (fun _ => default), .clo 174 0 (fun _ => default), .i 1] 241)]⟩ .nil kr .nil <| ath_n ?_
 refine aw_ret <| abl_r <| ath_r ?_
 exact ⟨_, Cv.refl _, .inl rfl, .tup [.agg [.clo 172 0 (fun _ => default), .clo 173 0 (fun _ => default), .clo 174 0 (fun _ => default), .i 1], .one (.b true)], by kernel_rfl, tve_eq rfl⟩
theorem okfamilies1  : CallOk Tryz.prog (cfamilies1 ).1 (cfamilies1 ).2.1 (cfamilies1 ).2.2 := callOk_pure (fun _ _ => by kernel_rfl) fun _ => pfamilies1
def cfamilies2 : FuncId × List Av × Ef := (164, [.one (.i 2)], .val [] (.tup [.agg [.clo 175 0 (fun _ => default), .clo 176 0 (fun _ => default), .clo 177 0 (fun _ => default), .i 3], .one (.b true)]))
theorem pfamilies2  : Pure Tryz.prog 164 (cfamilies2 ).2.1 (.tup [.agg [.clo 175 0 (fun _ => default), .clo 176 0 (fun _ => default), .clo 177 0 (fun _ => default), .i 3], .one (.b true)]) := by
 refine pure_of_awF Tryz.func164 rfl kr kr fun W0 M0 => ?_
 refine aw_seq ?_
 refine aw_region eqok [] [] [] [0, 2] [2] [] ⟨[(0, tI 2), (2, tP 2 0)], [(2, .cells [.val .nilFunc, .val .nilFunc, .val .nilFunc, .i 0] 241)]⟩ .nil kr .nil <| ath_n ?_
 refine aw_seq <| aw_seq ?_
 refine aw_region eqok [] [] [] [0, 2, 4] [2] [] ⟨[(0, tI 2), (2, tP 2 0), (4, tI 2)], [(2, .cells [.val .nilFunc, .val .nilFunc, .val .nilFunc, .i 0] 241)]⟩ .nil kr .nil <| ath_n ?_
 refine aw_block <| aw_seq ?_
 refine aw_region eqok [] [] [] [0, 2, 4, 5] [2] [] ⟨[(0, tI 2), (2, tP 2 0), (4, tI 2), (5, tB false)], [(2, .cells [.val .nilFunc, .val .nilFunc, .val .nilFunc, .i 0] 241)]⟩ .nil kr .nil <| ath_n ?_
 refine aw_cond_f kr <| aw_seq ?_
 refine aw_region eqok [] [] [] [0, 2, 4, 8] [2] [] ⟨[(0, tI 2), (2, tP 2 0), (4, tI 2), (8, tB true)], [(2, .cells [.val .nilFunc, .val .nilFunc, .val .nilFunc, .i 0] 241)]⟩ .nil kr .nil <| ath_n ?_
 refine aw_cond_t kr <| aw_seq ?_
 refine aw_region eqok [] [] [] [2, 3] [2] [] ⟨[(2, tP 2 0), (3, tB true)], [(2, .cells [.clo 175 0 (fun _ => default), .clo 176 0 (fun _ => default), .clo 177 0 (fun _ => default), .i 3] 241)]⟩ .nil kr .nil <| ath_n ?_
 refine aw_ret <| abl_r <| ath_r ?_
 exact ⟨_, Cv.refl _, .inl rfl, .tup [.agg [.clo 175 0 (fun _ => default), .clo 176 0 (fun _ => default), .clo 177 0 (fun _ => default), .i 3], .one (.b true)], by kernel_rfl, tve_eq rfl⟩
theorem okfamilies2  : CallOk Tryz.prog (cfamilies2 ).1 (cfamilies2 ).2.1 (cfamilies2 ).2.2 := callOk_pure (fun _ _ => by kernel_rfl) fun _ => pfamilies2
def cfamilies3 : FuncId × List Av × Ef := (164, [.one (.i 3)], .val [] (.tup [.agg [.clo 178 0 (fun _ => default), .clo 176 0 (fun _ => default), .clo 177 0 (fun _ => default), .i 2], .one (.b true)]))
theorem pfamilies3  : Pure Tryz.prog 164 (cfamilies3 ).2.1 (.tup [.agg [.clo 178 0 (fun _ => default), .clo 176 0 (fun _ => default), .clo 177 0 (fun _ => default), .i 2], .one (.b true)]) := by
 refine pure_of_awF Tryz.func164 rfl kr kr fun W0 M0 => ?_
 refine aw_seq ?_
 refine aw_region eqok [] [] [] [0, 2] [2] [] ⟨[(0, tI 3), (2, tP 2 0)], [(2, .cells [.val .nilFunc, .val .nilFunc, .val .nilFunc, .i 0] 241)]⟩ .nil kr .nil <| ath_n ?_
 refine aw_seq <| aw_seq ?_
 refine aw_region eqok [] [] [] [0, 2, 4] [2] [] ⟨[(0, tI 3), (2, tP 2 0), (4, tI 3)], [(2, .cells [.val .nilFunc, .val .nilFunc, .val .nilFunc, .i 0] 241)]⟩ .nil kr .nil <| ath_n ?_
 refine aw_block <| aw_seq ?_
 refine aw_region eqok [] [] [] [0, 2, 4, 5] [2] [] ⟨[(0, tI 3), (2, tP 2 0), (4, tI 3), (5, tB false)], [(2, .cells [.val .nilFunc, .val .nilFunc, .val .nilFunc, .i 0] 241)]⟩ .nil kr .nil <| ath_n ?_
 refine aw_cond_f kr <| aw_seq ?_
 refine aw_region eqok [] [] [] [0, 2, 4, 8] [2] [] ⟨[(0, tI 3), (2, tP 2 0), (4, tI 3), (8, tB false)], [(2, .cells [.val .nilFunc, .val .nilFunc, .val .nilFunc, .i 0] 241)]⟩ .nil kr .nil <| ath_n ?_
 refine aw_cond_f kr <| aw_seq ?_
 refine aw_region eqok [] [] [] [0, 2, 11] [2] [] ⟨[(0, tI 3), (2, tP 2 0), (11, tB true)], [(2, .cells [.val .nilFunc, .val .nilFunc, .val .nilFunc, .i 0] 241)]⟩ .nil kr .nil <| ath_n ?_
 refine aw_cond_t kr <| aw_seq ?_
 refine aw_region eqok [] [] [] [2, 3] [2] [] ⟨[(2, tP 2 0), (3, tB true)], [(2, .cells [.clo 178 0 (fun _ => default), .clo 176 0 (fun _ => default), .clo 177 0 (fun _ => default), .i 2] 241)]⟩ .nil kr .nil <| ath_n ?_
 refine aw_ret <| abl_r <| ath_r ?_
 exact ⟨_, Cv.refl _, .inl rfl, .tup [.agg [.clo 178 0 (fun _ => default), .clo 176 0 (fun _ => default), .clo 177 0 (fun _ => default), .i 2], .one (.b true)], by kernel_rfl, tve_eq rfl⟩
theorem okfamilies3  : CallOk Tryz.prog (cfamilies3 ).1 (cfamilies3 ).2.1 (cfamilies3 ).2.2 := callOk_pure (fun _ _ => by kernel_rfl) fun _ => pfamilies3
def cfamiliesN (k : Int) : FuncId × List Av × Ef := (164, [.one (.i k)], .val [] (.tup [.agg [.val .nilFunc, .val .nilFunc, .val .nilFunc, .i k], .one (.b false)]))
theorem pfamiliesN (k : Int) (k1 : ¬ k = 1) (k2 : ¬ k = 2) (k3 : ¬ k = 3) : Pure Tryz.prog 164 (cfamiliesN k).2.1 (.tup [.agg [.val .nilFunc, .val .nilFunc, .val .nilFunc, .i k], .one (.b false)]) := by
 refine pure_of_awF Tryz.func164 rfl kr kr fun W0 M0 => ?_
 refine aw_seq ?_
 refine aw_region eqok [] [] [] [0, 2] [2] [] ⟨[(0, tI k), (2, tP 2 0)], [(2, .cells [.val .nilFunc, .val .nilFunc, .val .nilFunc, .i 0] 241)]⟩ .nil kr .nil <| ath_n ?_
 refine aw_seq <| aw_seq ?_
 refine aw_region eqok [] [] [] [0, 2, 4] [2] [] ⟨[(0, tI k), (2, tP 2 0), (4, tI k)], [(2, .cells [.val .nilFunc, .val .nilFunc, .val .nilFunc, .i 0] 241)]⟩ .nil kr .nil <| ath_n ?_
 refine aw_block <| aw_seq ?_
 refine aw_region eqok [] [] [] [0, 2, 4, 5] [2] [] ⟨[(0, tI k), (2, tP 2 0), (4, tI k), (5, tB (decide ((k : Int) = 1)))], [(2, .cells [.val .nilFunc, .val .nilFunc, .val .nilFunc, .i 0] 241)]⟩ .nil kr .nil <| ath_n ?_
 refine aw_cond (decide ((k : Int) = 1)) kr (fun h => absurd ((decide_eq_false k1).symm.trans h) (by decide)) (fun _ => ?_)
 refine aw_seq ?_
 refine aw_region eqok [] [] [] [0, 2, 4, 8] [2] [] ⟨[(0, tI k), (2, tP 2 0), (4, tI k), (8, tB (decide ((k : Int) = 2)))], [(2, .cells [.val .nilFunc, .val .nilFunc, .val .nilFunc, .i 0] 241)]⟩ .nil kr .nil <| ath_n ?_
 refine aw_cond (decide ((k : Int) = 2)) kr (fun h => absurd ((decide_eq_false k2).symm.trans h) (by decide)) (fun _ => ?_)
 refine aw_seq ?_
 refine aw_region eqok [] [] [] [0, 2, 11] [2] [] ⟨[(0, tI k), (2, tP 2 0), (11, tB (decide ((k : Int) = 3)))], [(2, .cells [.val .nilFunc, .val .nilFunc, .val .nilFunc, .i 0] 241)]⟩ .nil kr .nil <| ath_n ?_
 refine aw_cond (decide ((k : Int) = 3)) kr (fun h => absurd ((decide_eq_false k3).symm.trans h) (by decide)) (fun _ => ?_)
 refine aw_skip <| abl_n ?_
 refine ath_n <| aw_seq ?_
 refine aw_region eqok [] [] [] [2, 3] [2] [] ⟨[(2, tP 2 0), (3, tB false)], [(2, .cells [.val .nilFunc, .val .nilFunc, .val .nilFunc, .i k] 241)]⟩ .nil kr .nil <| ath_n <| aw_ret ?_
 exact ⟨_, Cv.refl _, .inl rfl, .tup [.agg [.val .nilFunc, .val .nilFunc, .val .nilFunc, .i k], .one (.b false)], by kernel_rfl, tve_eq rfl⟩
theorem okfamiliesN (k : Int) (k1 : ¬ k = 1) (k2 : ¬ k = 2) (k3 : ¬ k = 3) : CallOk Tryz.prog (cfamiliesN k).1 (cfamiliesN k).2.1 (cfamiliesN k).2.2 := callOk_pure (fun _ _ => by kernel_rfl) fun _ => pfamiliesN k k1 k2 k3
def Z00 (a0 : TPoint) (a1 : TPoint) : Bool := bif FvecRight a0 then FvecRight a1 else false
def Z01 (a0 : TPoint) (a1 : TPoint) (a2 : TPoint) : Bool := bif Z00 a0 a1 then FvecRight a2 else false
def Z02 (a0 : TPoint) (a1 : TPoint) (a2 : TPoint) : Bool := bif Z01 a0 a1 a2 then Fedgelone (TEdge.mk 1 a0 a1 a2) else false
def cof1 (a0 : TPoint) (a1 : TPoint) (a2 : TPoint) : FuncId × List Av × Ef := (130, [.agg [.i 1, .i a0.X, .i a0.Y, .i a1.X, .i a1.Y, .i a2.X, .i a2.Y]], .val [] (.tup [.agg [.clo 172 0 (fun _ => default), .clo 173 0 (fun _ => default), .clo 174 0 (fun _ => default), .i 1], .one (.b (Z02 a0 a1 a2))]))
theorem pof1 (a0 : TPoint) (a1 : TPoint) (a2 : TPoint) : Pure Tryz.prog 130 (cof1 a0 a1 a2).2.1 (.tup [.agg [.clo 172 0 (fun _ => default), .clo 173 0 (fun _ => default), .clo 174 0 (fun _ => default), .i 1], .one (.b (Z02 a0 a1 a2))]) := by
 refine pure_of_awF Tryz.func130 rfl kr kr fun W0 M0 => ?_
 refine aw_seq ?_
 refine aw_region eqok [] [] [] [1, 2] [1, 2] [] ⟨[(1, tP 1 0), (2, tP 2 0)], [(1, .cells [.i 1, .i a0.X, .i a0.Y, .i a1.X, .i a1.Y, .i a2.X, .i a2.Y] 68), (2, .cells [.val .nilFunc, .val .nilFunc, .val .nilFunc, .i 0] 241)]⟩ .nil kr .nil <| ath_n <| aw_seq ?_
 refine aw_region eqok [] [] [(9, cfamilies1)] [1, 2, 4, 5] [1, 2, 4] [Same (cfamilies1).2.1] ⟨[(1, tP 1 0), (2, tP 2 0), (4, tP 4 0), (5, tB true)], [(1, .cells [.i 1, .i a0.X, .i a0.Y, .i a1.X, .i a1.Y, .i a2.X, .i a2.Y] 68), (2, .cells [.val .nilFunc, .val .nilFunc, .val .nilFunc, .i 0] 241), (4, .cells [.clo 172 0 (fun _ => default), .clo 173 0 (fun _ => default), .clo 174 0 (fun _ => default), .i 1] 241)]⟩ (.cons (okfamilies1) .nil) kr (.cons rfl .nil) <| ath_n <| aw_seq ?_
 refine aw_draw mixed eqok [] [] [(17, cvecRight a0), (22, cvecRight a1), (27, cvecRight a2), (33, cedgelone (TEdge.mk 1 a0 a1 a2))] [2, 3] [2] [((true) = true) -> ((true) = true), ((true) = true) -> ((true) = true), ((true) = true) -> (Same (cvecRight a0).2.1), (true) = true -> ((true) = true), ((FvecRight a0) = true) -> ((FvecRight a0) = true), ((FvecRight a0) = true) -> ((FvecRight a0) = true), ((FvecRight a0) = true) -> (Same (cvecRight a1).2.1), (FvecRight a0) = true -> ((FvecRight a0) = true), ((Z00 a0 a1) = true) -> ((Z00 a0 a1) = true), ((Z00 a0 a1) = true) -> ((Z00 a0 a1) = true), ((Z00 a0 a1) = true) -> (Same (cvecRight a2).2.1), (Z00 a0 a1) = true -> ((Z00 a0 a1) = true), ((Z01 a0 a1 a2) = true) -> ((Z01 a0 a1 a2) = true), ((Z01 a0 a1 a2) = true) -> ((Z01 a0 a1 a2) = true), ((Z01 a0 a1 a2) = true) -> ((Z01 a0 a1 a2) = true), ((Z01 a0 a1 a2) = true) -> (Same (cedgelone (TEdge.mk 1 a0 a1 a2)).2.1), (Z01 a0 a1 a2) = true -> ((Z01 a0 a1 a2) = true)] ⟨[(2, tP 2 0), (3, tB (Z02 a0 a1 a2))], [(2, .cells [.clo 172 0 (fun _ => default), .clo 173 0 (fun _ => default), .clo 174 0 (fun _ => default), .i 1] 241)]⟩ (.cons (okvecRight a0) (.cons (okvecRight a1) (.cons (okvecRight a2) (.cons (okedgelone (TEdge.mk 1 a0 a1 a2)) .nil)))) kr kr (.cons id (.cons id (.cons (fun _ => rfl) (.cons id (.cons id (.cons id (.cons (fun _ => rfl) (.cons id (.cons id (.cons id (.cons (fun _ => rfl) (.cons id (.cons id (.cons id (.cons id (.cons (fun _ => rfl) (.cons id .nil))))))))))))))))) <| ath_n <| aw_ret ?_
 exact ⟨_, Cv.refl _, .inl rfl, .tup [.agg [.clo 172 0 (fun _ => default), .clo 173 0 (fun _ => default), .clo 174 0 (fun _ => default), .i 1], .one (.b (Z02 a0 a1 a2))], by kernel_rfl, tve_eq rfl⟩
theorem okof1 (a0 : TPoint) (a1 : TPoint) (a2 : TPoint) : CallOk Tryz.prog (cof1 a0 a1 a2).1 (cof1 a0 a1 a2).2.1 (cof1 a0 a1 a2).2.2 := callOk_pure (fun _ _ => by kernel_rfl) fun _ => pof1 a0 a1 a2
def Z03 (a0 : TPoint) (a1 : TPoint) : Bool := bif FvecRight a0 then FvecRight a1 else false
def Z04 (a0 : TPoint) (a1 : TPoint) (a2 : TPoint) : Bool := bif Z03 a0 a1 then FvecRight a2 else false
def Z05 (a0 : TPoint) (a1 : TPoint) (a2 : TPoint) : Bool := bif Z04 a0 a1 a2 then Fedgeleftwards (TEdge.mk 2 a0 a1 a2) else false
def cof2 (a0 : TPoint) (a1 : TPoint) (a2 : TPoint) : FuncId × List Av × Ef := (130, [.agg [.i 2, .i a0.X, .i a0.Y, .i a1.X, .i a1.Y, .i a2.X, .i a2.Y]], .val [] (.tup [.agg [.clo 175 0 (fun _ => default), .clo 176 0 (fun _ => default), .clo 177 0 (fun _ => default), .i 3], .one (.b (Z05 a0 a1 a2))]))
theorem pof2 (a0 : TPoint) (a1 : TPoint) (a2 : TPoint) : Pure Tryz.prog 130 (cof2 a0 a1 a2).2.1 (.tup [.agg [.clo 175 0 (fun _ => default), .clo 176 0 (fun _ => default), .clo 177 0 (fun _ => default), .i 3], .one (.b (Z05 a0 a1 a2))]) := by
 refine pure_of_awF Tryz.func130 rfl kr kr fun W0 M0 => ?_
 refine aw_seq ?_
 refine aw_region eqok [] [] [] [1, 2] [1, 2] [] ⟨[(1, tP 1 0), (2, tP 2 0)], [(1, .cells [.i 2, .i a0.X, .i a0.Y, .i a1.X, .i a1.Y, .i a2.X, .i a2.Y] 68), (2, .cells [.val .nilFunc, .val .nilFunc, .val .nilFunc, .i 0] 241)]⟩ .nil kr .nil <| ath_n <| aw_seq ?_
 refine aw_region eqok [] [] [(9, cfamilies2)] [1, 2, 4, 5] [1, 2, 4] [Same (cfamilies2).2.1] ⟨[(1, tP 1 0), (2, tP 2 0), (4, tP 4 0), (5, tB true)], [(1, .cells [.i 2, .i a0.X, .i a0.Y, .i a1.X, .i a1.Y, .i a2.X, .i a2.Y] 68), (2, .cells [.val .nilFunc, .val .nilFunc, .val .nilFunc, .i 0] 241), (4, .cells [.clo 175 0 (fun _ => default), .clo 176 0 (fun _ => default), .clo 177 0 (fun _ => default), .i 3] 241)]⟩ (.cons (okfamilies2) .nil) kr (.cons rfl .nil) <| ath_n <| aw_seq ?_
 refine aw_draw mixed eqok [] [] [(17, cvecRight a0), (22, cvecRight a1), (27, cvecRight a2), (33, cedgeleftwards (TEdge.mk 2 a0 a1 a2))] [2, 3] [2] [((true) = true) -> ((true) = true), ((true) = true) -> ((true) = true), ((true) = true) -> (Same (cvecRight a0).2.1), (true) = true -> ((true) = true), ((FvecRight a0) = true) -> ((FvecRight a0) = true), ((FvecRight a0) = true) -> ((FvecRight a0) = true), ((FvecRight a0) = true) -> (Same (cvecRight a1).2.1), (FvecRight a0) = true -> ((FvecRight a0) = true), ((Z03 a0 a1) = true) -> ((Z03 a0 a1) = true), ((Z03 a0 a1) = true) -> ((Z03 a0 a1) = true), ((Z03 a0 a1) = true) -> (Same (cvecRight a2).2.1), (Z03 a0 a1) = true -> ((Z03 a0 a1) = true), ((Z04 a0 a1 a2) = true) -> ((Z04 a0 a1 a2) = true), ((Z04 a0 a1 a2) = true) -> ((Z04 a0 a1 a2) = true), ((Z04 a0 a1 a2) = true) -> ((Z04 a0 a1 a2) = true), ((Z04 a0 a1 a2) = true) -> (Same (cedgeleftwards (TEdge.mk 2 a0 a1 a2)).2.1), (Z04 a0 a1 a2) = true -> ((Z04 a0 a1 a2) = true)] ⟨[(2, tP 2 0), (3, tB (Z05 a0 a1 a2))], [(2, .cells [.clo 175 0 (fun _ => default), .clo 176 0 (fun _ => default), .clo 177 0 (fun _ => default), .i 3] 241)]⟩ (.cons (okvecRight a0) (.cons (okvecRight a1) (.cons (okvecRight a2) (.cons (okedgeleftwards (TEdge.mk 2 a0 a1 a2)) .nil)))) kr kr (.cons id (.cons id (.cons (fun _ => rfl) (.cons id (.cons id (.cons id (.cons (fun _ => rfl) (.cons id (.cons id (.cons id (.cons (fun _ => rfl) (.cons id (.cons id (.cons id (.cons id (.cons (fun _ => rfl) (.cons id .nil))))))))))))))))) <| ath_n <| aw_ret ?_
 exact ⟨_, Cv.refl _, .inl rfl, .tup [.agg [.clo 175 0 (fun _ => default), .clo 176 0 (fun _ => default), .clo 177 0 (fun _ => default), .i 3], .one (.b (Z05 a0 a1 a2))], by kernel_rfl, tve_eq rfl⟩
theorem okof2 (a0 : TPoint) (a1 : TPoint) (a2 : TPoint) : CallOk Tryz.prog (cof2 a0 a1 a2).1 (cof2 a0 a1 a2).2.1 (cof2 a0 a1 a2).2.2 := callOk_pure (fun _ _ => by kernel_rfl) fun _ => pof2 a0 a1 a2
def Z06 (a0 : TPoint) (a1 : TPoint) : Bool := bif FvecRight a0 then FvecRight a1 else false
def Z07 (a0 : TPoint) (a1 : TPoint) (a2 : TPoint) : Bool := bif Z06 a0 a1 then FvecRight a2 else false
def Z08 (a0 : TPoint) (a1 : TPoint) (a2 : TPoint) : Bool := bif Z07 a0 a1 a2 then Fedgerightwards (TEdge.mk 3 a0 a1 a2) else false
def cof3 (a0 : TPoint) (a1 : TPoint) (a2 : TPoint) : FuncId × List Av × Ef := (130, [.agg [.i 3, .i a0.X, .i a0.Y, .i a1.X, .i a1.Y, .i a2.X, .i a2.Y]], .val [] (.tup [.agg [.clo 178 0 (fun _ => default), .clo 176 0 (fun _ => default), .clo 177 0 (fun _ => default), .i 2], .one (.b (Z08 a0 a1 a2))]))
theorem pof3 (a0 : TPoint) (a1 : TPoint) (a2 : TPoint) : Pure Tryz.prog 130 (cof3 a0 a1 a2).2.1 (.tup [.agg [.clo 178 0 (fun _ => default), .clo 176 0 (fun _ => default), .clo 177 0 (fun _ => default), .i 2], .one (.b (Z08 a0 a1 a2))]) := by
 refine pure_of_awF Tryz.func130 rfl kr kr fun W0 M0 => ?_
 refine aw_seq ?_
 refine aw_region eqok [] [] [] [1, 2] [1, 2] [] ⟨[(1, tP 1 0), (2, tP 2 0)], [(1, .cells [.i 3, .i a0.X, .i a0.Y, .i a1.X, .i a1.Y, .i a2.X, .i a2.Y] 68), (2, .cells [.val .nilFunc, .val .nilFunc, .val .nilFunc, .i 0] 241)]⟩ .nil kr .nil <| ath_n <| aw_seq ?_
 refine aw_region eqok [] [] [(9, cfamilies3)] [1, 2, 4, 5] [1, 2, 4] [Same (cfamilies3).2.1] ⟨[(1, tP 1 0), (2, tP 2 0), (4, tP 4 0), (5, tB true)], [(1, .cells [.i 3, .i a0.X, .i a0.Y, .i a1.X, .i a1.Y, .i a2.X, .i a2.Y] 68), (2, .cells [.val .nilFunc, .val .nilFunc, .val .nilFunc, .i 0] 241), (4, .cells [.clo 178 0 (fun _ => default), .clo 176 0 (fun _ => default), .clo 177 0 (fun _ => default), .i 2] 241)]⟩ (.cons (okfamilies3) .nil) kr (.cons rfl .nil) <| ath_n <| aw_seq ?_
 refine aw_draw mixed eqok [] [] [(17, cvecRight a0), (22, cvecRight a1), (27, cvecRight a2), (33, cedgerightwards (TEdge.mk 3 a0 a1 a2))] [2, 3] [2] [((true) = true) -> ((true) = true), ((true) = true) -> ((true) = true), ((true) = true) -> (Same (cvecRight a0).2.1), (true) = true -> ((true) = true), ((FvecRight a0) = true) -> ((FvecRight a0) = true), ((FvecRight a0) = true) -> ((FvecRight a0) = true), ((FvecRight a0) = true) -> (Same (cvecRight a1).2.1), (FvecRight a0) = true -> ((FvecRight a0) = true), ((Z06 a0 a1) = true) -> ((Z06 a0 a1) = true), ((Z06 a0 a1) = true) -> ((Z06 a0 a1) = true), ((Z06 a0 a1) = true) -> (Same (cvecRight a2).2.1), (Z06 a0 a1) = true -> ((Z06 a0 a1) = true), ((Z07 a0 a1 a2) = true) -> ((Z07 a0 a1 a2) = true), ((Z07 a0 a1 a2) = true) -> ((Z07 a0 a1 a2) = true), ((Z07 a0 a1 a2) = true) -> ((Z07 a0 a1 a2) = true), ((Z07 a0 a1 a2) = true) -> (Same (cedgerightwards (TEdge.mk 3 a0 a1 a2)).2.1), (Z07 a0 a1 a2) = true -> ((Z07 a0 a1 a2) = true)] ⟨[(2, tP 2 0), (3, tB (Z08 a0 a1 a2))], [(2, .cells [.clo 178 0 (fun _ => default), .clo 176 0 (fun _ => default), .clo 177 0 (fun _ => default), .i 2] 241)]⟩ (.cons (okvecRight a0) (.cons (okvecRight a1) (.cons (okvecRight a2) (.cons (okedgerightwards (TEdge.mk 3 a0 a1 a2)) .nil)))) kr kr (.cons id (.cons id (.cons (fun _ => rfl) (.cons id (.cons id (.cons id (.cons (fun _ => rfl) (.cons id (.cons id (.cons id (.cons (fun _ => rfl) (.cons id (.cons id (.cons id (.cons id (.cons (fun _ => rfl) (.cons id .nil))))))))))))))))) <| ath_n <| aw_ret ?_
 exact ⟨_, Cv.refl _, .inl rfl, .tup [.agg [.clo 178 0 (fun _ => default), .clo 176 0 (fun _ => default), .clo 177 0 (fun _ => default), .i 2], .one (.b (Z08 a0 a1 a2))], by kernel_rfl, tve_eq rfl⟩
theorem okof3 (a0 : TPoint) (a1 : TPoint) (a2 : TPoint) : CallOk Tryz.prog (cof3 a0 a1 a2).1 (cof3 a0 a1 a2).2.1 (cof3 a0 a1 a2).2.2 := callOk_pure (fun _ _ => by kernel_rfl) fun _ => pof3 a0 a1 a2
def cofN (e : TEdge) : FuncId × List Av × Ef := (130, [.agg (TEdge.c e)], .val [] (.tup [.agg [.val .nilFunc, .val .nilFunc, .val .nilFunc, .i e.Kind], .one (.b false)]))
theorem pofN (e : TEdge) (k1 : ¬ e.Kind = 1) (k2 : ¬ e.Kind = 2) (k3 : ¬ e.Kind = 3) : Pure Tryz.prog 130 (cofN e).2.1 (.tup [.agg [.val .nilFunc, .val .nilFunc, .val .nilFunc, .i e.Kind], .one (.b false)]) := by
 refine pure_of_awF Tryz.func130 rfl kr kr fun W0 M0 => ?_
 refine aw_seq ?_
 refine aw_region eqok [] [] [] [1, 2] [1, 2] [] ⟨[(1, tP 1 0), (2, tP 2 0)], [(1, .cells (TEdge.c e) 68), (2, .cells [.val .nilFunc, .val .nilFunc, .val .nilFunc, .i 0] 241)]⟩ .nil kr .nil <| ath_n <| aw_seq ?_
 refine aw_region eqok [] [] [(9, cfamiliesN e.Kind)] [1, 2, 4, 5] [1, 2, 4] [Same (cfamiliesN e.Kind).2.1] ⟨[(1, tP 1 0), (2, tP 2 0), (4, tP 4 0), (5, tB false)], [(1, .cells (TEdge.c e) 68), (2, .cells [.val .nilFunc, .val .nilFunc, .val .nilFunc, .i 0] 241), (4, .cells [.val .nilFunc, .val .nilFunc, .val .nilFunc, .i e.Kind] 241)]⟩ (.cons (okfamiliesN e.Kind k1 k2 k3) .nil) kr (.cons rfl .nil) <| ath_n <| aw_seq ?_
 refine aw_draw mixed eqok [] [] [(17, cvecRight e.A), (22, cvecRight e.B), (27, cvecRight e.C)] [2, 3] [2] [((false) = true) -> ((false) = true), ((false) = true) -> ((false) = true), ((false) = true) -> (Same (cvecRight e.A).2.1), (false) = true -> ((false) = true), ((false) = true) -> ((false) = true), ((false) = true) -> ((false) = true), ((false) = true) -> (Same (cvecRight e.B).2.1), (false) = true -> ((false) = true), ((false) = true) -> ((false) = true), ((false) = true) -> ((false) = true), ((false) = true) -> (Same (cvecRight e.C).2.1), (false) = true -> ((false) = true), ((false) = true) -> ((false) = true), ¬ ((false) = true), (false) = true -> ((false) = true)] ⟨[(2, tP 2 0), (3, tB false)], [(2, .cells [.val .nilFunc, .val .nilFunc, .val .nilFunc, .i e.Kind] 241)]⟩ (.cons (okvecRight e.A) (.cons (okvecRight e.B) (.cons (okvecRight e.C) .nil))) kr kr (.cons id (.cons id (.cons (fun _ => rfl) (.cons id (.cons id (.cons id (.cons (fun _ => rfl) (.cons id (.cons id (.cons id (.cons (fun _ => rfl) (.cons id (.cons id (.cons (by simp) (.cons id .nil))))))))))))))) <| ath_n <| aw_ret ?_
 exact ⟨_, Cv.refl _, .inl rfl, .tup [.agg [.val .nilFunc, .val .nilFunc, .val .nilFunc, .i e.Kind], .one (.b false)], by kernel_rfl, tve_eq rfl⟩
theorem okofN (e : TEdge) (k1 : ¬ e.Kind = 1) (k2 : ¬ e.Kind = 2) (k3 : ¬ e.Kind = 3) : CallOk Tryz.prog (cofN e).1 (cofN e).2.1 (cofN e).2.2 := callOk_pure (fun _ _ => by kernel_rfl) fun _ => pofN e k1 k2 k3
def Z09 (a0 : TPoint) (a1 : TPoint) (a2 : TPoint) : Bool := !(bif bif FvecRight a0 then FvecRight a1 else false then FvecRight a2 else false)
def FCheck1 (a0 : TPoint) (a1 : TPoint) (a2 : TPoint) : Int := bif Z02 a0 a1 a2 then (0) else (bif Z09 a0 a1 a2 then (10) else (11))
def cCheck1 (a0 : TPoint) (a1 : TPoint) (a2 : TPoint) : FuncId × List Av × Ef := (79, [.agg [.i 1, .i a0.X, .i a0.Y, .i a1.X, .i a1.Y, .i a2.X, .i a2.Y]], .val [] (.av (.one (.i (FCheck1 a0 a1 a2)))))
theorem pCheck1 (a0 : TPoint) (a1 : TPoint) (a2 : TPoint) : Pure Tryz.prog 79 (cCheck1 a0 a1 a2).2.1 (.av (.one (.i (FCheck1 a0 a1 a2)))) := by
 refine pure_of_awF Tryz.func79 rfl kr kr fun W0 M0 => ?_
 refine aw_seq ?_
 refine aw_region eqok [] [] [] [1] [1] [] ⟨[(1, tP 1 0)], [(1, .cells [.i 1, .i a0.X, .i a0.Y, .i a1.X, .i a1.Y, .i a2.X, .i a2.Y] 68)]⟩ .nil kr .nil <| ath_n ?_
 refine aw_seq <| aw_seq ?_
 refine aw_region eqok [] [] [(7, cof1 a0 a1 a2)] [1, 4] [1] [Same (cof1 a0 a1 a2).2.1] ⟨[(1, tP 1 0), (4, tB (Z02 a0 a1 a2))], [(1, .cells [.i 1, .i a0.X, .i a0.Y, .i a1.X, .i a1.Y, .i a2.X, .i a2.Y] 68)]⟩ (.cons (okof1 a0 a1 a2) .nil) kr (.cons rfl .nil) <| ath_n ?_
 refine aw_block <| aw_seq ?_
 refine aw_region eqok [] [] [] [1, 10] [1] [] ⟨[(1, tP 1 0), (10, tB (Z02 a0 a1 a2))], [(1, .cells [.i 1, .i a0.X, .i a0.Y, .i a1.X, .i a1.Y, .i a2.X, .i a2.Y] 68)]⟩ .nil kr .nil <| ath_n ?_
 refine aw_cond (Z02 a0 a1 a2) kr (fun h1 => ?_) (fun h1 => ?_)
 ·refine aw_seq ?_
  refine aw_region eqok [] [] [] [2] [] [] ⟨[(2, tI 0)], []⟩ .nil kr .nil <| ath_n ?_
  refine aw_ret <| abl_r <| ath_r ?_
  exact ⟨_, Cv.refl _, .inl rfl, .av (.one (.i 0)), by kernel_rfl, tve_eq (by first | (simp only [FCheck1, h1, cond_true, cond_false] <;> rfl))⟩
 ·refine aw_seq ?_
  refine aw_region eqok [] [] [(24, cvecRight a0), (28, cvecRight a1), (33, cvecRight a2)] [12] [] [((true) = true) -> ((true) = true), ((true) = true) -> ((true) = true), (true) = true -> ((true) = true), ((true) = true) -> ((true) = true), ((true) = true) -> ((true) = true), ((true) = true) -> (Same (cvecRight a0).2.1), ((true) = true) -> ((true) = true), (((true) = true) /\ (FvecRight a0) = true) -> (((true) = true) /\ (FvecRight a0) = true), (((true) = true) /\ (FvecRight a0) = true) -> (((true) = true) /\ (FvecRight a0) = true), (((true) = true) /\ (FvecRight a0) = true) -> (Same (cvecRight a1).2.1), ((true) = true) -> ((true) = true), ((true) = true) -> ((FvecRight a0) = true -> (((true) = true) /\ (FvecRight a0) = true)), ((true) = true) -> ((true) = true), (((true) = true) /\ (bif FvecRight a0 then FvecRight a1 else false) = true) -> (((true) = true) /\ (bif FvecRight a0 then FvecRight a1 else false) = true), (((true) = true) /\ (bif FvecRight a0 then FvecRight a1 else false) = true) -> (((true) = true) /\ (bif FvecRight a0 then FvecRight a1 else false) = true), (((true) = true) /\ (bif FvecRight a0 then FvecRight a1 else false) = true) -> (Same (cvecRight a2).2.1), ((true) = true) -> ((true) = true), ((true) = true) -> ((bif FvecRight a0 then FvecRight a1 else false) = true -> (((true) = true) /\ (bif FvecRight a0 then FvecRight a1 else false) = true)), ((true) = true) -> ((true) = true), (true) = true -> ((true) = true)] ⟨[(12, tB (Z09 a0 a1 a2))], []⟩ (.cons (okvecRight a0) (.cons (okvecRight a1) (.cons (okvecRight a2) .nil))) kr (.cons id (.cons id (.cons id (.cons id (.cons id (.cons (fun _ => rfl) (.cons id (.cons id (.cons id (.cons (fun _ => rfl) (.cons id (.cons (by intros; first | assumption | exact ⟨by assumption, by assumption⟩ | simp_all) (.cons id (.cons id (.cons id (.cons (fun _ => rfl) (.cons id (.cons (by intros; first | assumption | exact ⟨by assumption, by assumption⟩ | simp_all) (.cons id (.cons id .nil)))))))))))))))))))) <| ath_n ?_
  refine aw_cond (Z09 a0 a1 a2) kr (fun h2 => ?_) (fun h2 => ?_)
  ·refine aw_seq ?_
   refine aw_region eqok [] [] [] [2] [] [] ⟨[(2, tI 10)], []⟩ .nil kr .nil <| ath_n ?_
   refine aw_ret <| abl_r <| ath_r ?_
   exact ⟨_, Cv.refl _, .inl rfl, .av (.one (.i 10)), by kernel_rfl, tve_eq (by first | (simp only [FCheck1, h1, h2, cond_true, cond_false] <;> rfl))⟩
  ·refine aw_skip <| abl_n ?_
   refine ath_n <| aw_seq ?_
   refine aw_region eqok [] [] [] [2] [] [] ⟨[(2, tI 11)], []⟩ .nil kr .nil <| ath_n <| aw_ret ?_
   exact ⟨_, Cv.refl _, .inl rfl, .av (.one (.i 11)), by kernel_rfl, tve_eq (by first | (simp only [FCheck1, h1, h2, cond_true, cond_false] <;> rfl))⟩
def Z0a (a0 : TPoint) (a1 : TPoint) (a2 : TPoint) : Bool := !(bif bif FvecRight a0 then FvecRight a1 else false then FvecRight a2 else false)
def FCheck2 (a0 : TPoint) (a1 : TPoint) (a2 : TPoint) : Int := bif Z05 a0 a1 a2 then (0) else (bif Z0a a0 a1 a2 then (10) else (11))
def cCheck2 (a0 : TPoint) (a1 : TPoint) (a2 : TPoint) : FuncId × List Av × Ef := (79, [.agg [.i 2, .i a0.X, .i a0.Y, .i a1.X, .i a1.Y, .i a2.X, .i a2.Y]], .val [] (.av (.one (.i (FCheck2 a0 a1 a2)))))
theorem pCheck2 (a0 : TPoint) (a1 : TPoint) (a2 : TPoint) : Pure Tryz.prog 79 (cCheck2 a0 a1 a2).2.1 (.av (.one (.i (FCheck2 a0 a1 a2)))) := by
 refine pure_of_awF Tryz.func79 rfl kr kr fun W0 M0 => ?_
 refine aw_seq ?_
 refine aw_region eqok [] [] [] [1] [1] [] ⟨[(1, tP 1 0)], [(1, .cells [.i 2, .i a0.X, .i a0.Y, .i a1.X, .i a1.Y, .i a2.X, .i a2.Y] 68)]⟩ .nil kr .nil <| ath_n ?_
 refine aw_seq <| aw_seq ?_
 refine aw_region eqok [] [] [(7, cof2 a0 a1 a2)] [1, 4] [1] [Same (cof2 a0 a1 a2).2.1] ⟨[(1, tP 1 0), (4, tB (Z05 a0 a1 a2))], [(1, .cells [.i 2, .i a0.X, .i a0.Y, .i a1.X, .i a1.Y, .i a2.X, .i a2.Y] 68)]⟩ (.cons (okof2 a0 a1 a2) .nil) kr (.cons rfl .nil) <| ath_n ?_
 refine aw_block <| aw_seq ?_
 refine aw_region eqok [] [] [] [1, 10] [1] [] ⟨[(1, tP 1 0), (10, tB (Z05 a0 a1 a2))], [(1, .cells [.i 2, .i a0.X, .i a0.Y, .i a1.X, .i a1.Y, .i a2.X, .i a2.Y] 68)]⟩ .nil kr .nil <| ath_n ?_
 refine aw_cond (Z05 a0 a1 a2) kr (fun h1 => ?_) (fun h1 => ?_)
 ·refine aw_seq ?_
  refine aw_region eqok [] [] [] [2] [] [] ⟨[(2, tI 0)], []⟩ .nil kr .nil <| ath_n ?_
  refine aw_ret <| abl_r <| ath_r ?_
  exact ⟨_, Cv.refl _, .inl rfl, .av (.one (.i 0)), by kernel_rfl, tve_eq (by first | (simp only [FCheck2, h1, cond_true, cond_false] <;> rfl))⟩
 ·refine aw_seq ?_
  refine aw_region eqok [] [] [(24, cvecRight a0), (28, cvecRight a1), (33, cvecRight a2)] [12] [] [((true) = true) -> ((true) = true), ((true) = true) -> ((true) = true), (true) = true -> ((true) = true), ((true) = true) -> ((true) = true), ((true) = true) -> ((true) = true), ((true) = true) -> (Same (cvecRight a0).2.1), ((true) = true) -> ((true) = true), (((true) = true) /\ (FvecRight a0) = true) -> (((true) = true) /\ (FvecRight a0) = true), (((true) = true) /\ (FvecRight a0) = true) -> (((true) = true) /\ (FvecRight a0) = true), (((true) = true) /\ (FvecRight a0) = true) -> (Same (cvecRight a1).2.1), ((true) = true) -> ((true) = true), ((true) = true) -> ((FvecRight a0) = true -> (((true) = true) /\ (FvecRight a0) = true)), ((true) = true) -> ((true) = true), (((true) = true) /\ (bif FvecRight a0 then FvecRight a1 else false) = true) -> (((true) = true) /\ (bif FvecRight a0 then FvecRight a1 else false) = true), (((true) = true) /\ (bif FvecRight a0 then FvecRight a1 else false) = true) -> (((true) = true) /\ (bif FvecRight a0 then FvecRight a1 else false) = true), (((true) = true) /\ (bif FvecRight a0 then FvecRight a1 else false) = true) -> (Same (cvecRight a2).2.1), ((true) = true) -> ((true) = true), ((true) = true) -> ((bif FvecRight a0 then FvecRight a1 else false) = true -> (((true) = true) /\ (bif FvecRight a0 then FvecRight a1 else false) = true)), ((true) = true) -> ((true) = true), (true) = true -> ((true) = true)] ⟨[(12, tB (Z0a a0 a1 a2))], []⟩ (.cons (okvecRight a0) (.cons (okvecRight a1) (.cons (okvecRight a2) .nil))) kr (.cons id (.cons id (.cons id (.cons id (.cons id (.cons (fun _ => rfl) (.cons id (.cons id (.cons id (.cons (fun _ => rfl) (.cons id (.cons (by intros; first | assumption | exact ⟨by assumption, by assumption⟩ | simp_all) (.cons id (.cons id (.cons id (.cons (fun _ => rfl) (.cons id (.cons (by intros; first | assumption | exact ⟨by assumption, by assumption⟩ | simp_all) (.cons id (.cons id .nil)))))))))))))))))))) <| ath_n ?_
  refine aw_cond (Z0a a0 a1 a2) kr (fun h2 => ?_) (fun h2 => ?_)
  ·refine aw_seq ?_
   refine aw_region eqok [] [] [] [2] [] [] ⟨[(2, tI 10)], []⟩ .nil kr .nil <| ath_n ?_
   refine aw_ret <| abl_r <| ath_r ?_
   exact ⟨_, Cv.refl _, .inl rfl, .av (.one (.i 10)), by kernel_rfl, tve_eq (by first | (simp only [FCheck2, h1, h2, cond_true, cond_false] <;> rfl))⟩
  ·refine aw_skip <| abl_n ?_
   refine ath_n <| aw_seq ?_
   refine aw_region eqok [] [] [] [2] [] [] ⟨[(2, tI 11)], []⟩ .nil kr .nil <| ath_n <| aw_ret ?_
   exact ⟨_, Cv.refl _, .inl rfl, .av (.one (.i 11)), by kernel_rfl, tve_eq (by first | (simp only [FCheck2, h1, h2, cond_true, cond_false] <;> rfl))⟩
def Z0b (a0 : TPoint) (a1 : TPoint) (a2 : TPoint) : Bool := !(bif bif FvecRight a0 then FvecRight a1 else false then FvecRight a2 else false)
def FCheck3 (a0 : TPoint) (a1 : TPoint) (a2 : TPoint) : Int := bif Z08 a0 a1 a2 then (0) else (bif Z0b a0 a1 a2 then (10) else (11))
def cCheck3 (a0 : TPoint) (a1 : TPoint) (a2 : TPoint) : FuncId × List Av × Ef := (79, [.agg [.i 3, .i a0.X, .i a0.Y, .i a1.X, .i a1.Y, .i a2.X, .i a2.Y]], .val [] (.av (.one (.i (FCheck3 a0 a1 a2)))))
theorem pCheck3 (a0 : TPoint) (a1 : TPoint) (a2 : TPoint) : Pure Tryz.prog 79 (cCheck3 a0 a1 a2).2.1 (.av (.one (.i (FCheck3 a0 a1 a2)))) := by
 refine pure_of_awF Tryz.func79 rfl kr kr fun W0 M0 => ?_
 refine aw_seq ?_
 refine aw_region eqok [] [] [] [1] [1] [] ⟨[(1, tP 1 0)], [(1, .cells [.i 3, .i a0.X, .i a0.Y, .i a1.X, .i a1.Y, .i a2.X, .i a2.Y] 68)]⟩ .nil kr .nil <| ath_n ?_
 refine aw_seq <| aw_seq ?_
 refine aw_region eqok [] [] [(7, cof3 a0 a1 a2)] [1, 4] [1] [Same (cof3 a0 a1 a2).2.1] ⟨[(1, tP 1 0), (4, tB (Z08 a0 a1 a2))], [(1, .cells [.i 3, .i a0.X, .i a0.Y, .i a1.X, .i a1.Y, .i a2.X, .i a2.Y] 68)]⟩ (.cons (okof3 a0 a1 a2) .nil) kr (.cons rfl .nil) <| ath_n ?_
 refine aw_block <| aw_seq ?_
 refine aw_region eqok [] [] [] [1, 10] [1] [] ⟨[(1, tP 1 0), (10, tB (Z08 a0 a1 a2))], [(1, .cells [.i 3, .i a0.X, .i a0.Y, .i a1.X, .i a1.Y, .i a2.X, .i a2.Y] 68)]⟩ .nil kr .nil <| ath_n ?_
 refine aw_cond (Z08 a0 a1 a2) kr (fun h1 => ?_) (fun h1 => ?_)
 ·refine aw_seq ?_
  refine aw_region eqok [] [] [] [2] [] [] ⟨[(2, tI 0)], []⟩ .nil kr .nil <| ath_n ?_
  refine aw_ret <| abl_r <| ath_r ?_
  exact ⟨_, Cv.refl _, .inl rfl, .av (.one (.i 0)), by kernel_rfl, tve_eq (by first | (simp only [FCheck3, h1, cond_true, cond_false] <;> rfl))⟩
 ·refine aw_seq ?_
  refine aw_region eqok [] [] [(24, cvecRight a0), (28, cvecRight a1), (33, cvecRight a2)] [12] [] [((true) = true) -> ((true) = true), ((true) = true) -> ((true) = true), (true) = true -> ((true) = true), ((true) = true) -> ((true) = true), ((true) = true) -> ((true) = true), ((true) = true) -> (Same (cvecRight a0).2.1), ((true) = true) -> ((true) = true), (((true) = true) /\ (FvecRight a0) = true) -> (((true) = true) /\ (FvecRight a0) = true), (((true) = true) /\ (FvecRight a0) = true) -> (((true) = true) /\ (FvecRight a0) = true), (((true) = true) /\ (FvecRight a0) = true) -> (Same (cvecRight a1).2.1), ((true) = true) -> ((true) = true), ((true) = true) -> ((FvecRight a0) = true -> (((true) = true) /\ (FvecRight a0) = true)), ((true) = true) -> ((true) = true), (((true) = true) /\ (bif FvecRight a0 then FvecRight a1 else false) = true) -> (((true) = true) /\ (bif FvecRight a0 then FvecRight a1 else false) = true), (((true) = true) /\ (bif FvecRight a0 then FvecRight a1 else false) = true) -> (((true) = true) /\ (bif FvecRight a0 then FvecRight a1 else false) = true), (((true) = true) /\ (bif FvecRight a0 then FvecRight a1 else false) = true) -> (Same (cvecRight a2).2.1), ((true) = true) -> ((true) = true), ((true) = true) -> ((bif FvecRight a0 then FvecRight a1 else false) = true -> (((true) = true) /\ (bif FvecRight a0 then FvecRight a1 else false) = true)), ((true) = true) -> ((true) = true), (true) = true -> ((true) = true)] ⟨[(12, tB (Z0b a0 a1 a2))], []⟩ (.cons (okvecRight a0) (.cons (okvecRight a1) (.cons (okvecRight a2) .nil))) kr (.cons id (.cons id (.cons id (.cons id (.cons id (.cons (fun _ => rfl) (.cons id (.cons id (.cons id (.cons (fun _ => rfl) (.cons id (.cons (by intros; first | assumption | exact ⟨by assumption, by assumption⟩ | simp_all) (.cons id (.cons id (.cons id (.cons (fun _ => rfl) (.cons id (.cons (by intros; first | assumption | exact ⟨by assumption, by assumption⟩ | simp_all) (.cons id (.cons id .nil)))))))))))))))))))) <| ath_n ?_
  refine aw_cond (Z0b a0 a1 a2) kr (fun h2 => ?_) (fun h2 => ?_)
  ·refine aw_seq ?_
   refine aw_region eqok [] [] [] [2] [] [] ⟨[(2, tI 10)], []⟩ .nil kr .nil <| ath_n ?_
   refine aw_ret <| abl_r <| ath_r ?_
   exact ⟨_, Cv.refl _, .inl rfl, .av (.one (.i 10)), by kernel_rfl, tve_eq (by first | (simp only [FCheck3, h1, h2, cond_true, cond_false] <;> rfl))⟩
  ·refine aw_skip <| abl_n ?_
   refine ath_n <| aw_seq ?_
   refine aw_region eqok [] [] [] [2] [] [] ⟨[(2, tI 11)], []⟩ .nil kr .nil <| ath_n <| aw_ret ?_
   exact ⟨_, Cv.refl _, .inl rfl, .av (.one (.i 11)), by kernel_rfl, tve_eq (by first | (simp only [FCheck3, h1, h2, cond_true, cond_false] <;> rfl))⟩
def FCheckN (e : TEdge) : Int := bif bif bif decide ((1 : Int) <= e.Kind) then decide ((e.Kind : Int) <= 3) else false then !(bif bif FvecRight e.A then FvecRight e.B else false then FvecRight e.C else false) else false then (10) else (11)
def cCheckN (e : TEdge) : FuncId × List Av × Ef := (79, [.agg (TEdge.c e)], .val [] (.av (.one (.i (FCheckN e)))))
theorem pCheckN (e : TEdge) (k1 : ¬ e.Kind = 1) (k2 : ¬ e.Kind = 2) (k3 : ¬ e.Kind = 3) : Pure Tryz.prog 79 (cCheckN e).2.1 (.av (.one (.i (FCheckN e)))) := by
 refine pure_of_awF Tryz.func79 rfl kr kr fun W0 M0 => ?_
 refine aw_seq ?_
 refine aw_region eqok [] [] [] [1] [1] [] ⟨[(1, tP 1 0)], [(1, .cells (TEdge.c e) 68)]⟩ .nil kr .nil <| ath_n ?_
 refine aw_seq <| aw_seq ?_
 refine aw_region eqok [] [] [(7, cofN e)] [1, 4] [1] [Same (cofN e).2.1] ⟨[(1, tP 1 0), (4, tB false)], [(1, .cells (TEdge.c e) 68)]⟩ (.cons (okofN e k1 k2 k3) .nil) kr (.cons rfl .nil) <| ath_n ?_
 refine aw_block <| aw_seq ?_
 refine aw_region eqok [] [] [] [1, 10] [1] [] ⟨[(1, tP 1 0), (10, tB false)], [(1, .cells (TEdge.c e) 68)]⟩ .nil kr .nil <| ath_n ?_
 refine aw_cond_f kr <| aw_seq ?_
 refine aw_region eqok [] [] [(24, cvecRight e.A), (28, cvecRight e.B), (33, cvecRight e.C)] [12] [] [((decide ((1 : Int) <= e.Kind)) = true) -> ((decide ((1 : Int) <= e.Kind)) = true), ((decide ((1 : Int) <= e.Kind)) = true) -> ((decide ((1 : Int) <= e.Kind)) = true), (decide ((1 : Int) <= e.Kind)) = true -> ((decide ((1 : Int) <= e.Kind)) = true), ((bif decide ((1 : Int) <= e.Kind) then decide ((e.Kind : Int) <= 3) else false) = true) -> ((bif decide ((1 : Int) <= e.Kind) then decide ((e.Kind : Int) <= 3) else false) = true), ((bif decide ((1 : Int) <= e.Kind) then decide ((e.Kind : Int) <= 3) else false) = true) -> ((bif decide ((1 : Int) <= e.Kind) then decide ((e.Kind : Int) <= 3) else false) = true), ((bif decide ((1 : Int) <= e.Kind) then decide ((e.Kind : Int) <= 3) else false) = true) -> (Same (cvecRight e.A).2.1), ((bif decide ((1 : Int) <= e.Kind) then decide ((e.Kind : Int) <= 3) else false) = true) -> ((bif decide ((1 : Int) <= e.Kind) then decide ((e.Kind : Int) <= 3) else false) = true), (((bif decide ((1 : Int) <= e.Kind) then decide ((e.Kind : Int) <= 3) else false) = true) /\ (FvecRight e.A) = true) -> (((bif decide ((1 : Int) <= e.Kind) then decide ((e.Kind : Int) <= 3) else false) = true) /\ (FvecRight e.A) = true), (((bif decide ((1 : Int) <= e.Kind) then decide ((e.Kind : Int) <= 3) else false) = true) /\ (FvecRight e.A) = true) -> (((bif decide ((1 : Int) <= e.Kind) then decide ((e.Kind : Int) <= 3) else false) = true) /\ (FvecRight e.A) = true), (((bif decide ((1 : Int) <= e.Kind) then decide ((e.Kind : Int) <= 3) else false) = true) /\ (FvecRight e.A) = true) -> (Same (cvecRight e.B).2.1), ((bif decide ((1 : Int) <= e.Kind) then decide ((e.Kind : Int) <= 3) else false) = true) -> ((bif decide ((1 : Int) <= e.Kind) then decide ((e.Kind : Int) <= 3) else false) = true), ((bif decide ((1 : Int) <= e.Kind) then decide ((e.Kind : Int) <= 3) else false) = true) -> ((FvecRight e.A) = true -> (((bif decide ((1 : Int) <= e.Kind) then decide ((e.Kind : Int) <= 3) else false) = true) /\ (FvecRight e.A) = true)), ((bif decide ((1 : Int) <= e.Kind) then decide ((e.Kind : Int) <= 3) else false) = true) -> ((bif decide ((1 : Int) <= e.Kind) then decide ((e.Kind : Int) <= 3) else false) = true), (((bif decide ((1 : Int) <= e.Kind) then decide ((e.Kind : Int) <= 3) else false) = true) /\ (bif FvecRight e.A then FvecRight e.B else false) = true) -> (((bif decide ((1 : Int) <= e.Kind) then decide ((e.Kind : Int) <= 3) else false) = true) /\ (bif FvecRight e.A then FvecRight e.B else false) = true), (((bif decide ((1 : Int) <= e.Kind) then decide ((e.Kind : Int) <= 3) else false) = true) /\ (bif FvecRight e.A then FvecRight e.B else false) = true) -> (((bif decide ((1 : Int) <= e.Kind) then decide ((e.Kind : Int) <= 3) else false) = true) /\ (bif FvecRight e.A then FvecRight e.B else false) = true), (((bif decide ((1 : Int) <= e.Kind) then decide ((e.Kind : Int) <= 3) else false) = true) /\ (bif FvecRight e.A then FvecRight e.B else false) = true) -> (Same (cvecRight e.C).2.1), ((bif decide ((1 : Int) <= e.Kind) then decide ((e.Kind : Int) <= 3) else false) = true) -> ((bif decide ((1 : Int) <= e.Kind) then decide ((e.Kind : Int) <= 3) else false) = true), ((bif decide ((1 : Int) <= e.Kind) then decide ((e.Kind : Int) <= 3) else false) = true) -> ((bif FvecRight e.A then FvecRight e.B else false) = true -> (((bif decide ((1 : Int) <= e.Kind) then decide ((e.Kind : Int) <= 3) else false) = true) /\ (bif FvecRight e.A then FvecRight e.B else false) = true)), ((bif decide ((1 : Int) <= e.Kind) then decide ((e.Kind : Int) <= 3) else false) = true) -> ((bif decide ((1 : Int) <= e.Kind) then decide ((e.Kind : Int) <= 3) else false) = true), (bif decide ((1 : Int) <= e.Kind) then decide ((e.Kind : Int) <= 3) else false) = true -> ((bif decide ((1 : Int) <= e.Kind) then decide ((e.Kind : Int) <= 3) else false) = true)] ⟨[(12, tB (bif bif decide ((1 : Int) <= e.Kind) then decide ((e.Kind : Int) <= 3) else false then !(bif bif FvecRight e.A then FvecRight e.B else false then FvecRight e.C else false) else false))], []⟩ (.cons (okvecRight e.A) (.cons (okvecRight e.B) (.cons (okvecRight e.C) .nil))) kr (.cons id (.cons id (.cons id (.cons id (.cons id (.cons (fun _ => rfl) (.cons id (.cons id (.cons id (.cons (fun _ => rfl) (.cons id (.cons (by intros; first | assumption | exact ⟨by assumption, by assumption⟩ | simp_all) (.cons id (.cons id (.cons id (.cons (fun _ => rfl) (.cons id (.cons (by intros; first | assumption | exact ⟨by assumption, by assumption⟩ | simp_all) (.cons id (.cons id .nil)))))))))))))))))))) <| ath_n ?_
 refine aw_cond (bif bif decide ((1 : Int) <= e.Kind) then decide ((e.Kind : Int) <= 3) else false then !(bif bif FvecRight e.A then FvecRight e.B else false then FvecRight e.C else false) else false) kr (fun h4 => ?_) (fun h4 => ?_)
 ·refine aw_seq ?_
  refine aw_region eqok [] [] [] [2] [] [] ⟨[(2, tI 10)], []⟩ .nil kr .nil <| ath_n ?_
  refine aw_ret <| abl_r <| ath_r ?_
  exact ⟨_, Cv.refl _, .inl rfl, .av (.one (.i 10)), by kernel_rfl, tve_eq (by first | (simp only [FCheckN, h4, cond_true, cond_false] <;> rfl))⟩
 ·refine aw_skip <| abl_n ?_
  refine ath_n <| aw_seq ?_
  refine aw_region eqok [] [] [] [2] [] [] ⟨[(2, tI 11)], []⟩ .nil kr .nil <| ath_n <| aw_ret ?_
  exact ⟨_, Cv.refl _, .inl rfl, .av (.one (.i 11)), by kernel_rfl, tve_eq (by first | (simp only [FCheckN, h4, cond_true, cond_false] <;> rfl))⟩
def FCheck (e : TEdge)  : Int := if e.Kind = 1 then FCheck1 e.A e.B e.C  else if e.Kind = 2 then FCheck2 e.A e.B e.C  else if e.Kind = 3 then FCheck3 e.A e.B e.C  else FCheckN e
def cCheck (e : TEdge)  : FuncId × List Av × Ef := (79, [.agg (TEdge.c e)], .val [] (.av (.one (.i (FCheck e )))))
theorem pCheck (e : TEdge)  : Pure Tryz.prog 79 (cCheck e ).2.1 (.av (.one (.i (FCheck e )))) := by
 by_cases k1 : e.Kind = 1
 ·have hF : FCheck e  = FCheck1 e.A e.B e.C  := by unfold FCheck; rw [if_pos k1]
  rw [hF]; obtain ⟨k, a0, a1, a2⟩ := e; simp only at k1; subst k1; exact pCheck1 a0 a1 a2 
 by_cases k2 : e.Kind = 2
 ·have hF : FCheck e  = FCheck2 e.A e.B e.C  := by unfold FCheck; rw [if_neg k1]; rw [if_pos k2]
  rw [hF]; obtain ⟨k, a0, a1, a2⟩ := e; simp only at k2; subst k2; exact pCheck2 a0 a1 a2 
 by_cases k3 : e.Kind = 3
 ·have hF : FCheck e  = FCheck3 e.A e.B e.C  := by unfold FCheck; rw [if_neg k1]; rw [if_neg k2]; rw [if_pos k3]
  rw [hF]; obtain ⟨k, a0, a1, a2⟩ := e; simp only at k3; subst k3; exact pCheck3 a0 a1 a2 
 have hF : FCheck e  = FCheckN e  := by unfold FCheck; rw [if_neg k1, if_neg k2, if_neg k3]
 rw [hF]; exact pCheckN e  k1 k2 k3
theorem okCheck (e : TEdge)  : CallOk Tryz.prog (cCheck e ).1 (cCheck e ).2.1 (cCheck e ).2.2 := callOk_pure (fun _ _ => by kernel_rfl) fun _ => pCheck e
def FMove1 (a0 : TPoint) (a1 : TPoint) (a2 : TPoint) (m : TMotion) : TEdge := TEdge.mk 1 (FvecApply m a0) (FvecApply m a1) a2
def cMove1 (a0 : TPoint) (a1 : TPoint) (a2 : TPoint) (m : TMotion) : FuncId × List Av × Ef := (152, [.agg [.i 1, .i a0.X, .i a0.Y, .i a1.X, .i a1.Y, .i a2.X, .i a2.Y], .agg (TMotion.c m)], .val [] (.av (.agg (TEdge.c (FMove1 a0 a1 a2 m)))))
theorem pMove1 (a0 : TPoint) (a1 : TPoint) (a2 : TPoint) (m : TMotion) : Pure Tryz.prog 152 (cMove1 a0 a1 a2 m).2.1 (.av (.agg (TEdge.c (FMove1 a0 a1 a2 m)))) := by
 refine pure_of_awF Tryz.func152 rfl kr kr fun W0 M0 => ?_
 refine aw_seq ?_
 refine aw_region eqok [] [] [] [2, 3, 4] [2, 3, 4] [] ⟨[(2, tP 2 0), (3, tP 3 0), (4, tP 4 0)], [(2, .cells [.i 1, .i a0.X, .i a0.Y, .i a1.X, .i a1.Y, .i a2.X, .i a2.Y] 68), (3, .cells (TMotion.c m) 74), (4, .cells [.i 0, .i 0, .i 0, .i 0, .i 0, .i 0, .i 0] 68)]⟩ .nil kr .nil <| ath_n ?_
 refine aw_seq <| aw_seq ?_
 refine aw_region eqok [] [] [(9, cof1 a0 a1 a2)] [2, 3, 4, 5] [2, 3, 4, 5] [Same (cof1 a0 a1 a2).2.1] ⟨[(2, tP 2 0), (3, tP 3 0), (4, tP 4 0), (5, tP 5 0)], [(2, .cells [.i 1, .i a0.X, .i a0.Y, .i a1.X, .i a1.Y, .i a2.X, .i a2.Y] 68), (3, .cells (TMotion.c m) 74), (4, .cells [.i 0, .i 0, .i 0, .i 0, .i 0, .i 0, .i 0] 68), (5, .cells [.clo 172 0 (fun _ => default), .clo 173 0 (fun _ => default), .clo 174 0 (fun _ => default), .i 1] 241)]⟩ (.cons (okof1 a0 a1 a2) .nil) kr (.cons rfl .nil) <| ath_n <| aw_seq ?_
 refine aw_region eqok [] [] [] [2, 3, 4, 5, 13] [2, 3, 4, 5] [] ⟨[(2, tP 2 0), (3, tP 3 0), (4, tP 4 0), (5, tP 5 0), (13, tB m.Mirror)], [(2, .cells [.i 1, .i a0.X, .i a0.Y, .i a1.X, .i a1.Y, .i a2.X, .i a2.Y] 68), (3, .cells (TMotion.c m) 74), (4, .cells [.i 0, .i 0, .i 0, .i 0, .i 0, .i 0, .i 0] 68), (5, .cells [.clo 172 0 (fun _ => default), .clo 173 0 (fun _ => default), .clo 174 0 (fun _ => default), .i 1] 241)]⟩ .nil kr .nil <| ath_n ?_
 refine aw_joinC (⟨[(2, tP 2 0), (3, tP 3 0), (4, tP 4 0)], [(2, .cells [.i 1, .i a0.X, .i a0.Y, .i a1.X, .i a1.Y, .i a2.X, .i a2.Y] 68), (3, .cells (TMotion.c m) 74), (4, .cells [.i 0, .i 0, .i 0, .i 0, .i 0, .i 0, .i 0] 68)]⟩) ?_ ?_
 ·refine aw_cond (m.Mirror) kr (fun h1 => ?_) (fun h1 => ?_)
  ·refine aw_region eqok [] [] [] [2, 3, 4] [2, 3, 4] [] ⟨[(2, tP 2 0), (3, tP 3 0), (4, tP 4 0)], [(2, .cells [.i 1, .i a0.X, .i a0.Y, .i a1.X, .i a1.Y, .i a2.X, .i a2.Y] 68), (3, .cells (TMotion.c m) 74), (4, .cells [.i 0, .i 0, .i 0, .i 0, .i 0, .i 0, .i 0] 68)]⟩ .nil kr .nil <| ath_n ?_
   refine cv_eq ?_
   first | rfl | (simp only [h1, cond_true, cond_false] <;> rfl)
  ·refine aw_skip <| ath_n ?_
   refine Cv.trans (cv_keep [2, 3, 4] [2, 3, 4] (⟨[(2, tP 2 0), (3, tP 3 0), (4, tP 4 0)], [(2, .cells [.i 1, .i a0.X, .i a0.Y, .i a1.X, .i a1.Y, .i a2.X, .i a2.Y] 68), (3, .cells (TMotion.c m) 74), (4, .cells [.i 0, .i 0, .i 0, .i 0, .i 0, .i 0, .i 0] 68)]⟩) kr) (cv_eq ?_)
   first | rfl | (simp only [h1, cond_true, cond_false] <;> rfl)
 refine aw_seq <| aw_seq ?_
 refine aw_region eqok [] [] [] [2, 3, 4, 19] [2, 3, 4] [] ⟨[(2, tP 2 0), (3, tP 3 0), (4, tP 4 0), (19, tB false)], [(2, .cells [.i 1, .i a0.X, .i a0.Y, .i a1.X, .i a1.Y, .i a2.X, .i a2.Y] 68), (3, .cells (TMotion.c m) 74), (4, .cells [.i 0, .i 0, .i 0, .i 0, .i 0, .i 0, .i 0] 68)]⟩ .nil kr .nil <| ath_n ?_
 refine aw_cond_f kr <| aw_skip ?_
 refine ath_n <| aw_seq ?_
 refine aw_draw mixed eqok [] [] [(28, cvecApply m a0), (32, cvecApply m a1)] [2, 4] [2, 4] [Same (cvecApply m a0).2.1, Same (cvecApply m a1).2.1] ⟨[(2, tP 2 0), (4, tP 4 0)], [(2, .cells [.i 1, .i ((FvecApply m a0).X), .i ((FvecApply m a0).Y), .i ((FvecApply m a1).X), .i ((FvecApply m a1).Y), .i a2.X, .i a2.Y] 68), (4, .cells [.i 0, .i 0, .i 0, .i 0, .i 0, .i 0, .i 0] 68)]⟩ (.cons (okvecApply m a0) (.cons (okvecApply m a1) .nil)) kr kr (.cons rfl (.cons rfl .nil)) <| ath_n <| aw_seq ?_
 refine aw_region eqok [] [] [] [4] [4] [] ⟨[(4, tP 4 0)], [(4, .cells [.i 1, .i ((FvecApply m a0).X), .i ((FvecApply m a0).Y), .i ((FvecApply m a1).X), .i ((FvecApply m a1).Y), .i a2.X, .i a2.Y] 68)]⟩ .nil kr .nil <| ath_n <| aw_ret ?_
 exact ⟨_, Cv.refl _, .inl rfl, .av (.agg [.i 1, .i ((FvecApply m a0).X), .i ((FvecApply m a0).Y), .i ((FvecApply m a1).X), .i ((FvecApply m a1).Y), .i a2.X, .i a2.Y]), by kernel_rfl, tve_eq (by rfl)⟩
def FMove2 (a0 : TPoint) (a1 : TPoint) (a2 : TPoint) (m : TMotion) : TEdge := TEdge.mk (bif m.Mirror then 3 else 2) (FvecApply m a0) (FvecApply m a1) (TPoint.mk (bif !decide (((bif m.Mirror then 3 else 2) : Int) = 1) then ((FvecApply m a2).X) else a2.X) (bif !decide (((bif m.Mirror then 3 else 2) : Int) = 1) then ((FvecApply m a2).Y) else a2.Y))
def cMove2 (a0 : TPoint) (a1 : TPoint) (a2 : TPoint) (m : TMotion) : FuncId × List Av × Ef := (152, [.agg [.i 2, .i a0.X, .i a0.Y, .i a1.X, .i a1.Y, .i a2.X, .i a2.Y], .agg (TMotion.c m)], .val [] (.av (.agg (TEdge.c (FMove2 a0 a1 a2 m)))))
theorem pMove2 (a0 : TPoint) (a1 : TPoint) (a2 : TPoint) (m : TMotion) : Pure Tryz.prog 152 (cMove2 a0 a1 a2 m).2.1 (.av (.agg (TEdge.c (FMove2 a0 a1 a2 m)))) := by
 refine pure_of_awF Tryz.func152 rfl kr kr fun W0 M0 => ?_
 refine aw_seq ?_
 refine aw_region eqok [] [] [] [2, 3, 4] [2, 3, 4] [] ⟨[(2, tP 2 0), (3, tP 3 0), (4, tP 4 0)], [(2, .cells [.i 2, .i a0.X, .i a0.Y, .i a1.X, .i a1.Y, .i a2.X, .i a2.Y] 68), (3, .cells (TMotion.c m) 74), (4, .cells [.i 0, .i 0, .i 0, .i 0, .i 0, .i 0, .i 0] 68)]⟩ .nil kr .nil <| ath_n ?_
 refine aw_seq <| aw_seq ?_
 refine aw_region eqok [] [] [(9, cof2 a0 a1 a2)] [2, 3, 4, 5] [2, 3, 4, 5] [Same (cof2 a0 a1 a2).2.1] ⟨[(2, tP 2 0), (3, tP 3 0), (4, tP 4 0), (5, tP 5 0)], [(2, .cells [.i 2, .i a0.X, .i a0.Y, .i a1.X, .i a1.Y, .i a2.X, .i a2.Y] 68), (3, .cells (TMotion.c m) 74), (4, .cells [.i 0, .i 0, .i 0, .i 0, .i 0, .i 0, .i 0] 68), (5, .cells [.clo 175 0 (fun _ => default), .clo 176 0 (fun _ => default), .clo 177 0 (fun _ => default), .i 3] 241)]⟩ (.cons (okof2 a0 a1 a2) .nil) kr (.cons rfl .nil) <| ath_n <| aw_seq ?_
 refine aw_region eqok [] [] [] [2, 3, 4, 5, 13] [2, 3, 4, 5] [] ⟨[(2, tP 2 0), (3, tP 3 0), (4, tP 4 0), (5, tP 5 0), (13, tB m.Mirror)], [(2, .cells [.i 2, .i a0.X, .i a0.Y, .i a1.X, .i a1.Y, .i a2.X, .i a2.Y] 68), (3, .cells (TMotion.c m) 74), (4, .cells [.i 0, .i 0, .i 0, .i 0, .i 0, .i 0, .i 0] 68), (5, .cells [.clo 175 0 (fun _ => default), .clo 176 0 (fun _ => default), .clo 177 0 (fun _ => default), .i 3] 241)]⟩ .nil kr .nil <| ath_n ?_
 refine aw_joinC (⟨[(2, tP 2 0), (3, tP 3 0), (4, tP 4 0)], [(2, .cells [.i (bif m.Mirror then 3 else 2), .i a0.X, .i a0.Y, .i a1.X, .i a1.Y, .i a2.X, .i a2.Y] 68), (3, .cells (TMotion.c m) 74), (4, .cells [.i 0, .i 0, .i 0, .i 0, .i 0, .i 0, .i 0] 68)]⟩) ?_ ?_
 ·refine aw_cond (m.Mirror) kr (fun h1 => ?_) (fun h1 => ?_)
  ·refine aw_region eqok [] [] [] [2, 3, 4] [2, 3, 4] [] ⟨[(2, tP 2 0), (3, tP 3 0), (4, tP 4 0)], [(2, .cells [.i 3, .i a0.X, .i a0.Y, .i a1.X, .i a1.Y, .i a2.X, .i a2.Y] 68), (3, .cells (TMotion.c m) 74), (4, .cells [.i 0, .i 0, .i 0, .i 0, .i 0, .i 0, .i 0] 68)]⟩ .nil kr .nil <| ath_n ?_
   refine cv_eq ?_
   first | rfl | (simp only [h1, cond_true, cond_false] <;> rfl)
  ·refine aw_skip <| ath_n ?_
   refine Cv.trans (cv_keep [2, 3, 4] [2, 3, 4] (⟨[(2, tP 2 0), (3, tP 3 0), (4, tP 4 0)], [(2, .cells [.i 2, .i a0.X, .i a0.Y, .i a1.X, .i a1.Y, .i a2.X, .i a2.Y] 68), (3, .cells (TMotion.c m) 74), (4, .cells [.i 0, .i 0, .i 0, .i 0, .i 0, .i 0, .i 0] 68)]⟩) kr) (cv_eq ?_)
   first | rfl | (simp only [h1, cond_true, cond_false] <;> rfl)
 refine aw_seq <| aw_seq ?_
 refine aw_region eqok [] [] [] [2, 3, 4, 19] [2, 3, 4] [] ⟨[(2, tP 2 0), (3, tP 3 0), (4, tP 4 0), (19, tB (!decide (((bif m.Mirror then 3 else 2) : Int) = 1)))], [(2, .cells [.i (bif m.Mirror then 3 else 2), .i a0.X, .i a0.Y, .i a1.X, .i a1.Y, .i a2.X, .i a2.Y] 68), (3, .cells (TMotion.c m) 74), (4, .cells [.i 0, .i 0, .i 0, .i 0, .i 0, .i 0, .i 0] 68)]⟩ .nil kr .nil <| ath_n ?_
 refine aw_joinC (⟨[(2, tP 2 0), (3, tP 3 0), (4, tP 4 0)], [(2, .cells [.i (bif m.Mirror then 3 else 2), .i a0.X, .i a0.Y, .i a1.X, .i a1.Y, .i (bif !decide (((bif m.Mirror then 3 else 2) : Int) = 1) then ((FvecApply m a2).X) else a2.X), .i (bif !decide (((bif m.Mirror then 3 else 2) : Int) = 1) then ((FvecApply m a2).Y) else a2.Y)] 68), (3, .cells (TMotion.c m) 74), (4, .cells [.i 0, .i 0, .i 0, .i 0, .i 0, .i 0, .i 0] 68)]⟩) ?_ ?_
 ·refine aw_cond (!decide (((bif m.Mirror then 3 else 2) : Int) = 1)) kr (fun h1 => ?_) (fun h1 => ?_)
  ·have g1 := of_not_decide_true h1
   refine aw_region eqok [] [] [(23, cvecApply m a2)] [2, 3, 4] [2, 3, 4] [Same (cvecApply m a2).2.1] ⟨[(2, tP 2 0), (3, tP 3 0), (4, tP 4 0)], [(2, .cells [.i (bif m.Mirror then 3 else 2), .i a0.X, .i a0.Y, .i a1.X, .i a1.Y, .i ((FvecApply m a2).X), .i ((FvecApply m a2).Y)] 68), (3, .cells (TMotion.c m) 74), (4, .cells [.i 0, .i 0, .i 0, .i 0, .i 0, .i 0, .i 0] 68)]⟩ (.cons (okvecApply m a2) .nil) kr (.cons rfl .nil) <| ath_n ?_
   refine cv_eq ?_
   first | rfl | (simp only [h1, cond_true, cond_false] <;> rfl)
  ·have g1 := of_not_decide_false h1
   refine aw_skip <| ath_n ?_
   refine Cv.trans (cv_keep [2, 3, 4] [2, 3, 4] (⟨[(2, tP 2 0), (3, tP 3 0), (4, tP 4 0)], [(2, .cells [.i (bif m.Mirror then 3 else 2), .i a0.X, .i a0.Y, .i a1.X, .i a1.Y, .i a2.X, .i a2.Y] 68), (3, .cells (TMotion.c m) 74), (4, .cells [.i 0, .i 0, .i 0, .i 0, .i 0, .i 0, .i 0] 68)]⟩) kr) (cv_eq ?_)
   first | rfl | (simp only [h1, cond_true, cond_false] <;> rfl)
 refine aw_seq ?_
 refine aw_draw mixed eqok [] [] [(28, cvecApply m a0), (32, cvecApply m a1)] [2, 4] [2, 4] [Same (cvecApply m a0).2.1, Same (cvecApply m a1).2.1] ⟨[(2, tP 2 0), (4, tP 4 0)], [(2, .cells [.i (bif m.Mirror then 3 else 2), .i ((FvecApply m a0).X), .i ((FvecApply m a0).Y), .i ((FvecApply m a1).X), .i ((FvecApply m a1).Y), .i (bif !decide (((bif m.Mirror then 3 else 2) : Int) = 1) then ((FvecApply m a2).X) else a2.X), .i (bif !decide (((bif m.Mirror then 3 else 2) : Int) = 1) then ((FvecApply m a2).Y) else a2.Y)] 68), (4, .cells [.i 0, .i 0, .i 0, .i 0, .i 0, .i 0, .i 0] 68)]⟩ (.cons (okvecApply m a0) (.cons (okvecApply m a1) .nil)) kr kr (.cons rfl (.cons rfl .nil)) <| ath_n <| aw_seq ?_
 refine aw_region eqok [] [] [] [4] [4] [] ⟨[(4, tP 4 0)], [(4, .cells [.i (bif m.Mirror then 3 else 2), .i ((FvecApply m a0).X), .i ((FvecApply m a0).Y), .i ((FvecApply m a1).X), .i ((FvecApply m a1).Y), .i (bif !decide (((bif m.Mirror then 3 else 2) : Int) = 1) then ((FvecApply m a2).X) else a2.X), .i (bif !decide (((bif m.Mirror then 3 else 2) : Int) = 1) then ((FvecApply m a2).Y) else a2.Y)] 68)]⟩ .nil kr .nil <| ath_n <| aw_ret ?_
 exact ⟨_, Cv.refl _, .inl rfl, .av (.agg [.i (bif m.Mirror then 3 else 2), .i ((FvecApply m a0).X), .i ((FvecApply m a0).Y), .i ((FvecApply m a1).X), .i ((FvecApply m a1).Y), .i (bif !decide (((bif m.Mirror then 3 else 2) : Int) = 1) then ((FvecApply m a2).X) else a2.X), .i (bif !decide (((bif m.Mirror then 3 else 2) : Int) = 1) then ((FvecApply m a2).Y) else a2.Y)]), by kernel_rfl, tve_eq (by rfl)⟩
def FMove3 (a0 : TPoint) (a1 : TPoint) (a2 : TPoint) (m : TMotion) : TEdge := TEdge.mk (bif m.Mirror then 2 else 3) (FvecApply m a0) (FvecApply m a1) (TPoint.mk (bif !decide (((bif m.Mirror then 2 else 3) : Int) = 1) then ((FvecApply m a2).X) else a2.X) (bif !decide (((bif m.Mirror then 2 else 3) : Int) = 1) then ((FvecApply m a2).Y) else a2.Y))
def cMove3 (a0 : TPoint) (a1 : TPoint) (a2 : TPoint) (m : TMotion) : FuncId × List Av × Ef := (152, [.agg [.i 3, .i a0.X, .i a0.Y, .i a1.X, .i a1.Y, .i a2.X, .i a2.Y], .agg (TMotion.c m)], .val [] (.av (.agg (TEdge.c (FMove3 a0 a1 a2 m)))))
theorem pMove3 (a0 : TPoint) (a1 : TPoint) (a2 : TPoint) (m : TMotion) : Pure Tryz.prog 152 (cMove3 a0 a1 a2 m).2.1 (.av (.agg (TEdge.c (FMove3 a0 a1 a2 m)))) := by
 refine pure_of_awF Tryz.func152 rfl kr kr fun W0 M0 => ?_
 refine aw_seq ?_
 refine aw_region eqok [] [] [] [2, 3, 4] [2, 3, 4] [] ⟨[(2, tP 2 0), (3, tP 3 0), (4, tP 4 0)], [(2, .cells [.i 3, .i a0.X, .i a0.Y, .i a1.X, .i a1.Y, .i a2.X, .i a2.Y] 68), (3, .cells (TMotion.c m) 74), (4, .cells [.i 0, .i 0, .i 0, .i 0, .i 0, .i 0, .i 0] 68)]⟩ .nil kr .nil <| ath_n ?_
 refine aw_seq <| aw_seq ?_
 refine aw_region eqok [] [] [(9, cof3 a0 a1 a2)] [2, 3, 4, 5] [2, 3, 4, 5] [Same (cof3 a0 a1 a2).2.1] ⟨[(2, tP 2 0), (3, tP 3 0), (4, tP 4 0), (5, tP 5 0)], [(2, .cells [.i 3, .i a0.X, .i a0.Y, .i a1.X, .i a1.Y, .i a2.X, .i a2.Y] 68), (3, .cells (TMotion.c m) 74), (4, .cells [.i 0, .i 0, .i 0, .i 0, .i 0, .i 0, .i 0] 68), (5, .cells [.clo 178 0 (fun _ => default), .clo 176 0 (fun _ => default), .clo 177 0 (fun _ => default), .i 2] 241)]⟩ (.cons (okof3 a0 a1 a2) .nil) kr (.cons rfl .nil) <| ath_n <| aw_seq ?_
 refine aw_region eqok [] [] [] [2, 3, 4, 5, 13] [2, 3, 4, 5] [] ⟨[(2, tP 2 0), (3, tP 3 0), (4, tP 4 0), (5, tP 5 0), (13, tB m.Mirror)], [(2, .cells [.i 3, .i a0.X, .i a0.Y, .i a1.X, .i a1.Y, .i a2.X, .i a2.Y] 68), (3, .cells (TMotion.c m) 74), (4, .cells [.i 0, .i 0, .i 0, .i 0, .i 0, .i 0, .i 0] 68), (5, .cells [.clo 178 0 (fun _ => default), .clo 176 0 (fun _ => default), .clo 177 0 (fun _ => default), .i 2] 241)]⟩ .nil kr .nil <| ath_n ?_
 refine aw_joinC (⟨[(2, tP 2 0), (3, tP 3 0), (4, tP 4 0)], [(2, .cells [.i (bif m.Mirror then 2 else 3), .i a0.X, .i a0.Y, .i a1.X, .i a1.Y, .i a2.X, .i a2.Y] 68), (3, .cells (TMotion.c m) 74), (4, .cells [.i 0, .i 0, .i 0, .i 0, .i 0, .i 0, .i 0] 68)]⟩) ?_ ?_
 ·refine aw_cond (m.Mirror) kr (fun h1 => ?_) (fun h1 => ?_)
  ·refine aw_region eqok [] [] [] [2, 3, 4] [2, 3, 4] [] ⟨[(2, tP 2 0), (3, tP 3 0), (4, tP 4 0)], [(2, .cells [.i 2, .i a0.X, .i a0.Y, .i a1.X, .i a1.Y, .i a2.X, .i a2.Y] 68), (3, .cells (TMotion.c m) 74), (4, .cells [.i 0, .i 0, .i 0, .i 0, .i 0, .i 0, .i 0] 68)]⟩ .nil kr .nil <| ath_n ?_
   refine cv_eq ?_
   first | rfl | (simp only [h1, cond_true, cond_false] <;> rfl)
  ·refine aw_skip <| ath_n ?_
   refine Cv.trans (cv_keep [2, 3, 4] [2, 3, 4] (⟨[(2, tP 2 0), (3, tP 3 0), (4, tP 4 0)], [(2, .cells [.i 3, .i a0.X, .i a0.Y, .i a1.X, .i a1.Y, .i a2.X, .i a2.Y] 68), (3, .cells (TMotion.c m) 74), (4, .cells [.i 0, .i 0, .i 0, .i 0, .i 0, .i 0, .i 0] 68)]⟩) kr) (cv_eq ?_)
   first | rfl | (simp only [h1, cond_true, cond_false] <;> rfl)
 refine aw_seq <| aw_seq ?_
 refine aw_region eqok [] [] [] [2, 3, 4, 19] [2, 3, 4] [] ⟨[(2, tP 2 0), (3, tP 3 0), (4, tP 4 0), (19, tB (!decide (((bif m.Mirror then 2 else 3) : Int) = 1)))], [(2, .cells [.i (bif m.Mirror then 2 else 3), .i a0.X, .i a0.Y, .i a1.X, .i a1.Y, .i a2.X, .i a2.Y] 68), (3, .cells (TMotion.c m) 74), (4, .cells [.i 0, .i 0, .i 0, .i 0, .i 0, .i 0, .i 0] 68)]⟩ .nil kr .nil <| ath_n ?_
 refine aw_joinC (⟨[(2, tP 2 0), (3, tP 3 0), (4, tP 4 0)], [(2, .cells [.i (bif m.Mirror then 2 else 3), .i a0.X, .i a0.Y, .i a1.X, .i a1.Y, .i (bif !decide (((bif m.Mirror then 2 else 3) : Int) = 1) then ((FvecApply m a2).X) else a2.X), .i (bif !decide (((bif m.Mirror then 2 else 3) : Int) = 1) then ((FvecApply m a2).Y) else a2.Y)] 68), (3, .cells (TMotion.c m) 74), (4, .cells [.i 0, .i 0, .i 0, .i 0, .i 0, .i 0, .i 0] 68)]⟩) ?_ ?_
 ·refine aw_cond (!decide (((bif m.Mirror then 2 else 3) : Int) = 1)) kr (fun h1 => ?_) (fun h1 => ?_)
  ·have g1 := of_not_decide_true h1
   refine aw_region eqok [] [] [(23, cvecApply m a2)] [2, 3, 4] [2, 3, 4] [Same (cvecApply m a2).2.1] ⟨[(2, tP 2 0), (3, tP 3 0), (4, tP 4 0)], [(2, .cells [.i (bif m.Mirror then 2 else 3), .i a0.X, .i a0.Y, .i a1.X, .i a1.Y, .i ((FvecApply m a2).X), .i ((FvecApply m a2).Y)] 68), (3, .cells (TMotion.c m) 74), (4, .cells [.i 0, .i 0, .i 0, .i 0, .i 0, .i 0, .i 0] 68)]⟩ (.cons (okvecApply m a2) .nil) kr (.cons rfl .nil) <| ath_n ?_
   refine cv_eq ?_
   first | rfl | (simp only [h1, cond_true, cond_false] <;> rfl)
  ·have g1 := of_not_decide_false h1
   refine aw_skip <| ath_n ?_
   refine Cv.trans (cv_keep [2, 3, 4] [2, 3, 4] (⟨[(2, tP 2 0), (3, tP 3 0), (4, tP 4 0)], [(2, .cells [.i (bif m.Mirror then 2 else 3), .i a0.X, .i a0.Y, .i a1.X, .i a1.Y, .i a2.X, .i a2.Y] 68), (3, .cells (TMotion.c m) 74), (4, .cells [.i 0, .i 0, .i 0, .i 0, .i 0, .i 0, .i 0] 68)]⟩) kr) (cv_eq ?_)
   first | rfl | (simp only [h1, cond_true, cond_false] <;> rfl)
 refine aw_seq ?_
 refine aw_draw mixed eqok [] [] [(28, cvecApply m a0), (32, cvecApply m a1)] [2, 4] [2, 4] [Same (cvecApply m a0).2.1, Same (cvecApply m a1).2.1] ⟨[(2, tP 2 0), (4, tP 4 0)], [(2, .cells [.i (bif m.Mirror then 2 else 3), .i ((FvecApply m a0).X), .i ((FvecApply m a0).Y), .i ((FvecApply m a1).X), .i ((FvecApply m a1).Y), .i (bif !decide (((bif m.Mirror then 2 else 3) : Int) = 1) then ((FvecApply m a2).X) else a2.X), .i (bif !decide (((bif m.Mirror then 2 else 3) : Int) = 1) then ((FvecApply m a2).Y) else a2.Y)] 68), (4, .cells [.i 0, .i 0, .i 0, .i 0, .i 0, .i 0, .i 0] 68)]⟩ (.cons (okvecApply m a0) (.cons (okvecApply m a1) .nil)) kr kr (.cons rfl (.cons rfl .nil)) <| ath_n <| aw_seq ?_
 refine aw_region eqok [] [] [] [4] [4] [] ⟨[(4, tP 4 0)], [(4, .cells [.i (bif m.Mirror then 2 else 3), .i ((FvecApply m a0).X), .i ((FvecApply m a0).Y), .i ((FvecApply m a1).X), .i ((FvecApply m a1).Y), .i (bif !decide (((bif m.Mirror then 2 else 3) : Int) = 1) then ((FvecApply m a2).X) else a2.X), .i (bif !decide (((bif m.Mirror then 2 else 3) : Int) = 1) then ((FvecApply m a2).Y) else a2.Y)] 68)]⟩ .nil kr .nil <| ath_n <| aw_ret ?_
 exact ⟨_, Cv.refl _, .inl rfl, .av (.agg [.i (bif m.Mirror then 2 else 3), .i ((FvecApply m a0).X), .i ((FvecApply m a0).Y), .i ((FvecApply m a1).X), .i ((FvecApply m a1).Y), .i (bif !decide (((bif m.Mirror then 2 else 3) : Int) = 1) then ((FvecApply m a2).X) else a2.X), .i (bif !decide (((bif m.Mirror then 2 else 3) : Int) = 1) then ((FvecApply m a2).Y) else a2.Y)]), by kernel_rfl, tve_eq (by rfl)⟩
def FMoveN (e : TEdge) (m : TMotion) : TEdge := TEdge.mk e.Kind (FvecApply m e.A) (FvecApply m e.B) (TPoint.mk (bif !decide ((e.Kind : Int) = 1) then ((FvecApply m e.C).X) else e.C.X) (bif !decide ((e.Kind : Int) = 1) then ((FvecApply m e.C).Y) else e.C.Y))
def cMoveN (e : TEdge) (m : TMotion) : FuncId × List Av × Ef := (152, [.agg (TEdge.c e), .agg (TMotion.c m)], .val [] (.av (.agg (TEdge.c (FMoveN e m)))))
theorem pMoveN (e : TEdge) (m : TMotion) (k1 : ¬ e.Kind = 1) (k2 : ¬ e.Kind = 2) (k3 : ¬ e.Kind = 3) : Pure Tryz.prog 152 (cMoveN e m).2.1 (.av (.agg (TEdge.c (FMoveN e m)))) := by
 refine pure_of_awF Tryz.func152 rfl kr kr fun W0 M0 => ?_
 refine aw_seq ?_
 refine aw_region eqok [] [] [] [2, 3, 4] [2, 3, 4] [] ⟨[(2, tP 2 0), (3, tP 3 0), (4, tP 4 0)], [(2, .cells (TEdge.c e) 68), (3, .cells (TMotion.c m) 74), (4, .cells [.i 0, .i 0, .i 0, .i 0, .i 0, .i 0, .i 0] 68)]⟩ .nil kr .nil <| ath_n ?_
 refine aw_seq <| aw_seq ?_
 refine aw_region eqok [] [] [(9, cofN e)] [2, 3, 4, 5] [2, 3, 4, 5] [Same (cofN e).2.1] ⟨[(2, tP 2 0), (3, tP 3 0), (4, tP 4 0), (5, tP 5 0)], [(2, .cells (TEdge.c e) 68), (3, .cells (TMotion.c m) 74), (4, .cells [.i 0, .i 0, .i 0, .i 0, .i 0, .i 0, .i 0] 68), (5, .cells [.val .nilFunc, .val .nilFunc, .val .nilFunc, .i e.Kind] 241)]⟩ (.cons (okofN e k1 k2 k3) .nil) kr (.cons rfl .nil) <| ath_n <| aw_seq ?_
 refine aw_region eqok [] [] [] [2, 3, 4, 5, 13] [2, 3, 4, 5] [] ⟨[(2, tP 2 0), (3, tP 3 0), (4, tP 4 0), (5, tP 5 0), (13, tB m.Mirror)], [(2, .cells (TEdge.c e) 68), (3, .cells (TMotion.c m) 74), (4, .cells [.i 0, .i 0, .i 0, .i 0, .i 0, .i 0, .i 0] 68), (5, .cells [.val .nilFunc, .val .nilFunc, .val .nilFunc, .i e.Kind] 241)]⟩ .nil kr .nil <| ath_n ?_
 refine aw_joinC (⟨[(2, tP 2 0), (3, tP 3 0), (4, tP 4 0)], [(2, .cells (TEdge.c e) 68), (3, .cells (TMotion.c m) 74), (4, .cells [.i 0, .i 0, .i 0, .i 0, .i 0, .i 0, .i 0] 68)]⟩) ?_ ?_
 ·refine aw_cond (m.Mirror) kr (fun h4 => ?_) (fun h4 => ?_)
  ·refine aw_region eqok [] [] [] [2, 3, 4] [2, 3, 4] [] ⟨[(2, tP 2 0), (3, tP 3 0), (4, tP 4 0)], [(2, .cells (TEdge.c e) 68), (3, .cells (TMotion.c m) 74), (4, .cells [.i 0, .i 0, .i 0, .i 0, .i 0, .i 0, .i 0] 68)]⟩ .nil kr .nil <| ath_n ?_
   refine cv_eq ?_
   first | rfl | (simp only [h4, cond_true, cond_false] <;> rfl)
  ·refine aw_skip <| ath_n ?_
   refine Cv.trans (cv_keep [2, 3, 4] [2, 3, 4] (⟨[(2, tP 2 0), (3, tP 3 0), (4, tP 4 0)], [(2, .cells (TEdge.c e) 68), (3, .cells (TMotion.c m) 74), (4, .cells [.i 0, .i 0, .i 0, .i 0, .i 0, .i 0, .i 0] 68)]⟩) kr) (cv_eq ?_)
   first | rfl | (simp only [h4, cond_true, cond_false] <;> rfl)
 refine aw_seq <| aw_seq ?_
 refine aw_region eqok [] [] [] [2, 3, 4, 19] [2, 3, 4] [] ⟨[(2, tP 2 0), (3, tP 3 0), (4, tP 4 0), (19, tB (!decide ((e.Kind : Int) = 1)))], [(2, .cells (TEdge.c e) 68), (3, .cells (TMotion.c m) 74), (4, .cells [.i 0, .i 0, .i 0, .i 0, .i 0, .i 0, .i 0] 68)]⟩ .nil kr .nil <| ath_n ?_
 refine aw_joinC (⟨[(2, tP 2 0), (3, tP 3 0), (4, tP 4 0)], [(2, .cells [.i e.Kind, .i e.A.X, .i e.A.Y, .i e.B.X, .i e.B.Y, .i (bif !decide ((e.Kind : Int) = 1) then ((FvecApply m e.C).X) else e.C.X), .i (bif !decide ((e.Kind : Int) = 1) then ((FvecApply m e.C).Y) else e.C.Y)] 68), (3, .cells (TMotion.c m) 74), (4, .cells [.i 0, .i 0, .i 0, .i 0, .i 0, .i 0, .i 0] 68)]⟩) ?_ ?_
 ·refine aw_cond (!decide ((e.Kind : Int) = 1)) kr (fun h4 => ?_) (fun h4 => ?_)
  ·have g4 := of_not_decide_true h4
   refine aw_region eqok [] [] [(23, cvecApply m e.C)] [2, 3, 4] [2, 3, 4] [Same (cvecApply m e.C).2.1] ⟨[(2, tP 2 0), (3, tP 3 0), (4, tP 4 0)], [(2, .cells [.i e.Kind, .i e.A.X, .i e.A.Y, .i e.B.X, .i e.B.Y, .i ((FvecApply m e.C).X), .i ((FvecApply m e.C).Y)] 68), (3, .cells (TMotion.c m) 74), (4, .cells [.i 0, .i 0, .i 0, .i 0, .i 0, .i 0, .i 0] 68)]⟩ (.cons (okvecApply m e.C) .nil) kr (.cons rfl .nil) <| ath_n ?_
   refine cv_eq ?_
   first | rfl | (simp only [h4, cond_true, cond_false] <;> rfl)
  ·have g4 := of_not_decide_false h4
   refine aw_skip <| ath_n ?_
   refine Cv.trans (cv_keep [2, 3, 4] [2, 3, 4] (⟨[(2, tP 2 0), (3, tP 3 0), (4, tP 4 0)], [(2, .cells (TEdge.c e) 68), (3, .cells (TMotion.c m) 74), (4, .cells [.i 0, .i 0, .i 0, .i 0, .i 0, .i 0, .i 0] 68)]⟩) kr) (cv_eq ?_)
   first | rfl | (simp only [h4, cond_true, cond_false] <;> rfl)
 refine aw_seq ?_
 refine aw_draw mixed eqok [] [] [(28, cvecApply m e.A), (32, cvecApply m e.B)] [2, 4] [2, 4] [Same (cvecApply m e.A).2.1, Same (cvecApply m e.B).2.1] ⟨[(2, tP 2 0), (4, tP 4 0)], [(2, .cells [.i e.Kind, .i ((FvecApply m e.A).X), .i ((FvecApply m e.A).Y), .i ((FvecApply m e.B).X), .i ((FvecApply m e.B).Y), .i (bif !decide ((e.Kind : Int) = 1) then ((FvecApply m e.C).X) else e.C.X), .i (bif !decide ((e.Kind : Int) = 1) then ((FvecApply m e.C).Y) else e.C.Y)] 68), (4, .cells [.i 0, .i 0, .i 0, .i 0, .i 0, .i 0, .i 0] 68)]⟩ (.cons (okvecApply m e.A) (.cons (okvecApply m e.B) .nil)) kr kr (.cons rfl (.cons rfl .nil)) <| ath_n <| aw_seq ?_
 refine aw_region eqok [] [] [] [4] [4] [] ⟨[(4, tP 4 0)], [(4, .cells [.i e.Kind, .i ((FvecApply m e.A).X), .i ((FvecApply m e.A).Y), .i ((FvecApply m e.B).X), .i ((FvecApply m e.B).Y), .i (bif !decide ((e.Kind : Int) = 1) then ((FvecApply m e.C).X) else e.C.X), .i (bif !decide ((e.Kind : Int) = 1) then ((FvecApply m e.C).Y) else e.C.Y)] 68)]⟩ .nil kr .nil <| ath_n <| aw_ret ?_
 exact ⟨_, Cv.refl _, .inl rfl, .av (.agg [.i e.Kind, .i ((FvecApply m e.A).X), .i ((FvecApply m e.A).Y), .i ((FvecApply m e.B).X), .i ((FvecApply m e.B).Y), .i (bif !decide ((e.Kind : Int) = 1) then ((FvecApply m e.C).X) else e.C.X), .i (bif !decide ((e.Kind : Int) = 1) then ((FvecApply m e.C).Y) else e.C.Y)]), by kernel_rfl, tve_eq (by rfl)⟩
def FMove (e : TEdge) (m : TMotion) : TEdge := if e.Kind = 1 then FMove1 e.A e.B e.C m else if e.Kind = 2 then FMove2 e.A e.B e.C m else if e.Kind = 3 then FMove3 e.A e.B e.C m else FMoveN e m
def cMove (e : TEdge) (m : TMotion) : FuncId × List Av × Ef := (152, [.agg (TEdge.c e), .agg (TMotion.c m)], .val [] (.av (.agg (TEdge.c (FMove e m)))))
theorem pMove (e : TEdge) (m : TMotion) : Pure Tryz.prog 152 (cMove e m).2.1 (.av (.agg (TEdge.c (FMove e m)))) := by
 by_cases k1 : e.Kind = 1
 ·have hF : FMove e m = FMove1 e.A e.B e.C m := by unfold FMove; rw [if_pos k1]
  rw [hF]; obtain ⟨k, a0, a1, a2⟩ := e; simp only at k1; subst k1; exact pMove1 a0 a1 a2 m
 by_cases k2 : e.Kind = 2
 ·have hF : FMove e m = FMove2 e.A e.B e.C m := by unfold FMove; rw [if_neg k1]; rw [if_pos k2]
  rw [hF]; obtain ⟨k, a0, a1, a2⟩ := e; simp only at k2; subst k2; exact pMove2 a0 a1 a2 m
 by_cases k3 : e.Kind = 3
 ·have hF : FMove e m = FMove3 e.A e.B e.C m := by unfold FMove; rw [if_neg k1]; rw [if_neg k2]; rw [if_pos k3]
  rw [hF]; obtain ⟨k, a0, a1, a2⟩ := e; simp only at k3; subst k3; exact pMove3 a0 a1 a2 m
 have hF : FMove e m = FMoveN e m := by unfold FMove; rw [if_neg k1, if_neg k2, if_neg k3]
 rw [hF]; exact pMoveN e m k1 k2 k3
theorem okMove (e : TEdge) (m : TMotion) : CallOk Tryz.prog (cMove e m).1 (cMove e m).2.1 (cMove e m).2.2 := callOk_pure (fun _ _ => by kernel_rfl) fun _ => pMove e m
end
section
open Go.ChangeShapes Go.WideShapes Go.ChangeAt Go.RowKit
theorem own : ownKnob Tryz.prog.godebug = none := by kernel_rfl
theorem laidOut : laidOutB Tryz.prog = true := by kernel_rfl
def TRect.ok (x : TRect) : Prop := WF .i64 x.X0 /\ WF .i64 x.Y0 /\ WF .i64 x.X1 /\ WF .i64 x.Y1 /\ True
theorem opT90 : Opens Tryz.prog 90 TRect.c TRect.ok := by
 refine opens_map (opens_struct Tryz.underlying90 kr (opensF_cons 1 kr rfl (opens_int Tryz.underlying3) (opensF_cons 1 kr rfl (opens_int Tryz.underlying3) (opensF_cons 1 kr rfl (opens_int Tryz.underlying3) (opensF_cons 1 kr rfl (opens_int Tryz.underlying3) opensF_nil))))) ?_
 rintro ⟨a0, a1, a2, a3, _⟩ ⟨h0, h1, h2, h3, _⟩
 exact ⟨⟨a0, a1, a2, a3⟩, ⟨h0, h1, h2, h3, trivial⟩, rfl⟩
def TPoint.ok (x : TPoint) : Prop := WF .i64 x.X /\ WF .i64 x.Y /\ True
theorem opT66 : Opens Tryz.prog 66 TPoint.c TPoint.ok := by
 refine opens_map (opens_struct Tryz.underlying66 kr (opensF_cons 1 kr rfl (opens_int Tryz.underlying3) (opensF_cons 1 kr rfl (opens_int Tryz.underlying3) opensF_nil))) ?_
 rintro ⟨a0, a1, _⟩ ⟨h0, h1, _⟩
 exact ⟨⟨a0, a1⟩, ⟨h0, h1, trivial⟩, rfl⟩
def TEdge.ok (x : TEdge) : Prop := WF .i64 x.Kind /\ TPoint.ok x.A /\ TPoint.ok x.B /\ TPoint.ok x.C /\ True
theorem opT68 : Opens Tryz.prog 68 TEdge.c TEdge.ok := by
 refine opens_map (opens_struct Tryz.underlying68 kr (opensF_cons 1 kr rfl (opens_int Tryz.underlying3) (opensF_cons 2 kr rfl opT66 (opensF_cons 2 kr rfl opT66 (opensF_cons 2 kr rfl opT66 opensF_nil))))) ?_
 rintro ⟨a0, a1, a2, a3, _⟩ ⟨h0, h1, h2, h3, _⟩
 exact ⟨⟨a0, a1, a2, a3⟩, ⟨h0, h1, h2, h3, trivial⟩, rfl⟩
theorem opT26 : Opens Tryz.prog 26 (fun xs : List TEdge => [lst 7 TEdge.c xs]) (fun xs => xs.length <= maxLen /\ ∀ x ∈ xs, TEdge.ok x) := opens_slice 7 Tryz.underlying26 kr (by decide) opT68
def TShape.ok (x : TShape) : Prop := WF .i64 x.Kind /\ (x.Edges.length <= maxLen /\ ∀ y ∈ x.Edges, TEdge.ok y) /\ WF .i64 x.R /\ True
theorem opT28 : Opens Tryz.prog 28 TShape.c TShape.ok := by
 refine opens_map (opens_struct Tryz.underlying28 kr (opensF_cons 1 kr rfl (opens_int Tryz.underlying3) (opensF_cons 1 kr rfl opT26 (opensF_cons 1 kr rfl (opens_int Tryz.underlying3) opensF_nil)))) ?_
 rintro ⟨a0, a1, a2, _⟩ ⟨h0, h1, h2, _⟩
 exact ⟨⟨a0, a1, a2⟩, ⟨h0, h1, h2, trivial⟩, rfl⟩
def TItem.ok (x : TItem) : Prop := WF .i64 x.Id /\ x.Pad.size <= maxLen /\ WF .i64 x.Kind /\ x.Net.size <= maxLen /\ WF .i64 x.From /\ WF .i64 x.To /\ TShape.ok x.Shape /\ True
theorem opT61 : Opens Tryz.prog 61 TItem.c TItem.ok := by
 refine opens_map (opens_struct Tryz.underlying61 kr (opensF_cons 1 kr rfl (opens_int Tryz.underlying3) (opensF_cons 1 kr rfl (opens_string Tryz.underlying9) (opensF_cons 1 kr rfl (opens_int Tryz.underlying3) (opensF_cons 1 kr rfl (opens_string Tryz.underlying9) (opensF_cons 1 kr rfl (opens_int Tryz.underlying3) (opensF_cons 1 kr rfl (opens_int Tryz.underlying3) (opensF_cons 3 kr rfl opT28 opensF_nil)))))))) ?_
 rintro ⟨a0, a1, a2, a3, a4, a5, a6, _⟩ ⟨h0, h1, h2, h3, h4, h5, h6, _⟩
 exact ⟨⟨a0, a1, a2, a3, a4, a5, a6⟩, ⟨h0, h1, h2, h3, h4, h5, h6, trivial⟩, rfl⟩
def TA91.ok (x : TA91) : Prop := TItem.ok x.e0 /\ TItem.ok x.e1 /\ True
theorem opT91 : Opens Tryz.prog 91 TA91.c TA91.ok := by
 refine opens_map (opens_array Tryz.underlying91 kr opT61) ?_
 rintro xs ⟨hl, hx⟩
 match xs, hl with
 | [a0, a1], _ => exact ⟨⟨a0, a1⟩, ⟨hx _ (by simp), hx _ (by simp), trivial⟩, rfl⟩
end
section
open Go.RowKit
def FMod (n : Int) (m : Int) : Int := Int.tmod (W64 ((Int.tmod n m) + m)) m
def cMod (n : Int) (m : Int) : FuncId × List Av × Ef := (29, [.one (.i n), .one (.i m)], .val [] (.av (.one (.i (FMod n m)))))
theorem au8 {p : Prop} (h : p := by first | assumption | decide | omega) : p := h
theorem pMod (n : Int) (m : Int) (hm : m ≠ 0) : Pure Tryz.prog 29 (cMod n m).2.1 (.av (.one (.i (FMod n m)))) := by
 refine pure_of_awF Tryz.func29 rfl kr kr fun W0 M0 => ?_
 refine aw_seq ?_
 refine aw_region eqok [] [] [] [0, 1] [] [] ⟨[(0, tI n), (1, tI m)], []⟩ .nil kr .nil <| ath_n <| aw_seq ?_
 refine aw_region eqok [] [] [] [4] [] [(m : Int) ≠ 0, (m : Int) ≠ 0] ⟨[(4, tI (Int.tmod (W64 ((Int.tmod n m) + m)) m))], []⟩ .nil kr (.cons au8 (.cons au8 .nil)) <| ath_n <| aw_ret ?_
 exact ⟨_, Cv.refl _, .inl rfl, .av (.one (.i (Int.tmod (W64 ((Int.tmod n m) + m)) m))), by kernel_rfl, tve_eq (by rfl)⟩
theorem okMod (n : Int) (m : Int) (hm : m ≠ 0) : CallOk Tryz.prog (cMod n m).1 (cMod n m).2.1 (cMod n m).2.2 := callOk_pure (fun _ _ => by kernel_rfl) fun _ => pMod n m hm
theorem mod_b (n m : Int) (h0 : 0 < m) (h1 : m <= 4611686018427387904) : 0 <= FMod n m /\ FMod n m < m := by
 have e : FMod n m = n % m := by
  unfold FMod W64
  rcases Int.lt_or_le n 0 with h | h
  ·have b1 := Int.emod_nonneg (-n) (show m ≠ 0 by omega)
   have b2 := Int.emod_lt_of_pos (-n) h0
   rw [show n.tmod m = -((-n) % m) by rw [<- Int.tmod_eq_emod_of_nonneg (by omega), Int.neg_tmod, Int.neg_neg]]
   rw [IntKind.wrap_i64]
   rw [show (-((-n) % m) + m + 9223372036854775808) % 18446744073709551616 - 9223372036854775808 = -((-n) % m) + m by omega]
   rw [Int.tmod_eq_emod_of_nonneg (by omega)]
   have e1 := Int.emod_add_mul_ediv (-n) m
   have e2 : -((-n) % m) + m = n + m * ((-n) / m + 1) := by grind
   rw [e2, Int.add_mul_emod_self_left]
  ·have b1 := Int.emod_nonneg n (show m ≠ 0 by omega)
   have b2 := Int.emod_lt_of_pos n h0
   rw [Int.tmod_eq_emod_of_nonneg h, IntKind.wrap_i64]
   rw [show (n % m + m + 9223372036854775808) % 18446744073709551616 - 9223372036854775808 = n % m + m by omega]
   rw [Int.tmod_eq_emod_of_nonneg (by omega), Int.add_emod_right, Int.emod_emod_of_dvd _ (Int.dvd_refl m)]
 rw [e]
 exact ⟨Int.emod_nonneg n (by omega), Int.emod_lt_of_pos n h0⟩
theorem and_dec {p q : Prop} [Decidable p] [Decidable q] (h : (bif decide p then decide q else false) = true) : p /\ q := by
 by_cases hp : p
 ·rw [decide_eq_true hp] at h; exact ⟨hp, of_decide_eq_true h⟩
 ·rw [decide_eq_false hp] at h; cases h
end
section
open Go.RowKit
theorem pjoints  (l : (List TEdge)) (closed : Bool) : Pure Tryz.prog 80 [.one (lst 7 TEdge.c l), .one (.b closed)] (.av (.one (.clo 132 2 (listF [.eptr 1 1 (fun _ j_ => ([lst 7 TEdge.c l] : List Cl).getD j_ default) 0 0, .eptr 1 1 (fun _ j_ => ([.b closed] : List Cl).getD j_ default) 0 0])))) := by
 refine pure_of_awF Tryz.func80 rfl kr kr fun W0 M0 => ?_
 refine aw_seq ?_
 refine aw_region eqok [] [] [] [2, 3] [2, 3] [] ⟨[(2, tP 2 0), (3, tP 3 0)], [(2, .cells [lst 7 TEdge.c l] 26), (3, .cells [.b closed] 4)]⟩ .nil kr .nil <| ath_n <| aw_seq ?_
 refine aw_region eqok [] [] [] [4] [2, 3] [] ⟨[(4, .av (.one (.clo 132 2 (listF [.ptr 2 0, .ptr 3 0]))))], [(2, .cells [lst 7 TEdge.c l] 26), (3, .cells [.b closed] 4)]⟩ .nil kr .nil <| ath_n <| aw_ret ?_
 exact ⟨_, Cv.trans (cv_fix (⟨[(4, .av (.one (.clo 132 2 (listF [.eptr 1 1 (fun _ j_ => ([lst 7 TEdge.c l] : List Cl).getD j_ default) 0 0, .ptr 3 0]))))], [(3, .cells [.b closed] 4)]⟩) 2 [lst 7 TEdge.c l] 26 (K := []) (fun k x h => by cases h) kr kr kr kr) (Cv.trans (cv_fix (⟨[(4, .av (.one (.clo 132 2 (listF [.eptr 1 1 (fun _ j_ => ([lst 7 TEdge.c l] : List Cl).getD j_ default) 0 0, .eptr 1 1 (fun _ j_ => ([.b closed] : List Cl).getD j_ default) 0 0]))))], []⟩) 3 [.b closed] 4 (K := []) (fun k x h => by cases h) kr kr kr kr) (Cv.refl _)), .inl rfl, .av (.one (.clo 132 2 (listF [.eptr 1 1 (fun _ j_ => ([lst 7 TEdge.c l] : List Cl).getD j_ default) 0 0, .eptr 1 1 (fun _ j_ => ([.b closed] : List Cl).getD j_ default) 0 0]))), by kernel_rfl, tve_eq rfl⟩
end
section
open Go.RowKit
def jnN (l : List TEdge) (closed : Bool) : Nat := (l.length - 1) + (bif closed then 1 else 0)
def jnA (l : List TEdge) (x : Nat) : TEdge := if x + 1 < l.length then l.getD x default else l.getD (l.length - 1) default
def jnB (l : List TEdge) (x : Nat) : TEdge := if x + 1 < l.length then l.getD (x + 1) default else l.getD 0 default
abbrev capL (l : List TEdge) : Cl := .eptr 1 1 (fun _ j => ([lst 7 TEdge.c l] : List Cl).getD j default) 0 0
abbrev capC (c : Bool) : Cl := .eptr 1 1 (fun _ j => ([.b c] : List Cl).getD j default) 0 0
abbrev ylV (ly : Nat) : Tv := .av (.one (.val (.func (.yield ly) #[] #[])))
abbrev tO (c : Cl) : Tv := .av (.one c)
theorem nm_edge : ∀ x : TEdge, ∀ y ∈ TEdge.c x, NM y := by
 intro x y hy
 simp only [TEdge.c, List.mem_cons, List.not_mem_nil, or_false] at hy
 rcases hy with rfl | rfl | rfl | rfl | rfl | rfl | rfl <;> exact .val _
theorem nm_capL (l : List TEdge) : NM (capL l) := nm_box fun y hy => by rw [List.mem_singleton.1 hy]; exact nm_lst nm_edge
theorem nm_capC (c : Bool) : NM (capC c) := nm_box fun y hy => by rw [List.mem_singleton.1 hy]; exact .val _
theorem edge_v (x : TEdge) : (TEdge.c x).all Cl.isV = true := rfl
section
variable (l : List TEdge) (closed : Bool)
theorem joints_it (h : closed = true -> 1 <= l.length) (hl : (l.length : Int) <= 1000000) : IterOk Tryz.prog 132 2 (listF [capL l, capC closed]) (jnN l closed) (fun x => [.agg (TEdge.c (jnA l x.val)), .agg (TEdge.c (jnB l x.val))]) := by
 refine iter_of Tryz.func132 rfl rfl (fun x => rfl) (fun x e he c hc => ?_) kr (fun i hi => ?_) ?_
 ·have : c.isV = true := by
   simp only [List.mem_cons, List.not_mem_nil, or_false] at he
   rcases he with rfl | rfl
   ·exact List.all_eq_true.1 (edge_v _) c hc
   ·exact List.all_eq_true.1 (edge_v _) c hc
  simp only [List.mem_cons, List.not_mem_nil, or_false] at he
  rcases he with rfl | rfl <;> (simp only [Av.cells, TEdge.c, List.mem_cons, List.not_mem_nil, or_false] at hc; rcases hc with rfl | rfl | rfl | rfl | rfl | rfl | rfl <;> rfl)
 ·match i, hi with
  | 0, _ => rfl
  | 1, _ => rfl
 intro Ow n0 ly JJ Jx hO hJg hY
 have hT : ∀ (v : Int) i u, get [(0, ylV ly), (1, tO (capL l)), (2, tO (capC closed)), (4, tI v)] i = some u -> u.dv = true /\ TvM u := fun v => forall_get (p := fun u => Tv.dv u = true /\ TvM u) (by
  simp only [List.forall_mem_cons]
  exact ⟨⟨rfl, avM_one (.val _)⟩, ⟨rfl, avM_one (nm_capL l)⟩, ⟨rfl, avM_one (nm_capC closed)⟩, ⟨rfl, avM_one (.val _)⟩, fun x hx => by cases hx⟩)
 have hd0 : ∀ (v : Int) i u, get [(0, ylV ly), (1, tO (capL l)), (2, tO (capC closed)), (4, tI v)] i = some u -> u.dv = true := fun v i u h => (hT v i u h).1
 refine iw_seq ?_
 refine iw_seq ?_
 refine iw_lift hO (forall_get (p := fun u => Tv.dv u = true) (by simp [entryT, capList, Tv.dv, Av.dv, Cl.dv, List.range, List.range.loop, listF])) rfl fun W0 X1 M1 => ?_
 refine aw_region eqok [] [] [] [0, 1, 2, 4] [] [] ⟨[(0, ylV ly), (1, tO (capL l)), (2, tO (capC closed)), (4, tI 1)], []⟩ .nil kr .nil ?_
 refine ith_n ?_
 refine iw_block ?_
 have eA : ∀ k : Nat, k + 1 < l.length -> [Av.agg (TEdge.c (l.getD ((W64 (((k : Int) + 1) - 1)).toNat) default)), Av.agg (TEdge.c (l.getD ((k : Int) + 1).toNat default))] = [.agg (TEdge.c (jnA l k)), .agg (TEdge.c (jnB l k))] := fun k hk => by
  have e1 : W64 (((k : Int) + 1) - 1) = (k : Int) := by rw [W64_id (by omega) (by omega)]; omega
  have e2 : ((k : Int) + 1).toNat = k + 1 := by omega
  rw [e1, e2, Int.toNat_natCast]
  unfold jnA jnB
  rw [if_pos hk, if_pos hk]
 refine iw_loop (ι := Nat) (fun k => ⟨[(0, ylV ly), (1, tO (capL l)), (2, tO (capC closed)), (4, tI ((k : Int) + 1))], []⟩) (fun k => JJ k) (fun k => k <= l.length - 1) (fun k => l.length - k) (fun k hk => ?_) 0 (Nat.zero_le _)
 refine iw_seq ?_
 refine iw_seq ?_
 refine iw_lift hO (hd0 _) rfl fun W0 X1 M1 => ?_
 refine aw_region eqok [] [] [] [0, 1, 2, 4, 8] [] [] ⟨[(0, ylV ly), (1, tO (capL l)), (2, tO (capC closed)), (4, tI ((k : Int) + 1)), (8, tB (decide ((((k : Int) + 1) : Int) < ((l.length : Int)))))], []⟩ .nil kr .nil ?_
 refine ith_n ?_
 refine iw_cond (decide ((((k : Int) + 1) : Int) < ((l.length : Int)))) kr (fun hc => ?_) (fun hc => ?_)
 ·have hlt : k + 1 < l.length := by have := of_decide_eq_true hc; omega
  refine iw_skip ?_
  refine ith_n ?_
  refine iw_seq ?_
  refine iw_block ?_
  refine iw_seq ?_
  refine iw_yieldK (ly := ly) hO mixed eqok 10 rfl [] [] [0, 1, 2, 4, 11, 16, 20] [0, 1, 2, 4, 22] [0 <= (W64 (((k : Int) + 1) - 1) : Int) /\ (W64 (((k : Int) + 1) - 1) : Int) < ((l.length : Nat) : Int), 0 <= (((k : Int) + 1) : Int) /\ (((k : Int) + 1) : Int) < ((l.length : Nat) : Int)]
   [(0, ylV ly), (1, tO (capL l)), (2, tO (capC closed)), (4, tI ((k : Int) + 1)), (11, ylV ly), (16, .av (.agg (TEdge.c (l.getD ((W64 (((k : Int) + 1) - 1)).toNat) default)))), (20, .av (.agg (TEdge.c (l.getD ((k : Int) + 1).toNat default))))] kr kr ?conds kr kr [Av.agg (TEdge.c (l.getD ((W64 (((k : Int) + 1) - 1)).toNat) default)), Av.agg (TEdge.c (l.getD ((k : Int) + 1).toNat default))] rfl rfl kr kr kr rfl kr ?hT1 (hJg k) (JJ (k + 1)) (Jx (k + 1)) ?hY [] [] ⟨[(0, ylV ly), (1, tO (capL l)), (2, tO (capC closed)), (4, tI ((k : Int) + 1)), (22, tB (!true))], []⟩ ⟨[(22, tB (!false))], []⟩ kr .nil kr .nil ?hQt ?hQf ?hdv rfl
  case conds =>
   have e1 : W64 (((k : Int) + 1) - 1) = (k : Int) := by rw [W64_id (by omega) (by omega)]; omega
   exact .cons ⟨by rw [e1]; omega, by rw [e1]; omega⟩ (.cons ⟨by omega, by omega⟩ .nil)
  case hT1 => exact forall_get (p := fun u => Tv.dv u = true /\ TvM u) (by
   simp only [List.forall_mem_cons]
   exact ⟨⟨rfl, avM_one (.val _)⟩, ⟨rfl, avM_one (nm_capL l)⟩, ⟨rfl, avM_one (nm_capC closed)⟩, ⟨rfl, avM_one (.val _)⟩, ⟨rfl, avM_one (.val _)⟩, ⟨rfl, nm_edge _⟩, ⟨rfl, nm_edge _⟩, fun x hx => by cases hx⟩)
  case hY =>
   intro W hW
   have hk2 : k < jnN l closed := by unfold jnN; omega
   rw [eA k hlt]
   exact hY k hk2 W hW
  case hQt =>
   refine ith_n ?_
   refine iw_cond false kr (fun h => by cases h) (fun _ => ?_)
   refine iw_skip ?_
   refine ibl_n ?_
   refine ith_n ?_
   refine iw_lift hO (fun i u h => ?_) rfl fun W0 X1 M1 => ?_
   ·exact forall_get (p := fun u => Tv.dv u = true) (by simp only [List.forall_mem_cons]; exact ⟨rfl, rfl, rfl, rfl, rfl, fun x hx => by cases hx⟩) i u h
   refine aw_region eqok [] [] [] [0, 1, 2, 4] [] [] ⟨[(0, ylV ly), (1, tO (capL l)), (2, tO (capC closed)), (4, tI (W64 (((k : Int) + 1) + 1)))], []⟩ .nil kr .nil ?_
   refine ith_n ?_
   refine ⟨k + 1, by omega, by omega, ?_, rfl, rfl⟩
   have e3 : W64 (((k : Int) + 1) + 1) = ((k + 1 : Nat) : Int) + 1 := by rw [W64_id (by omega) (by omega)]; omega
   rw [e3]
  case hQf =>
   refine ith_n ?_
   refine iw_cond true kr (fun _ => ?_) (fun h => by cases h)
   refine iw_ret ?_
   exact ⟨.inl rfl, .inr ⟨k, by unfold jnN; omega, rfl⟩⟩
  case hdv => exact forall_get (p := fun u => Tv.dv u = true) (by simp only [List.forall_mem_cons]; exact ⟨rfl, rfl, rfl, rfl, rfl, fun x hx => by cases hx⟩)
 ·have hge : ¬ k + 1 < l.length := by have := of_decide_eq_false hc; omega
  refine iw_exit ?_
  refine ith_x ?_
  refine ith_x ?_
  refine ibl_hit ?_
  refine ith_n ?_
  refine iw_seq ?_
  refine iw_lift hO (fun i u h => ?_) rfl fun W0 X1 M1 => ?_
  ·exact forall_get (p := fun u => Tv.dv u = true) (by simp only [List.forall_mem_cons]; exact ⟨rfl, rfl, rfl, rfl, rfl, fun x hx => by cases hx⟩) i u h
  refine aw_region eqok [] [] [] [0, 1, 2, 23] [] [] ⟨[(0, ylV ly), (1, tO (capL l)), (2, tO (capC closed)), (23, tB closed)], []⟩ .nil kr .nil ?_
  refine ith_n ?_
  refine iw_cond closed kr (fun hcl => ?_) (fun hcl => ?_)
  ·have h1 := h hcl
   have hkl : k = l.length - 1 := by omega
   have hk2 : k < jnN l closed := by unfold jnN; rw [hcl]; show k < l.length - 1 + 1; omega
   have hn : k + 1 = jnN l closed := by unfold jnN; rw [hcl]; show k + 1 = l.length - 1 + 1; omega
   have e1 : W64 (((l.length : Int)) - 1) = ((l.length - 1 : Nat) : Int) := by rw [W64_id (by omega) (by omega)]; omega
   refine iw_yieldK (ly := ly) hO mixed eqok 10 rfl [] [] [0, 1, 2, 24, 30, 33] [0] [0 <= (W64 (((l.length : Int)) - 1) : Int) /\ (W64 (((l.length : Int)) - 1) : Int) < ((l.length : Nat) : Int), 0 <= (0 : Int) /\ (0 : Int) < ((l.length : Nat) : Int)]
    [(0, ylV ly), (1, tO (capL l)), (2, tO (capC closed)), (24, ylV ly), (30, .av (.agg (TEdge.c (l.getD ((W64 (((l.length : Int)) - 1)).toNat) default)))), (33, .av (.agg (TEdge.c (l.getD 0 default))))] kr kr ?conds kr kr [Av.agg (TEdge.c (l.getD ((W64 (((l.length : Int)) - 1)).toNat) default)), Av.agg (TEdge.c (l.getD 0 default))] rfl rfl kr kr kr rfl kr ?hT1 (hJg k) (JJ (k + 1)) (Jx (k + 1)) ?hY [] [] ⟨[(0, ylV ly)], []⟩ ⟨[], []⟩ kr .nil kr .nil ?hQt ?hQf ?hdv rfl
   case conds => exact .cons ⟨by rw [e1]; omega, by rw [e1]; omega⟩ (.cons ⟨by omega, by omega⟩ .nil)
   case hT1 => exact forall_get (p := fun u => Tv.dv u = true /\ TvM u) (by
    simp only [List.forall_mem_cons]
    exact ⟨⟨rfl, avM_one (.val _)⟩, ⟨rfl, avM_one (nm_capL l)⟩, ⟨rfl, avM_one (nm_capC closed)⟩, ⟨rfl, avM_one (.val _)⟩, ⟨rfl, nm_edge _⟩, ⟨rfl, nm_edge _⟩, fun x hx => by cases hx⟩)
   case hY =>
    intro W hW
    have := hY k hk2 W hW
    have eL : [Av.agg (TEdge.c (l.getD ((W64 (((l.length : Int)) - 1)).toNat) default)), Av.agg (TEdge.c (l.getD 0 default))] = [.agg (TEdge.c (jnA l k)), .agg (TEdge.c (jnB l k))] := by
     unfold jnA jnB
     rw [if_neg hge, if_neg hge, e1, Int.toNat_natCast]
    rw [eL]
    exact this
   case hQt =>
    refine ⟨.inr rfl, .inl ?_⟩
    rw [hn]
   case hQf => exact ⟨.inr rfl, .inr ⟨k, hk2, rfl⟩⟩
   case hdv => exact forall_get (p := fun u => Tv.dv u = true) (by simp only [List.forall_mem_cons]; exact ⟨rfl, rfl, rfl, rfl, fun x hx => by cases hx⟩)
  ·refine iw_skip ?_
   refine ⟨.inr rfl, .inl ?_⟩
   have : k = jnN l closed := by unfold jnN; rw [hcl]; show k = l.length - 1 + 0; omega
   rw [<- this]
end
end
section
open Go.RowKit
theorem plying  (l : (List TItem)) (layer : Int) : Pure Tryz.prog 69 [.one (lst 9 TItem.c l), .one (.i layer)] (.av (.one (.clo 126 2 (listF [.eptr 1 1 (fun _ j_ => ([lst 9 TItem.c l] : List Cl).getD j_ default) 0 0, .eptr 1 1 (fun _ j_ => ([.i layer] : List Cl).getD j_ default) 0 0])))) := by
 refine pure_of_awF Tryz.func69 rfl kr kr fun W0 M0 => ?_
 refine aw_seq ?_
 refine aw_region eqok [] [] [] [2, 3] [2, 3] [] ⟨[(2, tP 2 0), (3, tP 3 0)], [(2, .cells [lst 9 TItem.c l] 50), (3, .cells [.i layer] 3)]⟩ .nil kr .nil <| ath_n <| aw_seq ?_
 refine aw_region eqok [] [] [] [4] [2, 3] [] ⟨[(4, .av (.one (.clo 126 2 (listF [.ptr 2 0, .ptr 3 0]))))], [(2, .cells [lst 9 TItem.c l] 50), (3, .cells [.i layer] 3)]⟩ .nil kr .nil <| ath_n <| aw_ret ?_
 exact ⟨_, Cv.trans (cv_fix (⟨[(4, .av (.one (.clo 126 2 (listF [.eptr 1 1 (fun _ j_ => ([lst 9 TItem.c l] : List Cl).getD j_ default) 0 0, .ptr 3 0]))))], [(3, .cells [.i layer] 3)]⟩) 2 [lst 9 TItem.c l] 50 (K := []) (fun k x h => by cases h) kr kr kr kr) (Cv.trans (cv_fix (⟨[(4, .av (.one (.clo 126 2 (listF [.eptr 1 1 (fun _ j_ => ([lst 9 TItem.c l] : List Cl).getD j_ default) 0 0, .eptr 1 1 (fun _ j_ => ([.i layer] : List Cl).getD j_ default) 0 0]))))], []⟩) 3 [.i layer] 3 (K := []) (fun k x h => by cases h) kr kr kr kr) (Cv.refl _)), .inl rfl, .av (.one (.clo 126 2 (listF [.eptr 1 1 (fun _ j_ => ([lst 9 TItem.c l] : List Cl).getD j_ default) 0 0, .eptr 1 1 (fun _ j_ => ([.i layer] : List Cl).getD j_ default) 0 0]))), by kernel_rfl, tve_eq rfl⟩
end
section
open Go.RowKit
def IWL (P : Program) (N : Nat) (Ow : World -> Nat -> Prop) (n0 : Nat) (ops : Array Oper) (l : List Oper) (Q : IQ) (s : AS) (J : World -> Prop) (al : Bool) : Prop :=
 ∀ W0 M σ a w, (J W0 /\ a.defers = [] /\ IOk Ow n0 al M W0) -> Sim N W0 noX M M σ (get s.t) (get s.h) a w -> wpListIn (FW none) 0 P ops (fun e a' w' => ∃ s' J' al' W0' M' σ', Q e s' J' al' /\ (J' W0' /\ a'.defers = [] /\ IOk Ow n0 al' M' W0') /\ Sim N W0' noX M' M' σ' (get s'.t) (get s'.h) a' w') l a w
section
variable {P : Program} {N : Nat} {Ow : World → Nat → Prop} {n0 : Nat} {Q : IQ} {s : AS} {J : World → Prop} {al : Bool} {ops : Array Oper} {l : List Oper} {o : Oper}
theorem iw_regionL {id : Nat} (h : IWL P N Ow n0 l.toArray l Q s J al) : IWp P N Ow n0 (.region id l.toArray false) Q s J al := fun W0 M σ a w hJ hs => wpIn_region_lit (h W0 M σ a w hJ hs)
theorem iwl_run (hO : OwS Ow n0) {E : TypeId -> Option (List Kd)} (hE : EqOk P ⟨fun _ => none, E, fun _ => false, fun _ => none⟩) (k : Nat) (ts : List Nat) (cs : List Prop) (T : List (Nat × Tv)) (hr : runKO P ⟨getO [], E, memO [], get []⟩ N ops (l.take k) ts [] s = some (cs, ⟨T, []⟩)) (hc : AllP cs)
  (hdv : ∀ i v, get s.t i = some v -> v.dv = true) (hh : s.h = []) (h : IWL P N Ow n0 ops (l.drop k) Q ⟨T, []⟩ J al) : IWL P N Ow n0 ops l Q s J al := by
 have hV : EnvOk P ⟨getO [], E, memO [], get []⟩ := (TblOk.nil (P := P)).env (O := memO []) (q := get []) hE
 intro W0 M σ a w hJ hs
 unfold runKO at hr
 split at hr
 ·rename_i cs1 s1 h1
  simp only [Option.some.injEq, Prod.mk.injEq] at hr
  obtain ⟨rfl, hS⟩ := hr
  have key := runL_okA (rd := none) (ops := ops) (Q' := fun e a' w' => ∃ s' J' al' W0' M' σ', Q e s' J' al' /\ (J' W0' /\ a'.defers = [] /\ IOk Ow n0 al' M' W0') /\ Sim N W0' noX M' M' σ' (get s'.t) (get s'.h) a' w') hV (l.drop k) (l.take k) s s1 cs1 h1 hc M _ a w (sim_flat hdv hh hJ.2.1 hs) fun M' σ' a' w' hs' => by
   have hs2 := sim_keep hs' ts []
   rw [hS] at hs2
   obtain ⟨hd, hs3⟩ := sim_unflat hs2
   exact h W0 M' σ' a' w' ⟨hJ.1, hd, iok_new hJ.2.2 hO hs2⟩ hs3
  rw [List.take_append_drop] at key
  exact key
 ·cases hr
theorem iwl_end (h : Q .normal s J al) : IWL P N Ow n0 ops [] Q s J al := fun W0 M σ a w hJ hs => ⟨s, J, al, W0, M, σ, h, hJ, hs⟩
theorem iwl_keep (ts : List Nat) (S : AS) (hS : keepS ts [] s = S) (h : IWL P N Ow n0 ops l Q S J al) : IWL P N Ow n0 ops l Q s J al := by
 subst hS
 exact fun W0 M σ a w hJ hs => h W0 M σ a w hJ (sim_keep hs ts [])
theorem iwl_take (hO : OwS Ow n0) {E : TypeId -> Option (List Kd)} (hE : EqOk P ⟨fun _ => none, E, fun _ => false, fun _ => none⟩) (j : Nat) (want : Bool) (G : Prop) (cs : List Prop) (T : List (Nat × Tv)) (hg : o.guard = some (j, want)) (hG : guardP (get s.t) ops j want = some G) (hGp : G)
  (hst : stepT P ⟨getO [], E, memO [], get []⟩ N o G s = some (cs, ⟨T, []⟩)) (hc : AllP cs) (hdv : ∀ i v, get s.t i = some v -> v.dv = true) (hh : s.h = []) (h : IWL P N Ow n0 ops l Q ⟨T, []⟩ J al) : IWL P N Ow n0 ops (o :: l) Q s J al := by
 have hV : EnvOk P ⟨getO [], E, memO [], get []⟩ := (TblOk.nil (P := P)).env (O := memO []) (q := get []) hE
 intro W0 M σ a w hJ hs0
 have hs := sim_flat hdv hh hJ.2.1 hs0
 refine wpListIn_step fun K0 hK' => ?_
 rw [if_pos ((wanted_guard hs.tmps hs.room hg hG).2 hGp)]
 unfold stepT at hst
 split at hst
 ·rename_i e he
  split at hst
  ·rename_i cs' g hr
   cases hok : goOk N s o.dst g with
   | false => rw [hok] at hst; cases hst
   | true =>
    rw [hok] at hst
    simp only [cond_true, Option.some.injEq, Prod.mk.injEq] at hst
    obtain ⟨rfl, hS⟩ := hst
    obtain ⟨hc1, hc2⟩ := hc.append
    have hgo0 := goOk_of hok (fun n v b hg => by subst hg; exact res_wr hr) (fun l v hg => by subst hg; exact res_wrs hr) (fun n q v b bq hg => by subst hg; exact res_wq hr) (fun n b v hg => by subst hg; exact res_app hr)
    refine (eff_ok hV (fun x v hv => evG_ok hGp hc1 hs.tmps hv) he hs.std hr hc2 (gnew_of hgo0)).wp ?_ (fun c hc => by rw [hc] at he; cases he)
    rintro U w' ⟨M', σ', ho⟩
    have hsim := sim_go hs ho hgo0
    rw [<- (get_goOn s o.dst g).1, <- (get_goOn s o.dst g).2, hS] at hsim
    obtain ⟨hd, hs3⟩ := sim_unflat hsim
    exact hK' _ _ (h W0 M' σ' _ w' ⟨hJ.1, hd, iok_new hJ.2.2 hO hsim⟩ hs3)
  ·cases hst
 ·cases hst
theorem iwl_yieldW (hO : OwS Ow n0) (hwant : ∀ (M : Nat -> Option Obj) (σ : Nat -> Loc) (a : Act), (∀ i v, get s.t i = some v -> RT M σ v (a.tmps.getD i undef)) -> a.tmps.size = N -> Region.wanted o (yielded ops a.tmps) = true) {c : Call} {f : Operand} {ly d : Nat} (xs : List Av) (ho : o.op = .call c) (hcf : c.callee = .value f)
  (hf : evT (get s.t) f = some (.av (.one (.val (.func (.yield ly) #[] #[]))))) (hxs : argsC (evT (get s.t)) c.args.toList = some xs) (hv : xs.all Av.isV = true) (hod : o.dst = some d) (hdN : Nat.blt d N = true) (hT1 : ∀ i v, get s.t i = some v -> v.dv = true /\ TvM v)
  (hJg : ∀ A B, J A -> A.grownBy B none -> J B) (Jt Jf : World -> Prop)
  (hY : ∀ W, J W -> YieldAt (FW none) 0 P ly (xs.map Av.toV).toArray W (fun e W' => (e = .returned (.bool true) /\ Jt W' /\ KpS Ow W W') \/ (e = .returned (.bool false) /\ Jf W')))
  (tf : List Nat) (htf : ∀ i v, get (keepL s.t tf) i = some v -> ∃ u, v = .av (.one (.val u))) (hh : s.h = [])
  (ht : IWL P N Ow n0 ops l Q ⟨(d, tB true) :: s.t, []⟩ Jt true) (hff : IWL P N Ow n0 ops l Q ⟨(d, tB false) :: keepL s.t tf, []⟩ Jf false) : IWL P N Ow n0 ops (o :: l) Q s J true := by
 intro W0 M σ a w hJ hs
 refine wpListIn_step fun K0 hK' => ?_
 rw [if_pos (hwant M σ a hs.tmps hs.room)]
 have hgrow : W0.grownBy w none := { os := hs.os, tape := hs.tape, output := hs.output, size := hs.size, block := fun b hb _ => hs.old b hb (not_inX b) }
 have hiok := hJ.2.2
 have hdN' : d < N := by have := Nat.le_of_ble_eq_true hdN; omega
 have hput : ∀ (b : Bool) (T : List (Nat × Tv)) (M' : Nat -> Option Obj) (σ' : Nat -> Loc), (∀ i v, get T i = some v -> RT M' σ' v (a.tmps.getD i undef)) -> ∀ i v, get ((d, tB b) :: T) i = some v -> RT M' σ' v ((a.put o.dst (.bool b)).tmps.getD i undef) := fun b T M' σ' hT i v hv => by
  have hds : d < a.tmps.size := by rw [hs.room]; exact hdN'
  simp only [get, beqN] at hv
  rw [hod]
  by_cases hi : d = i
  ·subst hi
   simp at hv; subst hv
   have : (a.put (some d) (.bool b)).tmps.getD d undef = .bool b := by simp [Act.put, Array.getD_eq_getD_getElem?, hds]
   rw [this]
   exact ⟨rfl, rfl⟩
  ·simp [hi] at hv
   have : (a.put (some d) (.bool b)).tmps.getD i undef = a.tmps.getD i undef := by simp [Act.put, Array.getD_eq_getD_getElem?, Array.getElem?_setIfInBounds, hi]
   rw [this]; exact hT i v hv
 have hsize : ∀ b : Bool, (a.put o.dst (.bool b)).tmps.size = N := fun b => by rw [hod]; simpa [Act.put] using hs.room
 have hdef : ∀ b : Bool, (a.put o.dst (.bool b)).defers = [] := fun b => by rw [hod]; simpa [Act.put] using hJ.2.1
 have hnew : ∀ (b : Bool) (w2 : World) (T : List (Nat × Tv)) (Mn : Nat -> Option Obj), (∀ i v, get T i = some v -> RT Mn σ v (a.tmps.getD i undef)) -> (∀ b o, Mn b = some o -> w2.heap[b]? = some o) -> Sim N w2 noX Mn Mn σ (get ((d, tB b) :: T)) (get []) (a.put o.dst (.bool b)) w2 := fun b w2 T Mn hT himm =>
  ⟨rfl, rfl, rfl, Nat.le_refl _, fun _ _ _ => rfl, fun _ _ h => h, fun b o h h' => (by rw [h] at h'; cases h'), fun m x hx => (by cases hx), ⟨by rw [hdef b]; trivial, fun _ => hdef b⟩, hsize b, hput b T Mn σ hT, himm, fun n b hb => (by cases hb), fun n b hb => (by cases hb), fun n m b c hb => (by cases hb)⟩
 refine yield_wp hs.tmps ho hcf hf hxs hv (hY w (hJg W0 w hJ.1 hgrow)) fun e w2 he => ?_
 rcases he with ⟨rfl, h5, h6⟩ | ⟨rfl, h5⟩
 ·have hst : ∀ b, Ow w b -> Ow W0 b := hO.st W0 w (hiok rfl).1 fun b hb => hs.old b hb (not_inX b)
  refine ⟨_, rfl, hK' _ _ (ht w2 (celM M) σ _ w2 ⟨h5, hdef true, fun _ => ⟨Nat.le_trans (hiok rfl).1 (Nat.le_trans hs.size h6.1), fun b h => (h6.2.2 b h).elim (fun h7 => Nat.lt_of_lt_of_le ((hiok rfl).2.1 b (hst b h7)) (Nat.le_trans hs.size h6.1)) And.right, fun b o' h hw2 => ?_⟩⟩ (hnew true w2 s.t (celM M) (fun i v hv => RT_cut celM_cells (hs.tmps i v hv) (hT1 i v hv).2) fun b o' h => ?_))⟩
  ·rcases h6.2.2 b hw2 with h7 | h7
   ·exact (hiok rfl).2.2 b o' (celM_of h).1 (hst b h7)
   ·have := (Array.getElem?_eq_some_iff.1 (hs.imm b o' (celM_of h).1)).1; omega
  ·exact h6.2.1 b o' (hs.imm b o' (celM_of h).1) (celM_of h).2 fun h7 => (hiok rfl).2.2 b o' (celM_of h).1 (hst b h7)
 ·refine ⟨_, rfl, hK' _ _ (hff w2 noM σ _ w2 ⟨h5, hdef false, fun h => by cases h⟩ (hnew false w2 (keepL s.t tf) noM (fun i v hv => ?_) fun b o' h => by cases h))⟩
  obtain ⟨u, rfl⟩ := htf i v hv
  exact hs.tmps i _ (get_keepL _ _ _ _ hv)
theorem iwl_yield (hO : OwS Ow n0) (j : Nat) (want : Bool) (G : Prop) (hg : o.guard = some (j, want)) (hG : guardP (get s.t) ops j want = some G) (hGp : G) {c : Call} {f : Operand} {ly d : Nat} (xs : List Av) (ho : o.op = .call c) (hcf : c.callee = .value f)
  (hf : evT (get s.t) f = some (.av (.one (.val (.func (.yield ly) #[] #[]))))) (hxs : argsC (evT (get s.t)) c.args.toList = some xs) (hv : xs.all Av.isV = true) (hod : o.dst = some d) (hdN : Nat.blt d N = true) (hT1 : ∀ i v, get s.t i = some v -> v.dv = true /\ TvM v)
  (hJg : ∀ A B, J A -> A.grownBy B none -> J B) (Jt Jf : World -> Prop)
  (hY : ∀ W, J W -> YieldAt (FW none) 0 P ly (xs.map Av.toV).toArray W (fun e W' => (e = .returned (.bool true) /\ Jt W' /\ KpS Ow W W') \/ (e = .returned (.bool false) /\ Jf W')))
  (tf : List Nat) (htf : ∀ i v, get (keepL s.t tf) i = some v -> ∃ u, v = .av (.one (.val u))) (hh : s.h = [])
  (ht : IWL P N Ow n0 ops l Q ⟨(d, tB true) :: s.t, []⟩ Jt true) (hff : IWL P N Ow n0 ops l Q ⟨(d, tB false) :: keepL s.t tf, []⟩ Jf false) : IWL P N Ow n0 ops (o :: l) Q s J true :=
 iwl_yieldW hO (fun M σ a h1 h2 => (wanted_guard h1 h2 hg hG).2 hGp) xs ho hcf hf hxs hv hod hdN hT1 hJg Jt Jf hY tf htf hh ht hff
theorem iwl_yieldN (hO : OwS Ow n0) (hgn : o.guard = none) {c : Call} {f : Operand} {ly d : Nat} (xs : List Av) (ho : o.op = .call c) (hcf : c.callee = .value f)
  (hf : evT (get s.t) f = some (.av (.one (.val (.func (.yield ly) #[] #[]))))) (hxs : argsC (evT (get s.t)) c.args.toList = some xs) (hv : xs.all Av.isV = true) (hod : o.dst = some d) (hdN : Nat.blt d N = true) (hT1 : ∀ i v, get s.t i = some v -> v.dv = true /\ TvM v)
  (hJg : ∀ A B, J A -> A.grownBy B none -> J B) (Jt Jf : World -> Prop)
  (hY : ∀ W, J W -> YieldAt (FW none) 0 P ly (xs.map Av.toV).toArray W (fun e W' => (e = .returned (.bool true) /\ Jt W' /\ KpS Ow W W') \/ (e = .returned (.bool false) /\ Jf W')))
  (tf : List Nat) (htf : ∀ i v, get (keepL s.t tf) i = some v -> ∃ u, v = .av (.one (.val u))) (hh : s.h = [])
  (ht : IWL P N Ow n0 ops l Q ⟨(d, tB true) :: s.t, []⟩ Jt true) (hff : IWL P N Ow n0 ops l Q ⟨(d, tB false) :: keepL s.t tf, []⟩ Jf false) : IWL P N Ow n0 ops (o :: l) Q s J true :=
 iwl_yieldW hO (fun M σ a h1 h2 => by simp [Region.wanted, hgn]) xs ho hcf hf hxs hv hod hdN hT1 hJg Jt Jf hY tf htf hh ht hff
theorem sim_self {W0 w : World} {M0 M : Nat -> Option Obj} {σ : Nat -> Loc} {T : Nat -> Option Tv} {H : Nat -> Option Blk} {a : Act} (h : Sim N W0 noX M0 M σ T H a w) (hd : a.defers = []) : Sim N W0 noX M M σ T H a w :=
 ⟨h.os, h.tape, h.output, h.size, h.old, fun _ _ h => h, fun b o h h' => (by rw [h] at h'; cases h'), h.pin, ⟨by rw [hd]; trivial, fun _ => hd⟩, h.room, h.tmps, h.imm, h.blk, h.loc, h.inj⟩
theorem iw_cv {c : Code} {S : AS} (hO : OwS Ow n0) (h : ∀ W0 M1, Cv N W0 noX M1 s S) (k : IWp P N Ow n0 c Q S J al) : IWp P N Ow n0 c Q s J al := by
 intro W0 M σ a w hJ hs
 obtain ⟨M', σ', h2⟩ := h W0 M M σ a w hs
 exact k W0 M' σ' a w ⟨hJ.1, hJ.2.1, iok_new hJ.2.2 hO h2⟩ (sim_self h2 hJ.2.1)
end
end
section
open Go.RowKit
theorem RC_one {M : Nat -> Option Obj} {c : Cl} {V : Value} (h : RC M c V) : V.oneCell' = true := by
 cases h with
 | val v h => exact h
 | any V h => exact h
 | _ => rfl
abbrev boxL (t : Bool) (sz len : Nat) (f : Nat -> Nat -> Cl) : Cl := .eptr 1 1 (fun _ j => ([.list t sz len f] : List Cl).getD j default) 0 0
theorem rc_vals {M : Nat -> Option Obj} {t : Bool} {sz len : Nat} {f : Nat -> Nat -> Cl} {v : Value} (h : RC M (.list t sz len f) v) : ∃ g : Nat -> Nat -> Value, RC M (.list t sz len (fun i j => .val (g i j))) v /\ ∀ i j, i < len -> j < sz -> RC M (f i j) (g i j) := by
 cases h with
 | nil _ _ _ h0 => exact ⟨fun _ _ => undef, .nil _ _ _ h0, fun i j hi => by omega⟩
 | mt _ _ _ a cap => exact ⟨fun _ _ => undef, .mt _ _ _ a cap, fun i j hi => by omega⟩
 | list _ _ _ _ b off cap g h1 h2 h4 => exact ⟨g, .list _ _ _ _ b off cap g h1 (fun i j hi hj => .val _ (RC_one (h2 i j hi hj))) h4, h2⟩
theorem rc_boxvals {M : Nat -> Option Obj} {t : Bool} {sz len : Nat} {f : Nat -> Nat -> Cl} {V : Value} (h : RC M (boxL t sz len f) V) : ∃ g : Nat -> Nat -> Value, RC M (boxL t sz len (fun i j => .val (g i j))) V /\ ∀ i j, i < len -> j < sz -> RC M (f i j) (g i j) := by
 cases h with
 | eptr _ _ _ _ _ b base g0 h1 h2 =>
  obtain ⟨g, hg1, hg2⟩ := rc_vals (h2 0 (by decide))
  exact ⟨g, .eptr _ _ _ _ _ _ _ g0 h1 (fun j hj => by
   have : j = 0 := by omega
   subst this; exact hg1), hg2⟩
end
section
open Go.RowKit
section
variable {P : Program}
def WrR (P : Program) (f : FuncId) (K : Nat) (xs : List Av) (sz len : Nat) (F0 : Nat -> Nat -> Cl) (ty : TypeId) (r : Tv) (F1 : Nat -> Nat -> Cl) : Prop := ∀ (M : Nat -> Option Obj) (σ : Nat -> Loc) (w : World) (args : List Value), (∀ b o, M b = some o -> w.heap[b]? = some o) -> BlkOk M σ w (σ K) (.row sz len F0 ty) -> ((σ K).nil = true \/ M (σ K).b = none) -> L2 (RA M σ) xs args ->
 Calls P f args.toArray w fun en w' => ∃ U, en = .returned U /\ ∃ M', Keep w w' M M' (only (σ K)) /\ (∀ σ', RT M' σ' r U) /\ ∀ σ', BlkOk M' σ' w' (σ K) (.row sz len F1 ty)
theorem wrR_of_awF {f : FuncId} {fn : Func} {c : Code} (hf : P.funcs[f]? = some fn) (hb : fn.body = some c) {K : Nat} {xs : List Av} {sz len : Nat} {F0 F1 : Nat -> Nat -> Cl} {ty : TypeId} {r : Tv} (hN : Nat.ble xs.length fn.ntmps = true) (hK : Nat.ble fn.ntmps K = true) (hd : r.dv = true)
  (h : ∀ (W0 : World) (M0 : Nat -> Option Obj) (X : Nat -> Option Loc), (∀ k x, X k = some x -> memO [K] k = true) -> AWp P none fn.ntmps W0 X M0 c (EndQ P fn.ntmps W0 X M0 fn fun r' s' => TvE r' r /\ ∃ b, get s'.h K = some b /\ BlkE b (.row sz len F1 ty)) ⟨entryT 0 xs, [(K, .row sz len F0 ty)]⟩) : WrR P f K xs sz len F0 ty r F1 := by
 intro M σ w args himm hblk hM hargs
 have one : ∀ n b, get [(K, Blk.row sz len F0 ty)] n = some b -> n = K /\ b = .row sz len F0 ty := fun n b hn => by
  simp only [get, beqN] at hn
  by_cases hk : K = n
  ·simp [hk] at hn; exact ⟨hk.symm, hn.symm⟩
  ·simp [hk] at hn
 by_cases hnil : (σ K).nil = true
 ·have hlen : len = 0 := by
   rcases hblk with h0 | ⟨h0, _⟩
   ·exact h0.2
   ·rw [hnil] at h0; cases h0
  refine calls_of_aw (X := noX) (σ := σ) (h0 := [(K, .row sz len F0 ty)]) hf hb (Nat.le_of_ble_eq_true hN) himm hargs (fun n b hn => ?_) (fun n b hn => ?_) (fun n x hx => by cases hx) (fun n m b c hn hm hne => ?_) (aw_cvend (h w M noX (fun k x hk => by cases hk))) ?_
  ·obtain ⟨rfl, rfl⟩ := one n b hn; exact hblk
  ·obtain ⟨rfl, rfl⟩ := one n b hn; exact .inl hnil
  ·exact absurd ((one n b hn).1.trans (one m c hm).1.symm) hne
  ·rintro r' s' M' σ' a' w' U ⟨he, b, hb1, hbe⟩ hs hR
   exact ⟨U, rfl, M', ⟨hs.os, hs.tape, hs.output, hs.size, fun b hb hne => hs.old b hb (not_inX b), hs.sub, hs.new, hs.imm⟩, fun σ'' => RT_any hd (RT_TvE he hR), fun σ'' => .inl ⟨hnil, hlen⟩⟩
 ·have hnil : (σ K).nil = false := by simpa using hnil
  have hMK : M (σ K).b = none := by
   rcases hM with h1 | h1
   ·rw [hnil] at h1; cases h1
   ·exact h1
  let X : Nat -> Option Loc := upd noX K (some (σ K))
  have hX : X K = some (σ K) := upd_same _ _ _
  have pins : ∀ n x, X n = some x -> n = K /\ x = σ K := fun n x hx => by
   by_cases hk : n = K
   ·subst hk; rw [hX] at hx; injection hx with hx; exact ⟨rfl, hx.symm⟩
   ·simp only [X] at hx; rw [upd_ne _ _ hk] at hx; cases hx
  have hXK : ∀ k x, X k = some x -> memO [K] k = true := fun k x hk => by rw [(pins k x hk).1]; exact memO_one _
  refine calls_of_aw (X := X) (σ := σ) (h0 := [(K, .row sz len F0 ty)]) hf hb (Nat.le_of_ble_eq_true hN) himm hargs (fun n b hn => ?_) (fun n b hn => ?_) (fun n x hx => ?_) (fun n m b c hn hm hne => ?_) (aw_cvend (h w M X hXK)) ?_
  ·obtain ⟨rfl, rfl⟩ := one n b hn; exact hblk
  ·obtain ⟨rfl, rfl⟩ := one n b hn; exact .inr ⟨hMK, n, σ n, hX, rfl⟩
  ·obtain ⟨rfl, rfl⟩ := pins n x hx; exact ⟨Nat.le_of_ble_eq_true hK, rfl⟩
  ·exact absurd ((one n b hn).1.trans (one m c hm).1.symm) hne
  ·rintro r' s' M' σ' a' w' U ⟨he, b, hb1, hbe⟩ hs hR
   have hpin := (hs.pin K _ hX).2
   have hbk := hs.blk K _ hb1
   rw [hpin] at hbk
   refine ⟨U, rfl, M', ⟨hs.os, hs.tape, hs.output, hs.size, fun b hb hne => hs.old b hb ?_, hs.sub, hs.new, hs.imm⟩, fun σ'' => RT_any hd (RT_TvE he hR), fun σ'' => (BlkOk_E hbe hbk : BlkOk M' σ' w' (σ K) (.row sz len F1 ty))⟩
   rintro ⟨n, x, hx, rfl⟩
   obtain ⟨rfl, rfl⟩ := pins n x hx
   exact hne ⟨hnil, rfl⟩
theorem bke_rowlen {α : Type} [Inhabited α] {c : α -> List Cl} {xs ys : List α} {sz n : Nat} {ty : TypeId} (h : xs = ys) (hl : xs.length = n) : BlkE (.row sz xs.length (rowF c xs) ty) (.row sz n (rowF c ys) ty) := by
 subst h hl
 exact .refl _
def renR (K n : Nat) : Av -> Av
 | .one (.own m sz len) => bif Nat.beq m K then .one (.own n sz len) else .one (.own m sz len)
 | x => x
def renRok (K : Nat) : Av -> Bool
 | .one (.own m _ _) => Nat.beq m K
 | x => x.dv
theorem callOk_wrR {f : FuncId} {K n : Nat} {xs : List Av} {sz len : Nat} {F0 F1 : Nat -> Nat -> Cl} {ty : TypeId} {r : Tv} (h1 : ∀ args w, (callFunc f args).run P w = .ok (.enter f args) w) (hx : xs.all (renRok K) = true) (h : WrR P f K xs sz len F0 ty r F1) : CallOk P f (xs.map (renR K n)) (wrI n (.row sz len F0 ty) r (.row sz len F1 ty)) := by
 refine .inl ⟨h1, fun M σ w hh args cs' g hs hargs hres hc => ?_⟩
 simp only [wrI, res, geth] at hres
 cases hn : hh n with
 | none => rw [hn] at hres; cases hres
 | some b =>
  rw [hn] at hres
  simp only [Option.some.injEq, Prod.mk.injEq] at hres
  obtain ⟨rfl, rfl⟩ := hres
  have := hc.head
  subst this
  have hblk := hs.blk n _ hn
  let σ2 : Nat -> Loc := upd σ K (σ n)
  have hK : σ2 K = σ n := upd_same _ _ _
  have hargs2 : L2 (RA M σ2) xs args := by
   refine L2.of (by have := hargs.length; simpa using this) fun i x V hxi hV => ?_
   obtain ⟨V', hV', hR⟩ := hargs.get i (renR K n x) (by rw [List.getElem?_map, hxi]; rfl)
   rw [hV] at hV'; injection hV' with hV'; subst hV'
   have hok := (List.all_eq_true.1 hx) x (List.mem_of_getElem? hxi)
   unfold renRok at hok
   split at hok
   ·rename_i m sz' len'
    simp only [renR, hok, cond_true] at hR
    have := Nat.eq_of_beq_eq_true hok
    subst this
    have hR' : R M σ (.own n sz' len') V := hR
    show R M σ2 (.own m sz' len') V
    unfold R at hR' ⊢
    rw [hK]; exact hR'
   ·rename_i hne
    have : renR K n x = x := by
     unfold renR
     split
     ·rename_i m a b; exact (hne m a b rfl).elim
     ·rfl
    rw [this] at hR
    exact RT_any (σ' := σ2) (r := .av x) hok hR
  refine (h M σ2 w args hs.imm (by rw [hK]; exact hblk) (by rw [hK]; exact hs.loc n _ hn) hargs2).mono ?_
  rintro en w' ⟨U, hU, M', hk, hR, hb⟩
  rw [hK] at hk
  refine ⟨U, hU, fun dst _ => ⟨M', σ, hk, rfl, hR σ, ?_⟩⟩
  have := hb σ
  rw [hK] at this
  exact this
end
end
section
section
variable {α : Type} [Inhabited α]
def insPos (lt : α -> Bool) (out : List α) : Nat -> Nat
 | 0 => 0
 | k + 1 => bif lt (out.getD k default) then insPos lt out k else k + 1
def insR (lt : α -> α -> Bool) (out : List α) (x : α) : List α := out.take (insPos (lt x) out out.length) ++ x :: out.drop (insPos (lt x) out out.length)
def isortB (lt : α -> α -> Bool) (l : List α) : List α := l.foldl (insR lt) []
theorem insR_perm (lt : α -> α -> Bool) (out : List α) (x : α) : (insR lt out x).Perm (x :: out) := by
 unfold insR
 refine List.perm_middle.trans ?_
 rw [List.take_append_drop]
theorem isortB_snoc (lt : α -> α -> Bool) (l : List α) (x : α) : isortB lt (l ++ [x]) = insR lt (isortB lt l) x := by
 unfold isortB
 rw [List.foldl_append]; rfl
theorem isortB_perm (lt : α -> α -> Bool) (l : List α) : (isortB lt l).Perm l := by
 have key : ∀ (l out : List α), (l.foldl (insR lt) out).Perm (out ++ l) := by
  intro l
  induction l with
  | nil => intro out; simp
  | cons x l ih =>
   intro out
   rw [List.foldl_cons]
   refine (ih _).trans ?_
   refine ((insR_perm lt out x).append_right l).trans ?_
   exact List.perm_middle.symm
 exact key l []
theorem isortB_len (lt : α -> α -> Bool) (l : List α) : (isortB lt l).length = l.length := (isortB_perm lt l).length_eq
theorem isortB_mem (lt : α -> α -> Bool) (l : List α) (x : α) : x ∈ isortB lt l ↔ x ∈ l := (isortB_perm lt l).mem_iff
theorem swap_down (A : List α) (x y : α) (R : List α) :
  (A ++ y :: x :: R).getD A.length default = y /\ (A ++ y :: x :: R).getD (A.length + 1) default = x /\ ((A ++ y :: x :: R).set (A.length + 1) y).set A.length x = A ++ x :: y :: R := by
 refine ⟨?_, ?_, ?_⟩
 ·rw [List.getD_eq_getElem?_getD, List.getElem?_append_right (by omega)]; simp
 ·rw [List.getD_eq_getElem?_getD, List.getElem?_append_right (by omega)]; simp
 ·rw [List.set_append_right _ _ (by omega), List.set_append_right _ _ (by omega)]; simp
theorem take_split (out : List α) (j : Nat) (h : j < out.length) : out.take (j + 1) = out.take j ++ [out.getD j default] /\ out.drop j = out.getD j default :: out.drop (j + 1) := by
 constructor
 ·rw [List.take_add_one, List.getElem?_eq_getElem h, List.getD_eq_getElem?_getD, List.getElem?_eq_getElem h]; rfl
 ·rw [List.drop_eq_getElem_cons h, List.getD_eq_getElem?_getD, List.getElem?_eq_getElem h]; rfl
theorem ins_l1 {β : Type} (lt : α -> α -> Bool) (f : Nat -> List α -> Int -> β) (K : List α -> β)
  (hf : ∀ m d (j : Nat), f (m + 1) d j = bif (bif decide ((0 : Int) < j) then lt (d.getD j default) (d.getD (j - 1) default) else false) then f m ((d.set j (d.getD (j - 1) default)).set (j - 1) (d.getD j default)) ((j : Int) - 1) else K d)
  (out rest : List α) (x : α) : ∀ (j m : Nat), j <= out.length -> j < m -> f m (out.take j ++ x :: (out.drop j ++ rest)) j = K (out.take (insPos (lt x) out j) ++ x :: (out.drop (insPos (lt x) out j) ++ rest)) := by
 intro j
 induction j with
 | zero =>
  intro m hj hm
  obtain ⟨m, rfl⟩ : ∃ k, m = k + 1 := ⟨m - 1, by omega⟩
  rw [hf]
  simp [insPos]
 | succ j ih =>
  intro m hj hm
  obtain ⟨m, rfl⟩ : ∃ k, m = k + 1 := ⟨m - 1, by omega⟩
  obtain ⟨e1, e2⟩ := take_split out j (by omega)
  have hl : (out.take j).length = j := by rw [List.length_take]; omega
  obtain ⟨s1, s2, s3⟩ := swap_down (out.take j) x (out.getD j default) (out.drop (j + 1) ++ rest)
  rw [hl] at s1 s2 s3
  have hd : out.take (j + 1) ++ x :: (out.drop (j + 1) ++ rest) = out.take j ++ out.getD j default :: x :: (out.drop (j + 1) ++ rest) := by rw [e1]; simp
  rw [hf, hd, Nat.add_sub_cancel, s1, s2, s3]
  have h0 : decide ((0 : Int) < ((j + 1 : Nat) : Int)) = true := decide_eq_true (by omega)
  rw [h0, cond_true]
  conv => rhs; unfold insPos
  cases hlt : lt x (out.getD j default) with
  | true =>
   rw [cond_true, cond_true]
   have := ih m (by omega) (by omega)
   rw [e2] at this
   rw [show ((j + 1 : Nat) : Int) - 1 = (j : Int) by omega, <- this]
   rfl
  | false =>
   rw [cond_false, cond_false, hd]
theorem ins_l0 {β : Type} (lt : α -> α -> Bool) (l : List α) (g : Nat -> List α -> Int -> β) (K : List α -> β) (hK : ∀ m d (i : Nat), l.length <= i -> g (m + 1) d i = K d)
  (hg : ∀ m (i : Nat) (out rest : List α) x, i < l.length -> out.length = i -> g (m + 1) (out ++ x :: rest) i = g m (insR lt out x ++ rest) ((i : Int) + 1)) :
  ∀ (k m i : Nat), l.length - i = k -> i <= l.length -> k < m -> g m (isortB lt (l.take i) ++ l.drop i) i = K (isortB lt l) := by
 intro k
 induction k with
 | zero =>
  intro m i hk hi hm
  obtain ⟨m, rfl⟩ : ∃ k, m = k + 1 := ⟨m - 1, by omega⟩
  rw [hK m _ i (by omega), List.drop_eq_nil_of_le (by omega), List.take_of_length_le (by omega), List.append_nil]
 | succ k ih =>
  intro m i hk hi hm
  obtain ⟨m, rfl⟩ : ∃ k, m = k + 1 := ⟨m - 1, by omega⟩
  obtain ⟨e1, e2⟩ := take_split l i (by omega)
  rw [e2, hg m i _ _ _ (by omega) (by rw [isortB_len, List.length_take]; omega), <- isortB_snoc, <- e1]
  have := ih m (i + 1) (by omega) (by omega) (by omega)
  rw [show ((i + 1 : Nat) : Int) = (i : Int) + 1 by omega] at this
  exact this
theorem cp_l {β : Type} (xs : List α) (g : Nat -> List α -> Int -> β) (K : List α -> Int -> β) (h : ∀ m acc (v : Nat), g (m + 1) acc v = bif decide ((v : Int) < (xs.length : Int)) then g m (acc ++ [xs.getD v default]) ((v : Int) + 1) else K acc v) :
  ∀ (k v m : Nat) (acc : List α), xs.length - v = k -> v <= xs.length -> k < m -> g m acc v = K (acc ++ xs.drop v) (xs.length : Int) := by
 intro k
 induction k with
 | zero =>
  intro v m acc hk hv hm
  obtain ⟨m, rfl⟩ : ∃ k, m = k + 1 := ⟨m - 1, by omega⟩
  rw [h, decide_eq_false (by omega), cond_false, List.drop_eq_nil_of_le (by omega), List.append_nil, show v = xs.length by omega]
 | succ k ih =>
  intro v m acc hk hv hm
  obtain ⟨m, rfl⟩ : ∃ k, m = k + 1 := ⟨m - 1, by omega⟩
  obtain ⟨_, e2⟩ := take_split xs v (by omega)
  rw [h, decide_eq_true (by omega), cond_true, e2]
  have := ih (v + 1) m (acc ++ [xs.getD v default]) (by omega) (by omega) (by omega)
  rw [show ((v + 1 : Nat) : Int) = (v : Int) + 1 by omega] at this
  rw [this, List.append_assoc]; rfl
theorem fold_l {β γ : Type} (xs : List α) (step : γ -> α -> γ) (g : Nat -> γ -> Int -> β) (K : γ -> Int -> β) (h : ∀ m acc (v : Nat), g (m + 1) acc v = bif decide ((v : Int) < (xs.length : Int)) then g m (step acc (xs.getD v default)) ((v : Int) + 1) else K acc v) :
  ∀ (k v m : Nat) (acc : γ), xs.length - v = k -> v <= xs.length -> k < m -> g m acc v = K ((xs.drop v).foldl step acc) (xs.length : Int) := by
 intro k
 induction k with
 | zero =>
  intro v m acc hk hv hm
  obtain ⟨m, rfl⟩ : ∃ k, m = k + 1 := ⟨m - 1, by omega⟩
  rw [h, decide_eq_false (by omega), cond_false, List.drop_eq_nil_of_le (by omega), show v = xs.length by omega]; rfl
 | succ k ih =>
  intro v m acc hk hv hm
  obtain ⟨m, rfl⟩ : ∃ k, m = k + 1 := ⟨m - 1, by omega⟩
  obtain ⟨_, e2⟩ := take_split xs v (by omega)
  rw [h, decide_eq_true (by omega), cond_true, e2]
  have := ih (v + 1) m (step acc (xs.getD v default)) (by omega) (by omega) (by omega)
  rw [show ((v + 1 : Nat) : Int) = (v : Int) + 1 by omega] at this
  rw [this, List.foldl_cons]
theorem fold_r {β γ : Type} (xs : List α) (step : γ -> α -> γ) (g : Nat -> Nat -> γ -> β) (K : γ -> β) (h0 : ∀ x acc, g 0 x acc = K acc) (h : ∀ m x acc, x < xs.length -> g (m + 1) x acc = g m (x + 1) (step acc (xs.getD x default))) :
  ∀ (m x : Nat) (acc : γ), m + x = xs.length -> g m x acc = K ((xs.drop x).foldl step acc) := by
 intro m
 induction m with
 | zero =>
  intro x acc hx
  rw [h0, List.drop_eq_nil_of_le (by omega)]; rfl
 | succ m ih =>
  intro x acc hx
  obtain ⟨_, e2⟩ := take_split xs x (by omega)
  rw [h m x acc (by omega), ih (x + 1) _ (by omega), e2, List.foldl_cons]
omit [Inhabited α] in
theorem foldl_app {γ : Type} (f : α -> γ) : ∀ (xs : List α) (acc : List γ), xs.foldl (fun acc x => acc ++ [f x]) acc = acc ++ xs.map f
 | [], acc => by simp
 | x :: xs, acc => by rw [List.foldl_cons, foldl_app f xs, List.map_cons, List.append_assoc]; rfl
def ixI (f : α -> Bool) (xs : List α) : Int := match xs.findIdx? f with
 | some i => (i : Int)
 | none => -1
omit [Inhabited α] in
theorem ixI_b {f : α -> Bool} {xs : List α} (h : ¬ ixI f xs < 0) : 0 <= ixI f xs /\ ixI f xs < (xs.length : Int) := by
 unfold ixI at *
 cases hk : xs.findIdx? f with
 | none => rw [hk] at h; exact absurd (by decide) h
 | some i =>
  rw [hk] at h
  have := (List.findIdx?_eq_some_iff_getElem.1 hk).1
  simp only
  omega
theorem ixI_some {f : α -> Bool} {xs : List α} (h : ¬ ixI f xs < 0) : f (xs.getD (ixI f xs).toNat default) = true /\ xs.find? f = some (xs.getD (ixI f xs).toNat default) := by
 unfold ixI at *
 cases hk : xs.findIdx? f with
 | none => rw [hk] at h; exact absurd (by decide) h
 | some i =>
  obtain ⟨h1, h2, h3⟩ := List.findIdx?_eq_some_iff_getElem.1 hk
  have e : xs.getD ((i : Int)).toNat default = xs[i] := by rw [Int.toNat_natCast, List.getD_eq_getElem?_getD, List.getElem?_eq_getElem h1]; rfl
  simp only [e]
  refine ⟨h2, ?_⟩
  rw [List.find?_eq_some_iff_getElem]
  exact ⟨h2, i, h1, rfl, fun j hj => by have := h3 j hj; simpa using this⟩
omit [Inhabited α] in
theorem ixI_none {f : α -> Bool} {xs : List α} (h : ixI f xs < 0) : xs.find? f = none := by
 unfold ixI at h
 cases hk : xs.findIdx? f with
 | some i => rw [hk] at h; exact absurd h (by simp only; omega)
 | none =>
  rw [List.find?_eq_none]
  rw [List.findIdx?_eq_none_iff] at hk
  intro x hx; rw [hk x hx]; decide
theorem ix_l0 (f : α -> Bool) (xs : List α) (g : Nat -> Int -> Int) (hg : ∀ m (v : Nat), g (m + 1) v = bif decide ((v : Int) < (xs.length : Int)) then (bif f (xs.getD v default) then (v : Int) else g m ((v : Int) + 1)) else -1) :
  ∀ (k v m : Nat), xs.length - v = k -> v <= xs.length -> k < m -> g m v = match (xs.drop v).findIdx? f with | some i => ((v + i : Nat) : Int) | none => -1 := by
 intro k
 induction k with
 | zero =>
  intro v m hk hv hm
  obtain ⟨m, rfl⟩ : ∃ k, m = k + 1 := ⟨m - 1, by omega⟩
  rw [hg, decide_eq_false (by omega), cond_false, List.drop_eq_nil_of_le (by omega)]
  rfl
 | succ k ih =>
  intro v m hk hv hm
  obtain ⟨m, rfl⟩ : ∃ k, m = k + 1 := ⟨m - 1, by omega⟩
  obtain ⟨_, e2⟩ := take_split xs v (by omega)
  rw [hg, decide_eq_true (by omega), cond_true, e2, List.findIdx?_cons]
  cases hf : f (xs.getD v default) with
  | true => simp
  | false =>
   have := ih (v + 1) m (by omega) (by omega) (by omega)
   rw [show ((v + 1 : Nat) : Int) = (v : Int) + 1 by omega] at this
   rw [cond_false, this]
   cases (xs.drop (v + 1)).findIdx? f with
   | none => simp
   | some i =>
    simp only [Option.map_some]
    rw [show v + 1 + i = v + (i + 1) by omega]
    rfl
end
end
section
open Go.RowKit
def SeqV (P : Program) (gf : Nat) (lb : Array Value) (V : Nat -> Array Value -> World -> Prop) (Kp : World -> World -> Prop) (n : Nat) (w : World) : Prop :=
 ∀ (l : Nat) (J : Nat -> World -> Prop) (W : World), Below w.heap.size w W -> (∀ j A B, J j A -> A.grownBy B none -> J j B) ->
  (∀ j v A, j < n -> J j A -> V j v A -> YieldAt (FW none) 0 P l v A fun e B => e = .returned (.bool true) /\ J (j + 1) B /\ Kp A B) -> J 0 W ->
  CallsIn (FW none) 1 P gf (#[.func (.yield l) #[] #[]] ++ lb) W fun e B => (∃ u, e = .returned u) /\ J n B
theorem wp_rangeV {P : Program} {g : Operand} {ps : Array Tmp} {assign body : Code} {Q : Exit -> Act -> World -> Prop} {a : Act} {w : World} {gf : Nat} {lb : Array Value} (hg : a.eval g = .func (.func gf) #[] lb) (eg : ∀ args w, (callFunc gf args).run P w = .ok (.enter gf args) w)
  {V : Nat -> Array Value -> World -> Prop} {Kp : World -> World -> Prop} {n : Nat} (hseq : SeqV P gf lb V Kp n w) (hKt : ∀ {A B C : World}, Kp A B -> Kp B C -> Kp A C)
  (hKb : ∀ (W : World) (l : Nat) (o o' : Obj), w.heap.size <= l -> W.heap[l]? = some o -> o.isCells = false -> Kp W (W.putObj l o')) (hsz : ∀ j v W, V j v W -> v.size = ps.size)
  (I : Nat -> World -> Prop) (hI : OwnFrom w.heap.size I) (h0 : I 0 w) (Ax : Nat -> Act -> World -> Prop) (hAx : ∀ j a', OwnFrom w.heap.size fun (_ : Unit) W => Ax j a' W)
  (hassign : ∀ (l j : Nat) (v : Array Value) (W : World) (K : Act -> World -> Prop), j < n -> I j W -> V j v W -> (∀ a' W', KeepsFrom w.heap.size W W' -> Kp W W' -> I j W' -> Ax j a' W' -> K a' W') ->
   assign.wpIn ((FW none).inRound l) 0 P (Exit.then K fun _ _ _ => False) { tmps := (ps.zip v).foldl (fun t (p, u) => t.setIfInBounds p u) a.tmps, defers := [] } W)
  (hbody : ∀ (l j : Nat) (a' : Act) (W : World), j < n -> I j W -> Ax j a' W -> body.wpIn ((FW none).inRound l) 0 P (fun e _ W' => e = .normal /\ KeepsFrom w.heap.size W W' /\ Kp W W' /\ I (j + 1) W') a' W)
  (hdone : ∀ (D : Nat) (W : World), w.heap.size <= D -> I n W -> W.heap[D]? = some (.deferred (some [])) -> Q .normal { a with defers := { target := .collected D, args := #[] } :: a.defers } W) : (Code.rangeFunc g ps assign body).wpIn (FW none) 2 P Q a w := by
 refine wpIn_rangeFunc fun fn hfn => ?_
 -- the two blocks of the statement: the mark's and the record's
 generalize hD : w.heap.size = D at *
 let rc : LoopState -> Obj := fun st => .loop { state := st, pending := none, fn := fn, tmps := a.tmps, params := ps, assign := assign, body := body, defers := D }
 have hcell : ∀ st, (rc st).isCells = false := fun _ => rfl
 let U := w.alloc (.deferred (some []))
 let Z := U.alloc (rc .ready)
 have sU : U.heap.size = D + 1 := by show (w.alloc _).heap.size = _; rw [World.size_alloc, hD]
 have zL : Z.heap[D + 1]? = some (rc .ready) := by rw [<- sU]; exact World.alloc_heap_new U _
 have zD : Z.heap[D]? = some (.deferred (some [])) := (Below.heap_alloc U _ _ (by omega)).trans (by rw [<- hD]; exact World.alloc_heap_new w _)
 have hIa : ∀ {j : Nat} {W : World} (o : Obj), I j W -> I j (W.alloc o) := fun o h => hI.alloc o h
 let J : Nat -> World -> Prop := fun j W => I j W /\ W.heap[D + 1]? = some (rc .ready) /\ W.heap[D]? = some (.deferred (some []))
 refine ⟨D + 1, [{ target := .collected D, args := #[] }], Z, { target := .fn (.func gf) lb, args := #[.func (.yield (D + 1)) #[] #[]] }, Z, gf, #[.func (.yield (D + 1)) #[] #[]] ++ lb, Z, ?_, ?_, ?_, ?_, fun _ => by decide, ?_⟩
 ·have := run_enterLoop_outer (P := P) (w := w) fn a.tmps ps assign body
  rw [hD] at this
  exact this
 ·simp only [resolve, hg]
  simp [go_sem]
 ·intro f' _; trivial
 ·simp [invoke, go_sem, eg]
 ·refine (hseq (D + 1) J Z ?_ ?_ ?_ ⟨hIa _ (hIa _ h0), zL, zD⟩).mono ?_
  ·rw [hD]
   exact (((Below.refl D w).alloc (by omega) _).alloc (by rw [show (w.alloc (.deferred (some []))).heap.size = D + 1 from sU]; omega) _)
  ·rintro j A B ⟨h1, h2, h3⟩ hgr
   have keep : ∀ b (o : Obj), A.heap[b]? = some o -> B.heap[b]? = some o := fun b o h => (hgr.block b (Array.getElem?_eq_some_iff.1 h).1 (fun e => by cases e)).trans h
   exact ⟨hI j A B none h1 hgr (fun r e => by cases e), keep _ _ h2, keep _ _ h3⟩
  ·rintro j v A hj ⟨h1, h2, h3⟩ hv
   refine ⟨fn, _, assign, body, run_yield h2 (hsz j v A hv), roundIn_of_wpIn hfn (hassign (D + 1) j v A _ hj h1 hv ?_)⟩
   intro a' B kf kp i1 ax
   have l1 : B.heap[D + 1]? = some (rc .ready) := kf.same _ _ (by omega) h2 rfl
   have d1 : B.heap[D]? = some (.deferred (some [])) := kf.same _ _ (Nat.le_refl _) h3 rfl
   have hlt : D + 1 < B.heap.size := (Array.getElem?_eq_some_iff.1 l1).1
   refine ⟨_, run_beginRound l1 rfl, ?_⟩
   generalize hC : B.putObj (D + 1) (.loop { state := .busy, pending := none, fn := fn, tmps := a.tmps, params := ps, assign := assign, body := body, defers := D }) = C
   have l2 : C.heap[D + 1]? = some (rc .busy) := by rw [<- hC]; exact World.putObj_heap_same hlt
   have d2 : C.heap[D]? = some (.deferred (some [])) := by rw [<- hC]; exact (World.putObj_heap_other (by omega)).trans d1
   have kp2 : Kp B C := by rw [<- hC]; exact hKb _ _ _ _ (by omega) l1 rfl
   have i2 : I j C := by rw [<- hC]; exact hI.putObj _ i1 (by omega) l1 rfl
   have ax2 : Ax j a' C := by rw [<- hC]; exact (hAx j a').putObj (s := ()) _ ax (by omega) l1 rfl
   refine wpIn_mono (hbody (D + 1) j a' C hj i2 ax2) ?_
   rintro e a3 G ⟨rfl, kf3, kp3, i3⟩
   have l3 : G.heap[D + 1]? = some (rc .busy) := kf3.same _ _ (by omega) l2 rfl
   have d3 : G.heap[D]? = some (.deferred (some [])) := kf3.same _ _ (Nat.le_refl _) d2 rfl
   have kp4 := hKb G (D + 1) _ (rc .ready) (by omega) l3 rfl
   exact ⟨_, _, run_endRound none l3, rfl, ⟨hI.putObj _ i3 (by omega) l3 rfl, World.putObj_heap_same (Array.getElem?_eq_some_iff.1 l3).1, (World.putObj_heap_other (by omega)).trans d3⟩, hKt kp (hKt (hKt kp2 kp3) kp4)⟩
  ·rintro e B ⟨⟨u, rfl⟩, h1, h2, h3⟩
   exact ⟨none, _, run_endLoop h2 (fun e => by cases e), hdone D _ (Nat.le_refl _) (hI.putObj _ h1 (by omega) h2 rfl) ((World.putObj_heap_other (by omega)).trans h3)⟩
end
section
open Go.RowKit
def EncV (M : Nat -> Option Obj) (Ow : World -> Nat -> Prop) (E : List Av) (v : Array Value) (W : World) : Prop := ∃ Mj : Nat -> Option Obj, E.length = v.size /\ (∀ b o, Mj b = some o -> W.heap[b]? = some o /\ o.isCells = true /\ ¬ Ow W b) /\
 ∀ MM : Nat -> Option Obj, (∀ b o, M b = some o -> MM b = some o) -> (∀ b o, Mj b = some o -> MM b = some o) -> L2 (fun e u => ∀ σ, RA MM σ e u) E v.toList
def IterV (P : Program) (gf : FuncId) (k : Nat) (caps : Nat -> Cl) (n : Nat) (E : Fin n -> List Av) : Prop :=
 ∀ (M : Nat -> Option Obj) (w : World) (cs : Array Value) (Ow : World -> Nat -> Prop), (∀ b o, M b = some o -> w.heap[b]? = some o) -> OwS Ow w.heap.size -> (∀ b, Ow w b -> b < w.heap.size /\ M b = none) -> cs.size = k -> (∀ i, i < k -> RC M (caps i) (cs.getD i undef)) ->
  SeqV P gf cs (fun j v W => ∃ hj : j < n, EncV M Ow (E ⟨j, hj⟩) v W) (KpS Ow) n w
section
variable {P : Program} {N : Nat} {W0 : World} {X : Nat → Option Loc} {M0 : Nat → Option Obj}
theorem aw_rangeV {ι : Type} {Q : Exit -> AS -> Prop} {g : Operand} {ps : Array Tmp} {assign body : Code} {t0 : List (Nat × Tv)} (pids : List Nat) (fid q off r : Nat) {gf : FuncId} {k : Nat} {caps : Nat -> Cl} {n : Nat} {E : Fin n -> List Av} (H : ι -> List (Nat × Blk)) (t1 : Fin n -> List (Nat × Tv)) (Inv Fm : Nat -> ι -> Prop) (x0 : ι)
  (hX0 : ∀ m, X m = none) (hg : evT (get t0) g = some (.av (.one (.clo gf k caps)))) (hcd : (Cl.clo gf k caps).dv = true) (eg : ∀ args w, (callFunc gf args).run P w = .ok (.enter gf args) w)
  (It : IterV P gf k caps n E) (hE : ∀ x, (E x).length = ps.size) (hps : ∀ p ∈ ps.toList, p < N)
  (hpv : ∀ i v, get t0 i = some v -> pvT pids v = true) (hh : ∀ x m b, get (H x) m = some b -> ((memO pids m = true /\ b.isP = true) \/ (m = r /\ b.isR = true)) /\ b.no fid = true)
  (hpc : ∀ x m, memO pids m = true -> ∃ b, get (H x) m = some b) (hfp : memO pids fid = false) (hrp : memO pids r = false) (hrf : r ≠ fid) (hfN : N <= fid) (hrN : N <= r) (hpN : ∀ m ∈ pids, N <= m) (hmem : ∀ m ∈ pids, memO pids m = true) (hq : memO pids q = true)
  (hEd : ∀ x i v, get (setps t0 ps.toList (E x)) i = some v -> v.no fid = true)
  (hheld : ∀ x, heldB q off r (H x) = true) (hm : ∀ x m b, get (H x) m = some b -> BkN b)
  (ht1 : ∀ x, TsM (t1 x)) (ht1p : ∀ x i v, get (t1 x) i = some v -> pvT pids v = true)
  (hI0 : Inv 0 x0) (hF0 : Fm 0 x0)
  (hassign : ∀ l W1 M1 X1 k j x, Inv j x -> PXr pids r (∃ bb, get (H x) r = some bb) X1 -> AWp P (some l) N W1 X1 M1 assign (fun e s' => e = .normal /\ s' = ⟨t1 k, H x⟩) ⟨setps t0 ps.toList (E k), H x⟩)
  (hbody : ∀ l W1 M1 X1 (k : Fin n) j x, (∀ m z, X1 m = some z -> memO (fid :: pids) m = true) -> j < n -> Inv j x -> AWp P (some l) N W1 X1 M1 body (fun e s' => e = .normal /\ ∃ y, Inv (j + 1) y /\ (k.val = j -> Fm j x -> Fm (j + 1) y) /\ ∀ m b, get (H y) m = some b -> get s'.h m = some b) ⟨t1 k, H x⟩)
  (hdone : ∀ x, Inv n x -> Fm n x -> Q .normal ⟨t0, H x⟩) : AWp P none N W0 X M0 (.rangeFunc g ps assign body) Q ⟨t0, H x0⟩ := by
 intro M σ a w hs
 have hnof : ∀ v : Tv, pvT pids v = true -> v.no fid = true := fun v h => by
  cases hn : v.no fid with
  | true => rfl
  | false => have := hmem fid (pvT_no h hn); rw [hfp] at this; cases this
 have hpne : ∀ m, memO pids m = true -> m ≠ fid /\ m ≠ r := fun m h => ⟨fun e => (by rw [e, hfp] at h; cases h), fun e => (by rw [e, hrp] at h; cases h)⟩
 have hPb : ∀ x m, memO pids m = true -> ∃ b, get (H x) m = some b /\ b.isP = true := fun x m h => by
  obtain ⟨b, hb⟩ := hpc x m h
  rcases (hh x m b hb).1 with h1 | h1
  ·exact ⟨b, hb, h1.2⟩
  ·exact absurd h1.1 (hpne m h).2
 have hPn : ∀ {X' : Nat -> Option Loc} {W1 : World} {Mb M1 : Nat -> Option Obj} {σ1 : Nat -> Loc} {T : Nat -> Option Tv} {b : Act} {A : World} {x : ι}, Sim N W1 X' Mb M1 σ1 T (get (H x)) b A -> ∀ m, memO pids m = true -> (σ1 m).nil = false /\ (σ1 m).b < A.heap.size /\ M1 (σ1 m).b = none := fun {X' W1 Mb M1 σ1 T b A x} h1 m hmm => by
  obtain ⟨bk, hbk, hp⟩ := hPb x m hmm
  have h2 := h1.blk m bk hbk
  have hn : (σ1 m).nil = false := by
   cases bk with
   | cells l ty => exact h2.1
   | omap => exact h2.1
   | row => cases hp
   | rowx => cases hp
  refine ⟨hn, h2.lt hn, ?_⟩
  rcases h1.loc m bk hbk with h | h
  ·rw [hn] at h; cases h
  ·exact h.1
 have hplt : ∀ m, memO pids m = true -> (σ m).b < w.heap.size := fun m hmm => (hPn hs m hmm).2.1
 -- the iterator's value
 obtain ⟨cs, hgv1, hgv2, hgv3⟩ := evT_ok hs.tmps hg
 have hcaps : ∀ i, i < k -> RC M (caps i) (cs.getD i undef) := fun i hi => (R_dv (List.all_eq_true.1 hcd i (List.mem_range.2 hi))).1 (hgv3 i hi)
 obtain ⟨Ow, hOw⟩ : ∃ Ow : World -> Nat -> Prop, Ow = fun W b => ((∃ m, memO pids m = true /\ (σ m).b = b) \/ HeldW (σ q).b off W b) \/ (b < w.heap.size /\ M b = none) := ⟨_, rfl⟩
 have hOi : ∀ {W b}, Ow W b -> ((∃ m, memO pids m = true /\ (σ m).b = b) \/ HeldW (σ q).b off W b) \/ (b < w.heap.size /\ M b = none) := fun h => by rw [hOw] at h; exact h
 have hOr : ∀ {W b}, ((∃ m, memO pids m = true /\ (σ m).b = b) \/ HeldW (σ q).b off W b) \/ (b < w.heap.size /\ M b = none) -> Ow W b := fun h => by rw [hOw]; exact h
 have hOo : ∀ {W b}, (∃ m, memO pids m = true /\ (σ m).b = b) \/ HeldW (σ q).b off W b -> Ow W b := fun h => by rw [hOw]; exact .inl h
 have hHeldSame : ∀ {A B : World}, B.heap[(σ q).b]? = A.heap[(σ q).b]? -> ∀ b, HeldW (σ q).b off B b -> HeldW (σ q).b off A b := fun h b ⟨o, len, cap, h1, h2⟩ => ⟨o, len, cap, by rw [<- h]; exact h1, h2⟩
 have hOg : ∀ {A B : World}, w.heap.size <= A.heap.size -> B.heap[(σ q).b]? = A.heap[(σ q).b]? -> ∀ b, Ow B b -> Ow A b := fun _ hB b hb => hOr ((hOi hb).imp (Or.imp id (hHeldSame hB b)) id)
 have hseq := It M w cs Ow hs.imm ⟨fun A B hA hB b hb => hOg hA (hB _ (Nat.lt_of_lt_of_le (hplt q hq) hA)) b hb⟩ (fun b hb => by
  rcases hOi hb with (⟨m, hmm, rfl⟩ | hb) | hb
  ·exact ⟨hplt m hmm, (hPn hs m hmm).2.2⟩
  ·obtain ⟨⟨bk, hbk⟩, hn, rfl⟩ := held_in hs (hheld x0) hb
   refine ⟨(hs.blk r bk hbk).lt hn, ?_⟩
   rcases hs.loc r bk hbk with h | h
   ·rw [hn] at h; cases h
   ·exact h.1
  ·exact hb) hgv2 hcaps
 -- names
 have hXPm : ∀ m x, pinX pids σ X m = some x -> memO pids m = true /\ x = σ m := fun m x hx => by
  unfold pinX at hx
  cases hmm : memO pids m with
  | true => rw [hmm] at hx; injection hx with hx; exact ⟨rfl, hx.symm⟩
  | false => rw [hmm] at hx; have : X m = some x := hx; rw [hX0] at this; cases this
 have hPp : ∀ m, memO pids m = true -> pinX pids σ X m = some (σ m) := fun m h => by unfold pinX; rw [h]; rfl
 obtain ⟨XP, hXPd⟩ : ∃ XP, XP = pinX pids σ X := ⟨_, rfl⟩
 have hXPi : ∀ b, inX XP b ↔ ∃ m, memO pids m = true /\ (σ m).b = b := fun b => by
  rw [hXPd]
  constructor
  ·rintro ⟨m, x, h1, h2⟩
   obtain ⟨h3, rfl⟩ := hXPm m x h1
   exact ⟨m, h3, h2⟩
  ·rintro ⟨m, h1, h2⟩
   exact ⟨m, _, hPp m h1, h2⟩
 have hnfP : ∀ l M4, (∀ b o, M b = some o -> M4 b = some o) -> l = a.defers -> DefsX XP M0 M4 l := fun l M4 h4 e => ⟨by rw [e]; exact DefsOk.mono h4 hs.defers.1, fun ⟨m, x, h1, h2, _⟩ => by
  rw [hXPd] at h1
  obtain ⟨h3, rfl⟩ := hXPm m x h1
  rw [(hPn hs m h3).1] at h2; cases h2⟩
 have hT0 : ∀ (M4 : Nat -> Option Obj) (σ4 : Nat -> Loc), (∀ b o, M b = some o -> M4 b = some o) -> (∀ m, memO pids m = true -> σ4 m = σ m) -> ∀ i v, get t0 i = some v -> RT M4 σ4 v (a.tmps.getD i undef) := fun M4 σ4 h4 hσ i v hv =>
  RT_mono h4 (fun d hd => hσ d (hmem d (pvT_no (hpv i v hv) hd))) (hs.tmps i v hv)
 have hs0 : Sim N W0 XP M0 M σ (get t0) (get (H x0)) a w := ⟨hs.os, hs.tape, hs.output, hs.size, fun b hb hx => hs.old b hb fun ⟨m, x, h1, h2⟩ => (by rw [hX0] at h1; cases h1), hs.sub, hs.new, fun m x hx => by
   rw [hXPd] at hx
   obtain ⟨h3, rfl⟩ := hXPm m x hx
   exact ⟨hpN m (memO_mem h3), rfl⟩, hnfP _ M (fun _ _ h => h) rfl, hs.room, hs.tmps, hs.imm, hs.blk, fun m b hb => (hs.loc m b hb).imp id fun h => ⟨h.1, .inl (h.2.elim id fun ⟨m, x, h1, _⟩ => by rw [hX0] at h1; cases h1)⟩, hs.inj⟩
 have hlt : ∀ b o, M b = some o -> b < w.heap.size := fun b o h => (Array.getElem?_eq_some_iff.1 (hs.imm b o h)).1
 have hσP : ∀ {X' : Nat -> Option Loc} {M1 : Nat -> Option Obj} {σ1 : Nat -> Loc} {T : Nat -> Option Tv} {HH : Nat -> Option Blk} {b : Act} {A W1 : World} {Mb : Nat -> Option Obj}, Sim N W1 X' Mb M1 σ1 T HH b A -> (∀ m, memO pids m = true -> X' m = some (σ m)) -> ∀ m, memO pids m = true -> σ1 m = σ m := fun h1 h2 m hmm => (h1.pin m _ (h2 m hmm)).2
 have hXPp : ∀ m, memO pids m = true -> XP m = some (σ m) := fun m h => by rw [hXPd]; exact hPp m h
 let SI : Nat -> World -> Prop := fun j W => ∃ x M' σ', Sim N W0 XP M0 M' σ' (get t0) (get (H x)) a W /\ Cln M M' /\ Inv j x /\ Fm j x /\ w.heap.size <= W.heap.size
 let Ax : Nat -> Act -> World -> Prop := fun j a' W => ∃ (hj : j < n) (Mn : Nat -> Option Obj), w.heap.size <= W.heap.size /\ a'.tmps.size = N /\ a'.defers = [] /\ (∀ i v, get (t1 ⟨j, hj⟩) i = some v -> RT Mn σ v (a'.tmps.getD i undef)) /\ ∀ b o, Mn b = some o -> W.heap[b]? = some o /\ (o.isCells = true \/ M b = some o) /\ (M b = none -> W0.heap.size <= b) /\ ¬ ((∃ m, memO pids m = true /\ (σ m).b = b) \/ HeldW (σ q).b off W b)
 -- one piece of a round
 have step : ∀ {XA : Nat -> Option Loc} {M' M3 : Nat -> Option Obj} {σ' σ3 : Nat -> Loc} {W W' : World} {x y : ι} {T' : Nat -> Option Tv} {h' : List (Nat × Blk)} {a' : Act}, Sim N W0 XP M0 M' σ' (get t0) (get (H x)) a W -> Cln M M' -> Sim N W XA M' M3 σ3 T' (get h') a' W' -> (∀ m b, get (H y) m = some b -> get h' m = some b) ->
   (∀ b, inX XA b -> (∃ m, memO pids m = true /\ (σ m).b = b) \/ ((∃ bb, get (H x) r = some bb) /\ (σ' r).nil = false /\ (σ' r).b = b)) -> (∀ m, memO pids m = true -> σ3 m = σ m) ->
   KeepsFrom w.heap.size W W' /\ KpS Ow W W' /\ Sim N W0 XP M0 (cutM M' M3) σ3 (get t0) (get (H y)) a W' /\ Cln M (cutM M' M3) := by
  intro XA M' M3 σ' σ3 W W' x y T' h' a' h1 h2 hr hy hX hσ3
  have hσ' := hσP h1 hXPp
  have hC := cutM_cln h2 hr.sub
  have hXO : ∀ b, inX XA b -> Ow W b := fun b hb => by
   rcases hX b hb with h | ⟨⟨bb, hbb⟩, hn, rfl⟩
   ·exact hOo (.inl h)
   ·have := held_out h1 (hheld x) hbb hn
    rw [hσ' q hq] at this
    exact hOo (.inr this)
  have hsim : Sim N W0 XP M0 (cutM M' M3) σ3 (get t0) (get (H y)) a W' := by
   refine sim_outN h1 hr (fun b hb => ?_) hy (hm y) hs.room (hT0 _ σ3 hC.1 hσ3) (fun m z hz => ?_) (fun b => Iff.rfl) (hnfP _ _ hC.1 rfl)
   ·rcases hX b hb with h | ⟨⟨bb, hbb⟩, hn, rfl⟩
    ·exact .inl ((hXPi b).2 h)
    ·rcases h1.loc r bb hbb with h3 | h3
     ·rw [hn] at h3; cases h3
     ·exact h3.2.symm
   ·rw [hXPd] at hz
    obtain ⟨h3, rfl⟩ := hXPm m z hz
    exact ⟨hpN m (memO_mem h3), hσ3 m h3⟩
  refine ⟨⟨hr.size, fun b o hb ho hoc => ?_⟩, ⟨hr.size, fun b o hb hc ho => (hr.old b (Array.getElem?_eq_some_iff.1 hb).1 fun h => ho (hXO b h)).trans hb, fun b hb => ?_⟩, hsim, hC⟩
  ·refine (hr.old b (Array.getElem?_eq_some_iff.1 ho).1 fun hX' => ?_).trans ho
   rcases hX b hX' with ⟨m, hmm, rfl⟩ | ⟨⟨bb, hbb⟩, hn, rfl⟩
   ·have := hplt m hmm; omega
   ·have h3 := h1.blk r bb hbb
    have h4 := (hh x r bb hbb).1
    cases bb with
    | row sz len f ty =>
     rcases h3 with ⟨h5, _⟩ | ⟨_, c, hc, _⟩
     ·rw [hn] at h5; cases h5
     ·rw [ho] at hc; injection hc with hc; subst hc; cases hoc
    | cells => rcases h4 with h4 | h4 <;> first | (rw [hrp] at h4; cases h4.1) | cases h4.2
    | omap => rcases h4 with h4 | h4 <;> first | (rw [hrp] at h4; cases h4.1) | cases h4.2
    | rowx => rcases h4 with h4 | h4 <;> first | cases h4.2 | (rw [hrp] at h4; cases h4.1)
  ·rcases hOi hb with (h | h) | h
   ·exact .inl (hOo (.inl h))
   rotate_left
   ·exact .inl (hOr (.inr h))
   ·rw [<- hσ3 q hq] at h
    obtain ⟨⟨bk, hbk⟩, hn, rfl⟩ := held_in hsim (hheld y) h
    rcases hr.loc r bk (hy r bk hbk) with h3 | ⟨_, h3 | h3⟩
    ·rw [hn] at h3; cases h3
    ·exact .inr ⟨h3, (hr.blk r bk (hy r bk hbk)).lt hn⟩
    ·exact .inl (hXO _ h3)
 -- what else is known to lie in the world
 have merge : ∀ {M' Mn : Nat -> Option Obj} {σ' : Nat -> Loc} {W : World} {x : ι}, Sim N W0 XP M0 M' σ' (get t0) (get (H x)) a W -> Cln M M' -> (∀ b o, Mn b = some o -> W.heap[b]? = some o /\ (o.isCells = true \/ M b = some o) /\ (M b = none -> W0.heap.size <= b) /\ ¬ ((∃ m, memO pids m = true /\ (σ m).b = b) \/ HeldW (σ q).b off W b)) ->
   ∃ MM : Nat -> Option Obj, (∀ b o, M' b = some o -> MM b = some o) /\ (∀ b o, Mn b = some o -> MM b = some o) /\ Cln M MM /\ Sim N W0 XP M0 MM σ' (get t0) (get (H x)) a W := by
  intro M' Mn σ' W x h1 h2 hA4
  have hσ' := hσP h1 hXPp
  obtain ⟨MM, hMM⟩ : ∃ MM : Nat -> Option Obj, MM = fun b => match M' b with | some o => some o | none => Mn b := ⟨_, rfl⟩
  have hM1 : ∀ b o, M' b = some o -> MM b = some o := fun b o h => by rw [hMM]; simp only [h]
  have hM3 : ∀ b o, MM b = some o -> M' b = some o \/ Mn b = some o := fun b o h => by
   rw [hMM] at h
   cases h3 : M' b with
   | some o' => simp only [h3] at h; exact .inl h
   | none => simp only [h3] at h; exact .inr h
  have hM2 : ∀ b o, Mn b = some o -> MM b = some o := fun b o h => by
   cases h3 : M' b with
   | some o' =>
    have h4 := h1.imm b o' h3
    rw [(hA4 b o h).1] at h4
    rw [h4]; exact hM1 b o' h3
   | none => rw [hMM]; simp only [h3]; exact h
  have hCM : Cln M MM := ⟨fun b o h => hM1 b o (h2.1 b o h), fun b o h ho => (hM3 b o h).elim (fun h' => h2.2 b o h' ho) fun h' => (hA4 b o h').2.1.elim (fun hc => by rw [ho] at hc; cases hc) id⟩
  have h1M : Sim N W0 XP M0 MM σ' (get t0) (get (H x)) a W := by
   refine ⟨h1.os, h1.tape, h1.output, h1.size, h1.old, fun b o h => hM1 b o (h1.sub b o h), fun b o h h0 => ?_, h1.pin, hnfP _ MM hCM.1 rfl, h1.room, fun i v hv => RT_mono hM1 (fun _ _ => rfl) (h1.tmps i v hv), fun b o h => (hM3 b o h).elim (h1.imm b o) fun h' => (hA4 b o h').1, fun m b hb => (h1.blk m b hb).mono hM1 (fun _ _ => rfl) (fun _ => rfl), fun m b hb => ?_, h1.inj⟩
   ·rcases hM3 b o h with h | h
    ·exact h1.new b o h h0
    ·cases hMb : M b with
     | none => exact (hA4 b o h).2.2.1 hMb
     | some o' => exact hs.new b o' hMb h0
   ·cases hn : (σ' m).nil with
    | true => exact .inl rfl
    | false =>
     rcases h1.loc m b hb with h | h
     ·rw [hn] at h; cases h
     ·refine .inr ⟨?_, h.2⟩
      cases hc : MM (σ' m).b with
      | none => rfl
      | some o =>
       rcases hM3 _ o hc with h3 | h3
       ·rw [h.1] at h3; cases h3
       ·refine absurd ?_ (hA4 _ o h3).2.2.2
        rcases (hh x m b hb).1 with h4 | ⟨rfl, h4⟩
        ·exact .inl ⟨m, h4.1, by rw [hσ' m h4.1]⟩
        ·have := held_out h1 (hheld x) hb hn
         rw [hσ' q hq] at this
         exact .inr this
  exact ⟨MM, hM1, hM2, hCM, h1M⟩
 have hgr : ∀ {A B : World} {row : Option Nat}, A.grownBy B row -> (∀ r, row = some r -> w.heap.size <= r /\ ∃ o : Obj, A.heap[r]? = some o /\ o.isCells = false) -> w.heap.size <= A.heap.size -> ∀ b, ((∃ m, memO pids m = true /\ (σ m).b = b) \/ HeldW (σ q).b off B b) -> ((∃ m, memO pids m = true /\ (σ m).b = b) \/ HeldW (σ q).b off A b) := fun {A B row} hg' hr hA b hb => hb.imp id (hHeldSame (hg'.block _ (Nat.lt_of_lt_of_le (hplt q hq) hA) fun e => by
  have := (hr _ e.symm).1
  have := hplt q hq
  omega) b)
 refine wpIn_wide.2 ((wpIn_wide (n := 2)).1 ?_)
 refine wp_rangeV hgv1 eg hseq KpS.trans (fun W l o o' hl ho hoc => ⟨by simp, fun b o2 hb hb2 _ => ?_, fun b hb => ?_⟩) (fun j v W hv => ?hsz)
  SI ?hI ⟨x0, M, σ, hs0, ⟨fun _ _ h => h, fun _ _ h _ => h⟩, hI0, hF0, Nat.le_refl _⟩ Ax ?hAx ?assign ?body ?done
 ·rw [World.putObj_heap_other (fun e => by subst e; rw [ho] at hb; injection hb with hb; subst hb; rw [hoc] at hb2; cases hb2)]
  exact hb
 ·refine .inl (hOr ((hOi hb).imp (Or.imp id (hHeldSame (World.putObj_heap_other (fun e => ?_)) b)) id))
  have := hplt q hq
  omega
 case hsz =>
  obtain ⟨hj, Mj, hL, _⟩ := hv
  rw [hE] at hL
  exact hL.symm
 case hI =>
  rintro j A B row ⟨x, M', σ', h1, h2, h3, h4, h5⟩ hg' hr
  refine ⟨x, M', σ', sim_grownN h1 (fun m b hb hbm rr e => ?_) hg' (fun rr e => ?_), h2, h3, h4, Nat.le_trans h5 hg'.size⟩
  ·have h6 := (hr rr e).1
   have hmm : memO pids m = true := by
    rcases (hh x m b hb).1 with h | h
    ·exact h.1
    ·cases b <;> first | (exfalso; cases hbm; done) | (exfalso; exact absurd h.2 (by simp [Blk.isR])) | exact absurd hbm (by simp [Blk.isM])
   rw [hσP h1 hXPp m hmm]
   have := hplt m hmm
   omega
  ·obtain ⟨h6, o, h7, h8⟩ := hr rr e
   refine ⟨Nat.le_trans hs.size h6, ⟨o, h7, h8⟩, ?_⟩
   cases hM1 : M' rr with
   | none => rfl
   | some o' =>
    have h9 := h1.imm rr o' hM1
    rw [h7] at h9; injection h9 with h9; subst h9
    have := hlt rr _ (h2.2 rr _ hM1 h8)
    omega
 case hAx =>
  rintro j a' _ A B row ⟨hj, Mn, h1, h2, h3, h4, h5⟩ hg' hr
  refine ⟨hj, Mn, Nat.le_trans h1 hg'.size, h2, h3, h4, fun b o hb => ?_⟩
  obtain ⟨h6, h7, h8, h9⟩ := h5 b o hb
  refine ⟨(hg'.block b (Array.getElem?_eq_some_iff.1 h6).1 fun e => ?_).trans h6, h7, h8, fun h => h9 (hgr hg' hr h1 b h)⟩
  obtain ⟨h10, o', h11, h12⟩ := hr b e.symm
  rw [h6] at h11; injection h11 with h11; subst h11
  rcases h7 with h7 | h7
  ·rw [h12] at h7; cases h7
  ·have := hlt b _ h7; omega
 case assign =>
  rintro l j vals W K hjn ⟨x, M'', σ', h1', h2', hinv, hfm, hws⟩ ⟨hj, Mj, _, hMj, hL⟩ hK
  obtain ⟨M', _, hMjM, h2, h1⟩ := merge h1' h2' (fun b o hb => ⟨(hMj b o hb).1, .inl (hMj b o hb).2.1, fun hMb => by
   have h3 := (hMj b o hb).2.2
   have : ¬ b < w.heap.size := fun h => h3 (hOr (.inr ⟨h, hMb⟩))
   have := hs.size
   omega, fun h => (hMj b o hb).2.2 (hOo h)⟩)
  obtain ⟨kx, hkx⟩ : ∃ kx : Fin n, kx = ⟨j, hj⟩ := ⟨_, rfl⟩
  rw [<- hkx] at hL
  have hσ' := hσP h1 hXPp
  obtain ⟨hfs, hft⟩ := fold_ok ps.toList (E kx) vals.toList t0 a.tmps (hT0 M' σ' h2.1 hσ') hs.room ((hL M' h2.1 hMjM).mono fun e _ v hv => hv σ') (by simpa using (hE kx).symm) hps
  have efold : (ps.zip vals).foldl (fun t (p, v) => t.setIfInBounds p v) a.tmps = (ps.toList.zip vals.toList).foldl (fun t (y : Tmp × Value) => t.setIfInBounds y.1 y.2) a.tmps := by
   rw [<- Array.foldl_toList, Array.toList_zip]
  rw [efold]
  obtain ⟨pr, hpr1, hpr2, hpr3⟩ : ∃ pr : List Nat, (∀ m, memO pr m = true -> memO pids m = true \/ (m = r /\ (∃ bb, get (H x) r = some bb) /\ (σ' r).nil = false)) /\ (∀ m, memO pids m = true -> memO pr m = true) /\ ((∃ bb, get (H x) r = some bb) /\ (σ' r).nil = false -> memO pr r = true) := by
   by_cases hrow : (∃ bb, get (H x) r = some bb) /\ (σ' r).nil = false
   ·refine ⟨r :: pids, fun m h => ?_, fun m h => ?_, fun _ => ?_⟩
    ·rcases List.mem_cons.1 (memO_mem h) with e | e
     ·exact .inr ⟨e, hrow⟩
     ·exact .inl (hmem m e)
    ·exact mem_memO (List.mem_cons_of_mem _ (memO_mem h))
    ·exact mem_memO (List.mem_cons_self ..)
   ·exact ⟨pids, fun m h => .inl h, fun m h => h, fun h => absurd h hrow⟩
  obtain ⟨XA, hXA⟩ : ∃ XA, XA = flatX fid ⟨(σ q).b, 424242, true⟩ (pinX pr σ' X) := ⟨_, rfl⟩
  have hprf : ∀ m, memO pr m = true -> m ≠ fid := fun m h => (hpr1 m h).elim (fun h => (hpne m h).1) fun h => by rw [h.1]; exact hrf
  have hXAf : ∀ m z, XA m = some z -> (m = fid /\ z = ⟨(σ q).b, 424242, true⟩) \/ (m ≠ fid /\ memO pr m = true /\ z = σ' m) := fun m z hz => by
   rw [hXA] at hz
   unfold flatX at hz
   cases hb : Nat.beq m fid with
   | true => rw [hb] at hz; injection hz with hz; exact .inl ⟨Nat.eq_of_beq_eq_true hb, hz.symm⟩
   | false =>
    rw [hb] at hz
    have hz : pinX pr σ' X m = some z := hz
    unfold pinX at hz
    cases hp : memO pr m with
    | true => rw [hp] at hz; injection hz with hz; exact .inr ⟨hprf m hp, rfl, hz.symm⟩
    | false => rw [hp] at hz; have hz : X m = some z := hz; rw [hX0] at hz; cases hz
  have hXAp : ∀ m, memO pr m = true -> XA m = some (σ' m) := fun m h => by
   rw [hXA]
   unfold flatX
   rw [show Nat.beq m fid = false by rw [beqN]; simp [hprf m h]]
   show pinX pr σ' X m = _
   unfold pinX
   rw [h]; rfl
  have hflat : Flat XA := ⟨fid, ⟨(σ q).b, 424242, true⟩, by rw [hXA]; unfold flatX; rw [Nat.beq_refl]; rfl, rfl, rfl⟩
  have hin := sim_baseS (fid := fid) (XB := XA) (σ2 := upd σ' fid ⟨(σ q).b, 424242, true⟩) h1 (a2 := { tmps := _, defers := [] }) rfl hfs (fun m z hz => by
   rcases hXAf m z hz with ⟨rfl, rfl⟩ | ⟨h3, h4, rfl⟩
   ·exact ⟨hfN, upd_same _ _ _⟩
   ·refine ⟨(hpr1 m h4).elim (fun h => hpN m (memO_mem h)) fun h => by rw [h.1]; exact hrN, upd_ne _ _ h3⟩) (fun m h => upd_ne _ _ h) (fun i v hv => ⟨hft i v hv, hEd kx i v hv⟩) (fun m b hb => by
   obtain ⟨h3, h4⟩ := hh x m b hb
   rcases h3 with h3 | ⟨rfl, h3⟩
   ·exact ⟨(hpne m h3.1).1, h4, .inr ⟨m, _, hXAp m (hpr2 m h3.1), rfl⟩⟩
   ·refine ⟨hrf, h4, ?_⟩
    cases hn : (σ' m).nil with
    | true => exact .inl rfl
    | false => exact .inr ⟨m, _, hXAp m (hpr3 ⟨⟨b, hb⟩, hn⟩), rfl⟩)
  refine wpIn_mono (hassign l W M' XA kx j x hinv (fun m z hz => by
   rcases hXAf m z hz with ⟨rfl, rfl⟩ | ⟨h3, h4, rfl⟩
   ·exact .inl ⟨q, hq, _, hXAp q (hpr2 q hq), by rw [hσ' q hq]⟩
   ·rcases hpr1 m h4 with h5 | ⟨rfl, h6, h5⟩
    ·exact .inl ⟨m, h5, _, hXAp m h4, rfl⟩
    ·exact .inr ⟨rfl, h6, h5⟩) M' _ _ W hin) ?_
  rintro e a' W' ⟨s', M3, σ3, ⟨rfl, rfl⟩, hr⟩
  have hσ3 : ∀ m, memO pids m = true -> σ3 m = σ m := fun m hmm => (hr.pin m _ (hXAp m (hpr2 m hmm))).2.trans (hσ' m hmm)
  obtain ⟨k1, k2, k3, k4⟩ := step h1 h2 hr (y := x) (fun _ _ h => h) (fun b hb => by
   obtain ⟨m, z, hz, hzb⟩ := hb
   rcases hXAf m z hz with ⟨rfl, rfl⟩ | ⟨h3, h4, rfl⟩
   ·exact .inl ⟨q, hq, hzb⟩
   ·rcases hpr1 m h4 with h5 | ⟨rfl, h5, h6⟩
    ·exact .inl ⟨m, h5, by rw [<- hσ' m h5]; exact hzb⟩
    ·exact .inr ⟨h5, h6, hzb⟩) hσ3
  refine hK a' W' k1 k2 ⟨x, _, σ3, k3, k4, hinv, hfm, Nat.le_trans hws hr.size⟩ ⟨hj, cutM M' M3, Nat.le_trans hws hr.size, hr.room, hr.defers.2 hflat, fun i v hv => ?_, fun b o hb => ⟨hr.imm b o (cutM_sub hr.sub hb), ?_, fun hMb => ?_, fun ho => ?_⟩⟩
  ·rw [<- hkx] at hv
   exact RT_mono (fun _ _ h => h) (fun d hd => (hσ3 d (hmem d (pvT_no (ht1p kx i v hv) hd))).symm) (RT_cut (cutM_cells hr.sub) (hr.tmps i v hv) (ht1 kx i v hv))
  ·cases hc : o.isCells with
   | true => exact .inl rfl
   | false => exact .inr (k4.2 b o hb hc)
  ·cases h3 : M' b with
   | some o' =>
    refine h1.new b o' h3 ?_
    cases h0 : M0 b with
    | none => rfl
    | some o2 => rw [hs.sub b o2 h0] at hMb; cases hMb
   | none => exact Nat.le_trans h1.size (hr.new b o (cutM_sub hr.sub hb) h3)
  ·have h3 := cutM_sub hr.sub hb
   rcases ho with ⟨m, hmm, rfl⟩ | ho
   ·have := (hPn hr m hmm).2.2
    rw [hσ3 m hmm, h3] at this; cases this
   ·rw [<- hσ3 q hq] at ho
    obtain ⟨⟨bk, hbk⟩, hn, rfl⟩ := held_in hr (hheld x) ho
    rcases hr.loc r bk hbk with h | h
    ·rw [hn] at h; cases h
    ·rw [h.1] at h3; cases h3
 case body =>
  rintro l j a' W hjn ⟨x, M', σ', h1, h2, hinv, hfm, hws⟩ ⟨hj, Mn, _, hA1, hA2, hA3, hA4⟩
  obtain ⟨kx, hkx⟩ : ∃ kx : Fin n, kx = ⟨j, hj⟩ := ⟨_, rfl⟩
  rw [<- hkx] at hA3
  have hσ' := hσP h1 hXPp
  obtain ⟨MM, hM1, hM2, hCM, h1M⟩ := merge h1 h2 hA4
  obtain ⟨fl, hfl1, hfl2, hfl3, hfl4⟩ : ∃ fl : Loc, fl.nil = true /\ fl.cap = 424242 /\ (fl.b = (σ q).b \/ (((∃ bb, get (H x) r = some bb) /\ (σ' r).nil = false) /\ fl.b = (σ' r).b)) /\ ((∃ bb, get (H x) r = some bb) /\ (σ' r).nil = false -> fl.b = (σ' r).b) := by
   by_cases hrow : (∃ bb, get (H x) r = some bb) /\ (σ' r).nil = false
   ·exact ⟨⟨(σ' r).b, 424242, true⟩, rfl, rfl, .inr ⟨hrow, rfl⟩, fun _ => rfl⟩
   ·exact ⟨⟨(σ q).b, 424242, true⟩, rfl, rfl, .inl rfl, fun h => absurd h hrow⟩
  obtain ⟨XB, hXB⟩ : ∃ XB, XB = flatX fid fl XP := ⟨_, rfl⟩
  have hXBf : ∀ m z, XB m = some z -> (m = fid /\ z = fl) \/ (m ≠ fid /\ memO pids m = true /\ z = σ m) := fun m z hz => by
   rw [hXB] at hz
   unfold flatX at hz
   cases hb : Nat.beq m fid with
   | true => rw [hb] at hz; injection hz with hz; exact .inl ⟨Nat.eq_of_beq_eq_true hb, hz.symm⟩
   | false =>
    rw [hb] at hz
    have hz : XP m = some z := hz
    rw [hXPd] at hz
    obtain ⟨h3, h4⟩ := hXPm m z hz
    exact .inr ⟨(hpne m h3).1, h3, h4⟩
  have hXBp : ∀ m, memO pids m = true -> XB m = some (σ m) := fun m h => by
   rw [hXB]
   unfold flatX
   rw [show Nat.beq m fid = false by rw [beqN]; simp [(hpne m h).1]]
   exact hXPp m h
  have hXBfid : XB fid = some fl := by rw [hXB]; unfold flatX; rw [Nat.beq_refl]; rfl
  have hin := sim_baseS (fid := fid) (XB := XB) (σ2 := upd σ' fid fl) h1M (a2 := a') hA2 hA1 (fun m z hz => by
   rcases hXBf m z hz with ⟨rfl, rfl⟩ | ⟨h3, h4, rfl⟩
   ·exact ⟨hfN, upd_same _ _ _⟩
   ·exact ⟨hpN m (memO_mem h4), (upd_ne _ _ h3).trans (hσ' m h4)⟩) (fun m h => upd_ne _ _ h) (fun i v hv => ⟨RT_mono hM2 (fun d hd => hσ' d (hmem d (pvT_no (ht1p kx i v hv) hd))) (hA3 i v hv), hnof v (ht1p kx i v hv)⟩) (fun m b hb => by
   obtain ⟨h3, h4⟩ := hh x m b hb
   rcases h3 with h3 | ⟨rfl, h3⟩
   ·exact ⟨(hpne m h3.1).1, h4, .inr ⟨m, _, hXBp m h3.1, by rw [hσ' m h3.1]⟩⟩
   ·refine ⟨hrf, h4, ?_⟩
    cases hn : (σ' m).nil with
    | true => exact .inl rfl
    | false => exact .inr ⟨fid, fl, hXBfid, hfl4 ⟨⟨b, hb⟩, hn⟩⟩)
  refine wpIn_mono (hbody l W MM XB kx j x (fun m z hz => mem_memO ((hXBf m z hz).elim (fun h => by rw [h.1]; exact List.mem_cons_self ..) fun h => List.mem_cons_of_mem _ (memO_mem h.2.1))) hjn hinv MM _ a' W hin) ?_
  rintro e a2 W' ⟨s', M3, σ3, ⟨rfl, y, hy1, hy2, hy3⟩, hr⟩
  have hσ3 : ∀ m, memO pids m = true -> σ3 m = σ m := fun m hmm => (hr.pin m _ (hXBp m hmm)).2
  obtain ⟨k1, k2, k3, k4⟩ := step h1M hCM hr hy3 (fun b hb => by
   obtain ⟨m, z, hz, hzb⟩ := hb
   rcases hXBf m z hz with ⟨rfl, rfl⟩ | ⟨h3, h4, rfl⟩
   ·rcases hfl3 with h5 | ⟨h5, h6⟩
    ·exact .inl ⟨q, hq, by rw [<- h5]; exact hzb⟩
    ·exact .inr ⟨h5.1, h5.2, by rw [<- h6]; exact hzb⟩
   ·exact .inl ⟨m, h4, hzb⟩) hσ3
  exact ⟨rfl, k1, k2, y, _, σ3, k3, k4, hy1, hy2 (by rw [hkx]) hfm, Nat.le_trans hws hr.size⟩
 case done =>
  rintro D W hD ⟨x, M', σ', h1, h2, hinv, hfm, hws⟩ hK
  refine ⟨⟨t0, H x⟩, _, σ', hdone x hinv hfm, sim_mark h1 hK ?_ (Nat.le_trans hs.size hD) (fun d' hd' e => ?_) (fun m x hx => by rw [hX0] at hx; cases hx) (fun b hb => ?_) (fun ⟨m, x, h3, _⟩ => by rw [hX0] at h3; cases h3)⟩
  ·cases h0D : M0 D with
   | none => rfl
   | some o => have := hlt D o (hs.sub D o h0D); omega
  ·obtain ⟨D', h3, h4⟩ := defs_of hs.defers.1 hd'
   rw [h3] at e
   injection e with e1 _
   injection e1 with e1
   subst e1
   have := hlt _ _ h4
   omega
  ·obtain ⟨m, hmm, rfl⟩ := (hXPi b).1 hb
   obtain ⟨bk, hbk, _⟩ := hPb x0 m hmm
   rcases hs.loc m bk hbk with h | ⟨_, h⟩
   ·rw [(hPn hs m hmm).1] at h; cases h
   ·exact h
end
end
section
open Go.RowKit
section
variable {P : Program} {N : Nat} {W0 : World} {X : Nat → Option Loc} {M0 : Nat → Option Obj}
theorem aw_rangeVB {ι : Type} {Q : Exit -> AS -> Prop} {g : Operand} {ps : Array Tmp} {assign body : Code} {t0 : List (Nat × Tv)} (pids : List Nat) (fid q off r : Nat) {gf : FuncId} {k : Nat} {caps : Nat -> Cl} {n : Nat} {E : Fin n -> List Av} (H : ι -> List (Nat × Blk)) (t1 : Fin n -> List (Nat × Tv)) (Inv Fm : Nat -> ι -> Prop) (x0 : ι)
  (hX0 : ∀ m, X m = none) (hg : evT (get t0) g = some (.av (.one (.clo gf k caps)))) (hcd : (Cl.clo gf k caps).dv = true) (eg : ∀ args w, (callFunc gf args).run P w = .ok (.enter gf args) w)
  (It : IterV P gf k caps n E) (hck : rangeSB N pids fid q r t0 ps = true) (hfam : ∀ x, famB pids fid q off r (H x) = true) (hE : ∀ x, (E x).length = ps.size) (hEd : ∀ x, (E x).all Av.dv = true) (hm : ∀ x, HsN (H x))
  (ht1 : ∀ x, TsM (t1 x)) (ht1p : ∀ x, (t1 x).all (fun p => pvT pids p.2) = true) (hI0 : Inv 0 x0) (hF0 : Fm 0 x0)
  (hassign : ∀ l W1 M1 X1 k j x, Inv j x -> PXr pids r (∃ bb, get (H x) r = some bb) X1 -> AWp P (some l) N W1 X1 M1 assign (fun e s' => e = .normal /\ s' = ⟨t1 k, H x⟩) ⟨setps t0 ps.toList (E k), H x⟩)
  (hbody : ∀ l W1 M1 X1 (k : Fin n) j x, (∀ m z, X1 m = some z -> memO (fid :: pids) m = true) -> j < n -> Inv j x -> AWp P (some l) N W1 X1 M1 body (fun e s' => e = .normal /\ ∃ y, Inv (j + 1) y /\ (k.val = j -> Fm j x -> Fm (j + 1) y) /\ ∀ m b, get (H y) m = some b -> get s'.h m = some b) ⟨t1 k, H x⟩)
  (hdone : ∀ x, Inv n x -> Fm n x -> Q .normal ⟨t0, H x⟩) : AWp P none N W0 X M0 (.rangeFunc g ps assign body) Q ⟨t0, H x0⟩ := by
 unfold rangeSB at hck
 simp only [Bool.and_eq_true, Bool.not_eq_true'] at hck
 obtain ⟨c1, c2, c3, c4, c5, c6, c7, c8, c9⟩ := hck
 have hpv : ∀ i v, get t0 i = some v -> pvT pids v = true := fun i v hv => List.all_eq_true.1 c1 (i, v) (get_mem hv)
 have hno : ∀ v : Tv, pvT pids v = true -> v.no fid = true := fun v h => by
  cases hn : v.no fid with
  | true => rfl
  | false => have := mem_memO (pvT_no h hn); rw [c3] at this; cases this
 have hf : ∀ x, (∀ m b, get (H x) m = some b -> ((memO pids m = true /\ b.isP = true) \/ (m = r /\ b.isR = true)) /\ b.no fid = true) /\ (∀ m, memO pids m = true -> ∃ b, get (H x) m = some b) /\ heldB q off r (H x) = true := fun x => by
  have h := hfam x
  unfold famB at h
  simp only [Bool.and_eq_true] at h
  obtain ⟨h1, h2, h3⟩ := h
  refine ⟨fun m b hb => ?_, fun m hmm => Option.isSome_iff_exists.1 (List.all_eq_true.1 h2 m (memO_mem hmm)), h3⟩
  have := List.all_eq_true.1 h1 (m, b) (get_mem hb)
  simp only [Bool.and_eq_true, Bool.or_eq_true] at this
  exact ⟨this.1.imp id fun h => ⟨Nat.eq_of_beq_eq_true h.1, h.2⟩, this.2⟩
 exact aw_rangeV pids fid q off r H t1 Inv Fm x0 hX0 hg hcd eg It hE (fun p hp => Nat.le_of_ble_eq_true (List.all_eq_true.1 c9 p hp)) hpv (fun x => (hf x).1) (fun x => (hf x).2.1) c3 c4 (fun e => by rw [e, Nat.beq_refl] at c5; cases c5) (Nat.le_of_ble_eq_true c6) (Nat.le_of_ble_eq_true c7) (fun m hmm => Nat.le_of_ble_eq_true (List.all_eq_true.1 c2 m hmm)) (fun m hmm => mem_memO hmm) c8 (fun x i v hv => setps_no _ _ _ (fun j u hu => hno u (hpv j u hu)) (hEd x) i v hv) (fun x => (hf x).2.2) hm ht1 (fun x i v hv => List.all_eq_true.1 (ht1p x) (i, v) (get_mem hv)) hI0 hF0 hassign hbody hdone
end
section
variable {P : Program} {N : Nat} {Ow : World → Nat → Prop} {n0 : Nat} {Q : IQ} {s : AS} {J : World → Prop} {al : Bool} {ops : Array Oper} {l : List Oper} {o : Oper}
theorem yield_wpV {M : Nat -> Option Obj} {σ : Nat -> Loc} {w : World} {a : Act} {o : Oper} {c : Call} {f : Operand} {ly : Nat} {xs : List Av} {T : Nat -> Option Tv} (hT : ∀ i v, T i = some v -> RT M σ v (a.tmps.getD i undef)) (ho : o.op = .call c) (hcf : c.callee = .value f) (hf : evT T f = some (.av (.one (.val (.func (.yield ly) #[] #[]))))) (hxs : argsC (evT T) c.args.toList = some xs)
  {R : Ending -> World -> Prop} (hY : ∀ v : Array Value, L2 (RA M σ) xs v.toList -> YieldAt (FW none) 0 P ly v w R) {K : Act -> World -> Prop} {Q : Exit -> Act -> World -> Prop} (hK : ∀ e w', R e w' -> ∃ V, e = .returned V /\ K (a.put o.dst V) w') : o.wpIn (FW none) 0 P a w K Q := by
 have hargs := args_ok (fun x v => evT_ok hT) _ _ hxs
 obtain ⟨fn, tmps, assign, body, hy, hR⟩ := hY (c.args.map a.eval) (by simpa using hargs)
 refine ⟨fun _ _ => trivial, ?_⟩
 rw [Oper.semAt_eq _ _ _ (fun d h => by rw [ho] at h; cases h)]
 have hfv := (evT_ok hT hf).1
 have hres : (execOp a.eval o).run P w = .ok (.round ly fn tmps assign body) w := by
  simp only [execOp, ho, Sem.run_bind, resolve, hcf, hfv, Deferred.ofValue]
  simpa [invoke] using hy
 rw [hres, Oper.uponIn_round]
 refine ⟨fun h => (by cases h), ?_⟩
 have h1 : RoundIn (FW none) (0 - 1) P ly fn tmps assign body w R := hR
 refine h1.mono ?_
 rintro e w' he
 obtain ⟨V, rfl, hk⟩ := hK e w' he
 exact hk
theorem iwl_yieldV (hO : OwS Ow n0) (hgn : o.guard = none) {c : Call} {f : Operand} {ly d : Nat} (xs : List Av) (ho : o.op = .call c) (hcf : c.callee = .value f)
  (hf : evT (get s.t) f = some (.av (.one (.val (.func (.yield ly) #[] #[]))))) (hxs : argsC (evT (get s.t)) c.args.toList = some xs) (hv : xs.all Av.dv = true) (hvm : ∀ x ∈ xs, AvM x) (hod : o.dst = some d) (hdN : Nat.blt d N = true) (hT1 : ∀ i v, get s.t i = some v -> v.dv = true /\ TvM v)
  (hJg : ∀ A B, J A -> A.grownBy B none -> J B) (Jt : World -> Prop)
  (hY : ∀ W v, J W -> EncV (fun _ => none) Ow xs v W -> YieldAt (FW none) 0 P ly v W (fun e W' => e = .returned (.bool true) /\ Jt W' /\ KpS Ow W W')) (hh : s.h = [])
  (ht : IWL P N Ow n0 ops l Q ⟨(d, tB true) :: s.t, []⟩ Jt true) : IWL P N Ow n0 ops (o :: l) Q s J true := by
 intro W0 M σ a w hJ hs
 refine wpListIn_step fun K0 hK' => ?_
 rw [if_pos (by simp [Region.wanted, hgn])]
 have hgrow : W0.grownBy w none := { os := hs.os, tape := hs.tape, output := hs.output, size := hs.size, block := fun b hb _ => hs.old b hb (not_inX b) }
 have hiok := hJ.2.2
 have hdN' : d < N := by have := Nat.le_of_ble_eq_true hdN; omega
 have hst : ∀ b, Ow w b -> Ow W0 b := hO.st W0 w (hiok rfl).1 fun b hb => hs.old b hb (not_inX b)
 have hput : ∀ (b : Bool) (T : List (Nat × Tv)) (M' : Nat -> Option Obj) (σ' : Nat -> Loc), (∀ i v, get T i = some v -> RT M' σ' v (a.tmps.getD i undef)) -> ∀ i v, get ((d, tB b) :: T) i = some v -> RT M' σ' v ((a.put o.dst (.bool b)).tmps.getD i undef) := fun b T M' σ' hT i v hv => by
  have hds : d < a.tmps.size := by rw [hs.room]; exact hdN'
  simp only [get, beqN] at hv
  rw [hod]
  by_cases hi : d = i
  ·subst hi
   simp at hv; subst hv
   have : (a.put (some d) (.bool b)).tmps.getD d undef = .bool b := by simp [Act.put, Array.getD_eq_getD_getElem?, hds]
   rw [this]
   exact ⟨rfl, rfl⟩
  ·simp [hi] at hv
   have : (a.put (some d) (.bool b)).tmps.getD i undef = a.tmps.getD i undef := by simp [Act.put, Array.getD_eq_getD_getElem?, Array.getElem?_setIfInBounds, hi]
   rw [this]; exact hT i v hv
 have hsize : ∀ b : Bool, (a.put o.dst (.bool b)).tmps.size = N := fun b => by rw [hod]; simpa [Act.put] using hs.room
 have hdef : ∀ b : Bool, (a.put o.dst (.bool b)).defers = [] := fun b => by rw [hod]; simpa [Act.put] using hJ.2.1
 refine yield_wpV hs.tmps ho hcf hf hxs (fun v hL => hY w v (hJg W0 w hJ.1 hgrow) ⟨celM M, by have := hL.length; simpa using this, fun b o' hb => ⟨hs.imm b o' (celM_of hb).1, (celM_of hb).2, fun h => (hiok rfl).2.2 b o' (celM_of hb).1 (hst b h)⟩, fun MM _ hMM => ?_⟩) fun e w2 he => ?_
 ·refine hL.mono fun x hx u hu σ' => ?_
  have h1 : RA M σ' x u := RT_any (r := .av x) (List.all_eq_true.1 hv x hx) hu
  exact RA_mono hMM (fun _ _ => rfl) (RA_cut celM_cells h1 (hvm x hx))
 ·obtain ⟨rfl, h5, h6⟩ := he
  refine ⟨_, rfl, hK' _ _ (ht w2 (celM M) σ _ w2 ⟨h5, hdef true, fun _ => ⟨Nat.le_trans (hiok rfl).1 (Nat.le_trans hs.size h6.1), fun b h => (h6.2.2 b h).elim (fun h7 => Nat.lt_of_lt_of_le ((hiok rfl).2.1 b (hst b h7)) (Nat.le_trans hs.size h6.1)) And.right, fun b o' h hw2 => ?_⟩⟩ ?_)⟩
  ·rcases h6.2.2 b hw2 with h7 | h7
   ·exact (hiok rfl).2.2 b o' (celM_of h).1 (hst b h7)
   ·have := (Array.getElem?_eq_some_iff.1 (hs.imm b o' (celM_of h).1)).1; omega
  ·exact ⟨rfl, rfl, rfl, Nat.le_refl _, fun _ _ _ => rfl, fun _ _ h => h, fun b o h h' => (by rw [h] at h'; cases h'), fun m x hx => (by cases hx), ⟨by rw [hdef true]; trivial, fun _ => hdef true⟩, hsize true, hput true s.t (celM M) σ (fun i v hv => RT_cut celM_cells (hs.tmps i v hv) (hT1 i v hv).2), fun b o' h => h6.2.1 b o' (hs.imm b o' (celM_of h).1) (celM_of h).2 fun h7 => (hiok rfl).2.2 b o' (celM_of h).1 (hst b h7), fun n b hb => (by cases hb), fun n b hb => (by cases hb), fun n m b c hb => (by cases hb)⟩
end
def IEndV (n : Nat) (JJ : Nat -> World -> Prop) : IQ := fun e s' J' al' => (e = .ret \/ e = .normal) /\ J' = JJ n
theorem iterV_of {P : Program} {gf : FuncId} {fn : Func} {c : Code} (hf : P.funcs[gf]? = some fn) (hb : fn.body = some c) (hnr : fn.results.toList = []) {k : Nat} {caps : Nat -> Cl} {n : Nat} {E : Fin n -> List Av} (hN : Nat.ble (k + 1) fn.ntmps = true) (hcd : ∀ i, i < k -> (caps i).dv = true)
  (h : ∀ (Ow : World -> Nat -> Prop) (n0 ly : Nat) (JJ : Nat -> World -> Prop), OwS Ow n0 -> (∀ j A B, JJ j A -> A.grownBy B none -> JJ j B) ->
   (∀ j (hj : j < n) W v, JJ j W -> EncV (fun _ => none) Ow (E ⟨j, hj⟩) v W -> YieldAt (FW none) 0 P ly v W (fun e W' => e = .returned (.bool true) /\ JJ (j + 1) W' /\ KpS Ow W W')) ->
   IWp P fn.ntmps Ow n0 c (IEndV n JJ) ⟨entryT 0 (.one (.val (.func (.yield ly) #[] #[])) :: capList k caps), []⟩ (JJ 0) true) : IterV P gf k caps n E := by
 intro M w cs Ow himm hOs hOw hcs hcaps l J W hB hJ hY h0
 have hlt : ∀ b o, M b = some o -> b < w.heap.size := fun b o hb => (Array.getElem?_eq_some_iff.1 (himm b o hb)).1
 have himmW : ∀ b o, M b = some o -> W.heap[b]? = some o := fun b o hb => (hB.block b (hlt b o hb)).trans (himm b o hb)
 have hst : ∀ b, Ow W b -> Ow w b := hOs.st w W (Nat.le_refl _) fun b hb => hB.block b hb
 have hbody := h Ow w.heap.size l J hOs hJ (fun j hj W1 v h1 ⟨Mj, e1, e2, e3⟩ => hY j v W1 hj h1 ⟨hj, Mj, e1, e2, fun MM _ h3 => e3 MM (fun _ _ h => by cases h) h3⟩)
 obtain ⟨a0, ha0⟩ : ∃ a0 : Act, a0 = { tmps := (#[Value.func (.yield l) #[] #[]] ++ cs) ++ Array.replicate (fn.ntmps - (#[Value.func (.yield l) #[] #[]] ++ cs).size) undef, defers := [] } := ⟨_, rfl⟩
 have hs0 : Sim fn.ntmps W noX M M (fun _ => ⟨0, 0, false⟩) (get (entryT 0 (.one (.val (.func (.yield l) #[] #[])) :: capList k caps))) (get []) a0 W := ?hs0
 ·have hbod := hbody W M (fun _ => ⟨0, 0, false⟩) a0 W ⟨h0, by rw [ha0], fun _ => ⟨hB.size, fun b hb => Nat.lt_of_lt_of_le (hOw b (hst b hb)).1 hB.size, fun b o hb ho => by rw [(hOw b (hst b ho)).2] at hb; cases hb⟩⟩ hs0
  rw [ha0] at hbod
  refine callsIn_wide.2 (callsIn_wide.1 (callsIn_of_wp_marks (F := FW none) (n := 0) hf hb trivial (wpIn_mono hbod ?_)))
  clear hbod hs0
  rintro e a' w' ⟨s', J', al', W0', M', σ', ⟨he, rfl⟩, ⟨hJ', hd, _⟩, hs'⟩
  have hgrow : W0'.grownBy w' none := { os := hs'.os, tape := hs'.tape, output := hs'.output, size := hs'.size, block := fun b hb _ => hs'.old b hb (not_inX b) }
  obtain ⟨U, hU, _⟩ := resT_ok (P := P) (fn := fn) (r := .tup []) hs' (by rw [hnr]; rfl)
  have key : LeavesInM (FW none) 0 P fn a'.tmps (fun e W' => (∃ v, e = .returned v) /\ J n W') a'.defers .returning w' := by
   rw [hd]
   exact ⟨U, hU, ⟨U, rfl⟩, hJ n W0' w' hJ' hgrow⟩
  rcases he with rfl | rfl
  ·exact key
  ·exact key
 case hs0 =>
  subst ha0
  have hsz : (#[Value.func (.yield l) #[] #[]] ++ cs).size = k + 1 := by simp [hcs]; omega
  have hNk := Nat.le_of_ble_eq_true hN
  refine ⟨rfl, rfl, rfl, Nat.le_refl _, fun _ _ _ => rfl, fun _ _ h => h, fun b o h h' => (by rw [h] at h'; cases h'), fun m x hx => (by cases hx), DefsX.nil, ?_, fun i v hv => ?_, himmW, fun m b hb => (by cases hb), fun m b hb => (by cases hb), fun m m' b c hb => (by cases hb)⟩
  ·simp only [Array.size_append, Array.size_replicate] at hsz ⊢
   omega
  ·obtain ⟨_, x, hx, rfl⟩ := get_entryT _ _ _ _ hv
   rw [Nat.sub_zero] at hx
   have hargs : L2 (RA M fun _ => ⟨0, 0, false⟩) (.one (.val (.func (.yield l) #[] #[])) :: capList k caps) (.func (.yield l) #[] #[] :: cs.toList) := by
    refine .cons ⟨rfl, rfl⟩ (L2.of (by simp [capList, hcs]) fun i x y hx hy => ?_)
    have hi : i < k := by have := (List.getElem?_eq_some_iff.1 hx).1; simpa [capList] using this
    have := (R_dv (σ := fun _ => ⟨0, 0, false⟩) (hcd i hi)).2 (hcaps i hi)
    simp only [capList, List.getElem?_map, List.getElem?_range hi, Option.map_some, Option.some.injEq] at hx
    subst hx
    have hy' : cs.getD i undef = y := by
     simp only [Array.getD_eq_getD_getElem?]
     rw [<- Array.getElem?_toList, hy]; rfl
    rw [hy'] at this
    exact this
   obtain ⟨u, hu, hRu⟩ := hargs.get i x hx
   have : ((#[Value.func (.yield l) #[] #[]] ++ cs) ++ Array.replicate (fn.ntmps - (#[Value.func (.yield l) #[] #[]] ++ cs).size) undef).getD i undef = u := by
    have hu2 : (#[Value.func (.yield l) #[] #[]] ++ cs)[i]? = some u := by
     rw [<- Array.getElem?_toList]
     simpa using hu
    have hi : i < (#[Value.func (.yield l) #[] #[]] ++ cs).size := (Array.getElem?_eq_some_iff.1 hu2).1
    rw [Array.getD_eq_getD_getElem?, Array.getElem?_append_left hi, hu2]; rfl
   show RA M _ x _
   rw [this]
   exact hRu
theorem iw_keepV {P : Program} {N : Nat} {Ow : World -> Nat -> Prop} {n0 : Nat} {Q : IQ} {s : AS} {J : World -> Prop} {al : Bool} {c : Code} (ts : List Nat) (S : AS) (hS : keepS ts [] s = S) (h : IWp P N Ow n0 c Q S J al) : IWp P N Ow n0 c Q s J al := by
 subst hS
 exact fun W0 M σ a w hJ hs => h W0 M σ a w hJ (sim_keep hs ts [])
theorem pure_of_fr {P : Program} {f : FuncId} {xs : List Av} {sz len : Nat} {F : Nat -> Nat -> Cl} {ty : TypeId} (h : Fr P f xs (.row sz len F ty) (fun d => .av (.one (.own d sz len)))) : Pure P f xs (.av (.one (.list false sz len F))) := by
 intro M σ w args himm hargs
 refine (h M σ w args himm hargs).mono ?_
 rintro en w' ⟨U, hU, M', x, hk, hx, hb, hR⟩
 refine ⟨U, hU, ?_⟩
 have hV : R M' (fun _ => x) (.own 0 sz len) U := hR (fun _ => x) 0 rfl
 unfold R at hV
 cases hn : x.nil with
 | true =>
  rw [hn] at hV
  obtain ⟨rfl, rfl⟩ : len = 0 /\ U = .slice none 0 0 := hV
  exact ⟨M', hk, fun σ' => RC.nil _ _ _ rfl⟩
 | false =>
  rw [hn] at hV
  have hV : U = .slice (some ⟨x.b, 0, none⟩) len x.cap := hV
  subst hV
  obtain ⟨hx1, hx2⟩ : w.heap.size <= x.b /\ M' x.b = none := by
   rcases hx with h0 | h0
   ·rw [hn] at h0; cases h0
   ·exact h0
  rcases hb (fun _ => x) with ⟨h0, _⟩ | ⟨_, c, hc, h1, h2, h3, g, hg⟩
  ·rw [hn] at h0; cases h0
  ·have key : ∀ b o, M' b = some o -> b ≠ x.b := fun b o ho e => by rw [e, hx2] at ho; cases ho
   refine ⟨fun b => if b = x.b then some (.cells c ty) else M' b, ⟨hk.os, hk.tape, hk.output, hk.size, hk.old, fun b o ho => ?_, fun b o ho h0 => ?_, fun b o ho => ?_⟩, fun σ' => ?_⟩
   ·have := hk.sub b o ho
    simp only [if_neg (key b o this)]; exact this
   ·by_cases e : b = x.b
    ·rw [e]; exact hx1
    ·simp only [if_neg e] at ho; exact hk.new b o ho h0
   ·by_cases e : b = x.b
    ·simp only [if_pos e, Option.some.injEq] at ho; rw [e, <- ho]; exact hc
    ·simp only [if_neg e] at ho; exact hk.imm b o ho
   ·show RC _ (.list false sz len F) _
    refine .list false sz len F x.b 0 x.cap g (fun i j hi hj => ?_) (fun i j hi hj => RC_mono (fun b o ho => ?_) (hg i j hi hj).2) h2
    ·simp only [cellM, if_pos]
     rw [Nat.zero_add]
     exact (hg i j hi hj).1
    ·simp only [if_neg (key b o ho)]; exact ho
theorem iterV_ofE {P : Program} {gf : FuncId} {fn : Func} {c : Code} (hf : P.funcs[gf]? = some fn) (hb : fn.body = some c) (hnr : fn.results.toList = []) {k : Nat} {caps : Nat -> Cl} {n : Nat} {E : Fin n -> List Av} (hE : ∀ x, (E x).all Av.isV = true) (hE1 : ∀ x, ∀ e ∈ E x, ∀ c ∈ e.cells, c.toV.oneCell' = true) (hN : Nat.ble (k + 1) fn.ntmps = true) (hcd : ∀ i, i < k -> (caps i).dv = true)
  (h : ∀ (Ow : World -> Nat -> Prop) (n0 ly : Nat) (JJ Jx : Nat -> World -> Prop), OwS Ow n0 -> (∀ j A B, JJ j A -> A.grownBy B none -> JJ j B) ->
   (∀ j (hj : j < n) W, JJ j W -> YieldAt (FW none) 0 P ly ((E ⟨j, hj⟩).map Av.toV).toArray W (fun e W' => (e = .returned (.bool true) /\ JJ (j + 1) W' /\ KpS Ow W W') \/ (e = .returned (.bool false) /\ Jx (j + 1) W'))) ->
   IWp P fn.ntmps Ow n0 c (IEnd n JJ Jx) ⟨entryT 0 (.one (.val (.func (.yield ly) #[] #[])) :: capList k caps), []⟩ (JJ 0) true) : IterV P gf k caps n E :=
 iterV_of hf hb hnr hN hcd fun Ow n0 ly JJ hO hJ hY => by
  have h1 := h Ow n0 ly JJ (fun _ _ => False) hO hJ (fun j hj W hW => by
   obtain ⟨fn', tm, as', bd, hy, hR⟩ := hY j hj W ((E ⟨j, hj⟩).map Av.toV).toArray hW ⟨fun _ => none, by simp, (fun b o hb => by cases hb), fun MM _ _ => by
    have e1 := hE ⟨j, hj⟩
    have e2 := hE1 ⟨j, hj⟩
    show L2 _ (E ⟨j, hj⟩) ((E ⟨j, hj⟩).map Av.toV)
    generalize E ⟨j, hj⟩ = l at e1 e2 ⊢
    induction l with
    | nil => exact .nil
    | cons e l ih =>
     simp only [List.all_cons, Bool.and_eq_true] at e1
     exact .cons (fun σ => toV_RA e1.1 (e2 e (List.mem_cons_self ..))) (ih e1.2 fun e he => e2 e (List.mem_cons_of_mem _ he))⟩
   exact ⟨fn', tm, as', bd, hy, hR.mono fun e W' he => .inl he⟩)
  intro W0 M σ a w hJ0 hs
  refine wpIn_mono (h1 W0 M σ a w hJ0 hs) ?_
  rintro e a' w' ⟨s', J', al', W0', M', σ', ⟨he, hend⟩, hJ', hs'⟩
  rcases hend with rfl | ⟨j, hj, rfl⟩
  ·exact ⟨s', _, al', W0', M', σ', ⟨he, rfl⟩, hJ', hs'⟩
  ·exact hJ'.1.elim
theorem iter_valsV {P : Program} {gf : FuncId} {t : Bool} {sz len : Nat} {f : Nat -> Nat -> Cl} {k : Nat} {caps : Nat -> Cl} {n : Nat} {E : Fin n -> List Av} (E' : (Nat -> Nat -> Value) -> Fin n -> List Av) (h0 : caps 0 = boxL t sz len f) (hk : 0 < k)
  (hI : ∀ g : Nat -> Nat -> Value, (∀ i j, i < len -> j < sz -> (g i j).oneCell' = true) -> IterV P gf k (fun i => match i with | 0 => boxL t sz len (fun i j => .val (g i j)) | i + 1 => caps (i + 1)) n (E' g)) (hlen : ∀ g x, (E' g x).length = (E x).length)
  (hE : ∀ M g x (vs : List Value), (∀ i j, i < len -> j < sz -> RC M (f i j) (g i j)) -> L2 (fun e v => ∀ σ, RA M σ e v) (E' g x) vs -> L2 (fun e v => ∀ σ, RA M σ e v) (E x) vs) : IterV P gf k caps n E := by
 intro M w cs Ow himm hOs hOw hcs hcaps
 have h := hcaps 0 hk
 rw [h0] at h
 obtain ⟨g, h1, h2⟩ := rc_boxvals h
 have h3 := hI g (fun i j hi hj => RC_one (h2 i j hi hj)) M w cs Ow himm hOs hOw hcs (fun i hi => by
  cases i with
  | zero => exact h1
  | succ i => exact hcaps _ hi)
 intro l J W hB hJ hY hJ0
 exact h3 l J W hB hJ (fun j v A hj hJA ⟨hj', Mj, e1, e2, e3⟩ => hY j v A hj hJA ⟨hj', Mj, (hlen g _).symm.trans e1, e2, fun MM m1 m2 => hE MM g _ _ (fun i j hi hj => RC_mono m1 (h2 i j hi hj)) (e3 MM m1 m2)⟩) hJ0
theorem iter_capsV {P : Program} {gf : FuncId} {k : Nat} {caps caps' : Nat -> Cl} {n : Nat} {E : Fin n -> List Av} (h : ∀ i, i < k -> caps' i = caps i) (H : IterV P gf k caps n E) : IterV P gf k caps' n E :=
 fun M w cs Ow a b c d e => H M w cs Ow a b c d fun i hi => by rw [<- h i hi]; exact e i hi
theorem iw_lift2 {P : Program} {N : Nat} {Ow : World -> Nat -> Prop} {n0 : Nat} {Q : IQ} {s : AS} {J : World -> Prop} {al : Bool} (hO : OwS Ow n0) {x y z : Code} (hdv : ∀ i v, get s.t i = some v -> v.dv = true) (hh : s.h = [])
  (h : ∀ W0 X1 M1, (∀ k u, X1 k = some u -> memO [N] k = true) -> AWp P none N W0 X1 M1 x (ATh (AWp P none N W0 X1 M1 y (fun e s' => e = .normal /\ ∃ S, (∀ W2 M2, Cv N W2 noX M2 s' S) /\ IWp P N Ow n0 z Q S J al)) (fun _ _ => False)) s) : IWp P N Ow n0 (.seq x (.seq y z)) Q s J al := by
 intro W0 M σ a w hJ hs
 have hX : ∀ k u, flatN N W0.heap.size k = some u -> memO [N] k = true := fun k u hk => by rw [(flatN_of hk).1]; exact memO_one _
 refine wpIn_seq (wpIn_mono (h W0 _ M hX M _ a w (sim_flat hdv hh hJ.2.1 hs)) ?_)
 rintro e a' w' ⟨s', M', σ', h1, h2⟩
 cases e with
 | normal =>
  refine wpIn_seq (wpIn_mono (h1 M' σ' a' w' h2) ?_)
  rintro e a2 w2 ⟨s2, M2, σ2, ⟨rfl, S, h3, h4⟩, h5⟩
  have h6 := iok_new hJ.2.2 hO h5
  obtain ⟨hd, h7⟩ := sim_unflat h5
  obtain ⟨M3, σ3, h8⟩ := h3 W0 M2 M2 σ2 a2 w2 h7
  exact h4 W0 M3 σ3 a2 w2 ⟨hJ.1, hd, iok_new h6 hO h8⟩ (sim_self h8 hd)
 | _ => exact h1.elim
end
section
open Go.RowKit
def FisNaN (x : Int) : Bool := !decide ((x : Int) = x)
def cisNaN (x : Int) : FuncId × List Av × Ef := (167, [.one (.i x)], .val [] (.av (.one (.b (FisNaN x)))))
theorem pisNaN (x : Int) : Pure Tryz.prog 167 (cisNaN x).2.1 (.av (.one (.b (FisNaN x)))) := by
 refine pure_of_awF Tryz.func167 rfl kr kr fun W0 M0 => ?_
 refine aw_seq ?_
 refine aw_region eqok [] [] [] [0] [] [] ⟨[(0, tI x)], []⟩ .nil kr .nil <| ath_n <| aw_seq ?_
 refine aw_region eqok [] [] [] [2] [] [] ⟨[(2, tB (!decide ((x : Int) = x)))], []⟩ .nil kr .nil <| ath_n <| aw_ret ?_
 exact ⟨_, Cv.refl _, .inl rfl, .av (.one (.b (!decide ((x : Int) = x)))), by kernel_rfl, tve_eq (by rfl)⟩
theorem okisNaN (x : Int) : CallOk Tryz.prog (cisNaN x).1 (cisNaN x).2.1 (cisNaN x).2.2 := callOk_pure (fun _ _ => kr) fun _ => pisNaN x
def FCompare (x : Int) (y : Int) : Int := bif FisNaN x then (bif FisNaN y then (0) else ((-1))) else (bif FisNaN y then (1) else (bif decide ((x : Int) < y) then ((-1)) else (bif decide ((y : Int) < x) then (1) else (0))))
def cCompare (x : Int) (y : Int) : FuncId × List Av × Ef := (151, [.one (.i x), .one (.i y)], .val [] (.av (.one (.i (FCompare x y)))))
theorem pCompare (x : Int) (y : Int) : Pure Tryz.prog 151 (cCompare x y).2.1 (.av (.one (.i (FCompare x y)))) := by
 refine pure_of_awF Tryz.func151 rfl kr kr fun W0 M0 => ?_
 refine aw_seq ?_
 refine aw_region eqok [] [] [] [0, 1] [] [] ⟨[(0, tI x), (1, tI y)], []⟩ .nil kr .nil <| ath_n <| aw_seq ?_
 refine aw_region eqok [] [] [(8, cisNaN x)] [0, 1, 5] [] [Same (cisNaN x).2.1] ⟨[(0, tI x), (1, tI y), (5, tB (FisNaN x))], []⟩ (.cons (okisNaN x) .nil) kr (.cons rfl .nil) <| ath_n <| aw_seq ?_
 refine aw_region eqok [] [] [(10, cisNaN y)] [0, 1, 5, 6] [] [Same (cisNaN y).2.1] ⟨[(0, tI x), (1, tI y), (5, tB (FisNaN x)), (6, tB (FisNaN y))], []⟩ (.cons (okisNaN y) .nil) kr (.cons rfl .nil) <| ath_n ?_
 refine aw_seq <| aw_seq ?_
 refine aw_region eqok [] [] [] [0, 1, 6, 11] [] [] ⟨[(0, tI x), (1, tI y), (6, tB (FisNaN y)), (11, tB (FisNaN x))], []⟩ .nil kr .nil <| ath_n ?_
 refine aw_cond (FisNaN x) kr (fun h1 => ?_) (fun h1 => ?_)
 ·refine aw_seq <| aw_seq ?_
  refine aw_region eqok [] [] [] [12] [] [] ⟨[(12, tB (FisNaN y))], []⟩ .nil kr .nil <| ath_n ?_
  refine aw_cond (FisNaN y) kr (fun h2 => ?_) (fun h2 => ?_)
  ·refine aw_seq ?_
   refine aw_region eqok [] [] [] [4] [] [] ⟨[(4, tI 0)], []⟩ .nil kr .nil <| ath_n ?_
   refine aw_ret <| ath_r <| ath_r ?_
   exact ⟨_, Cv.refl _, .inl rfl, .av (.one (.i 0)), by kernel_rfl, tve_eq (by first | (simp only [FCompare, h1, h2, cond_true, cond_false] <;> rfl))⟩
  ·refine aw_skip <| ath_n <| aw_seq ?_
   refine aw_region eqok [] [] [] [4] [] [] ⟨[(4, tI ((-1)))], []⟩ .nil kr .nil <| ath_n ?_
   refine aw_ret <| ath_r ?_
   exact ⟨_, Cv.refl _, .inl rfl, .av (.one (.i ((-1)))), by kernel_rfl, tve_eq (by first | (simp only [FCompare, h1, h2, cond_true, cond_false] <;> rfl))⟩
 ·refine aw_skip <| ath_n ?_
  refine aw_seq <| aw_seq ?_
  refine aw_region eqok [] [] [] [0, 1, 13] [] [] ⟨[(0, tI x), (1, tI y), (13, tB (FisNaN y))], []⟩ .nil kr .nil <| ath_n ?_
  refine aw_cond (FisNaN y) kr (fun h2 => ?_) (fun h2 => ?_)
  ·refine aw_seq ?_
   refine aw_region eqok [] [] [] [4] [] [] ⟨[(4, tI 1)], []⟩ .nil kr .nil <| ath_n ?_
   refine aw_ret <| ath_r ?_
   exact ⟨_, Cv.refl _, .inl rfl, .av (.one (.i 1)), by kernel_rfl, tve_eq (by first | (simp only [FCompare, h1, h2, cond_true, cond_false] <;> rfl))⟩
  ·refine aw_skip <| ath_n ?_
   refine aw_seq <| aw_seq ?_
   refine aw_region eqok [] [] [] [0, 1, 16] [] [] ⟨[(0, tI x), (1, tI y), (16, tB (decide ((x : Int) < y)))], []⟩ .nil kr .nil <| ath_n ?_
   refine aw_cond (decide ((x : Int) < y)) kr (fun h3 => ?_) (fun h3 => ?_)
   ·have g3 := of_decide_eq_true h3
    refine aw_seq ?_
    refine aw_region eqok [] [] [] [4] [] [] ⟨[(4, tI ((-1)))], []⟩ .nil kr .nil <| ath_n ?_
    refine aw_ret <| ath_r ?_
    exact ⟨_, Cv.refl _, .inl rfl, .av (.one (.i ((-1)))), by kernel_rfl, tve_eq (by first | (simp only [FCompare, h1, h2, h3, cond_true, cond_false] <;> rfl))⟩
   ·have g3 := of_decide_eq_false h3
    refine aw_skip <| ath_n ?_
    refine aw_seq <| aw_seq ?_
    refine aw_region eqok [] [] [] [19] [] [] ⟨[(19, tB (decide ((y : Int) < x)))], []⟩ .nil kr .nil <| ath_n ?_
    refine aw_cond (decide ((y : Int) < x)) kr (fun h4 => ?_) (fun h4 => ?_)
    ·have g4 := of_decide_eq_true h4
     refine aw_seq ?_
     refine aw_region eqok [] [] [] [4] [] [] ⟨[(4, tI 1)], []⟩ .nil kr .nil <| ath_n ?_
     refine aw_ret <| ath_r ?_
     exact ⟨_, Cv.refl _, .inl rfl, .av (.one (.i 1)), by kernel_rfl, tve_eq (by first | (simp only [FCompare, h1, h2, h3, h4, cond_true, cond_false] <;> rfl))⟩
    ·have g4 := of_decide_eq_false h4
     refine aw_skip <| ath_n <| aw_seq ?_
     refine aw_region eqok [] [] [] [4] [] [] ⟨[(4, tI 0)], []⟩ .nil kr .nil <| ath_n <| aw_ret ?_
     exact ⟨_, Cv.refl _, .inl rfl, .av (.one (.i 0)), by kernel_rfl, tve_eq (by first | (simp only [FCompare, h1, h2, h3, h4, cond_true, cond_false] <;> rfl))⟩
theorem okCompare (x : Int) (y : Int) : CallOk Tryz.prog (cCompare x y).1 (cCompare x y).2.1 (cCompare x y).2.2 := callOk_pure (fun _ _ => kr) fun _ => pCompare x y
def FcmpP (x : TPlaced) (y : TPlaced) : Int := FCompare x.Id y.Id
def ccmpP (x : TPlaced) (y : TPlaced) : FuncId × List Av × Ef := (150, [.agg (TPlaced.c x), .agg (TPlaced.c y)], .val [] (.av (.one (.i (FcmpP x y)))))
theorem pcmpP (x : TPlaced) (y : TPlaced) : Pure Tryz.prog 150 (ccmpP x y).2.1 (.av (.one (.i (FcmpP x y)))) := by
 refine pure_of_awF Tryz.func150 rfl kr kr fun W0 M0 => ?_
 refine aw_seq ?_
 refine aw_region eqok [] [] [] [2, 3] [2, 3] [] ⟨[(2, tP 2 0), (3, tP 3 0)], [(2, .cells (TPlaced.c x) 78), (3, .cells (TPlaced.c y) 78)]⟩ .nil kr .nil <| ath_n <| aw_seq ?_
 refine aw_region eqok [] [] [(9, cCompare x.Id y.Id)] [4] [] [Same (cCompare x.Id y.Id).2.1] ⟨[(4, tI (FCompare x.Id y.Id))], []⟩ (.cons (okCompare x.Id y.Id) .nil) kr (.cons rfl .nil) <| ath_n <| aw_ret ?_
 exact ⟨_, Cv.refl _, .inl rfl, .av (.one (.i (FCompare x.Id y.Id))), by kernel_rfl, tve_eq (by rfl)⟩
theorem okcmpP (x : TPlaced) (y : TPlaced) : CallOk Tryz.prog (ccmpP x y).1 (ccmpP x y).2.1 (ccmpP x y).2.2 := callOk_pure (fun _ _ => kr) fun _ => pcmpP x y
def FInsP_l1 (l : (List TPlaced)) (n : Int) (data : List TPlaced) (i : Int) (K0 : List TPlaced -> Int -> (List TPlaced)) : Nat -> List TPlaced -> Int -> (List TPlaced)
 | 0, _, _ => default
 | n1 + 1, data', j => bif bif decide ((0 : Int) < j) then decide (((FcmpP (data'.getD j.toNat default) (data'.getD ((j - 1).toNat) default)) : Int) < 0) else false then ((FInsP_l1 l n data i K0 n1) ((data'.set j.toNat (data'.getD ((j - 1).toNat) default)).set ((j - 1).toNat) (data'.getD j.toNat default)) (j - 1)) else (K0 data' (i + 1))
def FInsP_l0 (l : (List TPlaced)) (n : Int) : Nat -> List TPlaced -> Int -> (List TPlaced)
 | 0, _, _ => default
 | n0 + 1, data, i => bif decide ((i : Int) < n) then (FInsP_l1 l n data i (FInsP_l0 l n n0) (i.toNat + 1) data i) else (data)
def FInsP (l : (List TPlaced)) (n : Int) : (List TPlaced) := FInsP_l0 l n ((n - 1).toNat + 1) l 1
theorem au0 {p : Prop} (h : p := by first | decide | omega | exact idx_tmod (by first | omega | (simp only [W64_def]; omega)) (by omega) | (simp only [W64_def]; omega) | (constructor <;> omega) | (simp only [List.length_append, List.length_cons, List.length_nil]; omega) | (simp only [List.length_append, List.length_cons, List.length_nil, List.length_drop, List.length_take] at *; omega)) : p := h
theorem au3 {p : Prop} (h : p := by first | (simp; done) | (simp; omega)) : p := h
theorem lr {p : Prop} (h : p := by repeat (first | exact .nil | refine .cons ⟨rfl, .refl _⟩ ?_)) : p := h
theorem au11 {p : Prop} (h : p := by first | omega | (simp only [List.length_set]; omega) | simp) : p := h
theorem pInsP (l : (List TPlaced)) (n : Int) (hn : n = (l.length : Int)) (hl : l.length < 20) : WrR Tryz.prog 179 1000 [.one (.own 1000 7 l.length), .one (.i 0), .one (.i n), .one (.clo 150 0 (fun _ => default))] 7 l.length (rowF TPlaced.c l) 78 (.tup []) (rowF TPlaced.c (FInsP l n)) := by
 refine wrR_of_awF Tryz.func179 rfl kr kr kr fun W0 M0 X hX => ?_
 refine aw_seq ?_
 refine aw_region eqok [] [] [] [0, 1, 2, 3, 8] [1000] [] ⟨[(0, .av (.one (.own 1000 7 l.length))), (1, tI 0), (2, tI n), (3, .av (.one (.clo 150 0 (fun _ => default)))), (8, tI 1)], [(1000, .row 7 l.length (rowF TPlaced.c l) 78)]⟩ .nil kr .nil <| ath_n <| aw_block ?_
 refine aw_loopC (ι := Nat × List TPlaced × Int) (fun x => ⟨[(0, .av (.one (.own 1000 7 x.2.1.length))), (1, tI 0), (2, tI n), (3, .av (.one (.clo 150 0 (fun _ => default)))), (8, tI x.2.2)], [(1000, .row 7 x.2.1.length (rowF TPlaced.c x.2.1) 78)]⟩) (fun x => (n - x.2.2).toNat < x.1 /\ (1 <= x.2.2 /\ x.2.1.length = l.length /\ 1 <= x.2.2 /\ (x.2.2 <= n \/ x.2.2 = 1)) /\ FInsP_l0 l n x.1 x.2.1 x.2.2 = FInsP l n) (fun x => x.1) ?_ ((n - 1).toNat + 1, l, 1) ⟨Nat.lt_succ_self _, ⟨(by show 1 <= 1; first | trivial | omega | exact at0 | exact at1 | exact at2 | (simp; omega) | simp), (by show l.length = l.length; first | trivial | omega | exact at0 | exact at1 | exact at2 | (simp; omega) | simp), (by show 1 <= 1; first | trivial | omega | exact at0 | exact at1 | exact at2 | (simp; omega) | simp), (by show (1 <= n \/ 1 = 1); first | trivial | omega | exact at0 | exact at1 | exact at2 | (simp; omega) | simp)⟩, (by simp only [FInsP, cond_true, cond_false])⟩
 rintro ⟨n0, data, i⟩ ⟨hn, hinv, hF⟩
 have hm0 : (n - i).toNat < n0 := hn; have hinv0 : 1 <= i /\ data.length = l.length /\ 1 <= i /\ (i <= n \/ i = 1) := hinv; have hF0 : FInsP_l0 l n n0 data i = FInsP l n := hF; clear hn hinv hF
 cases n0 with
 | zero => exact absurd hm0 (Nat.not_lt_zero _)
 | succ n0 =>
  refine aw_seq <| aw_seq ?_
  refine aw_region eqok [] [] [] [0, 1, 2, 3, 8, 14] [1000] [] ⟨[(0, .av (.one (.own 1000 7 data.length))), (1, tI 0), (2, tI n), (3, .av (.one (.clo 150 0 (fun _ => default)))), (8, tI i), (14, tB (decide ((i : Int) < n)))], [(1000, .row 7 data.length (rowF TPlaced.c data) 78)]⟩ .nil kr .nil <| ath_n ?_
  refine aw_cond (decide ((i : Int) < n)) kr (fun h1 => ?_) (fun h1 => ?_)
  ·have g1 := of_decide_eq_true h1
   refine aw_skip <| ath_n ?_
   refine aw_seq <| aw_block <| aw_seq ?_
   refine aw_region eqok [] [] [] [0, 1, 2, 3, 8, 9] [1000] [] ⟨[(0, .av (.one (.own 1000 7 data.length))), (1, tI 0), (2, tI n), (3, .av (.one (.clo 150 0 (fun _ => default)))), (8, tI i), (9, tI i)], [(1000, .row 7 data.length (rowF TPlaced.c data) 78)]⟩ .nil kr .nil <| ath_n <| aw_block ?_
   refine aw_loopC (ι := Nat × List TPlaced × Int) (fun x => ⟨[(0, .av (.one (.own 1000 7 x.2.1.length))), (1, tI 0), (2, tI n), (3, .av (.one (.clo 150 0 (fun _ => default)))), (8, tI i), (9, tI x.2.2)], [(1000, .row 7 x.2.1.length (rowF TPlaced.c x.2.1) 78)]⟩) (fun x => x.2.2.toNat < x.1 /\ (0 <= x.2.2 /\ x.2.1.length = l.length /\ x.2.2 < n) /\ FInsP_l1 l n data i (FInsP_l0 l n n0) x.1 x.2.1 x.2.2 = FInsP l n) (fun x => x.1) ?_ (i.toNat + 1, data, i) ⟨Nat.lt_succ_self _, ⟨(by show 0 <= i; first | trivial | omega | exact at0 | exact at1 | exact at2 | (simp; omega) | simp), (by show data.length = l.length; first | trivial | omega | exact at0 | exact at1 | exact at2 | (simp; omega) | simp), (by show i < n; first | trivial | omega | exact at0 | exact at1 | exact at2 | (simp; omega) | simp)⟩, (by rw [<- hF0]; simp only [FInsP_l0, h1, cond_true, cond_false])⟩
   rintro ⟨n1, data', j⟩ ⟨hn, hinv, hF⟩
   have hm1 : j.toNat < n1 := hn; have hinv1 : 0 <= j /\ data'.length = l.length /\ j < n := hinv; have hF1 : FInsP_l1 l n data i (FInsP_l0 l n n0) n1 data' j = FInsP l n := hF; clear hn hinv hF
   cases n1 with
   | zero => exact absurd hm1 (Nat.not_lt_zero _)
   | succ n1 =>
    refine aw_seq <| aw_seq ?_
    refine aw_draw mixed eqok [] [] [(32, ccmpP (data'.getD j.toNat default) (data'.getD ((W64 (j - 1)).toNat) default))] [0, 1, 2, 3, 8, 9, 34] [1000] [((decide ((0 : Int) < j)) = true) -> ((decide ((0 : Int) < j)) = true), ((decide ((0 : Int) < j)) = true) -> ((decide ((0 : Int) < j)) = true), ((decide ((0 : Int) < j)) = true) -> (0 <= (j : Int) /\ (j : Int) < ((data'.length : Nat) : Int)), ((decide ((0 : Int) < j)) = true) -> ((decide ((0 : Int) < j)) = true), ((decide ((0 : Int) < j)) = true) -> (j.toNat < data'.length), ((decide ((0 : Int) < j)) = true) -> ((decide ((0 : Int) < j)) = true), ((decide ((0 : Int) < j)) = true) -> ((decide ((0 : Int) < j)) = true), ((decide ((0 : Int) < j)) = true) -> ((decide ((0 : Int) < j)) = true), ((decide ((0 : Int) < j)) = true) -> (0 <= (W64 (j - 1) : Int) /\ (W64 (j - 1) : Int) < ((data'.length : Nat) : Int)), ((decide ((0 : Int) < j)) = true) -> ((decide ((0 : Int) < j)) = true), ((decide ((0 : Int) < j)) = true) -> ((W64 (j - 1)).toNat < data'.length), ((decide ((0 : Int) < j)) = true) -> ((decide ((0 : Int) < j)) = true), ((decide ((0 : Int) < j)) = true) -> ((decide ((0 : Int) < j)) = true), ((decide ((0 : Int) < j)) = true) -> ((decide ((0 : Int) < j)) = true), ((decide ((0 : Int) < j)) = true) -> (Same (ccmpP (data'.getD j.toNat default) (data'.getD ((W64 (j - 1)).toNat) default)).2.1), ((decide ((0 : Int) < j)) = true) -> ((decide ((0 : Int) < j)) = true), (decide ((0 : Int) < j)) = true -> ((decide ((0 : Int) < j)) = true)] ⟨[(0, .av (.one (.own 1000 7 data'.length))), (1, tI 0), (2, tI n), (3, .av (.one (.clo 150 0 (fun _ => default)))), (8, tI i), (9, tI j), (34, tB (bif decide ((0 : Int) < j) then decide (((FcmpP (data'.getD j.toNat default) (data'.getD ((W64 (j - 1)).toNat) default)) : Int) < 0) else false))], [(1000, .row 7 data'.length (rowF TPlaced.c data') 78)]⟩ (.cons (okcmpP (data'.getD j.toNat default) (data'.getD ((W64 (j - 1)).toNat) default)) .nil) kr kr (.cons id (.cons id (.cons (fun hG => by first | exact au0 | (simp only [decide_eq_true_eq, decide_eq_false_iff_not, Bool.not_eq_true, Bool.and_eq_true] at hG <;> omega) | (simp at hG <;> omega) | (simp only [decide_eq_true_eq, decide_eq_false_iff_not] at hG; simp only [W64_def]; omega)) (.cons id (.cons (fun hG => by first | exact au0 | (simp only [decide_eq_true_eq, decide_eq_false_iff_not, Bool.not_eq_true, Bool.and_eq_true] at hG <;> omega) | (simp at hG <;> omega) | (simp only [decide_eq_true_eq, decide_eq_false_iff_not] at hG; simp only [W64_def]; omega)) (.cons id (.cons id (.cons id (.cons (fun hG => by first | exact au0 | (simp only [decide_eq_true_eq, decide_eq_false_iff_not, Bool.not_eq_true, Bool.and_eq_true] at hG <;> omega) | (simp at hG <;> omega) | (simp only [decide_eq_true_eq, decide_eq_false_iff_not] at hG; simp only [W64_def]; omega)) (.cons id (.cons (fun hG => by first | exact au0 | (simp only [decide_eq_true_eq, decide_eq_false_iff_not, Bool.not_eq_true, Bool.and_eq_true] at hG <;> omega) | (simp at hG <;> omega) | (simp only [decide_eq_true_eq, decide_eq_false_iff_not] at hG; simp only [W64_def]; omega)) (.cons id (.cons id (.cons id (.cons (fun _ => rfl) (.cons id (.cons id .nil))))))))))))))))) ?_
    (try rw [(show W64 (j - 1) = j - 1 from W64_id (by omega) (by omega))])
    refine ath_n ?_
    refine aw_cond (bif decide ((0 : Int) < j) then decide (((FcmpP (data'.getD j.toNat default) (data'.getD ((j - 1).toNat) default)) : Int) < 0) else false) kr (fun h2 => ?_) (fun h2 => ?_)
    ·have g2 := and_dec h2
     refine aw_skip <| ath_n ?_
     refine aw_seq <| aw_block ?_
     refine aw_draw mixed eqok [] [] [] [0, 1, 2, 3, 8, 9] [1000] [0 <= (W64 (j - 1) : Int) /\ (W64 (j - 1) : Int) < ((data'.length : Nat) : Int), (W64 (j - 1)).toNat < data'.length, 0 <= (j : Int) /\ (j : Int) < ((data'.length : Nat) : Int), j.toNat < data'.length, 0 <= (j : Int) /\ (j : Int) < ((data'.length : Nat) : Int), j.toNat < data'.length, 0 <= (W64 (j - 1) : Int) /\ (W64 (j - 1) : Int) < ((data'.length : Nat) : Int), (W64 (j - 1)).toNat < data'.length] ⟨[(0, .av (.one (.own 1000 7 data'.length))), (1, tI 0), (2, tI n), (3, .av (.one (.clo 150 0 (fun _ => default)))), (8, tI i), (9, tI j)], [(1000, .row 7 data'.length (fun i_ j_ => if i_ = (W64 (j - 1)).toNat /\ 0 <= j_ /\ j_ < 0 + 7 then ([.i ((data'.getD j.toNat default).Id), .s ((data'.getD j.toNat default).Ref), .s ((data'.getD j.toNat default).Type'), .i (((data'.getD j.toNat default).At).X), .i (((data'.getD j.toNat default).At).Y), .i ((data'.getD j.toNat default).Turn), .b ((data'.getD j.toNat default).Under)] : List Cl).getD (j_ - 0) default else (fun i_ j_ => if i_ = j.toNat /\ 0 <= j_ /\ j_ < 0 + 7 then ([.i ((data'.getD ((W64 (j - 1)).toNat) default).Id), .s ((data'.getD ((W64 (j - 1)).toNat) default).Ref), .s ((data'.getD ((W64 (j - 1)).toNat) default).Type'), .i (((data'.getD ((W64 (j - 1)).toNat) default).At).X), .i (((data'.getD ((W64 (j - 1)).toNat) default).At).Y), .i ((data'.getD ((W64 (j - 1)).toNat) default).Turn), .b ((data'.getD ((W64 (j - 1)).toNat) default).Under)] : List Cl).getD (j_ - 0) default else (rowF TPlaced.c data') i_ j_) i_ j_) 78)]⟩ .nil kr kr (.cons au0 (.cons au0 (.cons au0 (.cons au0 (.cons au0 (.cons au0 (.cons au0 (.cons au0 .nil)))))))) ?_
     (try rw [(show W64 (j - 1) = j - 1 from W64_id (by omega) (by omega))])
     refine abl_n <| ath_n ?_
     refine aw_cv (Cv.trans (cv_ce (⟨[(0, .av (.one (.own 1000 7 (((data'.set j.toNat (data'.getD ((j - 1).toNat) default)).set ((j - 1).toNat) (data'.getD j.toNat default)).length)))), (1, tI 0), (2, tI n), (3, .av (.one (.clo 150 0 (fun _ => default)))), (8, tI i), (9, tI j)], [(1000, .row 7 (((data'.set j.toNat (data'.getD ((j - 1).toNat) default)).set ((j - 1).toNat) (data'.getD j.toNat default)).length) (rowF TPlaced.c ((data'.set j.toNat (data'.getD ((j - 1).toNat) default)).set ((j - 1).toNat) (data'.getD j.toNat default))) 78)]⟩) (.cons ⟨rfl, .av (.one (.own _ _ au3))⟩ lr) (.cons ⟨rfl, bke_told 78 (told_set (l := [.i ((data'.getD j.toNat default).Id), .s ((data'.getD j.toNat default).Ref), .s ((data'.getD j.toNat default).Type'), .i (((data'.getD j.toNat default).At).X), .i (((data'.getD j.toNat default).At).Y), .i ((data'.getD j.toNat default).Turn), .b ((data'.getD j.toNat default).Under)]) (off := 0) (q := 7) (k := (j - 1).toNat) (told_set (l := [.i ((data'.getD ((j - 1).toNat) default).Id), .s ((data'.getD ((j - 1).toNat) default).Ref), .s ((data'.getD ((j - 1).toNat) default).Type'), .i (((data'.getD ((j - 1).toNat) default).At).X), .i (((data'.getD ((j - 1).toNat) default).At).Y), .i ((data'.getD ((j - 1).toNat) default).Turn), .b ((data'.getD ((j - 1).toNat) default).Under)]) (off := 0) (q := 7) (k := j.toNat) (told_rfl 7 TPlaced.c data') au0 (data'.getD ((j - 1).toNat) default) (tab_get kr)) au0 (data'.getD j.toNat default) (tab_get kr))⟩ .nil)) (Cv.refl _)) ?_
     refine aw_region eqok [] [] [] [0, 1, 2, 3, 8, 9] [1000] [] ⟨[(0, .av (.one (.own 1000 7 (((data'.set j.toNat (data'.getD ((j - 1).toNat) default)).set ((j - 1).toNat) (data'.getD j.toNat default)).length)))), (1, tI 0), (2, tI n), (3, .av (.one (.clo 150 0 (fun _ => default)))), (8, tI i), (9, tI (W64 (j - 1)))], [(1000, .row 7 (((data'.set j.toNat (data'.getD ((j - 1).toNat) default)).set ((j - 1).toNat) (data'.getD j.toNat default)).length) (rowF TPlaced.c ((data'.set j.toNat (data'.getD ((j - 1).toNat) default)).set ((j - 1).toNat) (data'.getD j.toNat default))) 78)]⟩ .nil kr .nil ?_
     (try rw [(show W64 (j - 1) = j - 1 from W64_id (by omega) (by omega))])
     refine ath_n ?_
     refine ⟨(n1, (data'.set j.toNat (data'.getD ((j - 1).toNat) default)).set ((j - 1).toNat) (data'.getD j.toNat default), j - 1), ⟨?_, ?_, (by rw [<- hF1]; simp only [FInsP_l1, h2, cond_true, cond_false])⟩, Nat.lt_succ_self _, cv_eq kr⟩
     ·show (j - 1).toNat < n1; omega
     ·exact ⟨(by show 0 <= (j - 1); first | trivial | omega | exact at0 | exact at1 | exact at2 | (simp; omega) | simp), (by show ((data'.set j.toNat (data'.getD ((j - 1).toNat) default)).set ((j - 1).toNat) (data'.getD j.toNat default)).length = l.length; first | trivial | omega | exact at0 | exact at1 | exact at2 | (simp; omega) | simp), (by show (j - 1) < n; first | trivial | omega | exact at0 | exact at1 | exact at2 | (simp; omega) | simp)⟩
    ·refine aw_exit <| ath_e ?_
     refine ath_e <| abl_hit ?_
     refine abl_n <| ath_n ?_
     refine aw_region eqok [] [] [] [0, 1, 2, 3, 8] [1000] [] ⟨[(0, .av (.one (.own 1000 7 data'.length))), (1, tI 0), (2, tI n), (3, .av (.one (.clo 150 0 (fun _ => default)))), (8, tI (W64 (i + 1)))], [(1000, .row 7 data'.length (rowF TPlaced.c data') 78)]⟩ .nil kr .nil ?_
     (try rw [(show W64 (i + 1) = i + 1 from W64_id (by omega) (by omega))])
     refine ath_n ?_
     refine ⟨(n0, data', i + 1), ⟨?_, ?_, (by rw [<- hF1]; simp only [FInsP_l1, h2, cond_true, cond_false])⟩, Nat.lt_succ_self _, cv_eq kr⟩
     ·show (n - (i + 1)).toNat < n0; omega
     ·exact ⟨(by show 1 <= (i + 1); first | trivial | omega | exact at0 | exact at1 | exact at2 | (simp; omega) | simp), (by show data'.length = l.length; first | trivial | omega | exact at0 | exact at1 | exact at2 | (simp; omega) | simp), (by show 1 <= (i + 1); first | trivial | omega | exact at0 | exact at1 | exact at2 | (simp; omega) | simp), (by show ((i + 1) <= n \/ (i + 1) = 1); first | trivial | omega | exact at0 | exact at1 | exact at2 | (simp; omega) | simp)⟩
  ·have g1 := of_decide_eq_false h1
   refine aw_exit <| ath_e ?_
   refine ath_e <| abl_hit ?_
   exact ⟨_, Cv.refl _, .inr rfl, .tup [], by kernel_rfl, tve_eq rfl, .row 7 data.length (rowF TPlaced.c data) 78, by kernel_rfl, bke_rowlen (c := TPlaced.c) (xs := data) (by rw [<- hF0]; first | (simp only [FInsP_l0, h1, cond_true, cond_false] <;> rfl)) au11⟩
theorem FInsP_eq (l : List TPlaced) (n : Int) (hn : n = (l.length : Int)) : FInsP l n = isortB (fun x y => decide (FcmpP x y < 0)) l := by
 unfold FInsP
 cases l with
 | nil => subst hn; rfl
 | cons a l =>
  have h := ins_l0 (fun x y => decide (FcmpP x y < 0)) (a :: l) (FInsP_l0 (a :: l) n) id (fun m d i hi => by
   rw [FInsP_l0, decide_eq_false (by omega), cond_false]; rfl) (fun m i out rest x hi ho => by
   rw [FInsP_l0, decide_eq_true (by omega), cond_true]
   have h1 := ins_l1 (fun x y => decide (FcmpP x y < 0)) (FInsP_l1 (a :: l) n (out ++ x :: rest) i (FInsP_l0 (a :: l) n m)) (fun d => FInsP_l0 (a :: l) n m d ((i : Int) + 1)) (fun m d j => by
    rw [FInsP_l1, Int.toNat_natCast, show ((j : Int) - 1).toNat = j - 1 by omega]) out rest x i ((i : Int).toNat + 1) (by omega) (by omega)
   subst ho
   rw [List.take_length, List.drop_length, List.nil_append] at h1
   rw [h1]
   unfold insR
   rw [List.append_assoc]; rfl) ((a :: l).length - 1) ((n - 1).toNat + 1) 1 rfl (by simp) (by omega)
  exact h
theorem FInsP_len (l : List TPlaced) (n : Int) (hn : n = (l.length : Int)) (hl : l.length < 20) : (FInsP l n).length = l.length := by rw [FInsP_eq l n hn, isortB_len]
def Z0c (l : (List TPlaced)) (n : Int) : FuncId × List Av × Ef := (179, ([.one (.own 1000 7 l.length), .one (.i 0), .one (.i n), .one (.clo 150 0 (fun _ => default))] : List Av).map (renR 1000 1000), wrI 1000 (.row 7 l.length (rowF TPlaced.c l) 78) (.tup []) (.row 7 l.length (rowF TPlaced.c (FInsP l n)) 78))
def FStaP (l : (List TPlaced)) (n : Int) : (List TPlaced) := FInsP l n
theorem au9 {p : Prop} (h : p := by first | with_reducible assumption | omega | decide | (simp only [List.length_cons, List.length_nil, List.length_append]; omega) | assumption) : p := h
theorem pStaP (l : (List TPlaced)) (n : Int) (hn : n = (l.length : Int)) (hl : l.length < 20) : WrR Tryz.prog 166 1000 [.one (.own 1000 7 l.length), .one (.i n), .one (.clo 150 0 (fun _ => default))] 7 l.length (rowF TPlaced.c l) 78 (.tup []) (rowF TPlaced.c (FStaP l n)) := by
 refine wrR_of_awF Tryz.func166 rfl kr kr kr fun W0 M0 X hX => ?_
 refine aw_seq ?_
 refine aw_region eqok [] [] [] [0, 1, 2, 6] [1000] [] ⟨[(0, .av (.one (.own 1000 7 l.length))), (1, tI n), (2, .av (.one (.clo 150 0 (fun _ => default)))), (6, tI 20)], [(1000, .row 7 l.length (rowF TPlaced.c l) 78)]⟩ .nil kr .nil <| ath_n <| aw_seq ?_
 refine aw_region eqok [] [] [] [0, 1, 2, 6, 7, 8] [1000] [] ⟨[(0, .av (.one (.own 1000 7 l.length))), (1, tI n), (2, .av (.one (.clo 150 0 (fun _ => default)))), (6, tI 20), (7, tI 0), (8, tI 20)], [(1000, .row 7 l.length (rowF TPlaced.c l) 78)]⟩ .nil kr .nil <| ath_n ?_
 refine aw_seq <| aw_block ?_
 refine aw_unroll 1 ?_
 refine aw_round <| aw_seq <| aw_seq ?_
 refine aw_region eqok [] [] [] [0, 1, 2, 6, 7, 8, 13] [1000] [] ⟨[(0, .av (.one (.own 1000 7 l.length))), (1, tI n), (2, .av (.one (.clo 150 0 (fun _ => default)))), (6, tI 20), (7, tI 0), (8, tI 20), (13, tB (decide ((20 : Int) <= n)))], [(1000, .row 7 l.length (rowF TPlaced.c l) 78)]⟩ .nil kr .nil <| ath_n ?_
 have h1 : (decide ((20 : Int) <= n)) = false := decide_eq_false (by omega)
 have g1 := of_decide_eq_false h1
 refine aw_cond (decide ((20 : Int) <= n)) kr (fun h => absurd (h1.symm.trans h) (by decide)) (fun _ => ?_)
 refine aw_exit <| ath_e ?_
 refine ath_e <| abl_hit ?_
 refine ath_n <| aw_seq ?_
 refine aw_region eqok [] [] [(27, (Z0c l n))] [0, 1, 2, 6] [1000] [Same (Z0c l n).2.1, SameB (.row 7 l.length (rowF TPlaced.c l) 78)] ⟨[(0, .av (.one (.own 1000 7 l.length))), (1, tI n), (2, .av (.one (.clo 150 0 (fun _ => default)))), (6, tI 20)], [(1000, .row 7 l.length (rowF TPlaced.c (FInsP l n)) 78)]⟩ (.cons (callOk_wrR (fun _ _ => kr) kr (pInsP l n au9 au9)) .nil) kr (.cons rfl (.cons rfl .nil)) <| ath_n ?_
 refine aw_cv (Cv.trans (cv_ce (⟨[(0, .av (.one (.own 1000 7 ((FInsP l n).length)))), (1, tI n), (2, .av (.one (.clo 150 0 (fun _ => default)))), (6, tI 20)], [(1000, .row 7 ((FInsP l n).length) (rowF TPlaced.c (FInsP l n)) 78)]⟩) (.cons ⟨rfl, .av (.one (.own _ _ (FInsP_len l n au9 au9).symm))⟩ lr) (.cons ⟨rfl, bke_told 78 (⟨(FInsP_len l n au9 au9).symm, fun _ _ _ _ => .refl _⟩)⟩ .nil)) (Cv.refl _)) <| aw_block ?_
 refine aw_unroll 1 ?_
 refine aw_round <| aw_seq <| aw_seq ?_
 refine aw_region eqok [] [] [] [0, 1, 2, 6, 30] [1000] [] ⟨[(0, .av (.one (.own 1000 7 ((FInsP l n).length)))), (1, tI n), (2, .av (.one (.clo 150 0 (fun _ => default)))), (6, tI 20), (30, tB (decide ((20 : Int) < n)))], [(1000, .row 7 ((FInsP l n).length) (rowF TPlaced.c (FInsP l n)) 78)]⟩ .nil kr .nil <| ath_n ?_
 have h2 : (decide ((20 : Int) < n)) = false := decide_eq_false (by omega)
 have g2 := of_decide_eq_false h2
 refine aw_cond (decide ((20 : Int) < n)) kr (fun h => absurd (h2.symm.trans h) (by decide)) (fun _ => ?_)
 refine aw_exit <| ath_e ?_
 refine ath_e <| abl_hit ?_
 exact ⟨_, Cv.refl _, .inr rfl, .tup [], by kernel_rfl, tve_eq rfl, .row 7 ((FInsP l n).length) (rowF TPlaced.c (FInsP l n)) 78, by kernel_rfl, bke_rowlen (c := TPlaced.c) (xs := FInsP l n) (by first | (simp only [FStaP, h1, h2, cond_true, cond_false] <;> rfl)) (FInsP_len l n hn hl)⟩
theorem FStaP_len (l : List TPlaced) (n : Int) (hn : n = (l.length : Int)) (hl : l.length < 20) : (FStaP l n).length = l.length := FInsP_len l n hn hl
def Z0d (l : (List TPlaced)) : FuncId × List Av × Ef := (166, ([.one (.own 1000 7 l.length), .one (.i (((l.length : Nat) : Int))), .one (.clo 150 0 (fun _ => default))] : List Av).map (renR 1000 1000), wrI 1000 (.row 7 l.length (rowF TPlaced.c l) 78) (.tup []) (.row 7 l.length (rowF TPlaced.c (FStaP l (((l.length : Nat) : Int)))) 78))
def FSrtP (l : (List TPlaced)) : (List TPlaced) := FStaP l (((l.length : Nat) : Int))
theorem pSrtP (l : (List TPlaced)) (hl : l.length < 20) : WrR Tryz.prog 149 1000 [.one (.own 1000 7 l.length), .one (.clo 150 0 (fun _ => default))] 7 l.length (rowF TPlaced.c l) 78 (.tup []) (rowF TPlaced.c (FSrtP l)) := by
 refine wrR_of_awF Tryz.func149 rfl kr kr kr fun W0 M0 X hX => ?_
 refine aw_region eqok [] [] [(8, (Z0d l))] [] [1000] [Same (Z0d l).2.1, SameB (.row 7 l.length (rowF TPlaced.c l) 78)] ⟨[], [(1000, .row 7 l.length (rowF TPlaced.c (FStaP l (((l.length : Nat) : Int)))) 78)]⟩ (.cons (callOk_wrR (fun _ _ => kr) kr (pStaP l (((l.length : Nat) : Int)) au9 au9)) .nil) kr (.cons rfl (.cons rfl .nil)) ?_
 exact ⟨_, Cv.trans (cv_ce (⟨[], [(1000, .row 7 ((FStaP l (((l.length : Nat) : Int))).length) (rowF TPlaced.c (FStaP l (((l.length : Nat) : Int)))) 78)]⟩) .nil (.cons ⟨rfl, bke_told 78 (⟨(FStaP_len l (((l.length : Nat) : Int)) au9 au9).symm, fun _ _ _ _ => .refl _⟩)⟩ .nil)) (Cv.refl _), .inr rfl, .tup [], by kernel_rfl, tve_eq rfl, .row 7 ((FStaP l (((l.length : Nat) : Int))).length) (rowF TPlaced.c (FStaP l (((l.length : Nat) : Int)))) 78, by kernel_rfl, bke_rowlen (c := TPlaced.c) (xs := FStaP l (((l.length : Nat) : Int))) (by rfl) (FStaP_len l _ rfl hl)⟩
theorem FSrtP_len (l : List TPlaced) (hl : l.length < 20) : (FSrtP l).length = l.length := FStaP_len l _ rfl hl
end
end Go.Proofs.YtheobjkgllmnmaaGreat
