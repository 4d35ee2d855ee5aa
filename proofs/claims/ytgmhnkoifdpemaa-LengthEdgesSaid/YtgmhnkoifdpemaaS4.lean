/-
  No statement is proved in this text. It shows that the model does what the effects say: the other operations.
-/
import Derived.Test.YtgmhnkoifdpemaaS3
import Derived.Laws.OwnMore
namespace Go.Proofs.Ytgmhnkoifdpemaa
open Go.RowKit

section
variable {P : Program} {M : Nat → Option Obj} {σ : Nat → Loc} {w : World} {h : Nat → Option Blk} {a : Act} {o : Oper} {cs : List Prop} {g : Eg} {e : Ef}

theorem RA_i {k : IntKind} {n : Int} {V : Value} (hx : RT M σ (.av (.one (.val (.int k n)))) V) : V = .int k n := hx.1
theorem RA_b {n : Bool} {V : Value} (hx : RT M σ (.av (.one (.val (.bool n)))) V) : V = .bool n := hx.1
theorem R_v {v : Value} (h1 : v.oneCell' = true) : RT M σ (.av (.one (.val v))) v := ⟨rfl, h1⟩

/-! ### New variables -/
theorem new_cells {l : List Cl} {vs : List Value} (T : TypeId) (hs : Std M σ w h) {d : Nat} (hd : o.dst = some d) (hl : L2 (R M σ) l vs) (hno : l.all (Cl.no d) = true)
    (hr : (execOp a.eval o).run P w = .ok (.value (.pointer (some ⟨w.heap.size, 0, none⟩))) (w.alloc (.cells vs.toArray T))) : Good P M σ o a w (.new (.cells l T) fun d => .av (.one (.ptr d 0))) := by
  have hMno : M w.heap.size = none := by
    cases hm : M w.heap.size with
    | none => rfl
    | some x => have := (Array.getElem?_eq_some_iff.1 (hs.imm _ _ hm)).1; omega
  refine .inl ⟨_, _, hr, M, upd σ d ⟨w.heap.size, 0, false⟩, ⟨w.heap.size, 0, false⟩, d, hd, ⟨rfl, rfl, rfl, by simp, fun b hb _ => Below.heap_alloc _ _ _ hb, fun _ _ h => h, fun _ _ h h' => by (rw [h] at h'; cases h'), fun b o hm => ?_⟩, .inr ⟨Nat.le_refl _, hMno⟩, rfl, ⟨rfl, vs, ?_, ?_⟩, ?_⟩
  · rw [Below.heap_alloc _ _ _ (Array.getElem?_eq_some_iff.1 (hs.imm _ _ hm)).1]; exact hs.imm _ _ hm
  · show (w.heap.push _)[w.heap.size]? = _; simp
  · refine hl.mono fun c hc v hv => R_mono (fun _ _ h => h) (fun d' hd' => ?_) hv
    refine upd_ne _ _ fun e => ?_
    subst e
    rw [(List.all_eq_true.1 hno) c hc] at hd'
    cases hd'
  · show _ = Value.pointer (some ⟨(upd σ d ⟨w.heap.size, 0, false⟩ d).b, 0, none⟩)
    rw [upd_same]
theorem zeroOf_ok {T : TypeId} {z : List Cl} (hz : zeroOf P T = some z) : ∃ i v, P.info? T = some i ∧ i.zero = some v ∧ L2 (R M σ) z v.cells.toList ∧ z = v.cells.toList.map Cl.val ∧ (zeroValue T).run P w = .ok v w := by
  unfold zeroOf at hz
  split at hz
  · rename_i i hi
    split at hz
    · rename_i v hv
      cases hall : v.cells.toList.all Value.oneCell' with
      | false => rw [hall] at hz; cases hz
      | true =>
        rw [hall] at hz
        simp only [cond_true, Option.some.injEq] at hz
        subst hz
        exact ⟨i, v, hi, hv, L2_vals M σ _ hall, rfl, by simp [zeroValue, typeInfo, hi, hv]⟩
    · cases hz
  · cases hz
theorem alloc_ok {T : TypeId} {z : List Cl} (ho : o.op = .alloc T) (hz : zeroOf P T = some z) (hs : Std M σ w h) {d : Nat} (hd : o.dst = some d) : Good P M σ o a w (.new (.cells z T) fun d => .av (.one (.ptr d 0))) := by
  obtain ⟨i, v, hi, hv, hl, hzv, hr⟩ := zeroOf_ok (M := M) (σ := σ) (w := w) hz
  refine new_cells T hs hd hl ?_ ?_
  · rw [hzv]; simp [List.all_map, Cl.no, Function.comp_def]
  · simp only [execOp, ho, Instr.alloc, Sem.run_bind, hr, Result.andThen_ok, newVar, newRow, run_newObj, Sem.run_pure, Array.toArray_toList]
    rfl
theorem box_ok {T : TypeId} {x : Operand} {v : Av} (ho : o.op = .box T x) (hx : RA M σ v (a.eval x)) (hs : Std M σ w h) {d : Nat} (hd : o.dst = some d) (hno : v.cells.all (Cl.no d) = true) : Good P M σ o a w (.new (.cells v.cells T) fun d => .av (.one (.ptr d 0))) := by
  refine new_cells T hs hd (RA_cells hx) hno ?_
  simp only [execOp, ho, Instr.box, Sem.run_bind, Result.andThen_ok, newVar, newRow, run_newObj, Sem.run_pure, Array.toArray_toList]
  rfl

/-! ### Addresses -/
theorem fieldPlace_ok {b off : Nat} {fd : Field} {s : Nat} {ag : Bool} {dd : TypeDesc} (ht : ti P fd.type = some ⟨s, ag, dd⟩) (hne : Nat.beq s 0 = false) : (fieldPlace ⟨b, off, none⟩ fd).run P w = .ok ⟨b, off + fd.offset, none⟩ w := by
  obtain ⟨h1, _⟩ := run_ti ht w
  have : ¬ s = 0 := fun e => by subst e; simp [Nat.beq] at hne
  simp only [fieldPlace, Sem.run_bind, h1, Result.andThen_ok, this, if_false, Sem.run_pure, Addr.add_lit]
def PtrIs (M : Nat → Option Obj) (σ : Nat → Loc) : Tv → Value → Prop
  | .av (.one (.ptr n off)), V => V = .pointer (some ⟨(σ n).b, off, none⟩)
  | .av (.one (.rptr n sz i off)), V => V = .pointer (some ⟨(σ n).b, i * sz + off, none⟩)
  | .av (.one (.eptr sz _ f i off)), V => ∃ b base, V = .pointer (some ⟨b, base + off, none⟩) ∧ ∀ k len', RC M (.eptr sz len' f i k) (.pointer (some ⟨b, base + k, none⟩))
  | _, _ => True
theorem R_ptr {x : Tv} {V : Value} (hx : RT M σ x V) : PtrIs M σ x V := by
  unfold PtrIs
  split
  · exact hx
  · exact hx
  · have hx' : RC M _ V := hx
    cases hx' with
    | eptr _ _ _ _ _ b base gv h1 h2 => exact ⟨b, base, rfl, fun k len' => .eptr _ _ _ _ _ b base gv h1 h2⟩
  · trivial
theorem fieldAddr_ok {T : TypeId} {p : Operand} {k : Nat} {x : Tv} (ho : o.op = .fieldAddr T p k) (hx : RT M σ x (a.eval p)) (he : effFieldAddr P T x k = some e) (hs : Std M σ w h) (hr : res h e = some (cs, g)) : Good P M σ o a w g := by
  unfold effFieldAddr at he
  split at he
  · rename_i s0 ag0 fs ht
    split at he
    · rename_i fd hf
      split at he
      · rename_i s ag dd hft
        obtain ⟨_, _, hu, _, _⟩ := run_ti ht w
        cases hb : Nat.beq s 0 with
        | true => rw [hb] at he; cases he
        | false =>
          rw [hb] at he
          simp only [cond_false] at he
          have hp := R_ptr hx
          split at he <;> first | (cases he; done) | skip
          all_goals
            simp only [Option.some.injEq] at he
            subst he
            obtain ⟨rfl, rfl⟩ := res_val hr
          · have hp : a.eval p = _ := hp
            refine good_val hs.imm (V := .pointer (some ⟨_, _, none⟩)) ?_ rfl
            simp only [execOp, ho, hp, Instr.fieldAt, Instr.sureAddr, Sem.run_bind, hu, Result.andThen_ok, hf, Sem.run_pure, fieldPlace_ok hft hb]
          · have hp : a.eval p = _ := hp
            refine good_val hs.imm (V := .pointer (some ⟨_, _, none⟩)) ?_ rfl
            simp only [execOp, ho, hp, Instr.fieldAt, Instr.sureAddr, Sem.run_bind, hu, Result.andThen_ok, hf, Sem.run_pure, fieldPlace_ok hft hb, Nat.add_assoc]
          · obtain ⟨b, base, hV, hall⟩ := hp
            refine good_val hs.imm (V := .pointer (some ⟨_, _, none⟩)) ?_ (hall (_ + fd.offset) _)
            simp only [execOp, ho, hV, Instr.fieldAt, Instr.sureAddr, Sem.run_bind, hu, Result.andThen_ok, hf, Sem.run_pure, fieldPlace_ok hft hb, Nat.add_assoc]
      · cases he
    · cases he
  · cases he
theorem indexAddr_ok {T : TypeId} {p q : Operand} {x y : Tv} (ho : o.op = .indexAddr T p q) (hx : RT M σ x (a.eval p)) (hy : RT M σ y (a.eval q)) (he : effIndexAddr P T x y = some e) (hs : Std M σ w h) (hr : res h e = some (cs, g)) (hc : AllP cs) : Good P M σ o a w g := by
  unfold effIndexAddr at he
  split at he
  · rename_i s0 ag0 n el k ix ht
    obtain ⟨_, _, hu, _, _⟩ := run_ti ht w
    have hq := RA_i hy
    split at he
    · rename_i t hte
      obtain ⟨h1, _⟩ := run_ti hte w
      have hp := R_ptr hx
      split at he <;> first | (cases he; done) | skip
      all_goals
        simp only [Option.some.injEq] at he
        subst he
        obtain ⟨rfl, rfl⟩ := res_val hr
        have hin := hc.head
      · have hp : a.eval p = _ := hp
        refine good_val hs.imm (V := .pointer (some ⟨_, _, none⟩)) ?_ rfl
        simp only [execOp, ho, hp, hq, Instr.indexAt, Instr.sureAddr, asIntOf, Sem.run_bind, hu, Result.andThen_ok, Sem.run_pure, hin, and_self, if_true, h1, Addr.add_lit]
      · have hp : a.eval p = _ := hp
        refine good_val hs.imm (V := .pointer (some ⟨_, _, none⟩)) ?_ rfl
        simp only [execOp, ho, hp, hq, Instr.indexAt, Instr.sureAddr, asIntOf, Sem.run_bind, hu, Result.andThen_ok, Sem.run_pure, hin, and_self, if_true, h1, Addr.add_lit, Nat.add_assoc]
      · obtain ⟨b, base, hV, hall⟩ := hp
        refine good_val hs.imm (V := .pointer (some ⟨_, _, none⟩)) ?_ (hall (_ + ix.toNat * t.size) _)
        simp only [execOp, ho, hV, hq, Instr.indexAt, Instr.sureAddr, asIntOf, Sem.run_bind, hu, Result.andThen_ok, Sem.run_pure, hin, and_self, if_true, h1, Addr.add_lit, Nat.add_assoc]
    · cases he
  · rename_i s0 ag0 el k ix ht
    obtain ⟨_, _, hu, _, _⟩ := run_ti ht w
    have hq := RA_i hy
    split at he
    · rename_i t hte
      obtain ⟨h1, _⟩ := run_ti hte w
      split at he <;> first | (cases he; done) | skip
      · rename_i tg sz len f
        cases hb : Nat.beq sz t.size with
        | false => rw [hb] at he; cases he
        | true =>
          rw [hb] at he
          have hsz := Nat.eq_of_beq_eq_true hb
          simp only [cond_true, Option.some.injEq] at he
          subst he
          obtain ⟨rfl, rfl⟩ := res_val hr
          have hin := hc.head
          have hx' : RC M (.list tg sz len f) (a.eval p) := hx
          generalize hV0 : a.eval p = V0 at hx'
          cases hx' with
          | nil => exact absurd hin (by omega)
          | mt => exact absurd hin (by omega)
          | list _ _ _ _ b off cap gv g1 g2 g4 =>
            have hi : ix.toNat < len := by omega
            refine good_val hs.imm (V := .pointer (some ⟨b, off + ix.toNat * sz + 0, none⟩)) ?_ (show RC M _ _ from .eptr sz len f ix.toNat 0 b (off + ix.toNat * sz) (gv ix.toNat) (fun j hj => by rw [Nat.add_assoc]; exact g1 _ _ hi hj) (fun j hj => g2 _ _ hi hj))
            simp only [execOp, ho, hV0, hq, Instr.indexAt, Instr.sureAddr, asIntOf, Sem.run_bind, hu, Result.andThen_ok, Sem.run_pure, hin, and_self, if_true, h1, Addr.add_lit, hsz, Nat.add_zero]
      · rename_i m sz len
        cases hb : Nat.beq sz t.size with
        | false => rw [hb] at he; cases he
        | true =>
          rw [hb] at he
          have hsz := Nat.eq_of_beq_eq_true hb
          simp only [cond_true, Option.some.injEq] at he
          subst he
          obtain ⟨rfl, rfl⟩ := res_val hr
          have hin := hc.head
          have hx' : R M σ (.own m sz len) (a.eval p) := hx
          simp only [R] at hx'
          split at hx'
          · exact absurd hin (by omega)
          · refine good_val hs.imm (V := .pointer (some ⟨(σ m).b, ix.toNat * sz + 0, none⟩)) ?_ rfl
            simp only [execOp, ho, hx', hq, Instr.indexAt, Instr.sureAddr, asIntOf, Sem.run_bind, hu, Result.andThen_ok, Sem.run_pure, hin, and_self, if_true, h1, Addr.add_lit, hsz, Nat.add_zero, Nat.zero_add]
    · cases he
  · cases he

/-! ### Parts -/
theorem partC_ok {t : TI} {T : TypeId} (ht : ti P T = some t) {l : List Cl} {vs : List Value} (hl : L2 (R M σ) l vs) {off : Nat} {v : Av} (hp : partC t l off = some v) : ∃ V, (part T vs.toArray off).run P w = .ok V w ∧ RA M σ v V := by
  obtain ⟨h1, h2, _⟩ := run_ti ht w
  unfold partC at hp
  simp only [part, Sem.run_bind, h2, Result.andThen_ok]
  cases ha : t.agg with
  | true =>
    rw [ha] at hp
    simp only [cond_true] at hp
    cases hb : Nat.ble (off + t.size) l.length with
    | false => rw [hb] at hp; cases hp
    | true =>
      rw [hb] at hp
      simp only [cond_true, Option.some.injEq] at hp
      subst hp
      simp only [if_true, Sem.run_bind, h1, Result.andThen_ok, Sem.run_pure]
      refine ⟨_, rfl, (vs.drop off).take t.size, ?_, (hl.drop off).take t.size⟩
      simp [List.extract_toArray]
  | false =>
    rw [ha] at hp
    simp only [cond_false] at hp
    cases hg : l[off]? with
    | none => rw [hg] at hp; cases hp
    | some c =>
      rw [hg] at hp
      simp only [Option.map_some, Option.some.injEq] at hp
      subst hp
      obtain ⟨u, hu, hR⟩ := hl.get off c hg
      refine ⟨u, ?_, hR⟩
      simp [hu]
theorem field_ok {T : TypeId} {p : Operand} {k : Nat} {x : Tv} (ho : o.op = .field T p k) (hx : RT M σ x (a.eval p)) (he : effField P T x k = some e) (hs : Std M σ w h) (hr : res h e = some (cs, g)) : Good P M σ o a w g := by
  unfold effField at he
  split at he
  · rename_i s0 ag0 fs l ht
    obtain ⟨_, _, hu, _, _⟩ := run_ti ht w
    obtain ⟨vs, hV, hl⟩ := hx
    split at he
    · rename_i fd hf
      split at he
      · rename_i t hft
        cases hp : partC t l fd.offset with
        | none => rw [hp] at he; cases he
        | some v =>
          rw [hp] at he
          simp only [Option.map_some, Option.some.injEq] at he
          subst he
          obtain ⟨rfl, rfl⟩ := res_val hr
          obtain ⟨V, hV2, hR⟩ := partC_ok (w := w) hft hl hp
          refine good_val hs.imm (V := V) ?_ hR
          simp only [execOp, ho, hV, Instr.field, asAgg, Sem.run_bind, hu, Result.andThen_ok, hf, Sem.run_pure, hV2]
      · cases he
    · cases he
  · cases he
theorem extract_ok {p : Operand} {k : Nat} {l : List Av} {v : Av} (ho : o.op = .extract p k) (hx : RT M σ (.tup l) (a.eval p)) (hv : l[k]? = some v) (hs : Std M σ w h) (hr : res h (.val [] (.av v)) = some (cs, g)) : Good P M σ o a w g := by
  obtain ⟨vs, hV, hl⟩ := hx
  obtain ⟨rfl, rfl⟩ := res_val hr
  obtain ⟨u, hu, hR⟩ := hl.get k v hv
  refine good_val hs.imm (V := u) ?_ hR
  simp [execOp, ho, hV, Instr.extract, hu]
end
end Go.Proofs.Ytgmhnkoifdpemaa
