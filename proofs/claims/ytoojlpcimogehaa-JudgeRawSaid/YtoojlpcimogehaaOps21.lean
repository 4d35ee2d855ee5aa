/-
  No statement is proved in this text. It shows that judge.operators returns the map of operators.
-/
import Derived.Test.YtoojlpcimogehaaProg
import Derived.Test.YtoojlpcimogehaaK21a
namespace Go.Proofs.Ytoojlpcimogehaa
open Go.RowKit Go.MapKept
theorem ins_run {w : World} {b : Nat} {es : Array MapEntry} {clock : Nat} (k : Int) (v : Value) (hb : w.heap[b]? = some (.map es clock)) (hne : ∀ e ∈ es.toList, IsKey (.int .i64) e.key ∧ e.key ≠ .int .i64 k) :
    (Instr.mapUpdate 87 (.map (some b)) (.int .i64 k) v).run Try.prog w = .ok () { w with heap := w.heap.setIfInBounds b (.map (es.push { key := .int .i64 k, val := v, born := clock }) (clock + 1)) } := by
  have h1 : Try.prog.underlying 87 = some (.map 3 114) := Try.underlying87
  have h2 : Try.prog.underlying 3 = some (.int .i64) := Try.underlying3
  have h3 := run_findKey (P := Try.prog) (w := w) h2 (findNow_none (kd := .int .i64) (key := .int .i64 k) rfl es.toList 0 (fun e he => (hne e he).1) (fun e he => (hne e he).2))
  have h4 := run_checkKey (P := Try.prog) (w := w) h2 (k := .int .i64 k) rfl false 9999
  simp only [Instr.mapUpdate, Sem.run_bind, run_underlying h1, Result.andThen_ok, Go.MapKept.run_getObj_map hb, h4, h3, run_setObj_map _ hb]
set_option maxRecDepth 100000 in
theorem bld_run (f : Nat) (w : World) : (Instr.build 114 #[(0, .func (.func f) #[] #[])]).run Try.prog w = .ok (.agg #[.func (.func f) #[] #[]]) w := by
  kernel_rfl
structure St (w0 : World) (es : Array MapEntry) (clock : Nat) (w : World) : Prop where
  os : w.os = w0.os
  tape : w.tape = w0.tape
  output : w.output = w0.output
  size : w0.heap.size ≤ w.heap.size
  old : ∀ b, b < w0.heap.size → w.heap[b]? = w0.heap[b]?
  at_ : w.heap[w0.heap.size]? = some (.map es clock)
theorem step_ins {w0 w : World} {ops : Array Oper} {rest : List Oper} {o : Oper} {a : Act} {Q : Exit → Act → World → Prop} {es : Array MapEntry} {clock : Nat} (k : Int) (t : Nat) (v : Value) (hg : o.guard = none) (hd : o.dst = none) (hop : o.op = .insert 87 (.tmp 1) (.const (.int .i64 k)) (.tmp t))
    (hm : a.tmps.getD 1 undef = .map (some w0.heap.size)) (hv : a.tmps.getD t undef = v) (hs : St w0 es clock w) (hne : ∀ e ∈ es.toList, IsKey (.int .i64) e.key ∧ e.key ≠ .int .i64 k)
    {es' : Array MapEntry} (hes : es.push { key := .int .i64 k, val := v, born := clock } = es') (h : ∀ w', St w0 es' (clock + 1) w' → wpList Try.prog ops Q rest a w') : wpList Try.prog ops Q (o :: rest) a w := by
  subst hes
  refine wpList_step fun K hK => ?_
  rw [if_pos (by simp [Region.wanted, hg])]
  have hrun : (execOp a.eval o).run Try.prog w = .ok .skip { w with heap := w.heap.setIfInBounds w0.heap.size (.map (es.push { key := .int .i64 k, val := v, born := clock }) (clock + 1)) } := by
    simp only [execOp, hop, Act.eval, hm, hv, Sem.run_bind, ins_run k v hs.at_ hne, Result.andThen_ok, Sem.run_pure]
  unfold Oper.wp
  rw [hrun]
  have hlt : w0.heap.size < w.heap.size := (Array.getElem?_eq_some_iff.1 hs.at_).1
  have := hK _ _ (h { w with heap := w.heap.setIfInBounds w0.heap.size (.map (es.push { key := .int .i64 k, val := v, born := clock }) (clock + 1)) } ⟨hs.os, hs.tape, hs.output, by simpa using hs.size, fun b hb => by
    show (w.heap.setIfInBounds _ _)[b]? = _
    rw [Array.getElem?_setIfInBounds_ne (by omega)]; exact hs.old b hb, by
    show (w.heap.setIfInBounds _ _)[w0.heap.size]? = _
    simp [hlt]⟩)
  show K (a.put o.dst undef) _
  rw [hd]
  exact this
theorem step_val {w : World} {ops : Array Oper} {rest : List Oper} {o : Oper} {a : Act} {Q : Exit → Act → World → Prop} {d : Nat} {v : Value} (hg : o.guard = none) (hd : o.dst = some d) (hrun : (execOp a.eval o).run Try.prog w = .ok (.value v) w)
    {a' : Act} (ha : a.put (some d) v = a') (h : wpList Try.prog ops Q rest a' w) : wpList Try.prog ops Q (o :: rest) a w := by
  subst ha
  refine wpList_step fun K hK => ?_
  rw [if_pos (by simp [Region.wanted, hg])]
  unfold Oper.wp
  rw [hrun]
  show K (a.put o.dst v) _
  rw [hd]
  exact hK _ _ h
theorem bld_op (o : Oper) (a : Act) (f : Nat) (w : World) (hop : o.op = .build 114 #[(0, .func f)]) : (execOp a.eval o).run Try.prog w = .ok (.value (.agg #[.func (.func f) #[] #[]])) w := by
  simp only [execOp, hop, Sem.run_bind]
  rw [show ((#[(0, Operand.func f)] : Array (Nat × Operand)).map fun x => (x.1, a.eval x.2)) = #[(0, .func (.func f) #[] #[])] from by simp [Act.eval], bld_run f w]
  rfl
def opsE : Array MapEntry := #[{ key := .int .i64 1, val := .agg #[.func (.func 51) #[] #[]], born := 0 }, { key := .int .i64 2, val := .agg #[.func (.func 52) #[] #[]], born := 1 }, { key := .int .i64 3, val := .agg #[.func (.func 53) #[] #[]], born := 2 }, { key := .int .i64 4, val := .agg #[.func (.func 57) #[] #[]], born := 3 }, { key := .int .i64 5, val := .agg #[.func (.func 58) #[] #[]], born := 4 }, { key := .int .i64 6, val := .agg #[.func (.func 59) #[] #[]], born := 5 }, { key := .int .i64 7, val := .agg #[.func (.func 60) #[] #[]], born := 6 }]
set_option maxRecDepth 10000 in
set_option maxHeartbeats 4000000 in
theorem pOps : Pure Try.prog 32 [] (.av (.one opsMap)) := by
  intro M σ w args himm hargs
  cases hargs
  go_enter Try.func32, Try.ntmps32
  go_wp2
  rename_i Q' K1 hK1 K hK
  have h0 : (Instr.makeMap 87 none).run Try.prog w = .ok (.map (some w.heap.size)) (w.alloc (.map #[] 0)) := rfl
  rw [h0]
  show K _ _
  have hst : St w #[] 0 (w.alloc (.map #[] 0)) := ⟨rfl, rfl, rfl, by simp, fun b hb => Below.heap_alloc _ _ _ hb, by show (w.heap.push _)[w.heap.size]? = _; simp⟩
  refine hK _ _ ?_
  clear hK h0
  revert hst
  generalize w.alloc (.map #[] 0) = w1
  intro hst
  refine (show wpList _ _ _ _ ⟨#[.map none, .map (some w.heap.size), undef, undef, undef, undef, undef, undef, undef, undef], []⟩ _ from ?_)
  refine step_val rfl rfl (bld_op _ _ 51 _ rfl) (a' := ⟨#[.map none, .map (some w.heap.size), .agg #[.func (.func 51) #[] #[]], undef, undef, undef, undef, undef, undef, undef], []⟩) rfl ?_
  refine step_ins (w0 := w) (es' := #[{ key := .int .i64 1, val := .agg #[.func (.func 51) #[] #[]], born := 0 }]) 1 2 (.agg #[.func (.func 51) #[] #[]]) rfl rfl rfl rfl rfl hst (by simp [IsKey]) rfl fun w2 hst => ?_
  refine step_val rfl rfl (bld_op _ _ 52 _ rfl) (a' := ⟨#[.map none, .map (some w.heap.size), .agg #[.func (.func 51) #[] #[]], .agg #[.func (.func 52) #[] #[]], undef, undef, undef, undef, undef, undef], []⟩) rfl ?_
  refine step_ins (w0 := w) (es' := #[{ key := .int .i64 1, val := .agg #[.func (.func 51) #[] #[]], born := 0 }, { key := .int .i64 2, val := .agg #[.func (.func 52) #[] #[]], born := 1 }]) 2 3 (.agg #[.func (.func 52) #[] #[]]) rfl rfl rfl rfl rfl hst (by simp [IsKey]) rfl fun w3 hst => ?_
  refine step_val rfl rfl (bld_op _ _ 53 _ rfl) (a' := ⟨#[.map none, .map (some w.heap.size), .agg #[.func (.func 51) #[] #[]], .agg #[.func (.func 52) #[] #[]], .agg #[.func (.func 53) #[] #[]], undef, undef, undef, undef, undef], []⟩) rfl ?_
  refine step_ins (w0 := w) (es' := #[{ key := .int .i64 1, val := .agg #[.func (.func 51) #[] #[]], born := 0 }, { key := .int .i64 2, val := .agg #[.func (.func 52) #[] #[]], born := 1 }, { key := .int .i64 3, val := .agg #[.func (.func 53) #[] #[]], born := 2 }]) 3 4 (.agg #[.func (.func 53) #[] #[]]) rfl rfl rfl rfl rfl hst (by simp [IsKey]) rfl fun w4 hst => ?_
  refine step_val rfl rfl (bld_op _ _ 57 _ rfl) (a' := ⟨#[.map none, .map (some w.heap.size), .agg #[.func (.func 51) #[] #[]], .agg #[.func (.func 52) #[] #[]], .agg #[.func (.func 53) #[] #[]], .agg #[.func (.func 57) #[] #[]], undef, undef, undef, undef], []⟩) rfl ?_
  refine step_ins (w0 := w) (es' := #[{ key := .int .i64 1, val := .agg #[.func (.func 51) #[] #[]], born := 0 }, { key := .int .i64 2, val := .agg #[.func (.func 52) #[] #[]], born := 1 }, { key := .int .i64 3, val := .agg #[.func (.func 53) #[] #[]], born := 2 }, { key := .int .i64 4, val := .agg #[.func (.func 57) #[] #[]], born := 3 }]) 4 5 (.agg #[.func (.func 57) #[] #[]]) rfl rfl rfl rfl rfl hst (by simp [IsKey]) rfl fun w5 hst => ?_
  refine step_val rfl rfl (bld_op _ _ 58 _ rfl) (a' := ⟨#[.map none, .map (some w.heap.size), .agg #[.func (.func 51) #[] #[]], .agg #[.func (.func 52) #[] #[]], .agg #[.func (.func 53) #[] #[]], .agg #[.func (.func 57) #[] #[]], .agg #[.func (.func 58) #[] #[]], undef, undef, undef], []⟩) rfl ?_
  refine step_ins (w0 := w) (es' := #[{ key := .int .i64 1, val := .agg #[.func (.func 51) #[] #[]], born := 0 }, { key := .int .i64 2, val := .agg #[.func (.func 52) #[] #[]], born := 1 }, { key := .int .i64 3, val := .agg #[.func (.func 53) #[] #[]], born := 2 }, { key := .int .i64 4, val := .agg #[.func (.func 57) #[] #[]], born := 3 }, { key := .int .i64 5, val := .agg #[.func (.func 58) #[] #[]], born := 4 }]) 5 6 (.agg #[.func (.func 58) #[] #[]]) rfl rfl rfl rfl rfl hst (by simp [IsKey]) rfl fun w6 hst => ?_
  refine step_val rfl rfl (bld_op _ _ 59 _ rfl) (a' := ⟨#[.map none, .map (some w.heap.size), .agg #[.func (.func 51) #[] #[]], .agg #[.func (.func 52) #[] #[]], .agg #[.func (.func 53) #[] #[]], .agg #[.func (.func 57) #[] #[]], .agg #[.func (.func 58) #[] #[]], .agg #[.func (.func 59) #[] #[]], undef, undef], []⟩) rfl ?_
  refine step_ins (w0 := w) (es' := #[{ key := .int .i64 1, val := .agg #[.func (.func 51) #[] #[]], born := 0 }, { key := .int .i64 2, val := .agg #[.func (.func 52) #[] #[]], born := 1 }, { key := .int .i64 3, val := .agg #[.func (.func 53) #[] #[]], born := 2 }, { key := .int .i64 4, val := .agg #[.func (.func 57) #[] #[]], born := 3 }, { key := .int .i64 5, val := .agg #[.func (.func 58) #[] #[]], born := 4 }, { key := .int .i64 6, val := .agg #[.func (.func 59) #[] #[]], born := 5 }]) 6 7 (.agg #[.func (.func 59) #[] #[]]) rfl rfl rfl rfl rfl hst (by simp [IsKey]) rfl fun w7 hst => ?_
  refine step_val rfl rfl (bld_op _ _ 60 _ rfl) (a' := ⟨#[.map none, .map (some w.heap.size), .agg #[.func (.func 51) #[] #[]], .agg #[.func (.func 52) #[] #[]], .agg #[.func (.func 53) #[] #[]], .agg #[.func (.func 57) #[] #[]], .agg #[.func (.func 58) #[] #[]], .agg #[.func (.func 59) #[] #[]], .agg #[.func (.func 60) #[] #[]], undef], []⟩) rfl ?_
  refine step_ins (w0 := w) (es' := #[{ key := .int .i64 1, val := .agg #[.func (.func 51) #[] #[]], born := 0 }, { key := .int .i64 2, val := .agg #[.func (.func 52) #[] #[]], born := 1 }, { key := .int .i64 3, val := .agg #[.func (.func 53) #[] #[]], born := 2 }, { key := .int .i64 4, val := .agg #[.func (.func 57) #[] #[]], born := 3 }, { key := .int .i64 5, val := .agg #[.func (.func 58) #[] #[]], born := 4 }, { key := .int .i64 6, val := .agg #[.func (.func 59) #[] #[]], born := 5 }, { key := .int .i64 7, val := .agg #[.func (.func 60) #[] #[]], born := 6 }]) 7 8 (.agg #[.func (.func 60) #[] #[]]) rfl rfl rfl rfl rfl hst (by simp [IsKey]) rfl fun w8 hst => ?_
  refine step_val (v := .map (some w.heap.size)) rfl rfl rfl (a' := ⟨#[.map none, .map (some w.heap.size), .agg #[.func (.func 51) #[] #[]], .agg #[.func (.func 52) #[] #[]], .agg #[.func (.func 53) #[] #[]], .agg #[.func (.func 57) #[] #[]], .agg #[.func (.func 58) #[] #[]], .agg #[.func (.func 59) #[] #[]], .agg #[.func (.func 60) #[] #[]], .map (some w.heap.size)], []⟩) rfl ?_
  refine step_val (v := .map (some w.heap.size)) rfl rfl rfl (a' := ⟨#[.map (some w.heap.size), .map (some w.heap.size), .agg #[.func (.func 51) #[] #[]], .agg #[.func (.func 52) #[] #[]], .agg #[.func (.func 53) #[] #[]], .agg #[.func (.func 57) #[] #[]], .agg #[.func (.func 58) #[] #[]], .agg #[.func (.func 59) #[] #[]], .agg #[.func (.func 60) #[] #[]], .map (some w.heap.size)], []⟩) rfl ?_
  refine wpList_nil ?_
  refine hK1 _ _ ?_
  refine wp_ret ?_
  refine ⟨rfl, .map (some w.heap.size), results_tmp (fn := Try.f32) (t := 0) rfl _ _ _, _, rfl, upd M w.heap.size (some (.map opsE 7)), ⟨hst.os, hst.tape, hst.output, hst.size, fun b hb _ => hst.old b hb, fun b o hm => ?_, fun b o hm hn => ?_, fun b o hm => ?_⟩, fun σ' => ?_⟩
  · have : b ≠ w.heap.size := fun e => by subst e; have := (Array.getElem?_eq_some_iff.1 (himm _ _ hm)).1; omega
    rw [upd_ne _ _ this]; exact hm
  · by_cases e : b = w.heap.size
    · omega
    · rw [upd_ne _ _ e, hn] at hm; cases hm
  · by_cases e : b = w.heap.size
    · subst e; rw [upd_same] at hm; injection hm with hm; subst hm; exact hst.at_
    · rw [upd_ne _ _ e] at hm
      rw [hst.old b (Array.getElem?_eq_some_iff.1 (himm _ _ hm)).1]; exact himm _ _ hm
  · show RC _ opsMap _
    refine .mp true 1 7 opsK opsV w.heap.size opsE 7 (fun i _ => (match i with
      | 0 => .func (.func 51) #[] #[]
      | 1 => .func (.func 52) #[] #[]
      | 2 => .func (.func 53) #[] #[]
      | 3 => .func (.func 57) #[] #[]
      | 4 => .func (.func 58) #[] #[]
      | 5 => .func (.func 59) #[] #[]
      | 6 => .func (.func 60) #[] #[]
      | _ => undef)) (upd_same _ _ _) rfl (fun i e he => ?_) (fun i j hi hj => ?_)
    · have hi : i < 7 := (Array.getElem?_eq_some_iff.1 he).1
      match i, hi with
      | 0, _ => cases he; exact ⟨rfl, rfl⟩
      | 1, _ => cases he; exact ⟨rfl, rfl⟩
      | 2, _ => cases he; exact ⟨rfl, rfl⟩
      | 3, _ => cases he; exact ⟨rfl, rfl⟩
      | 4, _ => cases he; exact ⟨rfl, rfl⟩
      | 5, _ => cases he; exact ⟨rfl, rfl⟩
      | 6, _ => cases he; exact ⟨rfl, rfl⟩
    · match i, hi with
      | 0, _ => exact .clo _ 0 _ #[] rfl (fun i hi => absurd hi (by omega))
      | 1, _ => exact .clo _ 0 _ #[] rfl (fun i hi => absurd hi (by omega))
      | 2, _ => exact .clo _ 0 _ #[] rfl (fun i hi => absurd hi (by omega))
      | 3, _ => exact .clo _ 0 _ #[] rfl (fun i hi => absurd hi (by omega))
      | 4, _ => exact .clo _ 0 _ #[] rfl (fun i hi => absurd hi (by omega))
      | 5, _ => exact .clo _ 0 _ #[] rfl (fun i hi => absurd hi (by omega))
      | 6, _ => exact .clo _ 0 _ #[] rfl (fun i hi => absurd hi (by omega))
end Go.Proofs.Ytoojlpcimogehaa
