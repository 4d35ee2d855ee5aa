/-
  No statement is proved in this text. It shows that the model does what the effects say: literals, builtins, calls; and all operations in one theorem.
-/
import Derived.Test.YtgmhnkoifdpemaaS6
namespace Go.Proofs.Ytgmhnkoifdpemaa
open Go.RowKit
set_option linter.unusedSimpArgs false
set_option linter.unusedVariables false

section
variable {P : Program} {M : Nat → Option Obj} {σ : Nat → Loc} {w : World} {h : Nat → Option Blk} {a : Act} {o : Oper} {cs : List Prop} {g : Eg} {e : Ef}

theorem run_places (w : World) : ∀ (fs : List Field), (∀ f ∈ fs, (sizeF P f).isSome) → (fs.mapM fun f => do pure (f.offset, ← sizeOf f.type) : Sem (List (Nat × Nat))).run P w = .ok (fs.filterMap (sizeF P)) w
  | [], _ => by simp
  | f :: fs, h => by
    have h1 := h f (by simp)
    have h2 := run_places w fs fun f hf => h f (by simp [hf])
    unfold sizeF at h1
    cases ht : ti P f.type with
    | none => rw [ht] at h1; cases h1
    | some t =>
      have hz := (run_ti ht w).1
      simp only [List.mapM_cons, Sem.run_bind, hz, Result.andThen_ok, Sem.run_pure, h2, List.filterMap_cons, sizeF, ht]
theorem get_places (fs : List Field) (h : ∀ f ∈ fs, (sizeF P f).isSome) (i : Nat) : (fs.filterMap (sizeF P))[i]? = (fs[i]?).bind (sizeF P) := by
  induction fs generalizing i with
  | nil => rfl
  | cons f fs ih =>
    have h1 := h f (by simp)
    cases hf : sizeF P f with
    | none => rw [hf] at h1; cases h1
    | some p =>
      simp only [List.filterMap_cons, hf]
      cases i with
      | zero => simp [hf]
      | succ i => simpa using ih (fun f hf => h f (by simp [hf])) i
theorem build_struct {T : TypeId} {fs : Array Field} {s : Nat} {ag : Bool} (ht : ti P T = some ⟨s, ag, .struct fs⟩) (hall : fs.toList.all (fun f => (sizeF P f).isSome) = true) {z cl : List Cl} (hz : zeroOf P T = some z) {l : List (Nat × Av)} {us : List (Nat × Value)} (hl : L2 (fun p q => p.1 = q.1 ∧ RA M σ p.2 q.2) l us)
    (hf : fillC (placeS P fs) z l = some cl) : ∃ d : List Value, (Instr.build T us.toArray).run P w = .ok (.agg d.toArray) w ∧ L2 (R M σ) cl d := by
  obtain ⟨i, v, hi, hv, hzl, _, hzr⟩ := zeroOf_ok (M := M) (σ := σ) (w := w) hz
  obtain ⟨_, _, hu, _, _⟩ := run_ti ht w
  obtain ⟨d, hd1, hd2⟩ := fill_ok hl hzl hf
  have hall' : ∀ f ∈ fs.toList, (sizeF P f).isSome := fun f hf => (List.all_eq_true.1 hall) f hf
  have hm : (fs.mapM fun f => do pure (f.offset, ← sizeOf f.type) : Sem (Array (Nat × Nat))).run P w = .ok (fs.toList.filterMap (sizeF P)).toArray w := by
    rw [Array.mapM_eq_mapM_toList, Sem.run_map, run_places w _ hall']
    rfl
  refine ⟨d, ?_, hd2⟩
  simp only [Instr.build, Sem.run_bind, hzr, Result.andThen_ok, hu, hm]
  have hpl : (fun (i : Nat) => (fs.toList.filterMap (sizeF P)).toArray[i]?) = placeS P fs := by
    funext i
    simp only [List.getElem?_toArray]
    rw [get_places _ hall']
    simp only [Array.getElem?_toList, placeS]
    cases fs[i]? <;> rfl
  rw [hpl]
  have : v.cells.toList.toArray = v.cells := by simp
  rw [this] at hd1
  simp only [hd1, Sem.run_pure]
theorem build_arr {T : TypeId} {n : Nat} {el : TypeId} {s : Nat} {ag : Bool} {te : TI} (ht : ti P T = some ⟨s, ag, .array n el⟩) (hte : ti P el = some te) {z cl : List Cl} (hz : zeroOf P T = some z) {l : List (Nat × Av)} {us : List (Nat × Value)} (hl : L2 (fun p q => p.1 = q.1 ∧ RA M σ p.2 q.2) l us)
    (hf : fillC (fun i => some (i * te.size, te.size)) z l = some cl) : ∃ d : List Value, (Instr.build T us.toArray).run P w = .ok (.agg d.toArray) w ∧ L2 (R M σ) cl d := by
  obtain ⟨i, v, hi, hv, hzl, _, hzr⟩ := zeroOf_ok (M := M) (σ := σ) (w := w) hz
  obtain ⟨_, _, hu, _, _⟩ := run_ti ht w
  obtain ⟨h1, _⟩ := run_ti hte w
  obtain ⟨d, hd1, hd2⟩ := fill_ok hl hzl hf
  refine ⟨d, ?_, hd2⟩
  have : v.cells.toList.toArray = v.cells := by simp
  rw [this] at hd1
  simp only [Instr.build, Sem.run_bind, hzr, Result.andThen_ok, hu, h1, hd1, Sem.run_pure]
theorem map_parts (ps : Array (Nat × Operand)) (ρ : Operand → Value) : (ps.map fun (x : Nat × Operand) => (x.1, ρ x.2)) = (ps.toList.map fun p => (p.1, ρ p.2)).toArray := by
  apply Array.ext'; simp
theorem build_ok {T : TypeId} {parts : Array (Nat × Operand)} {ev : Operand → Option Tv} (hev : ∀ x v, ev x = some v → RT M σ v (a.eval x)) (ho : o.op = .build T parts) (he : effBuild P ev T parts = some e) (hs : Std M σ w h) (hr : res h e = some (cs, g)) : Good P M σ o a w g := by
  unfold effBuild at he
  split at he
  · rename_i s ag fs z l ht hz hp
    cases hall : fs.toList.all (fun f => (sizeF P f).isSome) with
    | false => rw [hall] at he; cases he
    | true =>
      rw [hall] at he
      simp only [cond_true] at he
      cases hf : fillC (placeS P fs) z l with
      | none => rw [hf] at he; cases he
      | some cl =>
        rw [hf] at he
        simp only [Option.map_some, Option.some.injEq] at he
        subst he
        obtain ⟨rfl, rfl⟩ := res_val hr
        obtain ⟨d, hd1, hd2⟩ := build_struct (w := w) ht hall hz (parts_ok hev _ _ hp) hf
        refine good_val hs.imm (V := .agg d.toArray) ?_ ⟨d, rfl, hd2⟩
        have := map_parts parts a.eval
        simp only [execOp, ho, Sem.run_bind]
        rw [this, hd1]
        rfl
  · rename_i s ag n el z l ht hz hp
    split at he
    · rename_i te hte
      cases hf : fillC (fun i => some (i * te.size, te.size)) z l with
      | none => rw [hf] at he; cases he
      | some cl =>
        rw [hf] at he
        simp only [Option.map_some, Option.some.injEq] at he
        subst he
        obtain ⟨rfl, rfl⟩ := res_val hr
        obtain ⟨d, hd1, hd2⟩ := build_arr (w := w) ht hte hz (parts_ok hev _ _ hp) hf
        refine good_val hs.imm (V := .agg d.toArray) ?_ ⟨d, rfl, hd2⟩
        have := map_parts parts a.eval
        simp only [execOp, ho, Sem.run_bind]
        rw [this, hd1]
        rfl
    · cases he
  · cases he

theorem length_repC (z : List Cl) : ∀ n, (repC z n).length = n * z.length
  | 0 => by simp [repC]
  | n + 1 => by simp [repC, length_repC z n, Nat.add_mul, Nat.add_comm]
theorem repC_ok {z : List Cl} {c : List Value} (hz : L2 (R M σ) z c) (hc : c ≠ []) : ∀ n, L2 (R M σ) (repC z n) ((List.range (n * c.length)).map fun i => c.toArray[i % c.toArray.size]!)
  | 0 => by simp [repC]; exact .nil
  | n + 1 => by
    have hlen : 0 < c.length := List.length_pos_iff.2 hc
    have h1 := repC_ok hz hc n
    have h0 : c = (List.range c.length).map fun i => c.toArray[i % c.toArray.size]! := by
      apply List.ext_getElem?
      intro i
      by_cases hi : i < c.length
      · simp [hi, Nat.mod_eq_of_lt hi]
      · simp [hi, List.getElem?_eq_none (Nat.le_of_not_lt hi)]
    have : (List.range ((n + 1) * c.length)).map (fun i => c.toArray[i % c.toArray.size]!) = c ++ (List.range (n * c.length)).map (fun i => c.toArray[i % c.toArray.size]!) := by
      rw [Nat.add_mul, Nat.one_mul, Nat.add_comm, List.range_add, List.map_append, ← h0, List.map_map]
      congr 1
      apply List.map_congr_left
      intro i _
      simp only [Function.comp_apply, List.size_toArray, Nat.add_mod_left]
    rw [this]
    exact hz.append h1
theorem intsC_ok {k : IntKind} : ∀ {l : List Cl} {ns : List Int}, intsC k l = some ns → l = ns.map fun n => .val (.int k n)
  | [], ns, h => by simp only [intsC, Option.some.injEq] at h; subst h; rfl
  | c :: l, ns, h => by
    unfold intsC at h
    split at h
    · cases ‹_ = []›
    · rename_i k' n r heq
      injection heq with e1 e2
      subst e1; subst e2
      split at h
      · rename_i hk; subst hk
        obtain ⟨ms, hm, rfl⟩ := Option.map_eq_some_iff.1 h
        rw [intsC_ok hm]; rfl
      · cases h
    · cases h
theorem strsC_ok : ∀ {l : List Cl} {ns : List ByteArray}, strsC l = some ns → l = ns.map fun n => .val (.string n)
  | [], ns, h => by simp only [strsC, Option.some.injEq] at h; subst h; rfl
  | c :: l, ns, h => by
    unfold strsC at h
    split at h
    · cases ‹_ = []›
    · rename_i n r heq
      injection heq with e1 e2
      subst e1; subst e2
      obtain ⟨ms, hm, rfl⟩ := Option.map_eq_some_iff.1 h
      rw [strsC_ok hm]; rfl
    · cases h
theorem boolsC_ok : ∀ {l : List Cl} {ns : List Bool}, boolsC l = some ns → l = ns.map fun n => .val (.bool n)
  | [], ns, h => by simp only [boolsC, Option.some.injEq] at h; subst h; rfl
  | c :: l, ns, h => by
    unfold boolsC at h
    split at h
    · cases ‹_ = []›
    · rename_i n r heq
      injection heq with e1 e2
      subst e1; subst e2
      obtain ⟨ms, hm, rfl⟩ := Option.map_eq_some_iff.1 h
      rw [boolsC_ok hm]; rfl
    · cases h
theorem getD_mapC {α : Type} (f : α → Cl) (d : α) (e : Cl) : ∀ (l : List α) (i : Nat), i < l.length → f (l.getD i d) = (l.map f).getD i e
  | [], i, h => by simp at h
  | a :: l, 0, _ => rfl
  | a :: l, i + 1, h => by simpa using getD_mapC f d e l i (by simpa using h)
theorem colOf_ok (l : List Cl) (i : Nat) (hi : i < l.length) : colOf l i = l.getD i default := by
  unfold colOf
  split
  · rename_i k n r
    cases hns : intsC k r with
    | some ns =>
      have := intsC_ok hns
      subst this
      exact getD_mapC (fun n => .val (.int k n)) 0 default (n :: ns) i (by simpa using hi)
    | none => rfl
  · rename_i n r
    cases hns : strsC r with
    | some ns =>
      have := strsC_ok hns
      subst this
      exact getD_mapC (fun n => .val (.string n)) ⟨#[]⟩ default (n :: ns) i (by simpa using hi)
    | none => rfl
  · rename_i n r
    cases hns : boolsC r with
    | some ns =>
      have := boolsC_ok hns
      subst this
      exact getD_mapC (fun n => .val (.bool n)) false default (n :: ns) i (by simpa using hi)
    | none => rfl
  · rfl
theorem length_everyC (sz j : Nat) (cs : List Cl) : ∀ n i, (everyC sz j cs n i).length = n
  | 0, _ => rfl
  | n + 1, i => by simp [everyC, length_everyC sz j cs n]
theorem get_everyC (sz j : Nat) (cs : List Cl) : ∀ n i k, k < n → (everyC sz j cs n i).getD k default = cs.getD ((i + k) * sz + j) default
  | 0, _, _, h => absurd h (by omega)
  | n + 1, i, 0, _ => rfl
  | n + 1, i, k + 1, h => by
    simp only [everyC, List.getD_cons_succ]
    rw [get_everyC sz j cs n (i + 1) k (by omega), show i + 1 + k = i + (k + 1) by omega]
theorem colsC_ok (sz n : Nat) (cs : List Cl) (i j : Nat) (hi : i < n) : colsC sz n cs i j = cs.getD (i * sz + j) default := by
  unfold colsC
  rw [colOf_ok _ _ (by rw [length_everyC]; exact hi), get_everyC _ _ _ _ _ _ hi, Nat.zero_add]
theorem buildSlice_ok {T : TypeId} {len : Nat} {parts : Array (Nat × Operand)} {ev : Operand → Option Tv} (hev : ∀ x v, ev x = some v → RT M σ v (a.eval x)) (ho : o.op = .buildSlice T len parts) {ow : Bool} (he : effBuildSlice P ev T len parts ow = some e) (hs : Std M σ w h) (hr : res h e = some (cs, g)) (hd : (∃ b v, g = .new b v) → ∃ d, o.dst = some d) : Good P M σ o a w g := by
  unfold effBuildSlice at he
  split at he
  · rename_i s ag el l ht hp
    obtain ⟨_, _, hu, _, _⟩ := run_ti ht w
    split at he
    · rename_i t z hte hz
      obtain ⟨h1, _⟩ := run_ti hte w
      cases hb : (Nat.beq t.size 0 || Nat.ble 16777217 (len * t.size) || !(Nat.beq z.length t.size)) with
      | true => rw [hb] at he; cases he
      | false =>
        rw [hb] at he
        simp only [cond_false] at he
        simp only [Bool.or_eq_false_iff, Bool.not_eq_false'] at hb
        obtain ⟨⟨hb1, hb2⟩, hb3⟩ := hb
        have hne : t.size ≠ 0 := fun e => by rw [e] at hb1; simp [Nat.beq] at hb1
        have hle : ¬ (len * t.size > 2 ^ 24) := by
          intro hgt
          have : Nat.ble 16777217 (len * t.size) = true := Nat.ble_eq_true_of_le (by omega)
          rw [this] at hb2; cases hb2
        have hzl := Nat.eq_of_beq_eq_true hb3
        obtain ⟨i, v, hi, hv, hzL, _, hzr⟩ := zeroOf_ok (M := M) (σ := σ) (w := w) hz
        have hvl : v.cells.toList.length = t.size := by rw [← hzL.length]; exact hzl
        have hrep := repC_ok hzL (by intro e; rw [e] at hvl; exact hne hvl.symm) len
        cases hf : fillC (fun i => some (i * t.size, t.size)) (repC z len) l with
        | none => rw [hf] at he; cases he
        | some cl =>
          rw [hf] at he
          simp only at he
          obtain ⟨d, hd1, hd2⟩ := fill_ok (parts_ok hev _ _ hp) hrep hf
          have hrun : (execOp a.eval o).run P w = .ok (.value (.slice (some ⟨w.heap.size, 0, none⟩) len len)) (w.alloc (.cells d.toArray el)) := by
            have hmp := map_parts parts a.eval
            have harr : (Array.range (len * t.size)).map (fun i => v.cells[i % v.cells.size]!) = ((List.range (len * v.cells.toList.length)).map fun i => v.cells.toList.toArray[i % v.cells.toList.toArray.size]!).toArray := by
              apply Array.ext'
              simp only [Array.toList_map, Array.toList_range, hvl]
              try (apply List.map_congr_left; intro i _; simp)
            simp only [execOp, ho, Sem.run_bind]
            rw [hmp]
            by_cases hl0 : len * t.size = 0
            · simp only [Instr.buildSlice, Sem.run_bind, hu, Result.andThen_ok, h1, if_neg hle, if_pos hl0, Sem.run_pure]
              have hd1' : Instr.fill (fun i => some (i * t.size, t.size)) (Array.map (fun x => (#[] : Array Value)[x % (#[] : Array Value).size]!) (Array.range (len * t.size))) (parts.toList.map fun p => (p.1, a.eval p.2)) = some d.toArray := by
                rw [← hd1, ← harr, hl0, Array.range_zero', Array.map_empty, Array.map_empty]
              simp only [hd1', Sem.run_bind, newRow, run_newObj, Result.andThen_ok, Sem.run_pure]
              rfl
            · simp only [Instr.buildSlice, Sem.run_bind, hu, Result.andThen_ok, h1, if_neg hle, if_neg hl0, hzr, Sem.run_pure]
              rw [harr]
              simp only [hd1, Sem.run_bind, newRow, run_newObj, Result.andThen_ok, Sem.run_pure]
              rfl
          have hclen : d.length = len * t.size := by
            have := hd2.length
            have h3 : ∀ (place : Nat → Option (Nat × Nat)) (l : List (Nat × Av)) (z r : List Cl), fillC place z l = some r → r.length = z.length := by
              intro place l
              induction l with
              | nil => intro z r h; simp only [fillC, Option.some.injEq] at h; subst h; rfl
              | cons p l ih =>
                intro z r h
                obtain ⟨i, v⟩ := p
                simp only [fillC] at h
                split at h
                · cases h
                · rename_i off size _
                  cases hc : (Nat.beq v.cells.length size && Nat.ble (off + v.cells.length) z.length) with
                  | false => rw [hc] at h; cases h
                  | true => rw [hc] at h; rw [ih _ _ h, length_setL]
            rw [← this, h3 _ _ _ _ hf, length_repC, hzl]
          have hMno : M w.heap.size = none := by
            cases hm : M w.heap.size with
            | none => rfl
            | some x => have := (Array.getElem?_eq_some_iff.1 (hs.imm _ _ hm)).1; omega
          have himm : ∀ b o, M b = some o → (w.alloc (.cells d.toArray el)).heap[b]? = some o := fun b o hm => by
            rw [Below.heap_alloc _ _ _ (Array.getElem?_eq_some_iff.1 (hs.imm _ _ hm)).1]; exact hs.imm _ _ hm
          have hnew : (w.alloc (.cells d.toArray el)).heap[w.heap.size]? = some (.cells d.toArray el) := by show (w.heap.push _)[w.heap.size]? = _; simp
          cases hdv : cl.all Cl.dv with
          | false => rw [hdv] at he; cases he
          | true =>
            rw [hdv] at he
            simp only [cond_true] at he
            have hlt : ∀ i j, i < len → j < t.size → i * t.size + j < d.length := fun i j hi hj => by
              rw [hclen]
              have : (i + 1) * t.size ≤ len * t.size := Nat.mul_le_mul_right _ (by omega)
              rw [Nat.add_mul, Nat.one_mul] at this; omega
            have hgetd : ∀ i j, i < len → j < t.size → d[i * t.size + j]? = some (d.getD (i * t.size + j) undef) := fun i j hi hj => by
              simp [List.getD, hlt i j hi hj]
            have hRC : ∀ i j, i < len → j < t.size → RC M (colsC t.size len cl i j) (d.getD (i * t.size + j) undef) := fun i j hi hj => by
              have hlt' : i * t.size + j < cl.length := by rw [hd2.length]; exact hlt i j hi hj
              obtain ⟨u, hu2, hR⟩ := hd2.get _ _ (List.getElem?_eq_getElem hlt')
              rw [colsC_ok _ _ _ _ _ hi]
              simp only [List.getD, List.getElem?_eq_getElem hlt', hu2, Option.getD_some]
              exact RC_of_dv ((List.all_eq_true.1 hdv) _ (List.getElem_mem _)) hR
            cases ow with
            | true =>
              simp only [cond_true, Option.some.injEq] at he
              subst he
              simp only [res, Option.some.injEq, Prod.mk.injEq] at hr
              obtain ⟨rfl, rfl⟩ := hr
              obtain ⟨dd, hdd⟩ := hd ⟨_, _, rfl⟩
              have hmax : len ≤ maxLen := by
                have : len * 1 ≤ len * t.size := Nat.mul_le_mul_left _ (by omega)
                unfold maxLen; omega
              refine .inl ⟨_, _, hrun, M, upd σ dd ⟨w.heap.size, len, false⟩, ⟨w.heap.size, len, false⟩, dd, hdd, ⟨rfl, rfl, rfl, by simp, fun b hb _ => Below.heap_alloc _ _ _ hb, fun _ _ h => h, fun _ _ h h' => by (rw [h] at h'; cases h'), himm⟩, .inr ⟨Nat.le_refl _, hMno⟩, rfl,
                .inr ⟨rfl, _, hnew, by simp [hclen], Nat.le_refl _, hmax, fun i j => d.getD (i * t.size + j) undef, fun i j hi hj => ⟨by rw [List.getElem?_toArray]; exact hgetd i j hi hj, hRC i j hi hj⟩⟩, ?_⟩
              show R _ _ _ _
              simp only [R, upd_same]
              simp
            | false =>
              simp only [cond_false, Option.some.injEq] at he
              subst he
              obtain ⟨rfl, rfl⟩ := res_val hr
              let M' : Nat → Option Obj := upd M w.heap.size (some (.cells d.toArray el))
              have hM' : M' w.heap.size = some (.cells d.toArray el) := upd_same _ _ _
              have hsub : ∀ b o, M b = some o → M' b = some o := fun b o hm => by
                have : b ≠ w.heap.size := fun e => by subst e; rw [hMno] at hm; cases hm
                rw [show M' b = M b from upd_ne _ _ this]; exact hm
              refine .inl ⟨_, _, hrun, M', σ, ⟨rfl, rfl, rfl, by simp, fun b hb _ => Below.heap_alloc _ _ _ hb, hsub, fun b o hm hn => ?_, fun b o hm => ?_⟩, rfl, ?_⟩
              · by_cases hb : b = w.heap.size
                · omega
                · rw [show M' b = M b from upd_ne _ _ hb, hn] at hm; cases hm
              · by_cases hb : b = w.heap.size
                · subst hb; rw [hM'] at hm; injection hm with hm; subst hm; exact hnew
                · rw [show M' b = M b from upd_ne _ _ hb] at hm; exact himm b o hm
              · show RC M' _ _
                refine .list true t.size len _ w.heap.size 0 len (fun i j => d.getD (i * t.size + j) undef) (fun i j hi hj => ?_) (fun i j hi hj => ?_) (Nat.le_refl _)
                · simp only [cellM, hM', Nat.zero_add, List.getElem?_toArray]
                  exact hgetd i j hi hj
                · exact RC_mono hsub (hRC i j hi hj)
    · cases he
  · cases he
theorem makeSlice_ok {T : TypeId} {x y : Operand} {u v : Tv} (ho : o.op = .makeSlice T x y) (hx : RT M σ u (a.eval x)) (hy : RT M σ v (a.eval y)) (he : effMakeSlice P T u v = some e) (hs : Std M σ w h) (hr : res h e = some (cs, g)) (hc : AllP cs) (hd : (∃ b v, g = .new b v) → ∃ d, o.dst = some d) : Good P M σ o a w g := by
  unfold effMakeSlice at he
  split at he
  · rename_i s ag el k n k2 m ht
    obtain ⟨_, _, _, hu, _⟩ := run_ti ht w
    split at he
    · rename_i i z hi hz
      cases hb : (Nat.beq z.length i.size && !(Nat.beq i.size 0)) with
      | false => rw [hb] at he; cases he
      | true =>
        rw [hb] at he
        simp only [cond_true, Option.some.injEq] at he
        subst he
        simp only [Bool.and_eq_true, Bool.not_eq_true'] at hb
        have hzl := Nat.eq_of_beq_eq_true hb.1
        have hne : i.size ≠ 0 := fun e => by rw [e] at hb; simp [Nat.beq] at hb
        simp only [res, Option.some.injEq, Prod.mk.injEq] at hr
        obtain ⟨rfl, rfl⟩ := hr
        obtain ⟨dd, hdd⟩ := hd ⟨_, _, rfl⟩
        obtain ⟨h0, rfl, hby, h63⟩ := hc.head
        obtain ⟨i', v', hi', hv', hzL, hzm, hzr⟩ := zeroOf_ok (M := M) (σ := σ) (w := w) hz
        rw [hi] at hi'
        injection hi' with hi'
        subst hi'
        have hvl : v'.cells.size = i.size := by have := hzL.length; rw [← hzl, this]; simp
        have hrun : (execOp a.eval o).run P w = .ok (.value (.slice (some ⟨w.heap.size, 0, none⟩) m.toNat m.toNat)) (w.alloc (.cells (madeCells v'.cells (m.toNat * i.size)) el)) := by
          simp only [execOp, ho, RA_i hx, RA_i hy, Sem.run_bind, run_make w T el i v' hu hi hv' _ _ m m h0 (Int.le_refl _) hby h63, Result.andThen_ok, Sem.run_pure]
        have hMno : M w.heap.size = none := by
          cases hm : M w.heap.size with
          | none => rfl
          | some x => have := (Array.getElem?_eq_some_iff.1 (hs.imm _ _ hm)).1; omega
        have himm : ∀ b o, M b = some o → (w.alloc (.cells (madeCells v'.cells (m.toNat * i.size)) el)).heap[b]? = some o := fun b o hm => by
          rw [Below.heap_alloc _ _ _ (Array.getElem?_eq_some_iff.1 (hs.imm _ _ hm)).1]; exact hs.imm _ _ hm
        have hnew : (w.alloc (.cells (madeCells v'.cells (m.toNat * i.size)) el)).heap[w.heap.size]? = some (.cells (madeCells v'.cells (m.toNat * i.size)) el) := by show (w.heap.push _)[w.heap.size]? = _; simp
        have hmax : m.toNat ≤ maxLen := by unfold maxLen; omega
        refine .inl ⟨_, _, hrun, M, upd σ dd ⟨w.heap.size, m.toNat, false⟩, ⟨w.heap.size, m.toNat, false⟩, dd, hdd, ⟨rfl, rfl, rfl, by simp, fun b hb _ => Below.heap_alloc _ _ _ hb, fun _ _ h => h, fun _ _ h h' => by (rw [h] at h'; cases h'), himm⟩, .inr ⟨Nat.le_refl _, hMno⟩, rfl,
          .inr ⟨rfl, _, hnew, size_madeCells _ _, Nat.le_refl _, hmax, fun _ j => v'.cells.getD j undef, fun i1 j hi1 hj => ⟨?_, ?_⟩⟩, ?_⟩
        · have hlt : i1 * i.size + j < m.toNat * i.size := by
            have : (i1 + 1) * i.size ≤ m.toNat * i.size := Nat.mul_le_mul_right _ (by omega)
            rw [Nat.add_mul] at this
            omega
          have hmod : (i1 * i.size + j) % i.size = j := by
            rw [Nat.mul_comm, Nat.mul_add_mod, Nat.mod_eq_of_lt hj]
          simp only [madeCells, Array.getElem?_map, Array.getElem?_range, hlt, if_true, Option.map_some, hvl, hmod]
          congr 1
          rw [getElem!_def, Array.getD_eq_getD_getElem?, Array.getElem?_eq_getElem (by omega)]
          rfl
        · have hj' : j < z.length := by omega
          obtain ⟨u, hu2, hR⟩ := hzL.get _ _ (List.getElem?_eq_getElem hj')
          have e2 : v'.cells.getD j undef = u := by
            rw [Array.getD_eq_getD_getElem?, ← Array.getElem?_toList, hu2]; rfl
          simp only [e2]
          simp only [List.getD, List.getElem?_eq_getElem hj', Option.getD_some]
          refine RC_of_dv ?_ hR
          have hm2 := List.getElem_mem hj'
          generalize z[j] = zj at hm2
          rw [hzm] at hm2
          obtain ⟨q, _, rfl⟩ := List.mem_map.1 hm2
          rfl
        · show R _ _ _ _
          simp only [R, upd_same]
          simp
    · cases he
  · cases he
end
end Go.Proofs.Ytgmhnkoifdpemaa
