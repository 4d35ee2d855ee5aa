/-
  No statement is proved in this text. It makes an iterator's contract of what its text does.
-/
import Derived.Test.YtgmhnkoifdpemaaS25
namespace Go.Proofs.Ytgmhnkoifdpemaa
open Go.RowKit
set_option linter.unusedSimpArgs false
set_option linter.unusedVariables false
/-- What an iterator's text ends with: all rounds were done, or a round said 'no more'. -/
def IEnd (n : Nat) (JJ Jx : Nat → World → Prop) : IQ := fun e s' J' al' => (e = .ret ∨ e = .normal) ∧ (J' = JJ n ∨ ∃ j, j < n ∧ J' = Jx (j + 1))
theorem iter_of {P : Program} {gf : FuncId} {fn : Func} {c : Code} (hf : P.funcs[gf]? = some fn) (hb : fn.body = some c) (hnr : fn.results.toList = []) {k : Nat} {caps : Nat → Cl} {n : Nat} {E : Fin n → List Av} (hE : ∀ x, (E x).all Av.isV = true) (hE1 : ∀ x, ∀ e ∈ E x, ∀ c ∈ e.cells, c.toV.oneCell' = true) (hN : Nat.ble (k + 1) fn.ntmps = true) (hcd : ∀ i, i < k → (caps i).dv = true)
    (h : ∀ (Ow : Nat → Prop) (n0 ly : Nat) (JJ Jx : Nat → World → Prop), (∀ b, Ow b → b < n0) → (∀ j A B, JJ j A → A.grownBy B none → JJ j B) →
      (∀ j (hj : j < n) W, JJ j W → YieldAt (FW none) 0 P ly ((E ⟨j, hj⟩).map Av.toV).toArray W (fun e W' => (e = .returned (.bool true) ∧ JJ (j + 1) W' ∧ KpS Ow W W') ∨ (e = .returned (.bool false) ∧ Jx (j + 1) W'))) →
      IWp P fn.ntmps Ow n0 c (IEnd n JJ Jx) ⟨entryT 0 (.one (.val (.func (.yield ly) #[] #[])) :: capList k caps), []⟩ (JJ 0) true) : IterOk P gf k caps n E := by
  intro M w cs Ow himm hOw hcs hcaps
  refine ⟨fun x => ((E x).map Av.toV).toArray, fun x => ?_, ?_⟩
  · have h1 := hE x
    have h2 := hE1 x
    show L2 _ (E x) ((E x).map Av.toV)
    generalize E x = l at h1 h2 ⊢
    induction l with
    | nil => exact .nil
    | cons e l ih =>
      simp only [List.all_cons, Bool.and_eq_true] at h1
      exact .cons (fun σ => toV_RA h1.1 (h2 e (List.mem_cons_self ..))) (ih h1.2 fun e he => h2 e (List.mem_cons_of_mem _ he))
  · intro l J Jx W hB hJ hJx hY h0
    have hJg : ∀ s A B, J s A → A.grownBy B none → J s B := fun s A B h1 h2 => hJ s A B none h1 h2 (fun r e => by cases e)
    have hlt : ∀ b o, M b = some o → b < w.heap.size := fun b o hb => (Array.getElem?_eq_some_iff.1 (himm b o hb)).1
    have himmW : ∀ b o, M b = some o → W.heap[b]? = some o := fun b o hb => (hB.block b (hlt b o hb)).trans (himm b o hb)
    have hbody := h Ow w.heap.size l (fun j W => ∃ pre : List (Fin n), pre.map Fin.val = List.range j ∧ J pre W) (fun j W => ∃ pre : List (Fin n), pre.map Fin.val = List.range j ∧ Jx pre W) (fun b hb => (hOw b hb).1) (fun j A B ⟨pre, h1, h2⟩ h3 => ⟨pre, h1, hJg pre A B h2 h3⟩) (fun j hj W1 ⟨pre, h1, h2⟩ => by
      have hlen : pre.length = j := by
        have := congrArg List.length h1
        simpa using this
      have hstep : (pre ++ [(⟨j, hj⟩ : Fin n)]).map Fin.val = List.range (j + 1) := by rw [List.map_append, h1, List.range_succ]; rfl
      obtain ⟨fn', tm, as', bd, hy, hR⟩ := hY pre (⟨j, hj⟩ : Fin n) W1 h2 (by omega)
      refine ⟨fn', tm, as', bd, hy, hR.mono ?_⟩
      rintro e W' (⟨rfl, h3, h4⟩ | ⟨rfl, h3⟩)
      · exact Or.inl (And.intro rfl (And.intro (Exists.intro _ (And.intro hstep h3)) h4))
      · exact Or.inr (And.intro rfl (Exists.intro _ (And.intro hstep h3))))
    obtain ⟨a0, ha0⟩ : ∃ a0 : Act, a0 = { tmps := (#[Value.func (.yield l) #[] #[]] ++ cs) ++ Array.replicate (fn.ntmps - (#[Value.func (.yield l) #[] #[]] ++ cs).size) undef, defers := [] } := ⟨_, rfl⟩
    have hs0 : Sim fn.ntmps W noX M M (fun _ => ⟨0, 0, false⟩) (get (entryT 0 (.one (.val (.func (.yield l) #[] #[])) :: capList k caps))) (get []) a0 W := ?hs0
    · have hbod := hbody W M (fun _ => ⟨0, 0, false⟩) a0 W ⟨⟨[], rfl, h0⟩, by rw [ha0], fun _ => ⟨hB.size, fun b o hb ho => by rw [(hOw b ho).2] at hb; cases hb⟩⟩ hs0
      rw [ha0] at hbod
      refine callsIn_wide.2 (callsIn_wide.1 (callsIn_of_wp_marks (F := FW none) (n := 0) hf hb trivial (wpIn_mono hbod ?_)))
      clear hbod hs0
      rintro e a' w' ⟨s', J', al', W0', M', σ', ⟨he, hend⟩, ⟨hJ', hd, _⟩, hs'⟩
      have hgrow : W0'.grownBy w' none := { os := hs'.os, tape := hs'.tape, output := hs'.output, size := hs'.size, block := fun b hb _ => hs'.old b hb (not_inX b) }
      have hres : (∃ xs : List (Fin n), xs.map Fin.val = List.range n ∧ J xs w') ∨ (∃ pre : List (Fin n), (∃ j, j < n ∧ pre.map Fin.val = List.range (j + 1)) ∧ Jx pre w') := by
        rcases hend with rfl | ⟨j, hj, rfl⟩
        · obtain ⟨pre, h1, h2⟩ := hJ'
          exact .inl ⟨pre, h1, hJg pre _ _ h2 hgrow⟩
        · obtain ⟨pre, h1, h2⟩ := hJ'
          exact .inr ⟨pre, ⟨j, hj, h1⟩, hJx pre _ _ none h2 hgrow (fun r e => by cases e)⟩
      obtain ⟨U, hU, _⟩ := resT_ok (P := P) (fn := fn) (r := .tup []) hs' (by rw [hnr]; rfl)
      have key : LeavesInM (FW none) 0 P fn a'.tmps (fun e W' => (∃ v, e = .returned v) ∧ ((∃ xs : List (Fin n), xs.map Fin.val = List.range n ∧ J xs W') ∨ (∃ pre : List (Fin n), (∃ j, j < n ∧ pre.map Fin.val = List.range (j + 1)) ∧ Jx pre W'))) a'.defers .returning w' := by
        rw [hd]
        exact ⟨U, hU, ⟨U, rfl⟩, hres⟩
      rcases he with rfl | rfl
      · exact key
      · exact key
    case hs0 =>
      subst ha0
      have hsz : (#[Value.func (.yield l) #[] #[]] ++ cs).size = k + 1 := by simp [hcs]; omega
      have hNk := Nat.le_of_ble_eq_true hN
      refine ⟨rfl, rfl, rfl, Nat.le_refl _, fun _ _ _ => rfl, fun _ _ h => h, fun b o h h' => (by rw [h] at h'; cases h'), fun m x hx => (by cases hx), DefsX.nil, ?_, fun i v hv => ?_, himmW, fun m b hb => (by cases hb), fun m b hb => (by cases hb), fun m m' b c hb => (by cases hb)⟩
      · simp only [Array.size_append, Array.size_replicate] at hsz ⊢
        omega
      · obtain ⟨_, x, hx, rfl⟩ := get_entryT _ _ _ _ hv
        rw [Nat.sub_zero] at hx
        have hargs : L2 (RA M fun _ => ⟨0, 0, false⟩) (.one (.val (.func (.yield l) #[] #[])) :: capList k caps) (.func (.yield l) #[] #[] :: cs.toList) := by
          refine .cons ⟨rfl, rfl⟩ (L2.of (by simp [capList, hcs]) fun i x y hx hy => ?_)
          have hi : i < k := by have := (List.getElem?_eq_some_iff.1 hx).1; simpa [capList] using this
          have := (R_dv (σ := fun _ => ⟨0, 0, false⟩) (hcd i hi)).2 (hcaps i hi)
          simp only [capList, List.getElem?_map, List.getElem?_range hi, Option.map_some, Option.some.injEq] at hx
          subst hx
          have hy' : cs.getD i undef = y := by
            simp only [Array.getD_eq_getD_getElem?]
            rw [← Array.getElem?_toList, hy]; rfl
          rw [hy'] at this
          exact this
        obtain ⟨u, hu, hRu⟩ := hargs.get i x hx
        have : ((#[Value.func (.yield l) #[] #[]] ++ cs) ++ Array.replicate (fn.ntmps - (#[Value.func (.yield l) #[] #[]] ++ cs).size) undef).getD i undef = u := by
          have hu2 : (#[Value.func (.yield l) #[] #[]] ++ cs)[i]? = some u := by
            rw [← Array.getElem?_toList]
            simpa using hu
          have hi : i < (#[Value.func (.yield l) #[] #[]] ++ cs).size := (Array.getElem?_eq_some_iff.1 hu2).1
          rw [Array.getD_eq_getD_getElem?, Array.getElem?_append_left hi, hu2]; rfl
        show RA M _ x _
        rw [this]
        exact hRu
end Go.Proofs.Ytgmhnkoifdpemaa
