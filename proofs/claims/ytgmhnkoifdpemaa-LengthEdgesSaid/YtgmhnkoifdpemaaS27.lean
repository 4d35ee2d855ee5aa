/-
  No statement is proved in this text. It holds the rule for a range over a function, with its side conditions as one check.
-/
import Derived.Test.YtgmhnkoifdpemaaS26
namespace Go.Proofs.Ytgmhnkoifdpemaa
open Go.RowKit
set_option linter.unusedSimpArgs false
set_option linter.unusedVariables false
theorem mem_memO : ∀ {l : List Nat} {n : Nat}, n ∈ l → memO l n = true
  | k :: r, n, h => by
    simp only [memO]
    cases hk : Nat.beq k n with
    | true => rfl
    | false =>
      rcases List.mem_cons.1 h with e | h
      · rw [e, Nat.beq_refl] at hk; cases hk
      · exact mem_memO h
def rangeB (N : Nat) (pids : List Nat) (fid q : Nat) (t0 : List (Nat × Tv)) (h0 : List (Nat × Blk)) (ps : Array Tmp) : Bool :=
  t0.all (fun p => pvT pids p.2) && (h0.all (fun p => memO pids p.1 && (p.2.isC && (p.2.no fid && !Nat.beq p.1 fid))) && (pids.all (fun q => (get h0 q).isSome && Nat.ble N q) && (!memO pids fid && (Nat.ble N fid && (memO pids q && ps.toList.all (fun p => Nat.blt p N))))))
theorem setps_no {fid : Nat} : ∀ (ps : List Tmp) (es : List Av) (t : List (Nat × Tv)), (∀ i v, get t i = some v → v.no fid = true) → es.all Av.dv = true → ∀ i v, get (setps t ps es) i = some v → v.no fid = true
  | [], _, t, h, _, i, v, hv => h i v (by cases ‹List Av› <;> exact hv)
  | p :: ps, [], t, h, _, i, v, hv => h i v hv
  | p :: ps, e :: es, t, h, he, i, v, hv => by
    simp only [List.all_cons, Bool.and_eq_true] at he
    refine setps_no ps es ((p, .av e) :: t) (fun j u hu => ?_) he.2 i v hv
    simp only [get, beqN] at hu
    by_cases hj : p = j
    · subst hj; simp at hu; subst hu; exact av_dv_no he.1
    · simp [hj] at hu; exact h j u hu
section
variable {P : Program} {N : Nat} {W0 : World} {X : Nat → Option Loc} {M0 : Nat → Option Obj}
theorem aw_rangeB {Q : Exit → AS → Prop} {g : Operand} {ps : Array Tmp} {assign body : Code} {t0 : List (Nat × Tv)} {h0 : List (Nat × Blk)} (pids : List Nat) (fid q : Nat) {gf : FuncId} {k : Nat} {caps : Nat → Cl} {n : Nat} {E : Fin n → List Av} (t1 : Fin n → List (Nat × Tv)) (Fm : Nat → Prop)
    (hX0 : ∀ m, X m = none) (hg : evT (get t0) g = some (.av (.one (.clo gf k caps)))) (hcd : (Cl.clo gf k caps).dv = true) (eg : ∀ args w, (callFunc gf args).run P w = .ok (.enter gf args) w)
    (It : IterOk P gf k caps n E) (hck : rangeB N pids fid q t0 h0 ps = true) (hE : ∀ x, (E x).length = ps.size) (hEd : ∀ x, (E x).all Av.dv = true) (hm : HsM h0) (ht1 : ∀ x, TsM (t1 x)) (hF : Fm 0)
    (hassign : ∀ l W1 M1 X1 x, PX pids X1 → AWp P (some l) N W1 X1 M1 assign (fun e s' => e = .normal ∧ s' = ⟨t1 x, h0⟩) ⟨setps t0 ps.toList (E x), h0⟩)
    (hbody : ∀ l W1 M1 X1 (x : Fin n), PX pids X1 → AWp P (some l) N W1 X1 M1 body (RPost Q t0 h0 Fm x.val) ⟨t1 x, h0⟩)
    (hdone : Fm n → Q .normal ⟨t0, h0⟩) : AWp P none N W0 X M0 (.rangeFunc g ps assign body) Q ⟨t0, h0⟩ := by
  unfold rangeB at hck
  simp only [Bool.and_eq_true] at hck
  obtain ⟨c1, c2, c3, c4, c5, c6, c7⟩ := hck
  have hfp : memO pids fid = false := by simpa using c4
  have hh : ∀ m b, get h0 m = some b → memO pids m = true ∧ b.isC = true ∧ b.no fid = true ∧ m ≠ fid := fun m b hb => by
    have := List.all_eq_true.1 c2 (m, b) (get_mem hb)
    simp only [Bool.and_eq_true] at this
    refine ⟨this.1, this.2.1, this.2.2.1, fun e => ?_⟩
    have h4 := this.2.2.2
    rw [e, Nat.beq_refl] at h4
    cases h4
  have hpv : ∀ i v, get t0 i = some v → pvT pids v = true ∧ v.no fid = true := fun i v hv => by
    have h1 := List.all_eq_true.1 c1 (i, v) (get_mem hv)
    refine ⟨h1, ?_⟩
    cases hn : v.no fid with
    | true => rfl
    | false => have := mem_memO (pvT_no h1 hn); rw [hfp] at this; cases this
  refine aw_range pids fid q (fun x => ⟨t1 x, h0⟩) Fm (fun ⟨m, x, h1, _⟩ => by rw [hX0] at h1; cases h1) (hX0 fid) (fun m x h1 => by rw [hX0] at h1; cases h1) hg hcd eg It hE (fun p hp => ?_) hpv hh (fun m hm' => ?_) hfp (Nat.le_of_ble_eq_true c5) (fun m hm' => ?_) (fun m hm' => mem_memO hm') c6 (fun x i v hv => setps_no _ _ _ (fun j u hu => (hpv j u hu).2) (hEd x) i v hv) hm (fun x => ⟨ht1 x, hm, fun _ _ h => h, fun m b hb => ⟨(hh m b hb).1, (hh m b hb).2.1⟩⟩) hF hassign hbody hdone
  · have := Nat.le_of_ble_eq_true (List.all_eq_true.1 c7 p hp)
    exact this
  · have := List.all_eq_true.1 c3 m (memO_mem hm')
    simp only [Bool.and_eq_true] at this
    exact Option.isSome_iff_exists.1 this.1
  · have := List.all_eq_true.1 c3 m hm'
    simp only [Bool.and_eq_true] at this
    exact Nat.le_of_ble_eq_true this.2
end
end Go.Proofs.Ytgmhnkoifdpemaa
