/-
  No statement is proved in this text. It shows that the model does what the effects say: arithmetic, structs, slices, builtins, calls.
-/
import Derived.Test.YtgmhnkoifdpemaaS5
namespace Go.Proofs.Ytgmhnkoifdpemaa
open Go.RowKit
set_option linter.unusedSimpArgs false
set_option linter.unusedVariables false

section
variable {P : Program} {M : Nat → Option Obj} {σ : Nat → Loc} {w : World} {h : Nat → Option Blk} {a : Act} {o : Oper} {cs : List Prop} {g : Eg} {e : Ef}

theorem shr_run {T : TypeId} {x y : Operand} {yT : TypeId} {k : IntKind} {p q : Int} (ho : o.op = .binOp .shr T x y yT) (hx : a.eval x = .int k p) (hy : a.eval y = .int k q) (h0 : 0 ≤ q) :
    (execOp a.eval o).run P w = .ok (.value (.int k (p.fdiv (2 ^ (min q.toNat k.bits))))) w := by
  have h1 : ¬ q < 0 := by omega
  simp only [execOp, ho, hx, hy, eqGuard, binOp, Sem.run_bind]
  unfold Op.shift
  rw [if_neg h1]
  rfl
theorem shl_run {T : TypeId} {x y : Operand} {yT : TypeId} {k : IntKind} {p q : Int} (ho : o.op = .binOp .shl T x y yT) (hx : a.eval x = .int k p) (hy : a.eval y = .int k q) (h0 : 0 ≤ q) :
    (execOp a.eval o).run P w = .ok (.value (.int k (k.wrap (p * 2 ^ (min q.toNat k.bits))))) w := by
  have h1 : ¬ q < 0 := by omega
  simp only [execOp, ho, hx, hy, eqGuard, binOp, Sem.run_bind]
  unfold Op.shift
  rw [if_neg h1]
  rfl
theorem bin_scal {op : BinOp} {T : TypeId} {x y : Operand} {yT : TypeId} {u v : Value} {c : List Prop} {r : Value} (ho : o.op = .binOp op T x y yT) (hx : a.eval x = u) (hy : a.eval y = v) (hk : okT P T u = true) (hb : binV op u v = some (c, r)) (hc : AllP c) :
    (execOp a.eval o).run P w = .ok (.value r) w ∧ r.oneCell' = true := by
  unfold binV at hb
  split at hb
  · rename_i k p k' q
    split at hb
    · rename_i hkk
      subst hkk
      cases op <;> simp only [Option.some.injEq, Prod.mk.injEq] at hb <;> try (cases hb; done)
      all_goals
        obtain ⟨rfl, rfl⟩ := hb
        refine ⟨?_, rfl⟩
        first
          | exact shr_run ho hx hy hc.head
          | exact shl_run ho hx hy hc.head
          | (have h0 := hc.head; simp only [execOp, ho, hx, hy, eqGuard, binOp, Sem.run_bind, Sem.run_pure, Result.andThen_ok, Op.intDiv, ne_eq, not_true_eq_false, if_false, decide_false, Bool.not_false, decide_true, Bool.not_true, Bool.false_eq_true, if_true]; rw [if_neg h0]; rfl)
          | (simp only [execOp, ho, hx, hy, eqGuard, binOp, Sem.run_bind, Sem.run_pure, Result.andThen_ok, Op.intBits, ne_eq, not_true_eq_false, if_false, decide_false, decide_true, Bool.not_true, Bool.not_false, Bool.false_eq_true, if_true]; done)
          | (simp only [execOp, ho, hx, hy, eqGuard, binOp, Sem.run_bind, Sem.run_pure, Result.andThen_ok, Op.intArith, Op.intCmp, ne_eq, not_true_eq_false, if_false, decide_false, decide_true, Bool.not_true, Bool.not_false, Bool.false_eq_true, if_true]; done)
          | (simp only [execOp, ho, hx, hy, eqGuard, binOp, Sem.run_bind, Sem.run_pure, Result.andThen_ok, Op.intArith, Op.intCmp, ne_eq, not_true_eq_false, if_false, decide_false, decide_true, Bool.not_true, Bool.not_false, Bool.false_eq_true, if_true]; rfl)
    · cases hb
  · rename_i p q
    have hT : P.underlying T = some .bool := by
      unfold okT at hk
      split at hk
      · split at hk
        · rename_i ht; exact (run_ti ht w).2.2.2.1
        · cases hk
      · rename_i hne; exact (hne _ rfl).elim
    cases op <;> simp only [Option.some.injEq, Prod.mk.injEq] at hb <;> try (cases hb; done)
    · obtain ⟨rfl, rfl⟩ := hb
      refine ⟨?_, rfl⟩
      have := run_eql_bool (P := P) w T p q hT
      simp only [execOp, ho, hx, hy, eqGuard, Sem.run_bind, Sem.run_pure, Result.andThen_ok, this]
      simp [this]
    · obtain ⟨rfl, rfl⟩ := hb
      refine ⟨?_, rfl⟩
      have := run_neq_bool (P := P) w T p q hT
      simp only [execOp, ho, hx, hy, eqGuard, Sem.run_bind, Sem.run_pure, Result.andThen_ok, this]
      simp [this]
  · rename_i p q
    cases op <;> simp only [Option.some.injEq, Prod.mk.injEq] at hb <;> try (cases hb; done)
    · obtain ⟨rfl, rfl⟩ := hb
      refine ⟨?_, rfl⟩
      have h0 := hc.head
      have h1 : ¬ (((p.size + q.size : Nat) : Int) > IntKind.i64.max) := by rw [IntKind.max_i64]; omega
      simp only [execOp, ho, hx, hy, eqGuard, binOp, Op.stringOp, Sem.run_bind, Sem.run_pure, Result.andThen_ok, if_neg h1]
      simp [h1]
    · obtain ⟨rfl, rfl⟩ := hb
      exact ⟨by simp [execOp, ho, hx, hy, eqGuard, binOp, Op.stringOp], rfl⟩
    · obtain ⟨rfl, rfl⟩ := hb
      exact ⟨by simp [execOp, ho, hx, hy, eqGuard, binOp, Op.stringOp], rfl⟩
  · cases hb
/-- What is asked of a table of types that are compared. -/
def EqOk (P : Program) (V : Env P) : Prop := ∀ T ks, V.E T = some ks → P.eqGuardType P.depth T = false ∧ flatT P 9 T = some ks ∧ ∃ t, ti P T = some t ∧ t.agg = true
theorem eq_agg {V : Env P} (hV : EqOk P V) {T : TypeId} {ks : List Kd} (hE : V.E T = some ks) {l m : List Cl} {X Y : List Value} {r : Bool} (hl : L2 (R M σ) l X) (hm : L2 (R M σ) m Y) (he : eqV ks l m = some r) :
    (Op.equalIn 10000 T (.agg X.toArray) (.agg Y.toArray)).run P w = .ok r w := by
  obtain ⟨_, h2, t, ht, hag⟩ := hV T ks hE
  have hvv := eqV_vals ks l m X Y r hl hm he
  have hlen := eqVV_len _ _ _ _ hvv
  have hks : ks.length = t.size := by
    unfold flatT at h2
    rw [ht] at h2
    obtain ⟨s, ag, d⟩ := t
    cases d <;> simp only at h2 <;> try (cases h2; done)
    all_goals first
      | (have := agg_of_ti ht; simp only [isAggD] at this; simp only at hag; rw [hag] at this; cases this; done)
      | skip
    · rename_i n e
      split at h2
      · cases hb : (ag && Nat.beq n s) with
        | false => rw [hb] at h2; cases h2
        | true =>
          rw [hb] at h2
          simp only [cond_true, Option.some.injEq] at h2
          subst h2
          simp only [Bool.and_eq_true] at hb
          rw [length_repK, ← Nat.eq_of_beq_eq_true hb.2]
          simp
      · cases h2
    rename_i fs
    cases hb : (P.stoodInHeld T || !ag) with
    | true => rw [hb] at h2; cases h2
    | false =>
      rw [hb] at h2
      simp only [cond_false] at h2
      cases hf : flatF (flatT P 8) fs.toList 0 with
      | none => rw [hf] at h2; cases h2
      | some ks' =>
        rw [hf] at h2
        simp only at h2
        cases hbl : Nat.beq ks'.length s with
        | false => rw [hbl] at h2; cases h2
        | true =>
          rw [hbl] at h2
          simp only [cond_true, Option.some.injEq] at h2
          subst h2
          exact Nat.eq_of_beq_eq_true hbl
  have := eq_flat 9 T ks h2 10000 (by omega) [] X [] [] Y [] r w rfl hvv
  obtain ⟨s, ag, d⟩ := t
  simp only at hag
  subst hag
  have p1 := part_agg ht [] X [] (by simp only at hks; omega) w
  have p2 := part_agg ht [] Y [] (by simp only at hks; omega) w
  simp only [List.nil_append, List.append_nil] at this p1 p2
  simp only [Sem.run_bind, p1, p2, Result.andThen_ok] at this
  exact this
theorem bin_ok {V : Env P} (hV : EqOk P V) {op : BinOp} {T : TypeId} {x y : Operand} {yT : TypeId} {u v : Tv} (ho : o.op = .binOp op T x y yT) (hx : RT M σ u (a.eval x)) (hy : RT M σ v (a.eval y)) (he : effBin P V op T u v = some e) (hs : Std M σ w h) (hr : res h e = some (cs, g)) (hc : AllP cs) : Good P M σ o a w g := by
  unfold effBin at he
  split at he
  · have hx' : a.eval x = .slice none 0 0 := hx.1
    have hy' : a.eval y = .slice none 0 0 := hy.1
    have hrun : ∀ s ag e, ti P T = some ⟨s, ag, .slice e⟩ → (Op.equal T (.slice none 0 0) (.slice none 0 0)).run P w = .ok true w := fun s ag e ht =>
      Go.run_equal_slice_nil w T e none 0 0 (run_ti ht w).2.2.2.1
    split at he
    · rename_i s ag e ht
      simp only [Option.some.injEq] at he
      subst he
      obtain ⟨rfl, rfl⟩ := res_val hr
      refine good_val hs.imm (V := .bool true) ?_ (R_v rfl)
      simp [execOp, ho, hx', hy', eqGuard, binOp, Sem.run_bind, hrun _ _ _ ht]
    · rename_i s ag e ht
      simp only [Option.some.injEq] at he
      subst he
      obtain ⟨rfl, rfl⟩ := res_val hr
      refine good_val hs.imm (V := .bool false) ?_ (R_v rfl)
      simp [execOp, ho, hx', hy', eqGuard, binOp, Sem.run_bind, hrun _ _ _ ht]
    · cases he
  · rename_i p q _
    cases hk : okT P T p with
    | false => rw [hk] at he; cases he
    | true =>
      rw [hk] at he
      simp only [cond_true] at he
      cases hb : binV op p q with
      | none => rw [hb] at he; cases he
      | some r =>
        rw [hb] at he
        simp only [Option.map_some, Option.some.injEq] at he
        subst he
        obtain ⟨rfl, rfl⟩ := res_val hr
        obtain ⟨h1, h2⟩ := bin_scal (w := w) ho hx.1 hy.1 hk (c := r.1) (r := r.2) hb hc
        exact good_val hs.imm h1 (R_v h2)
  · rename_i sz len f
    have hx' : RC M (.list true sz len f) (a.eval x) := hx
    have hy' : a.eval y = .slice none 0 0 := hy.1
    have hnn : ∃ (p : Addr) (k c : Nat), a.eval x = .slice (some p) k c := by
      generalize a.eval x = X at hx'
      cases hx' with
      | nil _ _ _ h0 => cases h0
      | mt _ _ _ p cap => exact ⟨p, _, _, rfl⟩
      | list _ _ _ _ b off cap => exact ⟨_, _, _, rfl⟩
    obtain ⟨p, k, c, hX⟩ := hnn
    have hrun : ∀ s ag e, ti P T = some ⟨s, ag, .slice e⟩ → (Op.equal T (.slice (some p) k c) (.slice none 0 0)).run P w = .ok false w := fun s ag e ht => by
      obtain ⟨_, _, hu, _, _⟩ := run_ti ht w
      exact Go.run_equal_slice_nil w T e (some p) k c (run_ti ht w).2.2.2.1
    split at he
    · rename_i s ag e ht
      simp only [Option.some.injEq] at he
      subst he
      obtain ⟨rfl, rfl⟩ := res_val hr
      refine good_val hs.imm (V := .bool false) ?_ (R_v rfl)
      simp [execOp, ho, hX, hy', eqGuard, binOp, Sem.run_bind, hrun _ _ _ ht]
    · rename_i s ag e ht
      simp only [Option.some.injEq] at he
      subst he
      obtain ⟨rfl, rfl⟩ := res_val hr
      refine good_val hs.imm (V := .bool true) ?_ (R_v rfl)
      simp [execOp, ho, hX, hy', eqGuard, binOp, Sem.run_bind, hrun _ _ _ ht]
    · cases he
  · rename_i l m
    split at he
    · rename_i ks hE
      obtain ⟨X, hX, hlX⟩ := hx
      obtain ⟨Y, hY, hmY⟩ := hy
      have hg := (hV T ks hE).1
      split at he
      · rename_i r hq
        simp only [Option.some.injEq] at he
        subst he
        obtain ⟨rfl, rfl⟩ := res_val hr
        refine good_val hs.imm (V := .bool r) ?_ (R_v rfl)
        simp only [execOp, ho, hX, hY, Sem.run_bind, run_eqGuard_agg w _ T x y _ _ hg, Result.andThen_ok, run_eql_struct, eq_agg hV hE hlX hmY hq, Sem.run_pure]
      · rename_i r hq
        simp only [Option.some.injEq] at he
        subst he
        obtain ⟨rfl, rfl⟩ := res_val hr
        refine good_val hs.imm (V := .bool (!r)) ?_ (R_v rfl)
        simp only [execOp, ho, hX, hY, Sem.run_bind, run_eqGuard_agg w _ T x y _ _ hg, Result.andThen_ok, run_neq_struct, eq_agg hV hE hlX hmY hq, Sem.run_pure]
      · cases he
    · cases he
  · cases he
theorem un_ok {op : UnOp} {T : TypeId} {x : Operand} {u r : Value} (ho : o.op = .unOp op T x) (hx : a.eval x = u) (he : unV op u = some r) (hs : Std M σ w h) (hr : res h (.val [] (.av (.one (.val r)))) = some (cs, g)) : Good P M σ o a w g := by
  obtain ⟨rfl, rfl⟩ := res_val hr
  unfold unV at he
  split at he
  · simp only [Option.some.injEq] at he
    subst he
    exact good_val hs.imm (by simp [execOp, ho, hx, Op.unary]) (R_v rfl)
  · simp only [Option.some.injEq] at he
    subst he
    exact good_val hs.imm (by simp [execOp, ho, hx, Op.unary, Op.intArith]) (R_v rfl)
  · cases he
theorem index_ok {T : TypeId} {x y : Operand} {u v : Tv} (ho : o.op = .index T x y) (hx : RT M σ u (a.eval x)) (hy : RT M σ v (a.eval y)) (he : effIndex P T u v = some e) (hs : Std M σ w h) (hr : res h e = some (cs, g)) (hc : AllP cs) : Good P M σ o a w g := by
  unfold effIndex at he
  split at he
  · rename_i s1 a1 n k i h1
    simp only [Option.some.injEq] at he
    subst he
    obtain ⟨rfl, rfl⟩ := res_val hr
    obtain ⟨_, _, _, u1, _⟩ := run_ti h1 w
    have hi := hc.head
    refine good_val hs.imm ?_ (R_v rfl)
    have hv : a.eval x = .string n := hx.1
    have hlt : i.toNat < n.size := by omega
    have key : ((n[i.toNat]'hlt).toNat : Int) = byteAt n i.toNat := by
      unfold byteAt
      have h2 : i.toNat < n.data.toList.length := by simpa using hlt
      rw [List.getD_eq_getElem?_getD, List.getElem?_eq_getElem h2]
      rfl
    simp only [execOp, ho, hv, RA_i hy, Sem.run_bind, run_index_string _ _ _ _ _ u1, dif_pos hi, Result.andThen_ok, Sem.run_pure, key]
  · cases he
theorem convert_ok {src dst : TypeId} {x : Operand} {u : Tv} (ho : o.op = .convert src dst x) (hx : RT M σ u (a.eval x)) (he : effConvert P src dst u = some e) (hs : Std M σ w h) (hr : res h e = some (cs, g)) (hc : AllP cs) : Good P M σ o a w g := by
  unfold effConvert at he
  split at he
  · rename_i s1 a1 k1 s2 a2 k k2 n h1 h2
    simp only [Option.some.injEq] at he
    subst he
    obtain ⟨rfl, rfl⟩ := res_val hr
    obtain ⟨_, _, u1, _, _⟩ := run_ti h1 w
    obtain ⟨_, _, u2, _, _⟩ := run_ti h2 w
    refine good_val hs.imm ?_ (R_v rfl)
    simp only [execOp, ho, RA_i hx, convert, Sem.run_bind, u1, u2, Result.andThen_ok, Conv.intToInt, Sem.run_pure]
  · rename_i s1 a1 s2 a2 n h1 h2
    simp only [Option.some.injEq] at he
    subst he
    obtain ⟨rfl, rfl⟩ := res_val hr
    obtain ⟨_, _, u1, _, _⟩ := run_ti h1 w
    obtain ⟨_, _, u2, _, _⟩ := run_ti h2 w
    refine good_val hs.imm ?_ (R_v rfl)
    have hv : a.eval x = .string n := hx.1
    simp only [execOp, ho, hv, convert, Sem.run_bind, u1, u2, Result.andThen_ok, Sem.run_pure]
  · rename_i s1 a1 el s2 a2 tg f h1 h2
    split at he
    · rename_i s3 a3 n h3 h4
      simp only [Option.some.injEq] at he
      subst he
      obtain ⟨rfl, rfl⟩ := res_val hr
      obtain ⟨_, _, u1, _, _⟩ := run_ti h1 w
      obtain ⟨_, _, u2, _, _⟩ := run_ti h2 w
      obtain ⟨_, _, u3, _, _⟩ := run_ti h3 w
      refine good_val hs.imm ?_ (R_v rfl)
      have hv : RC M (.list tg 1 1 f) (a.eval x) := hx
      have key : (∃ (pp : Addr) (cap : Nat), a.eval x = .slice (some pp) 1 cap) ∧ (Conv.bytesToString (a.eval x)).run P w = .ok (.string (ByteArray.empty.push (UInt8.ofNat n.toNat))) w := by
        generalize a.eval x = X at hv
        cases hv with
        | list _ _ _ _ b off cap gv g1 g2 g4 =>
          have e1 := cellM_world hs.imm (g1 0 0 (by omega) (by omega))
          have e2 := g2 0 0 (by omega) (by omega)
          rw [h4] at e2
          have e3 : gv 0 0 = .int .u8 n := (RC_R (σ := σ) e2).1
          rw [e3] at e1
          have e4 := run_loadCells (P := P) (w := w) ⟨b, off, none⟩ 1 (fun _ => .int .u8 n) (fun j hj => by
            obtain rfl : j = 0 := by omega
            rw [Addr.add_lit]; simpa using e1)
          refine ⟨⟨_, _, rfl⟩, ?_⟩
          simp only [Conv.bytesToString, Sem.run_bind, e4, Result.andThen_ok]
          rfl
      obtain ⟨⟨pp, cap, hX⟩, key⟩ := key
      rw [hX] at key
      simp only [execOp, ho, hX, convert, Sem.run_bind, u1, u2, u3, Result.andThen_ok, key, Sem.run_pure]
    · cases he
  · rename_i s1 a1 k1 s2 a2 k k2 n h1 h2
    simp only [Option.some.injEq] at he
    subst he
    obtain ⟨rfl, rfl⟩ := res_val hr
    obtain ⟨_, _, u1, _, _⟩ := run_ti h1 w
    obtain ⟨_, _, u2, _, _⟩ := run_ti h2 w
    refine good_val hs.imm ?_ (R_v rfl)
    simp only [execOp, ho, RA_i hx, convert, Sem.run_bind, u1, u2, Result.andThen_ok, Conv.intToFloat, Sem.run_pure]
  · rename_i s1 a1 k1 s2 a2 k s b h1 h2
    simp only [Option.some.injEq] at he
    subst he
    obtain ⟨rfl, rfl⟩ := res_val hr
    obtain ⟨_, _, u1, _, _⟩ := run_ti h1 w
    obtain ⟨_, _, u2, _, _⟩ := run_ti h2 w
    obtain ⟨m, hm, hlo, hhi⟩ := hc.head
    refine good_val hs.imm ?_ (R_v rfl)
    have hv : a.eval x = .float s b := hx.1
    have hf : f2i s b = m := by unfold f2i; rw [hm]; rfl
    simp only [execOp, ho, hv, convert, Sem.run_bind, u1, u2, Result.andThen_ok, Conv.floatToInt, hm, hlo, hhi, and_self, if_true, Sem.run_pure, hf]
  · cases he

/-! ### Structs and literals -/
theorem parts_ok {ev : Operand → Option Tv} (hev : ∀ x v, ev x = some v → RT M σ v (a.eval x)) : ∀ (ps : List (Nat × Operand)) (l : List (Nat × Av)), partsC ev ps = some l → L2 (fun p q => p.1 = q.1 ∧ RA M σ p.2 q.2) l (ps.map fun p => (p.1, a.eval p.2))
  | [], l, he => by simp only [partsC, Option.some.injEq] at he; subst he; exact .nil
  | (i, x) :: ps, l, he => by
    simp only [partsC] at he
    split at he
    · rename_i v l' h1 h2
      simp only [Option.some.injEq] at he
      subst he
      exact .cons ⟨rfl, hev x _ h1⟩ (parts_ok hev ps l' h2)
    · cases he
theorem length_setL : ∀ (us l : List Cl) (off : Nat), (setL l off us).length = l.length
  | [], _, _ => rfl
  | u :: us, l, off => by simp [setL, length_setL us]
theorem foldl_setV : ∀ (us : List Value) (c : List Value) (off k : Nat), (us.zipIdx k).foldl (fun cs p => cs.setIfInBounds (off + p.2) p.1) c.toArray = (setV c (off + k) us).toArray
  | [], c, off, k => rfl
  | u :: us, c, off, k => by
    simp only [List.zipIdx_cons, List.foldl_cons, setV]
    have := foldl_setV us (c.set (off + k) u) off (k + 1)
    simp only [List.setIfInBounds_toArray]
    rw [this]
    rfl
theorem fill_ok {place : Nat → Option (Nat × Nat)} : ∀ {l : List (Nat × Av)} {us : List (Nat × Value)} {z : List Cl} {c : List Value} {r : List Cl}, L2 (fun p q => p.1 = q.1 ∧ RA M σ p.2 q.2) l us → L2 (R M σ) z c → fillC place z l = some r → ∃ d : List Value, Instr.fill place c.toArray us = some d.toArray ∧ L2 (R M σ) r d
  | [], _, z, c, r, hl, hz, he => by cases hl; simp only [fillC, Option.some.injEq] at he; subst he; exact ⟨c, rfl, hz⟩
  | (i, v) :: l, _, z, c, r, hl, hz, he => by
    cases hl with
    | cons h1 h2 =>
      rename_i q us
      obtain ⟨j, u⟩ := q
      obtain ⟨rfl, hR⟩ := h1
      simp only [fillC] at he
      simp only [Instr.fill]
      cases hp : place i with
      | none => rw [hp] at he; cases he
      | some os =>
        obtain ⟨off, size⟩ := os
        rw [hp] at he
        simp only at he ⊢
        have hcl := RA_cells hR
        have hlen := hcl.length
        cases hb : (Nat.beq v.cells.length size && Nat.ble (off + v.cells.length) z.length) with
        | false => rw [hb] at he; cases he
        | true =>
          rw [hb] at he
          simp only [cond_true] at he
          simp only [Bool.and_eq_true] at hb
          have hb1 := Nat.eq_of_beq_eq_true hb.1
          have hb2 := Nat.le_of_ble_eq_true hb.2
          have hsz : u.cells.size = size := by rw [← hb1, hlen]; simp
          have hle : ¬ (off + u.cells.size > c.toArray.size) := by rw [hsz, ← hb1]; simp; rw [← hz.length]; omega
          simp only [hsz] at hle
          have hfold : u.cells.zipIdx.foldl (fun cs (p : Value × Nat) => cs.setIfInBounds (off + p.2) p.1) c.toArray = (setV c off u.cells.toList).toArray := by
            rw [← Array.foldl_toList, Array.toList_zipIdx]
            exact foldl_setV _ _ _ 0
          obtain ⟨d, hd1, hd2⟩ := fill_ok h2 (L2_set off hcl hz) he
          refine ⟨d, ?_, hd2⟩
          rw [if_neg (by simp [hsz]; simpa using hle)]
          rw [← hd1]
          congr 1
theorem L2_self_vals {z : List Cl} {v : Value} (hz : L2 (R M σ) z v.cells.toList) : L2 (R M σ) z v.cells.toList := hz
theorem mapM_places {fs : List Field} {w : World} {g : Field → Nat} (hg : ∀ f ∈ fs, (sizeOf f.type).run P w = .ok (g f) w) : (fs.mapM fun f => do pure (f.offset, ← sizeOf f.type) : Sem (List (Nat × Nat))).run P w = .ok (fs.map fun f => (f.offset, g f)) w := by
  induction fs with
  | nil => simp
  | cons f fs ih =>
    simp only [List.mapM_cons, Sem.run_bind, hg f (by simp), Result.andThen_ok, Sem.run_pure, ih fun f hf => hg f (by simp [hf]), List.map_cons]
end
end Go.Proofs.Ytgmhnkoifdpemaa
