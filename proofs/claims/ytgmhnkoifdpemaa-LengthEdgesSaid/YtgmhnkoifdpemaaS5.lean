/-
  No statement is proved in this text. It shows that the model compares structs as the effects say.
-/
import Derived.Test.YtgmhnkoifdpemaaS4
namespace Go.Proofs.Ytgmhnkoifdpemaa
open Go.RowKit

def eqVV : List Kd → List Value → List Value → Option Bool
  | [], [], [] => some true
  | .int k :: ks, .int k1 a :: l, .int k2 b :: m => if k1 = k ∧ k2 = k then (eqVV ks l m).map fun r => decide (a = b) && r else none
  | .bool :: ks, .bool a :: l, .bool b :: m => (eqVV ks l m).map fun r => (a == b) && r
  | .str :: ks, .string a :: l, .string b :: m => (eqVV ks l m).map fun r => (a.toList == b.toList) && r
  | _, _, _ => none
theorem eqVV_len : ∀ (ks : List Kd) (X Y : List Value) (r : Bool), eqVV ks X Y = some r → X.length = ks.length ∧ Y.length = ks.length := by
  intro ks
  induction ks with
  | nil => intro X Y r h; cases X <;> cases Y <;> simp [eqVV] at h <;> simp
  | cons k ks ih =>
    intro X Y r h
    unfold eqVV at h
    split at h
    · cases ‹_ = []›
    · rename_i e1
      injection e1 with _ e; subst e
      split at h
      · obtain ⟨r', h', _⟩ := Option.map_eq_some_iff.1 h; have := ih _ _ _ h'; simp [this]
      · cases h
    · rename_i e1; injection e1 with _ e; subst e; obtain ⟨r', h', _⟩ := Option.map_eq_some_iff.1 h; have := ih _ _ _ h'; simp [this]
    · rename_i e1; injection e1 with _ e; subst e; obtain ⟨r', h', _⟩ := Option.map_eq_some_iff.1 h; have := ih _ _ _ h'; simp [this]
    · cases h
theorem eqVV_int {k : IntKind} {X Y : List Value} {r : Bool} (he : eqVV [.int k] X Y = some r) : ∃ a b, X = [.int k a] ∧ Y = [.int k b] ∧ r = decide (a = b) := by
  have hl := eqVV_len _ _ _ _ he
  unfold eqVV at he
  split at he <;> first | (cases he; done) | (rename_i e1; cases e1; done) | skip
  rename_i _ _ _ _ _ _ l _ _ m e1
  injection e1 with ek e; subst e; injection ek with ek; subst ek
  have : l = [] := by simpa using hl.1
  subst this
  have : m = [] := by simpa using hl.2
  subst this
  split at he
  · rename_i hk
    obtain ⟨rfl, rfl⟩ := hk
    simp [eqVV] at he
    exact ⟨_, _, rfl, rfl, he.symm⟩
  · cases he
theorem eqVV_bool {X Y : List Value} {r : Bool} (he : eqVV [.bool] X Y = some r) : ∃ a b, X = [.bool a] ∧ Y = [.bool b] ∧ r = (a == b) := by
  have hl := eqVV_len _ _ _ _ he
  unfold eqVV at he
  split at he <;> first | (cases he; done) | (rename_i e1; cases e1; done) | skip
  rename_i _ _ _ _ _ l _ m e1
  injection e1 with ek e; subst e
  have : l = [] := by simpa using hl.1
  subst this
  have : m = [] := by simpa using hl.2
  subst this
  simp [eqVV] at he
  exact ⟨_, _, rfl, rfl, he.symm⟩
theorem eqVV_str {X Y : List Value} {r : Bool} (he : eqVV [.str] X Y = some r) : ∃ a b, X = [.string a] ∧ Y = [.string b] ∧ r = (a.toList == b.toList) := by
  have hl := eqVV_len _ _ _ _ he
  unfold eqVV at he
  split at he <;> first | (cases he; done) | (rename_i e1; cases e1; done) | skip
  rename_i _ _ _ _ _ l _ m e1
  injection e1 with ek e; subst e
  have : l = [] := by simpa using hl.1
  subst this
  have : m = [] := by simpa using hl.2
  subst this
  simp [eqVV] at he
  exact ⟨_, _, rfl, rfl, he.symm⟩
theorem eqVV_split : ∀ (ks : List Kd) (ks2 : List Kd) (X X2 Y Y2 : List Value) (r : Bool), X.length = ks.length → Y.length = ks.length → eqVV (ks ++ ks2) (X ++ X2) (Y ++ Y2) = some r → ∃ r1 r2, eqVV ks X Y = some r1 ∧ eqVV ks2 X2 Y2 = some r2 ∧ r = (r1 && r2) := by
  intro ks
  induction ks with
  | nil => intro ks2 X X2 Y Y2 r hx hy h; cases X <;> cases Y <;> simp at hx hy; exact ⟨true, r, rfl, by simpa using h, by simp⟩
  | cons k ks ih =>
    intro ks2 X X2 Y Y2 r hx hy h
    cases X with
    | nil => simp at hx
    | cons x X =>
      cases Y with
      | nil => simp at hy
      | cons y Y =>
        simp only [List.cons_append] at h
        simp only [List.length_cons, Nat.add_right_cancel_iff] at hx hy
        unfold eqVV at h
        split at h
        · cases ‹_ = []›
        · rename_i e1 e2 e3
          injection e1 with ek e; subst e; subst ek
          injection e2 with ek e; subst e; subst ek
          injection e3 with ek e; subst e; subst ek
          split at h
          · rename_i hk
            obtain ⟨r', h', rfl⟩ := Option.map_eq_some_iff.1 h
            obtain ⟨r1, r2, h1, h2, rfl⟩ := ih _ _ _ _ _ _ hx hy h'
            exact ⟨_, r2, by unfold eqVV; rw [if_pos hk, h1]; rfl, h2, by rw [Bool.and_assoc]⟩
          · cases h
        · rename_i e1 e2 e3
          injection e1 with ek e; subst e; subst ek
          injection e2 with ek e; subst e; subst ek
          injection e3 with ek e; subst e; subst ek
          obtain ⟨r', h', rfl⟩ := Option.map_eq_some_iff.1 h
          obtain ⟨r1, r2, h1, h2, rfl⟩ := ih _ _ _ _ _ _ hx hy h'
          exact ⟨_, r2, by unfold eqVV; rw [h1]; rfl, h2, by rw [Bool.and_assoc]⟩
        · rename_i e1 e2 e3
          injection e1 with ek e; subst e; subst ek
          injection e2 with ek e; subst e; subst ek
          injection e3 with ek e; subst e; subst ek
          obtain ⟨r', h', rfl⟩ := Option.map_eq_some_iff.1 h
          obtain ⟨r1, r2, h1, h2, rfl⟩ := ih _ _ _ _ _ _ hx hy h'
          exact ⟨_, r2, by unfold eqVV; rw [h1]; rfl, h2, by rw [Bool.and_assoc]⟩
        · cases h
theorem eqV_vals {M : Nat → Option Obj} {σ : Nat → Loc} : ∀ (ks : List Kd) (l m : List Cl) (X Y : List Value) (r : Bool), L2 (R M σ) l X → L2 (R M σ) m Y → eqV ks l m = some r → eqVV ks X Y = some r := by
  intro ks
  induction ks with
  | nil =>
    intro l m X Y r hl hm h
    cases l <;> cases m <;> simp [eqV] at h
    cases hl; cases hm; subst h; rfl
  | cons k ks ih =>
    intro l m X Y r hl hm h
    unfold eqV at h
    split at h
    · cases ‹_ = []›
    · rename_i e1
      injection e1 with ek e; subst e; subst ek
      cases hl with | cons a1 a2 => cases hm with | cons b1 b2 =>
      obtain ⟨rfl, _⟩ := a1
      obtain ⟨rfl, _⟩ := b1
      split at h
      · rename_i hk
        obtain ⟨r', h', rfl⟩ := Option.map_eq_some_iff.1 h
        unfold eqVV; rw [if_pos hk, ih _ _ _ _ _ a2 b2 h']; rfl
      · cases h
    · rename_i e1
      injection e1 with ek e; subst e; subst ek
      cases hl with | cons a1 a2 => cases hm with | cons b1 b2 =>
      obtain ⟨rfl, _⟩ := a1
      obtain ⟨rfl, _⟩ := b1
      obtain ⟨r', h', rfl⟩ := Option.map_eq_some_iff.1 h
      unfold eqVV; rw [ih _ _ _ _ _ a2 b2 h']; rfl
    · rename_i e1
      injection e1 with ek e; subst e; subst ek
      cases hl with | cons a1 a2 => cases hm with | cons b1 b2 =>
      obtain ⟨rfl, _⟩ := a1
      obtain ⟨rfl, _⟩ := b1
      obtain ⟨r', h', rfl⟩ := Option.map_eq_some_iff.1 h
      unfold eqVV; rw [ih _ _ _ _ _ a2 b2 h']; rfl
    · cases h

/-- The cells of a type that can be compared cell by cell. -/
def flatF (fl : TypeId → Option (List Kd)) : List Field → Nat → Option (List Kd)
  | [], _ => some []
  | f :: fs, off => bif Nat.beq f.offset off && f.name != "_" then match fl f.type with
    | some ks => match flatF fl fs (off + ks.length) with
      | some r => some (ks ++ r)
      | none => none
    | none => none
    else none
def repK (ks : List Kd) : Nat → List Kd
  | 0 => []
  | n + 1 => ks ++ repK ks n
def flatT (P : Program) : Nat → TypeId → Option (List Kd)
  | 0, _ => none
  | d + 1, T => match ti P T with
    | some ⟨_, _, .int k⟩ => some [.int k]
    | some ⟨_, _, .bool⟩ => some [.bool]
    | some ⟨_, _, .string⟩ => some [.str]
    | some ⟨s, ag, .struct fs⟩ => bif P.stoodInHeld T || !ag then none else match flatF (flatT P d) fs.toList 0 with
      | some ks => bif Nat.beq ks.length s then some ks else none
      | none => none
    | some ⟨s, ag, .array n e⟩ => (match d, ti P e with
      | _ + 1, some ⟨1, false, .int k⟩ => bif ag && Nat.beq n s then some (repK [.int k] n) else none
      | _, _ => none)
    | _ => none
theorem length_repK (ks : List Kd) : ∀ n, (repK ks n).length = n * ks.length
  | 0 => by simp [repK]
  | n + 1 => by simp [repK, length_repK ks n, Nat.add_mul, Nat.add_comm]

section
variable {P : Program}
theorem part_scal {T : TypeId} {s : Nat} {d : TypeDesc} (ht : ti P T = some ⟨s, false, d⟩) (A B : List Value) (x : Value) (w : World) : (part T (A ++ x :: B).toArray A.length).run P w = .ok x w := by
  obtain ⟨_, h2, _⟩ := run_ti ht w
  simp [part, h2]
theorem part_agg {T : TypeId} {s : Nat} {d : TypeDesc} (ht : ti P T = some ⟨s, true, d⟩) (A X B : List Value) (hX : X.length = s) (w : World) : (part T (A ++ (X ++ B)).toArray A.length).run P w = .ok (.agg X.toArray) w := by
  obtain ⟨h1, h2, _⟩ := run_ti ht w
  simp only [part, Sem.run_bind, h2, Result.andThen_ok, if_true, h1, Sem.run_pure]
  congr 2
  rw [List.extract_toArray, List.extract_eq_take_drop, Nat.add_sub_cancel_left, List.drop_left, ← hX, List.take_left]
/-- Comparing by cells. -/
def EqAt (P : Program) (D : Nat) (T : TypeId) (ks : List Kd) : Prop := ∀ (A X B A' Y B' : List Value) (r : Bool) (w : World), A'.length = A.length → eqVV ks X Y = some r →
  (part T (A ++ (X ++ B)).toArray A.length >>= fun a => part T (A' ++ (Y ++ B')).toArray A.length >>= fun b => Op.equalIn D T a b).run P w = .ok r w
theorem agg_of_ti {T : TypeId} {t : TI} (ht : ti P T = some t) : t.agg = isAggD t.d := by
  unfold ti at ht
  split at ht
  · injection ht with ht; subst ht; rfl
  · cases ht
theorem eq_fields {D : Nat} (fl : TypeId → Option (List Kd)) (ih : ∀ T ks, fl T = some ks → EqAt P D T ks) : ∀ (fs : List Field) (off : Nat) (ks : List Kd), flatF fl fs off = some ks → ∀ (A X A' Y : List Value) (r : Bool) (w : World), A.length = off → A'.length = off → eqVV ks X Y = some r →
    (Op.eqFields D (A ++ X).toArray (A' ++ Y).toArray fs).run P w = .ok r w
  | [], off, ks, hk, A, X, A', Y, r, w, _, _, h => by
    simp only [flatF, Option.some.injEq] at hk
    subst hk
    have := eqVV_len _ _ _ _ h
    cases X <;> cases Y <;> simp at this
    simp [eqVV] at h
    subst h
    simp [Op.eqFields]
  | f :: fs, off, ks, hk, A, X, A', Y, r, w, hA, hA', h => by
    simp only [flatF] at hk
    cases hb : (Nat.beq f.offset off && f.name != "_") with
    | false => rw [hb] at hk; cases hk
    | true =>
      rw [hb] at hk
      simp only [cond_true] at hk
      simp only [Bool.and_eq_true, bne_iff_ne, ne_eq] at hb
      obtain ⟨hb1, hb2⟩ := hb
      have hoff := Nat.eq_of_beq_eq_true hb1
      cases h1 : fl f.type with
      | none => rw [h1] at hk; cases hk
      | some k1 =>
        rw [h1] at hk
        simp only at hk
        cases h2 : flatF fl fs (off + k1.length) with
        | none => rw [h2] at hk; cases hk
        | some k2 =>
          rw [h2] at hk
          simp only [Option.some.injEq] at hk
          subst hk
          have hlen := eqVV_len _ _ _ _ h
          simp only [List.length_append] at hlen
          have hX : X = X.take k1.length ++ X.drop k1.length := (List.take_append_drop _ _).symm
          have hY : Y = Y.take k1.length ++ Y.drop k1.length := (List.take_append_drop _ _).symm
          rw [hX, hY] at h
          obtain ⟨r1, r2, e1, e2, rfl⟩ := eqVV_split k1 k2 _ _ _ _ r (by simp; omega) (by simp; omega) h
          have hrun := ih _ _ h1 A (X.take k1.length) (X.drop k1.length) A' (Y.take k1.length) (Y.drop k1.length) r1 w (by omega) e1
          have hrest := eq_fields fl ih fs (off + k1.length) k2 h2 (A ++ X.take k1.length) (X.drop k1.length) (A' ++ Y.take k1.length) (Y.drop k1.length) r2 w (by simp; omega) (by simp; omega) e2
          rw [List.append_assoc, List.append_assoc, ← hX, ← hY] at hrest
          rw [← hX, ← hY] at hrun
          simp only [Op.eqFields, ne_eq, hb2, not_false_eq_true, if_true, hoff, ← hA]
          have assoc : (part f.type (A ++ X).toArray A.length >>= fun a => part f.type (A' ++ Y).toArray A.length >>= fun b => Op.equalIn D f.type a b >>= fun r => if (!r) = true then pure false else Op.eqFields D (A ++ X).toArray (A' ++ Y).toArray fs).run P w
              = ((part f.type (A ++ X).toArray A.length >>= fun a => part f.type (A' ++ Y).toArray A.length >>= fun b => Op.equalIn D f.type a b).run P w).andThen fun r w' => (if (!r) = true then pure false else Op.eqFields D (A ++ X).toArray (A' ++ Y).toArray fs : Sem Bool).run P w' := by
            rw [← Sem.run_bind]
            simp only [bind_assoc]
          rw [assoc, hrun]
          simp only [Result.andThen_ok]
          cases r1
          · simp
          · simpa using hrest
theorem eqVV_ints {k : IntKind} : ∀ (n : Nat) (X Y : List Value) (r : Bool), eqVV (repK [.int k] n) X Y = some r → ∃ xs ys : List Int, xs.length = n ∧ ys.length = n ∧ X = xs.map (Value.int k) ∧ Y = ys.map (Value.int k) ∧ r = ((List.range n).all fun i => decide (xs.getD i 0 = ys.getD i 0))
  | 0, X, Y, r, h => by
    cases X <;> cases Y <;> simp [repK, eqVV] at h
    subst h
    exact ⟨[], [], rfl, rfl, rfl, rfl, rfl⟩
  | n + 1, X, Y, r, h => by
    have hl := eqVV_len _ _ _ _ h
    simp only [repK, List.singleton_append] at h hl
    unfold eqVV at h
    split at h
    · rename_i e1; cases e1
    · rename_i e1
      injection e1 with e1 e2
      injection e1 with e1
      subst e1 e2
      split at h
      · rename_i hk
        obtain ⟨rfl, rfl⟩ := hk
        obtain ⟨r', h', rfl⟩ := Option.map_eq_some_iff.1 h
        obtain ⟨xs, ys, h1, h2, rfl, rfl, rfl⟩ := eqVV_ints n _ _ _ h'
        refine ⟨_ :: xs, _ :: ys, by simp [h1], by simp [h2], rfl, rfl, ?_⟩
        rw [List.range_succ_eq_map, List.all_cons, List.all_map]
        simp [Function.comp_def]
      · cases h
    · rename_i e1; injection e1 with e1 _; cases e1
    · rename_i e1; injection e1 with e1 _; cases e1
    · cases h
theorem equalIn_ints {D n : Nat} {T e : TypeId} {k : IntKind} (w : World) (ht : P.underlying T = some (.array n e)) (hte : ti P e = some ⟨1, false, .int k⟩) (xs ys : List Int) (hx : xs.length = n) (hy : ys.length = n) :
    (Op.equalIn (D + 2) T (.agg (xs.map (Value.int k)).toArray) (.agg (ys.map (Value.int k)).toArray)).run P w = .ok ((List.range n).all fun i => decide (xs.getD i 0 = ys.getD i 0)) w := by
  obtain ⟨hsz, _, _, he, _⟩ := run_ti hte w
  rw [List.range_eq_range', Op.equalIn]
  simp only [Sem.run_bind, run_underlying ht, Result.andThen_ok, hsz, Std.Legacy.Range.forIn_eq_forIn_range', Std.Legacy.Range.size, Nat.sub_zero, Nat.add_sub_cancel, Nat.div_one]
  have hl : ∀ i ∈ List.range' 0 n 1, i < n := fun i hi => by simpa using (List.mem_range'_1.1 hi).2
  generalize List.range' 0 n 1 = l at hl ⊢
  induction l with
  | nil => simp
  | cons i l ih =>
    have hi : i < n := hl i (by simp)
    have hpart : ∀ zs : List Int, zs.length = n → (part e (zs.map (Value.int k)).toArray (i * 1)).run P w = .ok (.int k (zs.getD i 0)) w := fun zs hz => by
      obtain ⟨_, h2, _⟩ := run_ti hte w
      simp [part, h2, List.getD, List.getElem?_eq_getElem (show i < zs.length by omega)]
    have pe : (Op.equalIn (D + 1) e (.int k (xs.getD i 0)) (.int k (ys.getD i 0))).run P w = .ok (decide (xs.getD i 0 = ys.getD i 0)) w := by
      rw [run_equalIn_int w D e k k _ _ he]
      rfl
    simp only [List.forIn_cons, Sem.run_bind, hpart xs hx, hpart ys hy, pe, Result.andThen_ok, List.all_cons]
    cases hb : decide (xs.getD i 0 = ys.getD i 0)
    · simp
    · simp only [Bool.not_true, Bool.false_eq_true, if_false, Sem.run_pure, Result.andThen_ok, Bool.true_and]
      exact ih fun j hj => hl j (by simp [hj])
theorem eq_flat : ∀ (d : Nat) (T : TypeId) (ks : List Kd), flatT P d T = some ks → ∀ D, d ≤ D → EqAt P D T ks
  | 0, T, ks, h, _, _ => by cases h
  | d + 1, T, ks, h, 0, hD => by omega
  | d + 1, T, ks, h, D + 1, hD => by
    unfold flatT at h
    intro A X B A' Y B' r w hA he
    split at h
    · rename_i s ag k ht
      injection h with h; subst h
      have ha := agg_of_ti ht; simp only [isAggD] at ha; subst ha
      obtain ⟨_, _, _, hu, _⟩ := run_ti ht w
      obtain ⟨x, y, rfl, rfl, rfl⟩ := eqVV_int he
      simp only [List.cons_append, List.nil_append, Sem.run_bind, part_scal ht, Result.andThen_ok]
      rw [← hA, part_scal ht]
      simp only [Result.andThen_ok, run_equalIn_int w D T _ _ _ _ hu]
      rfl
    · rename_i s ag ht
      injection h with h; subst h
      have ha := agg_of_ti ht; simp only [isAggD] at ha; subst ha
      obtain ⟨_, _, _, hu, _⟩ := run_ti ht w
      obtain ⟨x, y, rfl, rfl, rfl⟩ := eqVV_bool he
      simp only [List.cons_append, List.nil_append, Sem.run_bind, part_scal ht, Result.andThen_ok]
      rw [← hA, part_scal ht]
      simp only [Result.andThen_ok, run_equalIn_bool w D T _ _ hu]
    · rename_i s ag ht
      injection h with h; subst h
      have ha := agg_of_ti ht; simp only [isAggD] at ha; subst ha
      obtain ⟨_, _, _, hu, _⟩ := run_ti ht w
      obtain ⟨x, y, rfl, rfl, rfl⟩ := eqVV_str he
      simp only [List.cons_append, List.nil_append, Sem.run_bind, part_scal ht, Result.andThen_ok]
      rw [← hA, part_scal ht]
      simp only [Result.andThen_ok, run_equalIn_string w D T _ _ hu]
    · rename_i s ag fs ht
      cases hb : (P.stoodInHeld T || !ag) with
      | true => rw [hb] at h; cases h
      | false =>
        rw [hb] at h
        simp only [cond_false] at h
        simp only [Bool.or_eq_false_iff, Bool.not_eq_false'] at hb
        obtain ⟨hst, rfl⟩ := hb
        cases hf : flatF (flatT P d) fs.toList 0 with
        | none => rw [hf] at h; cases h
        | some ks' =>
          rw [hf] at h
          simp only at h
          cases hbl : Nat.beq ks'.length s with
          | false => rw [hbl] at h; cases h
          | true =>
            rw [hbl] at h
            simp only [cond_true, Option.some.injEq] at h
            subst h
            have hks := Nat.eq_of_beq_eq_true hbl
            have hl := eqVV_len _ _ _ _ he
            obtain ⟨_, _, _, hu, _⟩ := run_ti ht w
            have hfo : P.fieldsOf T = fs := by simp [Program.fieldsOf, hu]
            simp only [Sem.run_bind, part_agg ht A X B (by omega), Result.andThen_ok]
            rw [← hA, part_agg ht A' Y B' (by omega)]
            simp only [Result.andThen_ok]
            rw [run_equalIn_struct w D T _ _ (by rw [hfo]; exact hu) hst, hfo]
            have := eq_fields (flatT P d) (D := D) (fun T ks hk => eq_flat d T ks hk D (by omega)) fs.toList 0 ks' hf [] X [] Y r w rfl rfl he
            simpa using this
    · rename_i s ag n e ht
      split at h
      · rename_i d' k hte
        cases hb : (ag && Nat.beq n s) with
        | false => rw [hb] at h; cases h
        | true =>
          rw [hb] at h
          simp only [cond_true, Option.some.injEq] at h
          subst h
          simp only [Bool.and_eq_true] at hb
          obtain ⟨rfl, hns⟩ := hb
          have hns := Nat.eq_of_beq_eq_true hns
          obtain ⟨xs, ys, h1, h2, rfl, rfl, rfl⟩ := eqVV_ints n _ _ _ he
          obtain ⟨_, _, _, hu, _⟩ := run_ti ht w
          simp only [Sem.run_bind, part_agg ht A (xs.map (Value.int k)) B (by simp; omega), Result.andThen_ok]
          rw [← hA, part_agg ht A' (ys.map (Value.int k)) B' (by simp; omega)]
          simp only [Result.andThen_ok]
          obtain ⟨D', rfl⟩ : ∃ D', D = D' + 1 := ⟨D - 1, by omega⟩
          exact equalIn_ints w hu hte xs ys h1 h2
      · cases h
    · cases h
end
end Go.Proofs.Ytgmhnkoifdpemaa
