/-
  No statement is proved in this text. It shows that the model does what the effects say: len and append, calls; and all operations in one theorem.
-/
import Derived.Test.YtgmhnkoifdpemaaS8
namespace Go.Proofs.Ytgmhnkoifdpemaa
open Go.RowKit Go.MapKept
set_option linter.unusedSimpArgs false
set_option linter.unusedVariables false

section
variable {P : Program} {M : Nat → Option Obj} {σ : Nat → Loc} {w : World} {h : Nat → Option Blk} {a : Act} {o : Oper} {cs : List Prop} {g : Eg} {e : Ef}

def newsOf (sz m : Nat) (gm : Nat → Nat → Value) : List Value := (List.range (m * sz)).map fun k => gm (k / sz) (k % sz)
theorem newsOf_get {sz m : Nat} (gm : Nat → Nat → Value) (hsz : 0 < sz) {i j : Nat} (hi : i < m) (hj : j < sz) : (newsOf sz m gm)[i * sz + j]? = some (gm i j) := by
  have hlt : i * sz + j < m * sz := by
    have : (i + 1) * sz ≤ m * sz := Nat.mul_le_mul_right _ (by omega)
    rw [Nat.add_mul, Nat.one_mul] at this; omega
  simp only [newsOf, List.getElem?_map, List.getElem?_range hlt, Option.map_some]
  have h1 : (i * sz + j) / sz = i := by rw [Nat.mul_comm, Nat.mul_add_div hsz, Nat.div_eq_of_lt hj, Nat.add_zero]
  have h2 : (i * sz + j) % sz = j := by rw [Nat.mul_comm, Nat.mul_add_mod, Nat.mod_eq_of_lt hj]
  rw [h1, h2]
/-- What an owned slice's value and row say together. -/
theorem owns_of {n sz len : Nat} {f : Nat → Nat → Cl} {ty : TypeId} {V : Value} (hV : R M σ (.own n sz len) V) (hb : BlkOk M σ w (σ n) (.row sz len f ty)) :
    ∃ (xs : List Value) (g : Nat → Nat → Value), w.ownsRow 0 ty sz V len xs ∧ (∀ i j, i < len → j < sz → xs[i * sz + j]? = some (g i j) ∧ RC M (f i j) (g i j)) ∧ (V.ownBlock = if (σ n).nil then none else some (σ n).b) := by
  simp only [R] at hV
  rcases hb with ⟨h0, rfl⟩ | ⟨h0, c, hc, h1, h2, h3, gv, hg⟩
  · rw [h0] at hV
    simp only [if_true] at hV
    obtain ⟨_, rfl⟩ := hV
    exact ⟨[], fun _ _ => undef, World.ownsRow_nil w 0 ty sz, fun i j hi => absurd hi (by omega), by simp [Value.ownBlock, h0]⟩
  · rw [h0] at hV
    simp only [Bool.false_eq_true, if_false] at hV
    subst hV
    have hle : len * sz ≤ c.size := by rw [h1]; exact Nat.mul_le_mul_right _ h2
    refine ⟨c.toList.take (len * sz), gv, ⟨by simp; omega, .inr ⟨(σ n).b, (σ n).cap, c, rfl, Nat.zero_le _, hc, h2, h3, h1, rfl⟩⟩, fun i j hi hj => ?_, by simp [Value.ownBlock, h0]⟩
    have hlt : i * sz + j < len * sz := by
      have : (i + 1) * sz ≤ len * sz := Nat.mul_le_mul_right _ (by omega)
      rw [Nat.add_mul, Nat.one_mul] at this; omega
    rw [List.getElem?_take_of_lt hlt]
    simpa using hg i j hi hj
/-- One slice behind another. -/
theorem append_run {T el : TypeId} {ty : TypeId} {s : Nat} {ag : Bool} (ht : ti P T = some ⟨s, ag, .slice el⟩) {i : TypeInfo} (hi : P.info? el = some i) {z : List Cl} (hz : zeroOf P el = some z) {sz : Nat} (hsz : i.size = sz) (hzl : z.length = sz) (hpos : 0 < sz)
    {V U : Value} {len m : Nat} {xs : List Value} {f0 : Nat → Nat → Cl} {gx : Nat → Nat → Value} (hown : w.ownsRow 0 el sz V len xs) (hx : ∀ i j, i < len → j < sz → xs[i * sz + j]? = some (gx i j) ∧ RC M (f0 i j) (gx i j)) {tg : Bool} {fm : Nat → Nat → Cl} (hU : RC M (.list tg sz m fm) U) (himm : ∀ b o, M b = some o → w.heap[b]? = some o)
    (h63 : len + m ≤ maxLen) (hbytes : (len + m) * i.bytes ≤ 140737488355328) :
    ∃ V' w' x, (Builtin.append_ #[T, T] ty #[V, U]).run P w = .ok V' w' ∧ w.grownBy w' V.ownBlock ∧ (∀ σ' : Nat → Loc, BlkOk M σ' w' x (.row sz (len + m) (fun i j => if i < len then f0 i j else fm (i - len) j) el)) ∧
      (if x.nil then len + m = 0 ∧ V' = .slice none 0 0 else V' = .slice (some ⟨x.b, 0, none⟩) (len + m) x.cap) ∧ (x.nil = true ∨ some x.b = V.ownBlock ∨ x.b = w.heap.size) := by
  obtain ⟨i', v, hi', hv, hzL, hzv, _⟩ := zeroOf_ok (M := M) (σ := fun _ => ⟨0, 0, false⟩) (w := w) hz
  rw [hi] at hi'
  injection hi' with hi'
  subst hi'
  have hvs : v.cells.size = sz := by have := hzL.length; rw [hzl] at this; simpa using this.symm
  obtain ⟨_, _, _, hund, _⟩ := run_ti ht w
  have finish : ∀ (V' : Value) (w' : World) (ys : List Value) (gy : Nat → Nat → Value), (∀ i j, i < m → j < sz → ys[i * sz + j]? = some (gy i j) ∧ RC M (fm i j) (gy i j)) → w'.ownsRow 0 el sz V' (len + m) (xs ++ ys) →
      ∃ x : Loc, (∀ σ' : Nat → Loc, BlkOk M σ' w' x (.row sz (len + m) (fun i j => if i < len then f0 i j else fm (i - len) j) el)) ∧ (if x.nil then len + m = 0 ∧ V' = .slice none 0 0 else V' = .slice (some ⟨x.b, 0, none⟩) (len + m) x.cap) ∧ V'.ownBlock = if x.nil then none else some x.b := by
    intro V' w' ys gy hy ho
    rcases ho.2 with ⟨rfl, h0⟩ | ⟨b, cap, cur, rfl, _, hcur, h1, h2, h3, h4⟩
    · exact ⟨⟨0, 0, true⟩, fun _ => .inl ⟨rfl, h0⟩, by simp [h0], rfl⟩
    · refine ⟨⟨b, cap, false⟩, fun _ => .inr ⟨rfl, cur, hcur, h3, h1, h2, fun i j => if i < len then gx i j else gy (i - len) j, fun i j hi hj => ?_⟩, by simp, by simp [Value.ownBlock]⟩
      have hlt : i * sz + j < (len + m) * sz := by
        have : (i + 1) * sz ≤ (len + m) * sz := Nat.mul_le_mul_right _ (by omega)
        rw [Nat.add_mul, Nat.one_mul] at this; omega
      have hc : cur[i * sz + j]? = (xs ++ ys)[i * sz + j]? := by
        rw [← h4, List.getElem?_take_of_lt hlt]; simp
      rw [hc]
      have hxl := hown.1
      by_cases hil : i < len
      · simp only [if_pos hil]
        have hlt' : i * sz + j < xs.length := by
          rw [hxl]
          have : (i + 1) * sz ≤ len * sz := Nat.mul_le_mul_right _ (by omega)
          rw [Nat.add_mul, Nat.one_mul] at this; omega
        rw [List.getElem?_append_left hlt']
        exact hx i j hil hj
      · simp only [if_neg hil]
        have hge : xs.length ≤ i * sz + j := by
          rw [hxl]
          have : len * sz ≤ i * sz := Nat.mul_le_mul_right _ (by omega)
          omega
        rw [List.getElem?_append_right hge, hxl]
        have : i * sz + j - len * sz = (i - len) * sz + j := by
          rw [Nat.sub_mul]
          have : len * sz ≤ i * sz := Nat.mul_le_mul_right _ (by omega)
          omega
        rw [this]
        exact hy (i - len) j (by omega) hj
  cases hU with
  | nil =>
    have hrun := run_append_owned_none (P := P) (w := w) 0 T ty el i sz hund hi V len xs hown
    obtain ⟨x, hx1, hx2, hx3⟩ := finish V w [] (fun _ _ => undef) (fun i j hi => absurd hi (by omega)) (by simpa using hown)
    refine ⟨V, w, x, hrun, ⟨rfl, rfl, rfl, Nat.le_refl _, fun _ _ _ => rfl⟩, hx1, hx2, ?_⟩
    cases hn : x.nil
    · rw [hn] at hx3; exact .inr (.inl (by simpa using hx3.symm))
    · exact .inl rfl
  | mt _ _ _ p0 cap =>
    obtain ⟨V', w', hrun, hown', hgrow, _, hat⟩ := run_append_own_at (P := P) w 0 T ty el i v sz i.bytes hund hi hv hsz rfl hvs hpos V len xs hown p0 0 cap [] (by simp) (fun j u hj => by simp at hj) (fun u hu => by cases hu) h63 hbytes (Nat.zero_le _)
    obtain ⟨x, hx1, hx2, hx3⟩ := finish V' w' [] (fun _ _ => undef) (fun i j hi => absurd hi (by omega)) hown'
    refine ⟨V', w', x, hrun, hgrow, hx1, hx2, ?_⟩
    cases hn : x.nil
    · rw [hn] at hx3
      simp only [Bool.false_eq_true, if_false] at hx3
      rw [hx3] at hat
      rcases hat with h | h
      · exact .inr (.inl h)
      · exact .inr (.inr (by simpa using h))
    · exact .inl rfl
  | list _ _ _ _ b off cap gm g1 g2 g4 =>
    have hnl : (newsOf sz m gm).length = m * sz := by simp [newsOf]
    have hnews : ∀ (j : Nat) u, (newsOf sz m gm)[j]? = some u → w.cell? ((⟨b, off, none⟩ : Addr).add j) = some u := by
      intro j u hj
      have hjl : j < m * sz := by have := (List.getElem?_eq_some_iff.1 hj).1; rwa [hnl] at this
      have hdm := Nat.div_add_mod j sz
      have hmod := Nat.mod_lt j hpos
      have hdiv : j / sz < m := Nat.div_lt_of_lt_mul (by rw [Nat.mul_comm]; exact hjl)
      have hg := g1 (j / sz) (j % sz) hdiv hmod
      have := newsOf_get gm hpos hdiv hmod
      rw [show j / sz * sz + j % sz = j by rw [Nat.mul_comm]; exact hdm] at this hg
      rw [this] at hj
      injection hj with hj
      subst hj
      rw [Addr.add_lit]
      exact cellM_world himm hg
    have h1 : ∀ u ∈ newsOf sz m gm, u.oneCell' = true := by
      intro u hu
      obtain ⟨k, hk, rfl⟩ := List.mem_map.1 hu
      have hk := List.mem_range.1 hk
      exact R_one (M := M) (σ := fun _ => ⟨0, 0, false⟩) (RC_R (g2 (k / sz) (k % sz) (Nat.div_lt_of_lt_mul (by rw [Nat.mul_comm]; exact hk)) (Nat.mod_lt _ hpos)))
    obtain ⟨V', w', hrun, hown', hgrow, _, hat⟩ := run_append_own_at (P := P) w 0 T ty el i v sz i.bytes hund hi hv hsz rfl hvs hpos V len xs hown ⟨b, off, none⟩ m cap (newsOf sz m gm) hnl hnews h1 h63 hbytes (Nat.zero_le _)
    obtain ⟨x, hx1, hx2, hx3⟩ := finish V' w' (newsOf sz m gm) gm (fun i j hi hj => ⟨newsOf_get gm hpos hi hj, g2 i j hi hj⟩) hown'
    refine ⟨V', w', x, hrun, hgrow, hx1, hx2, ?_⟩
    cases hn : x.nil
    · rw [hn] at hx3
      simp only [Bool.false_eq_true, if_false] at hx3
      rw [hx3] at hat
      rcases hat with h | h
      · exact .inr (.inl h)
      · exact .inr (.inr (by simpa using h))
    · exact .inl rfl

theorem keep_of_grown {w w' : World} {V : Value} (hs : ∀ b o, M b = some o → w.heap[b]? = some o) (hg : w.grownBy w' V.ownBlock) (ex : Nat → Prop) (hex : ∀ b, V.ownBlock = some b → ex b ∧ M b = none) : Keep w w' M M ex := by
  refine ⟨hg.os, hg.tape, hg.output, hg.size, fun b hb hne => hg.block b hb fun e => hne (hex b e.symm).1, fun _ _ h => h, fun _ _ h h' => by (rw [h] at h'; cases h'), fun b o hm => ?_⟩
  rw [hg.block b (Array.getElem?_eq_some_iff.1 (hs b o hm)).1 fun e => by (rw [(hex b e.symm).2] at hm; cases hm)]
  exact hs b o hm
theorem resolve_builtin {c : Call} {b : Builtin} (hc : c.callee = .builtin b) (T : TypeId) : ∃ K, (resolve a.eval c T).run P w = .ok { target := .builtin b c.argTypes T K, args := c.args.map a.eval } w := by
  simp only [resolve, hc, Sem.run_pure]
  exact ⟨_, rfl⟩
theorem tsOf {ts : Array TypeId} {l : List (Option TI)} (h : ts.toList.map (ti P) = l) : ∀ i : Nat, (ts[i]?).map (ti P) = l[i]? := by
  intro i; rw [← h]; simp
theorem len_run {ts : Array TypeId} {t : TI} (h : ts.toList.map (ti P) = [some t]) {ty : TypeId} {V : Value} {n : Int} (hV : (t.d = .string ∧ ∃ s : ByteArray, V = .string s ∧ n = s.size) ∨ (∃ el, t.d = .slice el) ∧ ∃ (p : Option Addr) (k c : Nat), V = .slice p k c ∧ n = (k : Int)) : (Builtin.len_ ts ty #[V]).run P w = .ok (.int .i64 n) w := by
  have h0 := tsOf h 0
  simp only [List.getElem?_cons_zero] at h0
  cases hts : ts[0]? with
  | none => rw [hts] at h0; cases h0
  | some T =>
    rw [hts] at h0
    simp only [Option.map_some, Option.some.injEq] at h0
    obtain ⟨_, _, hu, _, _⟩ := run_ti h0 w
    rcases hV with ⟨hd, s, rfl, rfl⟩ | ⟨⟨el, hd⟩, p, k, c, rfl, rfl⟩
    · rw [hd] at hu
      simp [Builtin.len_, hts, hu, goInt]
    · rw [hd] at hu
      simp [Builtin.len_, hts, hu, goInt]
theorem slice_len {c : Cl} {V : Value} (hR : R M σ c V) {k : Nat} (hc : (∃ t sz f, c = .list t sz k f) ∨ (∃ n sz, c = .own n sz k)) : ∃ (p : Option Addr) (cap : Nat), V = .slice p k cap := by
  rcases hc with ⟨t, sz, f, rfl⟩ | ⟨n, sz, rfl⟩
  · have hR' : RC M _ V := hR
    cases hR' with
    | nil => exact ⟨none, 0, rfl⟩
    | mt _ _ _ p0 cap => exact ⟨_, _, rfl⟩
    | list _ _ _ _ b off cap => exact ⟨_, _, rfl⟩
  · simp only [R] at hR
    split at hR
    · obtain ⟨rfl, rfl⟩ := hR; exact ⟨_, _, rfl⟩
    · exact ⟨_, _, hR⟩
/-! ### Maps -/
theorem findNow_at {kd : TypeDesc} {key : Value} (hk : IsKey kd key) : ∀ (l : List MapEntry) (n i : Nat), (∀ x ∈ l, IsKey kd x.key) → ∀ e, l[i]? = some e → e.key = key → (∀ j e', j < i → l[j]? = some e' → e'.key ≠ key) → Instr.findNow kd key l n = some (some (n + i, e.val))
  | [], n, i, _, e, he, _, _ => by simp at he
  | e0 :: es, n, 0, h, e, he, hkey, _ => by
    simp at he
    subst he
    obtain ⟨r, hr, hiff⟩ := sameNow_of_keys hk (h e0 (.head _))
    have : r = true := hiff.2 hkey.symm
    subst this
    simp [Instr.findNow, hr]
  | e0 :: es, n, i + 1, h, e, he, hkey, hb => by
    obtain ⟨r, hr, hiff⟩ := sameNow_of_keys hk (h e0 (.head _))
    have hne : e0.key ≠ key := hb 0 e0 (by omega) rfl
    have : r = false := by
      cases r with
      | false => rfl
      | true => exact absurd (hiff.1 rfl).symm hne
    subst this
    simp only [Instr.findNow, hr]
    rw [findNow_at hk es (n + 1) i (fun x hx => h x (.tail _ hx)) e (by simpa using he) hkey (fun j e' hj hej => hb (j + 1) e' (by omega) (by simpa using hej))]
    rw [show n + 1 + i = n + (i + 1) by omega]
theorem findNow_none {kd : TypeDesc} {key : Value} (hk : IsKey kd key) : ∀ (l : List MapEntry) (n : Nat), (∀ x ∈ l, IsKey kd x.key) → (∀ e ∈ l, e.key ≠ key) → Instr.findNow kd key l n = some none
  | [], n, _, _ => rfl
  | e0 :: es, n, h, hb => by
    obtain ⟨r, hr, hiff⟩ := sameNow_of_keys hk (h e0 (.head _))
    have : r = false := by
      cases r with
      | false => rfl
      | true => exact absurd (hiff.1 rfl).symm (hb e0 (.head _))
    subst this
    simp only [Instr.findNow, hr]
    exact findNow_none hk es (n + 1) (fun x hx => h x (.tail _ hx)) (fun e he => hb e (.tail _ he))
theorem pickC_t {x y : Cl} {X : Value} (hx : R M σ x X) : R M σ (pickC true x y) X := by
  unfold pickC
  split
  · rename_i k n k' n'
    by_cases hk : k = k'
    · subst hk; simp only [decide_true, cond_true]; exact hx
    · simp only [hk, decide_false, cond_false, cond_true]; exact hx
  · exact hx
  · exact hx
  · exact hx
theorem pickC_f {x y : Cl} {Y : Value} (hy : R M σ y Y) : R M σ (pickC false x y) Y := by
  unfold pickC
  split
  · rename_i k n k' n'
    by_cases hk : k = k'
    · subst hk; simp only [decide_true, cond_true, cond_false]; exact hy
    · simp only [hk, decide_false, cond_false]; exact hy
  · exact hy
  · exact hy
  · exact hy
theorem pickL_t : ∀ {l m : List Cl} {X : List Value}, l.length = m.length → L2 (R M σ) l X → L2 (R M σ) (pickL true l m) X
  | [], [], _, _, h => by cases h; exact .nil
  | x :: l, y :: m, _, hl, h => by
    cases h with | cons a1 a2 => exact .cons (pickC_t a1) (pickL_t (by simpa using hl) a2)
theorem pickL_f : ∀ {l m : List Cl} {X : List Value}, l.length = m.length → L2 (R M σ) m X → L2 (R M σ) (pickL false l m) X
  | [], [], _, _, h => by cases h; exact .nil
  | x :: l, y :: m, _, hl, h => by
    cases h with | cons a1 a2 => exact .cons (pickC_f a1) (pickL_f (by simpa using hl) a2)
theorem lookup_ok {q : Option (Bool × Nat)} {T : TypeId} {x k : Operand} {cok : Bool} {u v : Tv} (ho : o.op = .lookup T x k cok) (hx : RT M σ u (a.eval x)) (hk : RT M σ v (a.eval k)) (he : effLookup P q T u v cok = some e) (hs : Std M σ w h) (hr : res h e = some (cs, g)) (hc : AllP cs) : Good P M σ o a w g := by
  unfold effLookup at he
  split at he
  · rename_i s ag kt el agg nv len kf vf ka found i ht
    split at he
    · rename_i key z kd hkey hz hkd
      cases hb : (Nat.beq z.length nv && (agg == zeroAgg P el) && (agg || Nat.beq nv 1)) with
      | false => rw [hb] at he; cases he
      | true =>
        rw [hb] at he
        simp only [cond_true, Option.some.injEq] at he
        subst he
        obtain ⟨rfl, rfl⟩ := res_val hr
        simp only [Bool.and_eq_true] at hb
        obtain ⟨⟨hb1, hb3⟩, hb4⟩ := hb
        have hzl := Nat.eq_of_beq_eq_true hb1
        obtain ⟨_, _, hu, _, _⟩ := run_ti ht w
        obtain ⟨iz, zv, hiz, hzv, hzL, hzm, hzr⟩ := zeroOf_ok (M := M) (σ := σ) (w := w) hz
        have hx' : RC M (.mp agg nv len kf vf) (a.eval x) := hx
        obtain ⟨hk0, hk1, hk2, hk3⟩ := hc.head
        have hkv : a.eval k = key := by
          cases ka with
          | one c =>
            cases c with
            | val v0 =>
              simp only [keyV, Option.some.injEq] at hkey
              subst hkey
              exact hk.1
            | _ => cases hkey
          | agg l => cases hkey
        generalize hX : a.eval x = X at hx'
        cases hx' with
        | mp _ _ _ _ _ b es clock gv h0 h1 h2 h3 =>
          have hblk := hs.imm _ _ h0
          have hkeys : ∀ e ∈ es.toList, IsKey kd e.key := fun e he => by
            obtain ⟨j, hj⟩ := List.mem_iff_getElem?.1 he
            have hj' : es[j]? = some e := by simpa using hj
            rw [(h2 j e hj').1]
            exact hk1 j (by rw [← h1]; exact (Array.getElem?_eq_some_iff.1 hj').1)
          have hzagg : (agg = true → ∃ zs : Array Value, zv = .agg zs) ∧ (agg = false → zv.oneCell' = true ∧ z = [.val zv]) := by
            have e1 : agg = zeroAgg P el := by simpa using hb3
            unfold zeroAgg at e1
            rw [hiz] at e1
            simp only [hzv] at e1
            constructor
            · intro hag
              rw [hag] at e1
              split at e1
              · rename_i zs heq; injection heq with heq; exact ⟨zs, heq⟩
              · cases e1
            · intro hag
              rw [hag] at e1 hb4
              have hnv : nv = 1 := Nat.eq_of_beq_eq_true (by simpa using hb4)
              have hne : ∀ zs, zv ≠ .agg zs := fun zs e => by subst e; simp at e1
              have hcells : zv.cells = #[zv] := by cases zv <;> first | rfl | exact absurd rfl (hne _)
              rw [hcells] at hzm hzL
              refine ⟨?_, by simpa using hzm⟩
              simp only [List.map_cons, List.map_nil] at hzm
              subst hzm
              cases hzL with | cons q1 _ => exact q1.2
          have fin : ∀ (r : Option (Nat × Value)) (V : Value), (Instr.findKey kt key es.toList).run P w = .ok r w → (match r with
              | some (_, v) => v
              | none => zv) = V → r.isSome = found → RA M σ (lookV agg found nv (vf i) z) V → Good P M σ o a w (.val (bif cok then .tup [(lookV agg found nv (vf i) z), .one (.val (.bool found))] else .av (lookV agg found nv (vf i) z))) := by
            intro r V hrun hV hf hR
            refine good_val hs.imm (V := if cok then .tuple #[V, .bool found] else V) ?_ ?_
            · have hck := run_checkKey (w := w) hkd hk0 es.isEmpty 9999
              simp only [execOp, ho, hX, hkv, Instr.lookup, Sem.run_bind, hu, Result.andThen_ok, Go.MapKept.run_getObj_map hblk, Sem.run_pure, hck, hrun]
              cases r with
              | some p =>
                simp only at hV
                subst hV
                simp only [Option.isSome_some] at hf
                subst hf
                rfl
              | none =>
                simp only at hV
                subst hV
                simp only [Option.isSome_none] at hf
                subst hf
                simp only [Sem.run_bind, hzr, Result.andThen_ok, Sem.run_pure]
            · cases cok with
              | true => exact ⟨[V, .bool found], rfl, .cons hR (.cons ⟨rfl, rfl⟩ .nil)⟩
              | false => exact hR
          cases hf : found with
          | true =>
            rw [hf] at fin
            obtain ⟨hi, hki, hbefore⟩ := hk2 hf
            have hlt : i < es.size := by omega
            have hei : es[i]? = some es[i] := by simp [hlt]
            have hfnd := run_findKey (P := P) (w := w) hkd (findNow_at hk0 es.toList 0 i hkeys es[i] (by simp) ((h2 i _ hei).1.trans hki) (fun j e' hj hej => by
              have hej' : es[j]? = some e' := by simpa using hej
              rw [(h2 j e' hej').1]; exact hbefore j hj))
            refine fin _ (mpV agg nv (gv i)) hfnd (h2 i _ hei).2 rfl ?_
            cases hag : agg with
            | true =>
              refine ⟨(List.range nv).map (gv i), rfl, pickL_t (by simp [hzl]) ?_⟩
              refine L2.of (by simp) fun j p q hp hq => ?_
              have hj : j < nv := by have := (List.getElem?_eq_some_iff.1 hp).1; simpa using this
              simp only [List.getElem?_map, List.getElem?_range hj, Option.map_some, Option.some.injEq] at hp hq
              subst hp; subst hq
              exact RC_R (h3 i j hi hj)
            | false =>
              have hnv : nv = 1 := Nat.eq_of_beq_eq_true (by rw [hag] at hb4; exact hb4)
              exact pickC_t (RC_R (h3 i 0 hi (by omega)))
          | false =>
            rw [hf] at fin
            have hfnd := run_findKey (P := P) (w := w) hkd (findNow_none hk0 es.toList 0 hkeys (fun e he => by
              obtain ⟨j, hj⟩ := List.mem_iff_getElem?.1 he
              have hj' : es[j]? = some e := by simpa using hj
              rw [(h2 j e hj').1]; exact hk3 hf j (by rw [← h1]; exact (Array.getElem?_eq_some_iff.1 hj').1)))
            refine fin none zv hfnd rfl rfl ?_
            cases hag : agg with
            | true =>
              obtain ⟨zs, rfl⟩ := hzagg.1 hag
              exact ⟨zs.toList, by simp, pickL_f (by simp [hzl]) hzL⟩
            | false =>
              obtain ⟨q1, q2⟩ := hzagg.2 hag
              subst q2
              exact pickC_f ⟨rfl, q1⟩
    · cases he
  · cases he
theorem builtin_ok {c : Call} {b : Builtin} {ev : Operand → Option Tv} {xs : List Av} (hev : ∀ x v, ev x = some v → RT M σ v (a.eval x)) (ho : o.op = .call c) (hcb : c.callee = .builtin b) (hxs : argsC ev c.args.toList = some xs) (he : effBuiltin P b c.argTypes xs = some e) (hs : Std M σ w h) (hr : res h e = some (cs, g)) (hc : AllP cs)
    (hd : ((∃ b v, g = .new b v) ∨ ∃ n b v, g = .app n b v) → ∃ d, o.dst = some d) : Good P M σ o a w g := by
  have hargs := args_ok hev _ _ hxs
  have hmap : c.args.map a.eval = (c.args.toList.map a.eval).toArray := by apply Array.ext'; simp
  have hexec : ∀ (vs : List Value), c.args.toList.map a.eval = vs → ∃ K, (execOp a.eval o).run P w = (builtin b c.argTypes o.type K vs.toArray).run P w := by
    intro vs hvs
    obtain ⟨K, hK⟩ := resolve_builtin (P := P) (a := a) (w := w) hcb o.type
    refine ⟨K, ?_⟩
    simp only [execOp, ho, Sem.run_bind, hK, Result.andThen_ok, invoke, hmap, hvs]
  generalize c.args.toList.map a.eval = vs at hargs hexec
  obtain ⟨K, hexec2⟩ := hexec vs rfl
  clear hexec
  unfold effBuiltin at he
  split at he
  · -- len of a list
    rename_i tg sz n f
    cases hargs with | cons r1 r2 =>
    cases r2
    split at he
    · rename_i s ag el hts
      simp only [Option.some.injEq] at he
      subst he
      obtain ⟨rfl, rfl⟩ := res_val hr
      obtain ⟨p, cap, hV⟩ := slice_len r1 (.inl ⟨_, _, _, rfl⟩)
      refine good_val hs.imm (V := .int .i64 n) ?_ (R_v rfl)
      rw [hexec2]
      simp only [builtin, Sem.run_bind, len_run hts (.inr ⟨⟨el, rfl⟩, p, n, cap, hV, rfl⟩), Result.andThen_ok, Sem.run_pure]
    · cases he
  · rename_i q sz n
    cases hargs with | cons r1 r2 =>
    cases r2
    split at he
    · rename_i s ag el hts
      simp only [Option.some.injEq] at he
      subst he
      obtain ⟨rfl, rfl⟩ := res_val hr
      obtain ⟨p, cap, hV⟩ := slice_len r1 (.inr ⟨_, _, rfl⟩)
      refine good_val hs.imm (V := .int .i64 n) ?_ (R_v rfl)
      rw [hexec2]
      simp only [builtin, Sem.run_bind, len_run hts (.inr ⟨⟨el, rfl⟩, p, n, cap, hV, rfl⟩), Result.andThen_ok, Sem.run_pure]
    · cases he
  · cases hargs with | cons r1 r2 =>
    cases r2
    split at he
    · rename_i s ag el hts
      simp only [Option.some.injEq] at he
      subst he
      obtain ⟨rfl, rfl⟩ := res_val hr
      refine good_val hs.imm (V := .int .i64 0) ?_ (R_v rfl)
      rw [hexec2]
      simp only [builtin, Sem.run_bind, len_run hts (.inr ⟨⟨el, rfl⟩, none, 0, 0, r1.1, rfl⟩), Result.andThen_ok, Sem.run_pure]
      rfl
    · cases he
  · rename_i s
    cases hargs with | cons r1 r2 =>
    cases r2
    split at he
    · rename_i s ag hts
      simp only [Option.some.injEq] at he
      subst he
      obtain ⟨rfl, rfl⟩ := res_val hr
      refine good_val hs.imm ?_ (R_v rfl)
      rw [hexec2]
      simp only [builtin, Sem.run_bind, len_run hts (.inl ⟨rfl, _, r1.1, rfl⟩), Result.andThen_ok, Sem.run_pure]
    · cases he
  · rename_i k x r
    cases hargs with | cons r1 r2 =>
    obtain ⟨n, hn, rfl⟩ := Option.map_eq_some_iff.1 he
    obtain ⟨rfl, rfl⟩ := res_val hr
    have hx : _ = Value.int k x := r1.1
    subst hx
    refine good_val hs.imm (V := .int k n) ?_ (R_v rfl)
    rw [hexec2]
    have := mn_ok (w := w) (P := P) _ _ x n r2 hn
    simp only [builtin, Builtin.min_, Sem.run_bind, this, Result.andThen_ok, Sem.run_pure]
  · rename_i k x r
    cases hargs with | cons r1 r2 =>
    obtain ⟨n, hn, rfl⟩ := Option.map_eq_some_iff.1 he
    obtain ⟨rfl, rfl⟩ := res_val hr
    have hx : _ = Value.int k x := r1.1
    subst hx
    refine good_val hs.imm (V := .int k n) ?_ (R_v rfl)
    rw [hexec2]
    have := mx_ok (w := w) (P := P) _ _ x n r2 hn
    simp only [builtin, Builtin.max_, Sem.run_bind, this, Result.andThen_ok, Sem.run_pure]
  · rename_i s tg sz m gm
    cases hargs with | cons r1 r2' =>
    cases r2' with | cons r2 r3 =>
    cases r3
    split at he
    · rename_i s1 ag1 el s2 ag2 el2 T1 T2 hts hts2
      cases hbT : Nat.beq T1 T2 with
      | false => rw [hbT] at he; cases he
      | true =>
        rw [hbT] at he
        have := Nat.eq_of_beq_eq_true hbT
        subst this
        simp only [cond_true] at he
        rw [hts2] at hts
        simp only [List.map_cons, List.map_nil, List.cons.injEq, and_true] at hts
        have hT := hts.1
        have hta : c.argTypes = #[T1, T1] := by rw [← Array.toArray_toList (xs := c.argTypes), hts2]
        split at he
        · rename_i i z hi hz
          cases hbb : (Nat.beq i.size sz && Nat.beq z.length sz && !(Nat.beq sz 0)) with
          | false => rw [hbb] at he; cases he
          | true =>
            rw [hbb] at he
            simp only [cond_true] at he
            simp only [Bool.and_eq_true, Bool.not_eq_true'] at hbb
            have hs1 := Nat.eq_of_beq_eq_true hbb.1.1
            have hs2 := Nat.eq_of_beq_eq_true hbb.1.2
            have hpos : 0 < sz := by
              rcases Nat.eq_zero_or_pos sz with h0 | h0
              · rw [h0] at hbb; simp [Nat.beq] at hbb
              · exact h0
            split at he
            · rename_i n sz' len'
              cases hb2 : Nat.beq sz' sz with
              | false => rw [hb2] at he; cases he
              | true =>
                rw [hb2] at he
                have := Nat.eq_of_beq_eq_true hb2
                subst this
                simp only [cond_true, Option.some.injEq] at he
                subst he
                simp only [res] at hr
                cases hn : h n with
                | none => rw [hn] at hr; cases hr
                | some blk =>
                  rw [hn] at hr
                  cases blk with
                  | cells => cases hr
                  | omap => cases hr
                  | row sz'' len f ty =>
                    simp only at hr
                    cases hb3 : (Nat.beq sz'' sz' && Nat.beq ty el) with
                    | false => rw [hb3] at hr; cases hr
                    | true =>
                      rw [hb3] at hr
                      simp only [cond_true, Option.some.injEq, Prod.mk.injEq] at hr
                      obtain ⟨rfl, rfl⟩ := hr
                      simp only [Bool.and_eq_true] at hb3
                      obtain rfl := Nat.eq_of_beq_eq_true hb3.1
                      obtain rfl := Nat.eq_of_beq_eq_true hb3.2
                      have hll := hc.head
                      subst hll
                      obtain ⟨xs, gx, hown, hx, hob⟩ := owns_of r1 (hs.blk n _ hn)
                      have hpre := hc.tail.head
                      have hpre2 := hc.tail.tail.head
                      obtain ⟨V', w', x, hrun, hgrow, hblk, hval, hwhere⟩ := append_run (ty := o.type) hT hi hz hs1 hs2 hpos hown hx (show RC M _ _ from r2) hs.imm hpre hpre2
                      obtain ⟨d, hdd⟩ := hd (.inr ⟨_, _, _, rfl⟩)
                      have hrun' : (execOp a.eval o).run P w = .ok (.value V') w' := by
                        rw [hexec2, hta]
                        simp only [builtin, Sem.run_bind, hrun, Result.andThen_ok, Sem.run_pure]
                      have hkeep := keep_of_grown (M := M) hs.imm hgrow (only (σ n)) (fun b hb => by
                        rw [hob] at hb
                        cases hnn : (σ n).nil with
                        | true => rw [hnn] at hb; cases hb
                        | false =>
                          rw [hnn] at hb
                          simp only [Bool.false_eq_true, if_false, Option.some.injEq] at hb
                          subst hb
                          refine ⟨⟨hnn, rfl⟩, ?_⟩
                          rcases hs.loc n _ hn with hk | hk
                          · rw [hnn] at hk; cases hk
                          · exact hk)
                      refine .inl ⟨V', w', hrun', M, upd σ d x, x, d, hdd, hkeep, ?_, rfl, hblk _, ?_⟩
                      · rcases hwhere with h1 | h1 | h1
                        · exact .inl h1
                        · rw [hob] at h1
                          cases hnn : (σ n).nil with
                          | true => rw [hnn] at h1; cases h1
                          | false =>
                            rw [hnn] at h1
                            simp only [Bool.false_eq_true, if_false, Option.some.injEq] at h1
                            refine .inr (.inl ⟨⟨hnn, h1⟩, ?_⟩)
                            rw [h1]
                            rcases hs.loc n _ hn with hk | hk
                            · rw [hnn] at hk; cases hk
                            · exact hk
                        · refine .inr (.inr ⟨by omega, ?_⟩)
                          rw [h1]
                          cases hm : M w.heap.size with
                          | none => rfl
                          | some y => have := (Array.getElem?_eq_some_iff.1 (hs.imm _ _ hm)).1; omega
                      · show R _ _ _ _
                        simp only [R, upd_same]
                        exact hval
            · simp only [Option.some.injEq] at he
              subst he
              simp only [res, Option.some.injEq, Prod.mk.injEq] at hr
              obtain ⟨rfl, rfl⟩ := hr
              have hV0 : _ = Value.slice none 0 0 := r1.1
              subst hV0
              have hpre := hc.head
              have hpre2 := hc.tail.head
              obtain ⟨V', w', x, hrun, hgrow, hblk, hval, hwhere⟩ := append_run (ty := o.type) (f0 := fun _ _ => default) (gx := fun _ _ => undef) hT hi hz hs1 hs2 hpos (World.ownsRow_nil w 0 el sz) (fun i j hi => absurd hi (by omega)) (show RC M _ _ from r2) hs.imm (by omega) (by rw [Nat.zero_add]; exact hpre2)
              obtain ⟨d, hdd⟩ := hd (.inl ⟨_, _, rfl⟩)
              have hrun' : (execOp a.eval o).run P w = .ok (.value V') w' := by
                rw [hexec2, hta]
                simp only [builtin, Sem.run_bind, hrun, Result.andThen_ok, Sem.run_pure]
              have hkeep := keep_of_grown (M := M) hs.imm hgrow never (fun b hb => by cases hb)
              have hblk' := hblk (upd σ d x)
              simp only [Nat.zero_add, Nat.not_lt_zero, if_false, Nat.sub_zero] at hblk' hval
              refine .inl ⟨V', w', hrun', M, upd σ d x, x, d, hdd, hkeep, ?_, rfl, hblk', ?_⟩
              · rcases hwhere with h1 | h1 | h1
                · exact .inl h1
                · cases h1
                · refine .inr ⟨by omega, ?_⟩
                  rw [h1]
                  cases hm : M w.heap.size with
                  | none => rfl
                  | some y => have := (Array.getElem?_eq_some_iff.1 (hs.imm _ _ hm)).1; omega
              · show R _ _ _ _
                simp only [R, upd_same]
                exact hval
            · cases he
        · cases he
    · cases he
  · cases he
end
end Go.Proofs.Ytgmhnkoifdpemaa
