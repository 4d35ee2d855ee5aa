/-
  No statement is proved in this text. It holds what an operation does to an abstract state.
-/
import Derived.Test.YtgmhnkoifdpemaaS1
namespace Go.Proofs.Ytgmhnkoifdpemaa
open Go.RowKit Go.MapKept

inductive AllP : List Prop → Prop
  | nil : AllP []
  | cons {p : Prop} {l : List Prop} : p → AllP l → AllP (p :: l)
theorem AllP.head {p : Prop} {l : List Prop} (h : AllP (p :: l)) : p := by cases h; assumption
theorem AllP.tail {p : Prop} {l : List Prop} (h : AllP (p :: l)) : AllP l := by cases h; assumption
theorem AllP.mem {l : List Prop} (h : AllP l) : ∀ p ∈ l, p := by
  induction h with
  | nil => intro p hp; cases hp
  | cons h1 _ ih => intro p hp; cases hp; exact h1; exact ih _ ‹_›
theorem AllP.append {l m : List Prop} (h : AllP (l ++ m)) : AllP l ∧ AllP m := by
  induction l with
  | nil => exact ⟨.nil, h⟩
  | cons a l ih => have := ih h.tail; exact ⟨.cons h.head this.1, this.2⟩

/-- An effect: a value; a value that depends on some blocks; a change of one block; a new block; a row that is taken over by a new id. -/
inductive Ef where
  | val (cs : List Prop) (v : Tv)
  | rd (ns : List Nat) (k : List Blk → Option (List Prop × Tv))
  | wr (n : Nat) (ns : List Nat) (k : Blk → List Blk → Option (List Prop × Tv × Blk))
  | wrs (ns rs : List Nat) (k : List Blk → List Blk → Option (List Prop × Tv × List Blk))
  | new (cs : List Prop) (b : Blk) (v : Nat → Tv)
  | app (n : Nat) (k : Blk → Option (List Prop × Blk × (Nat → Tv)))
inductive Eg where
  | val (v : Tv)
  | wr (n : Nat) (v : Tv) (b : Blk)
  | wrs (l : List (Nat × Blk)) (v : Tv)
  | new (b : Blk) (v : Nat → Tv)
  | app (n : Nat) (b : Blk) (v : Nat → Tv)
def geth (h : Nat → Option Blk) : List Nat → Option (List Blk)
  | [] => some []
  | n :: r => match h n, geth h r with
    | some b, some bs => some (b :: bs)
    | _, _ => none
def res (h : Nat → Option Blk) : Ef → Option (List Prop × Eg)
  | .val cs v => some (cs, .val v)
  | .rd ns k => match geth h ns with
    | some bs => match k bs with
      | some (cs, v) => some (cs, .val v)
      | none => none
    | none => none
  | .wr n ns k => match h n, geth h ns with
    | some b, some bs => match k b bs with
      | some (cs, v, b') => some (cs, .wr n v b')
      | none => none
    | _, _ => none
  | .wrs ns rs k => match geth h ns, geth h rs with
    | some b, some bs => match k b bs with
      | some (cs, v, b') => (match Nat.beq ns.length b'.length with
        | true => some (cs, .wrs (ns.zip b') v)
        | false => none)
      | none => none
    | _, _ => none
  | .new cs b v => some (cs, .new b v)
  | .app n k => match h n with
    | some b => match k b with
      | some (cs, b', v) => some (cs, .app n b' v)
      | none => none
    | none => none

structure Keep (w w' : World) (M M' : Nat → Option Obj) (ex : Nat → Prop) : Prop where
  os : w'.os = w.os
  tape : w'.tape = w.tape
  output : w'.output = w.output
  size : w.heap.size ≤ w'.heap.size
  old : ∀ b, b < w.heap.size → ¬ ex b → w'.heap[b]? = w.heap[b]?
  sub : ∀ b o, M b = some o → M' b = some o
  new : ∀ b o, M' b = some o → M b = none → w.heap.size ≤ b
  imm : ∀ b o, M' b = some o → w'.heap[b]? = some o

/-- What holds of the heap. -/
structure Std (M : Nat → Option Obj) (σ : Nat → Loc) (w : World) (h : Nat → Option Blk) : Prop where
  imm : ∀ b o, M b = some o → w.heap[b]? = some o
  blk : ∀ n b, h n = some b → BlkOk M σ w (σ n) b
  loc : ∀ n b, h n = some b → (σ n).nil = true ∨ M (σ n).b = none
  inj : ∀ n m b c, h n = some b → h m = some c → n ≠ m → (σ n).nil = true ∨ (σ m).nil = true ∨ (σ n).b ≠ (σ m).b

def never (_ : Nat) : Prop := False
def only (x : Loc) (b : Nat) : Prop := x.nil = false ∧ b = x.b
/-- What came of an effect. -/
def Outg (M : Nat → Option Obj) (σ : Nat → Loc) (w : World) (dst : Option Nat) (V : Value) (w' : World) (M' : Nat → Option Obj) (σ' : Nat → Loc) : Eg → Prop
  | .val v => Keep w w' M M' never ∧ σ' = σ ∧ RT M' σ' v V
  | .wr n v b => Keep w w' M M' (only (σ n)) ∧ σ' = σ ∧ RT M' σ' v V ∧ BlkOk M' σ' w' (σ n) b
  | .wrs l v => Keep w w' M M' (fun b => ∃ n, (get l n).isSome ∧ only (σ n) b) ∧ σ' = σ ∧ RT M' σ' v V ∧ ∀ n b, get l n = some b → BlkOk M' σ' w' (σ n) b
  | .new b v => ∃ x d, dst = some d ∧ Keep w w' M M' never ∧ (x.nil = true ∨ (w.heap.size ≤ x.b ∧ M' x.b = none)) ∧ σ' = upd σ d x ∧ BlkOk M' σ' w' x b ∧ RT M' σ' (v d) V
  | .app n b v => ∃ x d, dst = some d ∧ Keep w w' M M' (only (σ n)) ∧ (x.nil = true ∨ (only (σ n) x.b ∧ M' x.b = none) ∨ (w.heap.size ≤ x.b ∧ M' x.b = none)) ∧ σ' = upd σ d x ∧ BlkOk M' σ' w' x b ∧ RT M' σ' (v d) V

/-! ### Types -/
structure TI where
  size : Nat
  agg : Bool
  d : TypeDesc
def isAggD : TypeDesc → Bool
  | .struct _ => true
  | .array _ _ => true
  | _ => false
def ti (P : Program) (T : TypeId) : Option TI := match P.info? T, P.underlying T with
  | some i, some d => some ⟨i.size, isAggD d, d⟩
  | _, _ => none
def zeroOf (P : Program) (T : TypeId) : Option (List Cl) := match P.info? T with
  | some i => match i.zero with
    | some z => bif z.cells.toList.all Value.oneCell' then some (z.cells.toList.map Cl.val) else none
    | none => none
  | none => none
theorem run_ti {P : Program} {T : TypeId} {x : TI} (h : ti P T = some x) (w : World) : (sizeOf T).run P w = .ok x.size w ∧ (isAgg T).run P w = .ok x.agg w ∧ (underlying T).run P w = .ok x.d w ∧ P.underlying T = some x.d ∧ ∃ i, P.info? T = some i ∧ i.size = x.size := by
  unfold ti at h
  split at h
  · rename_i i d hi hd
    injection h with h
    subst h
    have hu : (underlying T).run P w = .ok d w := run_underlying hd w
    refine ⟨by simp [sizeOf, typeInfo, hi], ?_, hu, hd, i, hi, rfl⟩
    unfold isAgg
    rw [Sem.run_bind, hu]
    cases d <;> rfl
  · cases h

/-! ### Operands -/
def evT (t : Nat → Option Tv) : Operand → Option Tv
  | .tmp i => t i
  | .const v => match v with
    | .agg cs => bif cs.toList.all Value.oneCell' then some (.av (.agg (cs.toList.map Cl.val))) else none
    | .tuple _ => none
    | v => some (.av (.one (.val v)))
  | .func f => some (.av (.one (.clo f 0 fun _ => default)))
  | .global _ => none
theorem L2_vals (M : Nat → Option Obj) (σ : Nat → Loc) : ∀ (l : List Value), l.all Value.oneCell' = true → L2 (R M σ) (l.map Cl.val) l
  | [], _ => .nil
  | v :: l, h => by simp only [List.all_cons, Bool.and_eq_true] at h; exact .cons ⟨rfl, h.1⟩ (L2_vals M σ l h.2)
theorem evT_ok {M : Nat → Option Obj} {σ : Nat → Loc} {t : Nat → Option Tv} {a : Act} (h : ∀ i v, t i = some v → RT M σ v (a.tmps.getD i undef)) {x : Operand} {v : Tv} (hv : evT t x = some v) : RT M σ v (a.eval x) := by
  cases x with
  | tmp i => exact h i v hv
  | const c =>
    simp only [evT] at hv
    split at hv
    · rename_i cs
      cases hc : cs.toList.all Value.oneCell' <;> rw [hc] at hv
      · cases hv
      · injection hv with hv
        subst hv
        exact ⟨cs.toList, by simp [Act.eval], L2_vals M σ _ hc⟩
    · cases hv
    · rename_i h1 h2
      injection hv with hv
      subst hv
      refine ⟨rfl, ?_⟩
      cases c <;> first | rfl | exact absurd rfl (h1 _) | exact absurd rfl (h2 _)
  | func f =>
    simp only [evT] at hv
    injection hv with hv
    subst hv
    exact ⟨#[], rfl, rfl, fun i hi => absurd hi (by omega)⟩
  | global g => cases hv

/-! ### Scalars -/
inductive Kd where
  | int (k : IntKind)
  | bool
  | str
def eqV : List Kd → List Cl → List Cl → Option Bool
  | [], [], [] => some true
  | .int k :: ks, .val (.int k1 a) :: l, .val (.int k2 b) :: m => if k1 = k ∧ k2 = k then (eqV ks l m).map fun r => decide (a = b) && r else none
  | .bool :: ks, .val (.bool a) :: l, .val (.bool b) :: m => (eqV ks l m).map fun r => (a == b) && r
  | .str :: ks, .val (.string a) :: l, .val (.string b) :: m => (eqV ks l m).map fun r => (a.toList == b.toList) && r
  | _, _, _ => none
def binV (op : BinOp) (x y : Value) : Option (List Prop × Value) := match x, y with
  | .int k a, .int k' b => if k = k' then match op with
    | .add => some ([], .int k (k.wrap (a + b)))
    | .sub => some ([], .int k (k.wrap (a - b)))
    | .mul => some ([], .int k (k.wrap (a * b)))
    | .and => some ([], .int k (k.wrap ((BitVec.ofInt k.bits a &&& BitVec.ofInt k.bits b).toNat)))
    | .quo => some ([b ≠ 0], .int k (k.wrap (a.tdiv b)))
    | .rem => some ([b ≠ 0], .int k (a.tmod b))
    | .shr => some ([0 ≤ b], .int k (a.fdiv (2 ^ (min b.toNat k.bits))))
    | .shl => some ([0 ≤ b], .int k (k.wrap (a * 2 ^ (min b.toNat k.bits))))
    | .eql => some ([], .bool (decide (a = b)))
    | .neq => some ([], .bool (!decide (a = b)))
    | .lss => some ([], .bool (decide (a < b)))
    | .leq => some ([], .bool (decide (a ≤ b)))
    | .gtr => some ([], .bool (decide (b < a)))
    | .geq => some ([], .bool (decide (b ≤ a)))
    | _ => none
    else none
  | .bool a, .bool b => match op with
    | .eql => some ([], .bool (a == b))
    | .neq => some ([], .bool (!(a == b)))
    | _ => none
  | .string a, .string b => match op with
    | .eql => some ([], .bool (a.toList == b.toList))
    | .neq => some ([], .bool (!(a.toList == b.toList)))
    | .add => some ([((a.size + b.size : Nat) : Int) ≤ 9223372036854775807], .string (a ++ b))
    | _ => none
  | _, _ => none
def unV (op : UnOp) (x : Value) : Option Value := match op, x with
  | .not, .bool b => some (.bool !b)
  | .neg, .int k n => some (.int k (k.wrap (0 - n)))
  | _, _ => none

/-! ### Cells -/
def setL : List Cl → Nat → List Cl → List Cl
  | l, _, [] => l
  | l, off, v :: vs => setL (l.set off v) (off + 1) vs
def fillC (place : Nat → Option (Nat × Nat)) (cells : List Cl) : List (Nat × Av) → Option (List Cl)
  | [] => some cells
  | (i, v) :: rest => match place i with
    | none => none
    | some (off, size) => bif Nat.beq v.cells.length size && Nat.ble (off + v.cells.length) cells.length then fillC place (setL cells off v.cells) rest else none
def partsC (ev : Operand → Option Tv) : List (Nat × Operand) → Option (List (Nat × Av))
  | [] => some []
  | (i, x) :: r => match ev x, partsC ev r with
    | some (.av a), some l => some ((i, a) :: l)
    | _, _ => none
def argsC (ev : Operand → Option Tv) : List Operand → Option (List Av)
  | [] => some []
  | x :: r => match ev x, argsC ev r with
    | some (.av a), some l => some (a :: l)
    | _, _ => none
def partC (t : TI) (l : List Cl) (off : Nat) : Option Av := bif t.agg then (bif Nat.ble (off + t.size) l.length then some (.agg ((l.drop off).take t.size)) else none) else (l[off]?).map Av.one
/-- The cells off, .., of element i. -/
def cellsF (f : Nat → Nat → Cl) (i : Nat) : Nat → Nat → List Cl
  | _, 0 => []
  | off, n + 1 => f i off :: cellsF f i (off + 1) n
def repC (z : List Cl) : Nat → List Cl
  | 0 => []
  | n + 1 => z ++ repC z n
def asB : Tv → Option (List Prop × Bool)
  | .av (.one (.val (.bool b))) => some ([], b)
  | .grd g (.one (.val (.bool b))) => some ([g], b)
  | _ => none
/-- What is known at a region: contracts for its calls, by the slots that they write; types that are compared cell by cell; the slots whose literal slices become rows of the function's own. -/
structure Env (P : Program) where
  Γ : Nat → Option (FuncId × List Av × Ef)
  E : TypeId → Option (List Kd)
  O : Nat → Bool
  Q : Nat → Option (Bool × Nat)
def addC (p : Prop) : Ef → Ef
  | .val cs v => .val (p :: cs) v
  | .rd ns k => .rd ns fun bs => match k bs with
    | some (cs, v) => some (p :: cs, v)
    | none => none
  | .wr n ns k => .wr n ns fun b bs => match k b bs with
    | some (cs, v) => some (p :: cs, v)
    | none => none
  | .wrs ns rs k => .wrs ns rs fun b bs => match k b bs with
    | some (cs, v) => some (p :: cs, v)
    | none => none
  | .new cs b v => .new (p :: cs) b v
  | .app n k => .app n fun b => match k b with
    | some (cs, v) => some (p :: cs, v)
    | none => none

def effLoad (P : Program) (T : TypeId) (x : Tv) : Option Ef := match ti P T with
  | none => none
  | some t => match x with
    | .av (.one (.ptr n off)) => some (.rd [n] fun
      | [.cells l _] => (partC t l off).map fun v => ([], .av v)
      | _ => none)
    | .av (.one (.rptr n sz i off)) => some (.rd [n] fun
      | [.row sz' len f _] => bif Nat.beq sz' sz && Nat.ble (off + t.size) sz then (partC t (cellsF f i 0 sz) off).map fun v => ([i < len], .av v) else none
      | _ => none)
    | .av (.one (.eptr sz _ f i off)) => (partC t (cellsF f i 0 sz) off).map fun v => .val [] (.av v)
    | _ => none
def effStore (P : Program) (T : TypeId) (x : Tv) (v : Av) : Option Ef := match ti P T with
  | none => none
  | some t => bif Nat.beq v.cells.length t.size then match x with
    | .av (.one (.ptr n off)) => some (.wr n [] fun
      | .cells l ty, _ => bif Nat.ble (off + v.cells.length) l.length then some ([], .tup [], .cells (setL l off v.cells) ty) else none
      | _, _ => none)
    | .av (.one (.rptr n sz i off)) => bif v.dv then some (.wr n [] fun
      | .row sz' len f ty, _ => bif Nat.beq sz' sz && Nat.ble (off + v.cells.length) sz then some ([i < len], .tup [], .row sz len (fun i' j => if i' = i ∧ off ≤ j ∧ j < off + v.cells.length then v.cells.getD (j - off) default else f i' j) ty) else none
      | _, _ => none) else none
    | _ => none
    else none
def effFieldAddr (P : Program) (T : TypeId) (x : Tv) (k : Nat) : Option Ef := match ti P T with
  | some ⟨_, _, .struct fs⟩ => match fs[k]? with
    | some fd => match ti P fd.type with
      | some ⟨s, _, _⟩ => bif Nat.beq s 0 then none else match x with
        | .av (.one (.ptr n off)) => some (.val [] (.av (.one (.ptr n (off + fd.offset)))))
        | .av (.one (.rptr n sz i off)) => some (.val [] (.av (.one (.rptr n sz i (off + fd.offset)))))
        | .av (.one (.eptr sz len f i off)) => some (.val [] (.av (.one (.eptr sz len f i (off + fd.offset)))))
        | _ => none
      | none => none
    | none => none
  | _ => none
def effField (P : Program) (T : TypeId) (x : Tv) (k : Nat) : Option Ef := match ti P T, x with
  | some ⟨_, _, .struct fs⟩, .av (.agg l) => match fs[k]? with
    | some fd => match ti P fd.type with
      | some t => (partC t l fd.offset).map fun v => .val [] (.av v)
      | none => none
    | none => none
  | _, _ => none
def effIndexAddr (P : Program) (T : TypeId) (x y : Tv) : Option Ef := match ti P T, y with
  | some ⟨_, _, .array n e⟩, .av (.one (.val (.int _ ix))) => match ti P e with
    | some t => match x with
      | .av (.one (.ptr m off)) => some (.val [0 ≤ ix ∧ ix < (n : Int)] (.av (.one (.ptr m (off + ix.toNat * t.size)))))
      | .av (.one (.rptr m sz i off)) => some (.val [0 ≤ ix ∧ ix < (n : Int)] (.av (.one (.rptr m sz i (off + ix.toNat * t.size)))))
      | .av (.one (.eptr sz len f i off)) => some (.val [0 ≤ ix ∧ ix < (n : Int)] (.av (.one (.eptr sz len f i (off + ix.toNat * t.size)))))
      | _ => none
    | none => none
  | some ⟨_, _, .slice e⟩, .av (.one (.val (.int _ ix))) => match ti P e with
    | some t => match x with
      | .av (.one (.list _ sz len f)) => bif Nat.beq sz t.size then some (.val [0 ≤ ix ∧ ix < (len : Int)] (.av (.one (.eptr sz len f ix.toNat 0)))) else none
      | .av (.one (.own m sz len)) => bif Nat.beq sz t.size then some (.val [0 ≤ ix ∧ ix < (len : Int)] (.av (.one (.rptr m sz ix.toNat 0)))) else none
      | _ => none
    | none => none
  | _, _ => none
def okT (P : Program) (T : TypeId) : Value → Bool
  | .bool _ => match ti P T with
    | some ⟨_, _, .bool⟩ => true
    | _ => false
  | _ => true
def effBin (P : Program) (V : Env P) (op : BinOp) (T : TypeId) (x y : Tv) : Option Ef := match x, y with
  | .av (.one (.val (.slice none 0 0))), .av (.one (.val (.slice none 0 0))) => match ti P T, op with
    | some ⟨_, _, .slice _⟩, .eql => some (.val [] (.av (.one (.val (.bool true)))))
    | some ⟨_, _, .slice _⟩, .neq => some (.val [] (.av (.one (.val (.bool false)))))
    | _, _ => none
  | .av (.one (.val a)), .av (.one (.val b)) => bif okT P T a then (binV op a b).map fun r => .val r.1 (.av (.one (.val r.2))) else none
  | .av (.one (.list true _ _ _)), .av (.one (.val (.slice none 0 0))) => match ti P T, op with
    | some ⟨_, _, .slice _⟩, .eql => some (.val [] (.av (.one (.val (.bool false)))))
    | some ⟨_, _, .slice _⟩, .neq => some (.val [] (.av (.one (.val (.bool true)))))
    | _, _ => none
  | .av (.agg l), .av (.agg m) => match V.E T with
    | some ks => match op, eqV ks l m with
      | .eql, some r => some (.val [] (.av (.one (.val (.bool r)))))
      | .neq, some r => some (.val [] (.av (.one (.val (.bool !r)))))
      | _, _ => none
    | none => none
  | _, _ => none
def sizeF (P : Program) (f : Field) : Option (Nat × Nat) := match ti P f.type with
  | some t => some (f.offset, t.size)
  | none => none
def placeS (P : Program) (fs : Array Field) (i : Nat) : Option (Nat × Nat) := match fs[i]? with
  | some fd => sizeF P fd
  | none => none
def effBuild (P : Program) (ev : Operand → Option Tv) (T : TypeId) (parts : Array (Nat × Operand)) : Option Ef := match ti P T, zeroOf P T, partsC ev parts.toList with
  | some ⟨_, _, .struct fs⟩, some z, some l => bif fs.toList.all (fun f => (sizeF P f).isSome) then (fillC (placeS P fs) z l).map fun cs => .val [] (.av (.agg cs)) else none
  | some ⟨_, _, .array _ e⟩, some z, some l => match ti P e with
    | some t => (fillC (fun i => some (i * t.size, t.size)) z l).map fun cs => .val [] (.av (.agg cs))
    | none => none
  | _, _, _ => none
/-- One cell of all elements, as a function of the element's number. -/
def intsC (k : IntKind) : List Cl → Option (List Int)
  | [] => some []
  | .val (.int k' n) :: r => if k' = k then (intsC k r).map (n :: ·) else none
  | _ => none
def strsC : List Cl → Option (List ByteArray)
  | [] => some []
  | .val (.string n) :: r => (strsC r).map (n :: ·)
  | _ => none
def boolsC : List Cl → Option (List Bool)
  | [] => some []
  | .val (.bool n) :: r => (boolsC r).map (n :: ·)
  | _ => none
def colOf : List Cl → Nat → Cl
  | .val (.int k n) :: r => match intsC k r with
    | some ns => fun i => .val (.int k ((n :: ns).getD i 0))
    | none => fun i => (.val (.int k n) :: r : List Cl).getD i default
  | .val (.string n) :: r => match strsC r with
    | some ns => fun i => .val (.string ((n :: ns).getD i ⟨#[]⟩))
    | none => fun i => (.val (.string n) :: r : List Cl).getD i default
  | .val (.bool n) :: r => match boolsC r with
    | some ns => fun i => .val (.bool ((n :: ns).getD i false))
    | none => fun i => (.val (.bool n) :: r : List Cl).getD i default
  | l => fun i => l.getD i default
def everyC (sz j : Nat) (cs : List Cl) : Nat → Nat → List Cl
  | 0, _ => []
  | n + 1, i => cs.getD (i * sz + j) default :: everyC sz j cs n (i + 1)
def colsC (sz n : Nat) (cs : List Cl) : Nat → Nat → Cl := fun i j => colOf (everyC sz j cs n 0) i
def effBuildSlice (P : Program) (ev : Operand → Option Tv) (T : TypeId) (len : Nat) (parts : Array (Nat × Operand)) (ow : Bool) : Option Ef := match ti P T, partsC ev parts.toList with
  | some ⟨_, _, .slice e⟩, some l => match ti P e, zeroOf P e with
    | some t, some z => bif Nat.beq t.size 0 || Nat.ble 16777217 (len * t.size) || !(Nat.beq z.length t.size) then none else match fillC (fun i => some (i * t.size, t.size)) (repC z len) l with
      | some cs => bif cs.all Cl.dv then (bif ow then some (.new [] (.row t.size len (colsC t.size len cs) e) fun d => .av (.one (.own d t.size len))) else
          some (.val [] (.av (.one (.list true t.size len (colsC t.size len cs)))))) else none
      | none => none
    | _, _ => none
  | _, _ => none
/-- A float's whole part. -/
def f2i (s : FloatKind) (b : Nat) : Int := ((s.decode b).toInt .zero).getD 0
def F2iOk (s : FloatKind) (b : Nat) (k : IntKind) : Prop := ∃ m, (s.decode b).toInt .zero = some m ∧ k.min ≤ m ∧ m ≤ k.max
def effConvert (P : Program) (src dst : TypeId) (x : Tv) : Option Ef := match ti P src, ti P dst, x with
  | some ⟨_, _, .int _⟩, some ⟨_, _, .int k⟩, .av (.one (.val (.int _ n))) => some (.val [] (.av (.one (.val (.int k (k.wrap n))))))
  | some ⟨_, _, .string⟩, some ⟨_, _, .string⟩, .av (.one (.val (.string s))) => some (.val [] (.av (.one (.val (.string s)))))
  | some ⟨_, _, .slice e⟩, some ⟨_, _, .string⟩, .av (.one (.list _ 1 1 f)) => match ti P e, f 0 0 with
    | some ⟨_, _, .int .u8⟩, .val (.int .u8 n) => some (.val [] (.av (.one (.val (.string (ByteArray.empty.push (UInt8.ofNat n.toNat)))))))
    | _, _ => none
  | some ⟨_, _, .int _⟩, some ⟨_, _, .float k⟩, .av (.one (.val (.int _ n))) => some (.val [] (.av (.one (.val (.float k (k.nearest n))))))
  | some ⟨_, _, .float _⟩, some ⟨_, _, .int k⟩, .av (.one (.val (.float s b))) => some (.val [F2iOk s b k] (.av (.one (.val (.int k (f2i s b))))))
  | _, _, _ => none
def mn (k : IntKind) : Int → List Av → Option Int
  | x, [] => some x
  | x, .one (.val (.int k' y)) :: r => if k' = k then mn k (min x y) r else none
  | _, _ => none
def mx (k : IntKind) : Int → List Av → Option Int
  | x, [] => some x
  | x, .one (.val (.int k' y)) :: r => if k' = k then mx k (max x y) r else none
  | _, _ => none
def effBuiltin (P : Program) (b : Builtin) (ts : Array TypeId) (xs : List Av) : Option Ef := match b, xs with
  | .len, [.one (.list _ _ n _)] => match ts.toList.map (ti P) with
    | [some ⟨_, _, .slice _⟩] => some (.val [] (.av (.one (.val (.int .i64 n)))))
    | _ => none
  | .len, [.one (.own _ _ n)] => match ts.toList.map (ti P) with
    | [some ⟨_, _, .slice _⟩] => some (.val [] (.av (.one (.val (.int .i64 n)))))
    | _ => none
  | .len, [.one (.val (.slice none 0 0))] => match ts.toList.map (ti P) with
    | [some ⟨_, _, .slice _⟩] => some (.val [] (.av (.one (.val (.int .i64 0)))))
    | _ => none
  | .len, [.one (.val (.string s))] => match ts.toList.map (ti P) with
    | [some ⟨_, _, .string⟩] => some (.val [] (.av (.one (.val (.int .i64 s.size)))))
    | _ => none
  | .min, .one (.val (.int k x)) :: r => (mn k x r).map fun n => .val [] (.av (.one (.val (.int k n))))
  | .max, .one (.val (.int k x)) :: r => (mx k x r).map fun n => .val [] (.av (.one (.val (.int k n))))
  | .append, [s, .one (.list _ sz m g)] => match ts.toList.map (ti P), ts.toList with
    | [some ⟨_, _, .slice e⟩, some ⟨_, _, .slice _⟩], [T1, T2] => bif Nat.beq T1 T2 then match P.info? e, zeroOf P e with
      | some i, some z => bif Nat.beq i.size sz && Nat.beq z.length sz && !(Nat.beq sz 0) then match s with
        | .one (.own n sz' len') => bif Nat.beq sz' sz then some (.app n fun
          | .row sz'' len f ty => bif Nat.beq sz'' sz && Nat.beq ty e then some ([len' = len, len + m ≤ maxLen, (len + m) * i.bytes ≤ 140737488355328], .row sz (len + m) (fun i j => if i < len then f i j else g (i - len) j) e, fun d => .av (.one (.own d sz (len + m)))) else none
          | _ => none) else none
        | .one (.val (.slice none 0 0)) => some (.new [m ≤ maxLen, m * i.bytes ≤ 140737488355328] (.row sz m g e) fun d => .av (.one (.own d sz m)))
        | _ => none
        else none
      | _, _ => none
      else none
    | _, _ => none
  | _, _ => none
def effSlice (P : Program) (T : TypeId) (x : Tv) (lo hi : Option (Option Tv)) : Option Ef :=
  let bound (d : Int) : Option (Option Tv) → Option Int
    | none => some d
    | some (some (.av (.one (.val (.int _ n))))) => some n
    | _ => none
  match ti P T, x with
  | some ⟨_, _, .slice e⟩, .av (.one (.list _ sz len f)) => match ti P e with
    | some t => match bound 0 lo, bound len hi with
      | some l, some h => bif Nat.beq t.size sz then some (.val [0 ≤ l ∧ l ≤ h ∧ h ≤ (len : Int)] (.av (.one (.list false sz (h.toNat - l.toNat) fun i j => f (i + l.toNat) j)))) else none
      | _, _ => none
    | none => none
  | _, _ => none
def byteAt (s : ByteArray) (i : Nat) : Int := ((s.data.toList.getD i 0).toNat : Int)
def effIndex (P : Program) (T : TypeId) (x y : Tv) : Option Ef := match ti P T, x, y with
  | some ⟨_, _, .string⟩, .av (.one (.val (.string s))), .av (.one (.val (.int _ i))) => some (.val [0 ≤ i ∧ i < (s.size : Int)] (.av (.one (.val (.int .u8 (byteAt s i.toNat))))))
  | _, _, _ => none
def effMakeSlice (P : Program) (T : TypeId) (y z : Tv) : Option Ef := match ti P T, y, z with
  | some ⟨_, _, .slice e⟩, .av (.one (.val (.int _ n))), .av (.one (.val (.int _ m))) => match P.info? e, zeroOf P e with
    | some i, some c => bif Nat.beq c.length i.size && !(Nat.beq i.size 0) then some (.new [0 ≤ n ∧ m = n ∧ (i.bytes : Int) * n ≤ 281474976710656 ∧ n ≤ 9223372036854775807] (.row i.size n.toNat (fun _ j => c.getD j default) e) fun d => .av (.one (.own d i.size n.toNat))) else none
    | _, _ => none
  | _, _, _ => none
def keyV : Av → Option Value
  | .one (.val v) => some v
  | _ => none
/-- Where a key stands in a map. -/
def LookOk (kd : TypeDesc) (len : Nat) (kf : Nat → Value) (key : Value) (found : Bool) (i : Nat) : Prop := IsKey kd key ∧ (∀ j, j < len → IsKey kd (kf j)) ∧ (found = true → i < len ∧ kf i = key ∧ ∀ j, j < i → kf j ≠ key) ∧ (found = false → ∀ j, j < len → kf j ≠ key)
def pickC (b : Bool) : Cl → Cl → Cl
  | .val (.int k x), .val (.int k' y) => bif decide (k = k') then .val (.int k (bif b then x else y)) else (bif b then .val (.int k x) else .val (.int k' y))
  | .val (.string x), .val (.string y) => .val (.string (bif b then x else y))
  | .val (.bool x), .val (.bool y) => .val (.bool (bif b then x else y))
  | x, y => bif b then x else y
def pickL (b : Bool) : List Cl → List Cl → List Cl
  | x :: l, y :: m => pickC b x y :: pickL b l m
  | _, _ => []
def lookV (agg found : Bool) (nv : Nat) (f : Nat → Cl) (z : List Cl) : Av := match agg with
  | true => .agg (pickL found ((List.range nv).map f) z)
  | false => .one (pickC found (f 0) (z.getD 0 default))
def zeroAgg (P : Program) (T : TypeId) : Bool := match P.info? T with
  | some i => match i.zero with
    | some (.agg _) => true
    | _ => false
  | none => false
def effLookup (P : Program) (q : Option (Bool × Nat)) (T : TypeId) (x : Tv) (k : Tv) (commaOk : Bool) : Option Ef := match ti P T, x, k, q with
  | some ⟨_, _, .map kt e⟩, .av (.one (.mp agg nv len kf vf)), .av ka, some (found, i) => match keyV ka, zeroOf P e, P.underlying kt with
    | some key, some z, some kd => bif Nat.beq z.length nv && (agg == zeroAgg P e) && (agg || Nat.beq nv 1) then
        (let v : Av := match agg with
          | true => .agg (pickL found ((List.range nv).map (vf i)) z)
          | false => .one (pickC found (vf i 0) (z.getD 0 default))
        some (.val [LookOk kd len kf key found i] (bif commaOk then .tup [v, .one (.val (.bool found))] else .av v))) else none
    | _, _, _ => none
  | _, _, _, _ => none
/-! ### Maps of the function's own -/
def fitV : List Kd → List Value → Bool
  | [], [] => true
  | .int k :: ks, .int k' _ :: vs => decide (k' = k) && fitV ks vs
  | .bool :: ks, .bool _ :: vs => fitV ks vs
  | .str :: ks, .string _ :: vs => fitV ks vs
  | _, _ => false
def scalT (P : Program) (T : TypeId) : Bool := match ti P T with
  | some ⟨_, _, .int _⟩ => true
  | some ⟨_, _, .bool⟩ => true
  | some ⟨_, _, .string⟩ => true
  | _ => false
def scalF (P : Program) (n : Nat) (fs : List Field) : Bool := fs.all fun f => f.name != "_" && (Nat.blt f.offset n && scalT P f.type)
/-- A key that is compared cell by cell. -/
def KeyFit (P : Program) (E : TypeId → Option (List Kd)) (kt : TypeId) (v : Value) : Prop := (∃ kd, P.underlying kt = some kd ∧ IsKey kd v) ∨
  ∃ ks vs fs, E kt = some ks ∧ P.underlying kt = some (.struct fs) ∧ scalF P ks.length fs.toList = true ∧ v = .agg vs ∧ fitV ks vs.toList = true
/-- Where a key stands in a map. -/
def LookK (P : Program) (E : TypeId → Option (List Kd)) (kt : TypeId) (len : Nat) (kf : Nat → Value) (key : Value) (found : Bool) (i : Nat) : Prop :=
  KeyFit P E kt key ∧ (∀ j, j < len → KeyFit P E kt (kf j)) ∧ (found = true → i < len ∧ kf i = key ∧ ∀ j, j < i → kf j ≠ key) ∧ (found = false → ∀ j, j < len → kf j ≠ key)
def isVal : Cl → Bool
  | .val _ => true
  | _ => false
def valOf : Cl → Value
  | .val v => v
  | _ => undef
def keyA : Av → Option Value
  | .one (.val v) => some v
  | .agg l => bif l.all isVal then some (.agg (l.map valOf).toArray) else none
  | _ => none
def Av.isAgg : Av → Bool
  | .agg _ => true
  | _ => false
def effLookO (P : Program) (E : TypeId → Option (List Kd)) (q : Option (Bool × Nat)) (T : TypeId) (n : Nat) (k : Tv) (commaOk : Bool) : Option Ef := match ti P T, k, q with
  | some ⟨_, _, .map kt e⟩, .av ka, some (found, i) => match keyA ka, zeroOf P e with
    | some key, some z => some (.rd [n] fun
      | [.omap agg nv len kf vf] => bif Nat.beq z.length nv && (agg == zeroAgg P e) && (agg || Nat.beq nv 1) then
          some ([LookK P E kt len kf key found i], bif commaOk then .tup [lookV agg found nv (vf i) z, .one (.val (.bool found))] else .av (lookV agg found nv (vf i) z)) else none
      | _ => none)
    | _, _ => none
  | _, _, _ => none
def effMakeMap (P : Program) (T : TypeId) : Option Ef := match ti P T with
  | some ⟨_, _, .map _ e⟩ => match zeroOf P e with
    | some z => some (.new [] (.omap (zeroAgg P e) z.length 0 (fun _ => undef) (fun _ _ => default)) fun d => .av (.one (.om d)))
    | none => none
  | _ => none
def effMapUpd (P : Program) (E : TypeId → Option (List Kd)) (q : Option (Bool × Nat)) (T : TypeId) (m k v : Tv) : Option Ef := match ti P T, m, k, v, q with
  | some ⟨_, _, .map kt _⟩, .av (.one (.om n)), .av ka, .av va, some (found, i) => match keyA ka with
    | some key => bif va.dv then some (.wr n [] fun b _ => match b with
      | .omap agg nv len kf vf => bif Nat.beq va.cells.length nv && (agg == va.isAgg) then
          some ([LookK P E kt len kf key found i], .tup [], .omap agg nv (bif found then len else len + 1) (fun j => bif Nat.beq j (bif found then i else len) then key else kf j) (fun j c => bif Nat.beq j (bif found then i else len) then va.cells.getD c default else vf j c)) else none
      | _ => none) else none
    | none => none
  | _, _, _, _, _ => none
def capsC : List Av → Option (List Cl)
  | [] => some []
  | .one c :: r => (capsC r).map (c :: ·)
  | _ => none
def listF (l : List Cl) (i : Nat) : Cl := l.getD i default
def capList (k : Nat) (caps : Nat → Cl) : List Av := (List.range k).map fun i => .one (caps i)

def effMore (P : Program) (o : Op) (ev : Operand → Option Tv) : Option Ef := match o with
  | .index T x i => match ev x, ev i with
    | some v, some j => effIndex P T v j
    | _, _ => none
  | .makeSlice T l c => match ev l, ev c with
    | some v, some j => effMakeSlice P T v j
    | _, _ => none
  | .makeMap T none => effMakeMap P T
  | _ => none
def eff (P : Program) (V : Env P) (dst : Option Nat) (o : Op) (ev : Operand → Option Tv) : Option Ef := match o with
  | .move x => (ev x).map (.val [])
  | .assign x => (ev x).map (.val [])
  | .pick c a b => match ev c, ev a, ev b with
    | some (.av (.one (.val (.bool cb)))), some ta, some tb => match asB ta, asB tb with
      | some (ga, xa), some (gb, xb) => some (.val ((ga.map fun g => cb = true → g) ++ (gb.map fun g => cb = false → g)) (.av (.one (.val (.bool (bif cb then xa else xb))))))
      | _, _ => none
    | _, _, _ => none
  | .alloc T => match zeroOf P T with
    | some z => some (.new [] (.cells z T) fun d => .av (.one (.ptr d 0)))
    | none => none
  | .box T x => match ev x with
    | some (.av v) => some (.new [] (.cells v.cells T) fun d => .av (.one (.ptr d 0)))
    | _ => none
  | .build T parts => effBuild P ev T parts
  | .buildSlice T len parts => effBuildSlice P ev T len parts (match dst with
    | some d => V.O d
    | none => false)
  | .load T x => match ev x with
    | some v => effLoad P T v
    | none => none
  | .store T x v => match ev x, ev v with
    | some p, some (.av v) => effStore P T p v
    | _, _ => none
  | .fieldAddr T x k => match ev x with
    | some v => effFieldAddr P T v k
    | none => none
  | .field T x k => match ev x with
    | some v => effField P T v k
    | none => none
  | .indexAddr T x i => match ev x, ev i with
    | some v, some j => effIndexAddr P T v j
    | _, _ => none
  | .binOp op T x y _ => match ev x, ev y with
    | some a, some b => effBin P V op T a b
    | _, _ => none
  | .unOp op _ x => match ev x with
    | some (.av (.one (.val a))) => (unV op a).map fun r => .val [] (.av (.one (.val r)))
    | _ => none
  | .convert src dst x => match ev x with
    | some v => effConvert P src dst v
    | none => none
  | .extract x i => match ev x with
    | some (.tup l) => (l[i]?).map fun v => .val [] (.av v)
    | _ => none
  | .nilCheck x => match ev x with
    | some (.av (.one (.ptr n off))) => some (.val [] (.av (.one (.ptr n off))))
    | some (.av (.one (.eptr sz len f i off))) => some (.val [] (.av (.one (.eptr sz len f i off))))
    | some (.av (.one (.rptr n sz i off))) => some (.val [] (.av (.one (.rptr n sz i off))))
    | some (.av (.one (.clo f k caps))) => some (.val [] (.av (.one (.clo f k caps))))
    | _ => none
  | .makeFunc (.func f) first captured => bif first.toList.isEmpty then match argsC ev captured.toList with
    | some l => (capsC l).map fun cs => .val [] (.av (.one (.clo f cs.length (listF cs))))
    | none => none
    else none
  | .mapUpdate T m k x => match ev m, ev k, ev x with
    | some v, some kv, some xv => effMapUpd P V.E (V.Q 999999) T v kv xv
    | _, _, _ => none
  | .lookup T x k ok => match ev x, ev k, dst with
    | some (.av (.one (.om n))), some kv, some d => effLookO P V.E (V.Q d) T n kv ok
    | some v, some kv, some d => effLookup P (V.Q d) T v kv ok
    | _, _, _ => none
  | .slice T x lo hi none => match ev x with
    | some v => effSlice P T v (lo.map ev) (hi.map ev)
    | none => none
  | .call c => match c.callee, argsC ev c.args.toList with
    | .builtin b, some xs => effBuiltin P b c.argTypes xs
    | .value f, some xs => match ev f with
      | some (.av (.one (.clo g k caps))) => match dst with
        | some d => match V.Γ d with
          | some (g', xs', e) => bif Nat.beq g' g then some (addC (xs ++ capList k caps = xs') e) else none
          | none => none
        | none => none
      | _ => none
    | _, _ => none
  | o => effMore P o ev
end Go.Proofs.Ytgmhnkoifdpemaa
