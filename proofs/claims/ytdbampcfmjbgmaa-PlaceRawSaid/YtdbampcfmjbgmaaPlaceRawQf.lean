/-
  Proved: the statement of PlaceRaw; the parts before it hold what its proof needs.
-/
import Derived.Test.YtdbampcfmjbgmaaPlaceRawQe
namespace Go.Proofs.Ytdbampcfmjbgmaa
set_option maxRecDepth 100000
set_option linter.unusedVariables false
set_option linter.unusedSimpArgs false
section
open Go.RowKit
theorem KF {v a : Int} {d : AB} {n : Int} (h : v < W64 (a + (AA d n).1)) (h0 : 0 < n) (h1 : n <= 1000000) (ha : 0 <= a) (hb : a <= 1000000) : v < a + n - 1 := by
 have := Cq d n h0 (by omega)
 rw [BP (by omega) (by omega)] at h
 omega
theorem GK {p q : Prop} [Decidable p] [Decidable q] {r : Bool} (h : (bif bif decide p then decide q else false then r else (bif bif decide p then decide q else false then false else false)) = true) : q := by
 by_cases hp : p
 ·rw [decide_eq_true hp] at h
  by_cases hq : q
  ·exact hq
  ·rw [decide_eq_false hq] at h; cases h
 ·rw [decide_eq_false hp] at h; cases h
theorem Ph {n : Nat} (h : (0 : Int) < (n : Int)) : 0 < n := by omega
theorem LR {c2 c1 : Bool} {a b c : As} {L : List As} (hL : L = bif c2 then [a, b] else bif c1 then [c] else []) : L.length <= 2 := by
 subst hL; cases c2 <;> cases c1 <;> simp
theorem Pu {c2 c1 : Bool} {a b c : As} {L : List As} {k : Int} (hk : 0 <= k /\ k < 2) (ha : a.Legs.length = 2) (hc : c.Legs.length = 2) (hL : L = bif c2 then [a, b] else bif c1 then [c] else []) (h : (0 : Int) < (L.length : Int)) : 0 <= k /\ k < (((L.getD 0 default).Legs.length : Nat) : Int) := by
 subst hL
 cases c2 with
 | true => show 0 <= k /\ k < ((a.Legs.length : Nat) : Int); rw [ha]; exact hk
 | false =>
  cases c1 with
  | true => show 0 <= k /\ k < ((c.Legs.length : Nat) : Int); rw [hc]; exact hk
  | false => exact absurd h (by simp)
theorem SC {α : Type} {L : List α} (h : L.length <= 2) : L.length + 1 <= maxLen := by unfold maxLen; omega
theorem SD {α : Type} {L : List α} (h : L.length <= 2) : (L.length + 1) * 32 <= 140737488355328 := by omega
def Z4l : Blk := .cells [.s (⟨#[]⟩), vN, vN] 114
def Z4m (l : (List Int)) : FuncId × List Av × Ef := (54, ([.one (.ptr 1000 0), .one (.i 5)] : List Av).map (Bv 1000 14), wrI 14 (.cells [lst 1 (fun x => [.i x]) l, .i 0] 146) (tI (AA (AB.mk l 0) 5).1) (.cells (AB.c (AA (AB.mk l 0) 5).2) 146))
def Z4n (l : (List Int)) : Tv := tI (W64 (2 + (AA (AB.mk l 0) 5).1))
def Z4o (l : (List Int)) : Blk := .cells (AB.c (AA (AB.mk l 0) 5).2) 146
def Z4p (l : (List Int)) : Tv := tB (decide (((W64 (2 + (AA (AB.mk l 0) 5).1)) : Int) < 4))
def Z4q (l : (List Int)) : Tv := .grd ((decide (((W64 (2 + (AA (AB.mk l 0) 5).1)) : Int) < 4)) = true) (.one (.ptr 14 0))
def Z4r : Blk := .row 2 ([] : List As).length (AY As.c ([] : List As)) 157
def Z4s (l : (List Int)) : Tv := tB (decide ((4 : Int) <= (W64 (2 + (AA (AB.mk l 0) 5).1))))
def Z4t (l : (List Int)) : Tv := .grd ((decide ((4 : Int) <= (W64 (2 + (AA (AB.mk l 0) 5).1)))) = true) (.one (.ptr 14 0))
def Z4u : Blk := .row 7 ([] : List Ap).length (AY Ap.c ([] : List Ap)) 118
def Z4v (name : ByteArray) : Blk := .cells [.s name, .own 100000 7 ([] : List Ap).length, vN] 114
def Z4w (name : ByteArray) (v6_1 : List Ap) : Blk := .cells [.s name, .own 100000 7 v6_1.length, vN] 114
def Z4x (v6_1 : List Ap) : Blk := .row 7 v6_1.length (AY Ap.c v6_1) 118
def Z4y (v5 : AB) : FuncId × List Av × Ef := (54, ([.one (.ptr 1000 0), .one (.i 2)] : List Av).map (Bv 1000 14), wrI 14 (.cells (AB.c v5) 146) (tI (AA v5 2).1) (.cells (AB.c (AA v5 2).2) 146))
def Z4z (v8 : Int) (v5 : AB) : Blk := .cells [.s (Ac v8), .i 0, vN, .i 0, .i (W64 (30 * v8)), .i (W64 (10 * (AA v5 2).1)), .i 0] 118
def Z4A (v8 : Int) (v5 : AB) : Blk := .cells [.i (W64 (30 * v8)), .i (W64 (10 * (AA v5 2).1))] 52
def Z4B (v5 : AB) : FuncId × List Av × Ef := (54, ([.one (.ptr 1000 0), .one (.i 3)] : List Av).map (Bv 1000 14), wrI 14 (.cells (AB.c (AA v5 2).2) 146) (tI (AA (AA v5 2).2 3).1) (.cells (AB.c (AA (AA v5 2).2 3).2) 146))
def Z4C (v5 : AB) : Blk := .cells (AB.c (AA (AA v5 2).2 3).2) 146
def Z4D (v8 : Int) (v5 : AB) : AQ := Ce (An.mk (W64 ((W64 (30 * v8)) - 6)) (W64 ((W64 (10 * (AA v5 2).1)) - 6)) (W64 ((W64 (30 * v8)) + 6)) (W64 ((W64 (10 * (AA v5 2).1)) + 6)))
def Z4E (v5 : AB) : FuncId × List Av × Ef := (54, ([.one (.ptr 1000 0), .one (.i 3)] : List Av).map (Bv 1000 14), wrI 14 (.cells (AB.c (AA (AA v5 2).2 3).2) 146) (tI (AA (AA (AA v5 2).2 3).2 3).1) (.cells (AB.c (AA (AA (AA v5 2).2 3).2 3).2) 146))
abbrev Z4F (v5 : AB) : AB := (AA (AA (AA v5 2).2 3).2 3).2
def Z4G (v8 : Int) (v5 : AB) : AQ := DB (AE.mk (W64 (30 * v8)) (W64 (10 * (AA v5 2).1))) (W64 (4 + (AA (AA (AA v5 2).2 3).2 3).1))
abbrev Z4H (v5 : AB) : AB := bif decide (((AA (AA v5 2).2 3).1 : Int) = 0) then (AA (AA v5 2).2 3).2 else (bif decide (((AA (AA v5 2).2 3).1 : Int) = 1) then (Z4F v5) else (AA (AA v5 2).2 3).2)
def Z4I (v5 : AB) (v8 : Int) : (List AH) := bif decide (((AA (AA v5 2).2 3).1 : Int) = 0) then (Z4D v8 v5).Edges else (bif decide (((AA (AA v5 2).2 3).1 : Int) = 1) then (Z4G v8 v5).Edges else [AH.mk 1 (AE.mk (W64 ((W64 (30 * v8)) - 2)) (W64 (10 * (AA v5 2).1))) (AE.mk (W64 ((W64 (30 * v8)) + 2)) (W64 (10 * (AA v5 2).1))) (AE.mk 0 0)])
def Z4J (v5 : AB) : FuncId × List Av × Ef := (54, ([.one (.ptr 1000 0), .one (.i 4)] : List Av).map (Bv 1000 14), wrI 14 (.cells (AB.c (Z4H v5)) 146) (tI (AA (Z4H v5) 4).1) (.cells (AB.c (AA (Z4H v5) 4).2) 146))
def Z4K (v5 : AB) : FuncId × List Av × Ef := (54, ([.one (.ptr 1000 0), .one (.i 2)] : List Av).map (Bv 1000 14), wrI 14 (.cells (AB.c (AA (Z4H v5) 4).2) 146) (tI (AA (AA (Z4H v5) 4).2 2).1) (.cells (AB.c (AA (AA (Z4H v5) 4).2 2).2) 146))
abbrev Z4L (v5 : AB) : AB := (AA (AA (Z4H v5) 4).2 2).2
def Z4M (v5 : AB) : FuncId × List Av × Ef := (54, ([.one (.ptr 1000 0), .one (.i 3)] : List Av).map (Bv 1000 14), wrI 14 (.cells (AB.c v5) 146) (tI (AA v5 3).1) (.cells (AB.c (AA v5 3).2) 146))
abbrev Z4N (l : (List Int)) (v5 : AB) : AB := bif decide (((W64 (2 + (AA (AB.mk l 0) 5).1)) : Int) < 4) then (AA v5 3).2 else v5
def Z4O (l : (List Int)) (v5 : AB) : FuncId × List Av × Ef := (54, ([.one (.ptr 1000 0), .one (.i 2)] : List Av).map (Bv 1000 14), wrI 14 (.cells (AB.c (Z4N l v5)) 146) (tI (AA (Z4N l v5) 2).1) (.cells (AB.c (AA (Z4N l v5) 2).2) 146))
def Z4P (l : (List Int)) (v5 : AB) : Blk := .cells (AB.c (AA (Z4N l v5) 2).2) 146
def Z4Q (l : (List Int)) (v5 : AB) : Blk := .row 2 ([As.mk 0 [BT.mk (Ac 0) 1, BT.mk (Ac 1) (AA (Z4N l v5) 2).1]].length) (AY As.c [As.mk 0 [BT.mk (Ac 0) 1, BT.mk (Ac 1) (AA (Z4N l v5) 2).1]]) 157
abbrev Z4R (l : (List Int)) (v5 : AB) : AB := bif bif decide (((W64 (2 + (AA (AB.mk l 0) 5).1)) : Int) < 4) then (bif decide (((W64 (2 + (AA (AB.mk l 0) 5).1)) : Int) < 4) then decide ((0 : Int) < (AA v5 3).1) else false) else (bif decide (((W64 (2 + (AA (AB.mk l 0) 5).1)) : Int) < 4) then false else false) then (AA (Z4N l v5) 2).2 else (Z4N l v5)
def Z4S (l : (List Int)) (v5 : AB) : (List As) := bif bif decide (((W64 (2 + (AA (AB.mk l 0) 5).1)) : Int) < 4) then (bif decide (((W64 (2 + (AA (AB.mk l 0) 5).1)) : Int) < 4) then decide ((0 : Int) < (AA v5 3).1) else false) else (bif decide (((W64 (2 + (AA (AB.mk l 0) 5).1)) : Int) < 4) then false else false) then [As.mk 0 [BT.mk (Ac 0) 1, BT.mk (Ac 1) (AA (Z4N l v5) 2).1]] else ([] : List As)
def Z4T (l : (List Int)) (v5 : AB) : FuncId × List Av × Ef := (54, ([.one (.ptr 1000 0), .one (.i 3)] : List Av).map (Bv 1000 14), wrI 14 (.cells (AB.c (Z4R l v5)) 146) (tI (AA (Z4R l v5) 3).1) (.cells (AB.c (AA (Z4R l v5) 3).2) 146))
def Z4U (l : (List Int)) (v5 : AB) : Blk := .row 2 (Z4S l v5).length (AY As.c (Z4S l v5)) 157
abbrev Z4V (l : (List Int)) (v5 : AB) : AB := bif decide ((4 : Int) <= (W64 (2 + (AA (AB.mk l 0) 5).1))) then (AA (Z4R l v5) 3).2 else (Z4R l v5)
def Z4W (l : (List Int)) (v5 : AB) : FuncId × List Av × Ef := (54, ([.one (.ptr 1000 0), .one (.i 2)] : List Av).map (Bv 1000 14), wrI 14 (.cells (AB.c (Z4V l v5)) 146) (tI (AA (Z4V l v5) 2).1) (.cells (AB.c (AA (Z4V l v5) 2).2) 146))
def Z4X (l : (List Int)) (v5 : AB) : Blk := .cells (AB.c (AA (Z4V l v5) 2).2) 146
def Z4Y (l : (List Int)) (v5 : AB) : Blk := .row 2 ([As.mk 1 [BT.mk (Ac 0) (AA (Z4V l v5) 2).1, BT.mk (Ac 1) (AA (Z4V l v5) 2).1], As.mk 1 [BT.mk (Ac 2) (AA (Z4V l v5) 2).1, BT.mk (Ac 3) (AA (Z4V l v5) 2).1]].length) (AY As.c [As.mk 1 [BT.mk (Ac 0) (AA (Z4V l v5) 2).1, BT.mk (Ac 1) (AA (Z4V l v5) 2).1], As.mk 1 [BT.mk (Ac 2) (AA (Z4V l v5) 2).1, BT.mk (Ac 3) (AA (Z4V l v5) 2).1]]) 157
abbrev Z4Z (l : (List Int)) (v5 : AB) : AB := bif bif decide ((4 : Int) <= (W64 (2 + (AA (AB.mk l 0) 5).1))) then (bif decide ((4 : Int) <= (W64 (2 + (AA (AB.mk l 0) 5).1))) then decide ((0 : Int) < (AA (Z4R l v5) 3).1) else false) else (bif decide ((4 : Int) <= (W64 (2 + (AA (AB.mk l 0) 5).1))) then false else false) then (AA (Z4V l v5) 2).2 else (Z4V l v5)
def Z50 (l : (List Int)) (v5 : AB) : (List As) := bif bif decide ((4 : Int) <= (W64 (2 + (AA (AB.mk l 0) 5).1))) then (bif decide ((4 : Int) <= (W64 (2 + (AA (AB.mk l 0) 5).1))) then decide ((0 : Int) < (AA (Z4R l v5) 3).1) else false) else (bif decide ((4 : Int) <= (W64 (2 + (AA (AB.mk l 0) 5).1))) then false else false) then [As.mk 1 [BT.mk (Ac 0) (AA (Z4V l v5) 2).1, BT.mk (Ac 1) (AA (Z4V l v5) 2).1], As.mk 1 [BT.mk (Ac 2) (AA (Z4V l v5) 2).1, BT.mk (Ac 3) (AA (Z4V l v5) 2).1]] else (Z4S l v5)
def Z51 (l : (List Int)) (v5 : AB) : FuncId × List Av × Ef := (54, ([.one (.ptr 1000 0), .one (.i 2)] : List Av).map (Bv 1000 14), wrI 14 (.cells (AB.c (Z4Z l v5)) 146) (tI (AA (Z4Z l v5) 2).1) (.cells (AB.c (AA (Z4Z l v5) 2).2) 146))
def Z52 (l : (List Int)) (v5 : AB) : Blk := .row 2 (Z50 l v5).length (AY As.c (Z50 l v5)) 157
abbrev Z53 (l : (List Int)) (v5 : AB) : AB := bif bif decide (((W64 (2 + (AA (AB.mk l 0) 5).1)) : Int) = 6) then decide ((0 : Int) < (((Z50 l v5).length : Nat) : Int)) else false then (AA (Z4Z l v5) 2).2 else (Z4Z l v5)
def Z54 (l : (List Int)) (v5 : AB) : FuncId × List Av × Ef := (54, ([.one (.ptr 1000 0), .one (.i 3)] : List Av).map (Bv 1000 14), wrI 14 (.cells (AB.c (Z53 l v5)) 146) (tI (AA (Z53 l v5) 3).1) (.cells (AB.c (AA (Z53 l v5) 3).2) 146))
def Z55 (l : (List Int)) (v5 : AB) : Blk := .row 2 ((Z50 l v5) ++ [As.mk (AA (Z53 l v5) 3).1 [BT.mk (Ac 5) (((Z50 l v5).getD 0 default).Legs.getD 0 default).Group, BT.mk (Ac 4) (((Z50 l v5).getD 0 default).Legs.getD 1 default).Group]]).length (AY As.c ((Z50 l v5) ++ [As.mk (AA (Z53 l v5) 3).1 [BT.mk (Ac 5) (((Z50 l v5).getD 0 default).Legs.getD 0 default).Group, BT.mk (Ac 4) (((Z50 l v5).getD 0 default).Legs.getD 1 default).Group]])) 157
def Z56 (l : (List Int)) (v5 : AB) : (List As) := bif bif bif decide (((W64 (2 + (AA (AB.mk l 0) 5).1)) : Int) = 6) then decide ((0 : Int) < (((Z50 l v5).length : Nat) : Int)) else false then (bif bif decide (((W64 (2 + (AA (AB.mk l 0) 5).1)) : Int) = 6) then decide ((0 : Int) < (((Z50 l v5).length : Nat) : Int)) else false then decide (((AA (Z4Z l v5) 2).1 : Int) = 1) else false) else (bif bif decide (((W64 (2 + (AA (AB.mk l 0) 5).1)) : Int) = 6) then decide ((0 : Int) < (((Z50 l v5).length : Nat) : Int)) else false then false else false) then ((Z50 l v5) ++ [As.mk (AA (Z53 l v5) 3).1 [BT.mk (Ac 5) (((Z50 l v5).getD 0 default).Legs.getD 0 default).Group, BT.mk (Ac 4) (((Z50 l v5).getD 0 default).Legs.getD 1 default).Group]]) else (Z50 l v5)
def Z57 (l : (List Int)) (v5 : AB) : Blk := .row 2 (Z56 l v5).length (AY As.c (Z56 l v5)) 157
def Z58 (name : ByteArray) (v6_1 : List Ap) (l : (List Int)) (v5 : AB) : Blk := .cells [.s name, .own 100000 7 v6_1.length, .own 100001 2 ([As.mk 0 [BT.mk (Ac 0) 1, BT.mk (Ac 1) (AA (Z4N l v5) 2).1]].length)] 114
def Z59 (name : ByteArray) (v6_1 : List Ap) : Blk := .cells [.s name, .own 100000 7 v6_1.length, .own 100001 2 ([] : List As).length] 114
def Z5a (name : ByteArray) (v6_1 : List Ap) (l : (List Int)) (v5 : AB) : Blk := .cells [.s name, .own 100000 7 v6_1.length, .own 100001 2 (Z4S l v5).length] 114
def Z5b (name : ByteArray) (v6_1 : List Ap) (l : (List Int)) (v5 : AB) : Blk := .cells [.s name, .own 100000 7 v6_1.length, .own 100002 2 ([As.mk 1 [BT.mk (Ac 0) (AA (Z4V l v5) 2).1, BT.mk (Ac 1) (AA (Z4V l v5) 2).1], As.mk 1 [BT.mk (Ac 2) (AA (Z4V l v5) 2).1, BT.mk (Ac 3) (AA (Z4V l v5) 2).1]].length)] 114
def Z5c (name : ByteArray) (v6_1 : List Ap) (l : (List Int)) (v5 : AB) : Blk := .cells [.s name, .own 100000 7 v6_1.length, .own 100002 2 (Z50 l v5).length] 114
def Z5d (name : ByteArray) (v6_1 : List Ap) (l : (List Int)) (v5 : AB) : Blk := .cells [.s name, .own 100000 7 v6_1.length, .own 100003 2 ((Z50 l v5) ++ [As.mk (AA (Z53 l v5) 3).1 [BT.mk (Ac 5) (((Z50 l v5).getD 0 default).Legs.getD 0 default).Group, BT.mk (Ac 4) (((Z50 l v5).getD 0 default).Legs.getD 1 default).Group]]).length] 114
def DA (l : (List Int)) (name : ByteArray) : Nat -> List Ap -> AB -> Int -> AG
 | 0, _, _, _ => default
 | n0 + 1, v6_1, v5, v8 => bif decide ((v8 : Int) < (W64 (2 + (AA (AB.mk l 0) 5).1))) then ((DA l name n0) (v6_1 ++ [Ap.mk (Ac v8) (AQ.mk (bif decide (((AA (AA v5 2).2 3).1 : Int) = 0) then (Z4D v8 v5).Kind else (bif decide (((AA (AA v5 2).2 3).1 : Int) = 1) then (Z4G v8 v5).Kind else 1)) (Z4I v5 v8) (bif decide (((AA (AA v5 2).2 3).1 : Int) = 0) then (Z4D v8 v5).R else (bif decide (((AA (AA v5 2).2 3).1 : Int) = 1) then (Z4G v8 v5).R else 4))) (AE.mk (W64 (30 * v8)) (W64 (10 * (AA v5 2).1))) (W64 ((W64 (2 * (AA (Z4H v5) 4).1)) * (AA (AA (Z4H v5) 4).2 2).1))]) (Z4L v5) (v8 + 1)) else (AG.mk name v6_1 (Z56 l v5))
def BD (l : (List Int)) (name : ByteArray) : AG := DA l name (((W64 (2 + (AA (AB.mk l 0) 5).1)) - 0).toNat + 1) ([] : List Ap) (AA (AB.mk l 0) 5).2 0
def Fo (l : (List Int)) (name : ByteArray) : FuncId × List Av × Ef := (52, [.one (lst 1 (fun x => [.i x]) l), .one (.s name)], .val [] (.av (.agg (AG.c (BD l name)))))
set_option maxHeartbeats 2000000 in
theorem TO (l : (List Int)) (name : ByteArray) (hl : (l.length : Int) <= 9223372036854775807) : Bo Try.prog 52 (Fo l name).2.1 (.av (.agg (AG.c (BD l name)))) := by
 refine AX Try.func52 rfl kr kr fun W0 M0 => ?_
 have hd0 := CS hl
 refine AC <| rn ⟨[(0, tO (lst 1 (fun x => [.i x]) l)), (1, tO (.s name)), (4, tP 4 0)], [(4, Z4l)]⟩ <| AC ?_
 refine rn ⟨[(1, tO (.s name)), (4, tP 4 0), (5, tP 14 0)], [(4, Z4l), (14, .cells [lst 1 (fun x => [.i x]) l, .i 0] 146)]⟩ <| AC ?_
 refine rn ⟨[(4, tP 4 0), (5, tP 14 0), (6, tP 6 0)], [(4, Z4l), (6, .cells [.s name, vN, vN] 114), (14, .cells [lst 1 (fun x => [.i x]) l, .i 0] 146)]⟩ <| AC ?_
 refine rc [(18, (Z4m l))] [Al (Z4m l).2.1, BH (.cells [lst 1 (fun x => [.i x]) l, .i 0] 146)] ⟨[(4, tP 4 0), (5, tP 14 0), (6, tP 6 0), (7, Z4n l)], [(4, Z4l), (6, .cells [.s name, vN, vN] 114), (14, Z4o l)]⟩ (.cons (Ai (fun _ _ => kr) kr kr (Bd (AB.mk l 0) 5 au5 au7)) .nil) (.cons rfl (.cons rfl .nil)) <| AJ ?_
 refine AC <| AC ?_
 refine rn ⟨[(4, tP 4 0), (5, tP 14 0), (6, tP 6 0), (7, Z4n l), (8, tI 0)], [(4, Z4l), (6, .cells [.s name, vN, vN] 114), (14, Z4o l)]⟩ <| Af ?_
 refine Bl (Cv.trans (CH (⟨[(4, tP 4 0), (5, tP 14 0), (6, tP 6 0), (7, Z4n l), (8, tI 0)], [(100000, .row 7 0 (fun _ _ => default) 118), (4, Z4l), (6, .cells [.s name, .own 100000 7 0, vN] 114), (14, Z4o l)]⟩) 100000 7 (fun _ _ => default) 118 [] [(6, [1])] (K := []) (fun k x h => by cases h) rfl kr kr) (Cv.trans (BR (⟨[(4, tP 4 0), (5, tP 14 0), (6, tP 6 0), (7, Z4n l), (8, tI 0)], [(100000, Z4u), (4, Z4l), (6, Z4v name), (14, Z4o l)]⟩) lr (.cons ⟨rfl, Aw 118 (CF 7 (fun _ _ => default) Ap.c)⟩ (.cons ⟨rfl, .refl _⟩ (.cons ⟨rfl, .cells _ (rr (.cons (.own _ _ au2) (rr .nil)))⟩ lr)))) (Cv.trans (BA [4, 5, 6, 7, 8] [4, 6, 14, 100000] (⟨[(4, tP 4 0), (5, tP 14 0), (6, tP 6 0), (7, Z4n l), (8, tI 0)], [(4, Z4l), (6, Z4v name), (14, Z4o l), (100000, Z4u)]⟩) kr) (Cv.refl _)))) ?_
 refine BL (ι := Nat × List Ap × AB × Int) (fun x => ⟨[(4, tP 4 0), (5, tP 14 0), (6, tP 6 0), (7, Z4n l), (8, tI x.2.2.2)], [(4, Z4l), (6, .cells [.s name, .own 100000 7 x.2.1.length, vN] 114), (14, .cells (AB.c x.2.2.1) 146), (100000, .row 7 x.2.1.length (AY Ap.c x.2.1) 118)]⟩) (fun x => ((W64 (2 + (AA (AB.mk l 0) 5).1)) - x.2.2.2).toNat < x.1 /\ (Bp x.2.2.1 /\ 0 <= x.2.2.2 /\ (x.2.2.2 <= (W64 (2 + (AA (AB.mk l 0) 5).1)) \/ x.2.2.2 = 0) /\ (x.2.1.length : Int) <= 0 + 1 * (x.2.2.2 - 0)) /\ DA l name x.1 x.2.1 x.2.2.1 x.2.2.2 = BD l name) (fun x => x.1) ?_ (((W64 (2 + (AA (AB.mk l 0) 5).1)) - 0).toNat + 1, ([] : List Ap), (AA (AB.mk l 0) 5).2, 0) ⟨Nat.lt_succ_self _, ⟨(by show Bp ((AA (AB.mk l 0) 5).2); repeat (first | with_reducible assumption | exact CS (Cz hll _) | with_reducible refine BX ?_ | with_reducible refine Dv ?_ | with_reducible refine DD ?_ | with_reducible refine Cs ?_  | with_reducible refine Cc ?_ ?_)), ax0, ax0, ax0⟩, (by simp only [BD, cond_true, cond_false])⟩
 rintro ⟨n0, v6_1, v5, v8⟩ ⟨hn, hinv, hF⟩
 have hm0 := hn; have hinv0 := hinv; have hF0 := hF; try dsimp only at hm0 hinv0 hF0
 clear hn hinv hF
 cases n0 with
 | zero => exact absurd hm0 (Nat.not_lt_zero _)
 | succ n0 =>
  have hi0_0 := hinv0.1
  refine AC <| AC ?_
  refine rn ⟨[(4, tP 4 0), (5, tP 14 0), (6, tP 6 0), (7, Z4n l), (8, tI v8), (22, tB (decide ((v8 : Int) < (W64 (2 + (AA (AB.mk l 0) 5).1)))))], [(4, Z4l), (6, Z4w name v6_1), (14, .cells (AB.c v5) 146), (100000, Z4x v6_1)]⟩ ?_
  refine Ae _ rfl (fun h1 => ?_) (fun h1 => ?_)
  ·have g1 := oT h1
   have k1 := MG g1 (by decide) (by decide) (by decide) (by decide)
   have kk1 := KF g1 (by decide) (by decide) (by decide) (by decide)
   refine Ak <| AJ ?_
   refine AC <| Af <| AC ?_
   refine rc [(26, B9 v8), (30, (Z4y v5))] [Al (B9 v8).2.1, Al (Z4y v5).2.1, BH (.cells (AB.c v5) 146)] ⟨[(4, tP 4 0), (5, tP 14 0), (6, tP 6 0), (7, Z4n l), (8, tI v8), (9, tP 9 0)], [(4, Z4l), (6, Z4w name v6_1), (9, Z4z v8 v5), (14, .cells (AB.c (AA v5 2).2) 146), (100000, Z4x v6_1)]⟩ (.cons (Dm v8 au6) (.cons (Ai (fun _ _ => kr) kr kr (Bd v5 2 au5 au7)) .nil)) (.cons rfl (.cons rfl (.cons rfl .nil))) <| AJ <| AC ?_
   refine rn ⟨[(4, tP 4 0), (5, tP 14 0), (6, tP 6 0), (7, Z4n l), (8, tI v8), (9, tP 9 0), (10, tP 10 0)], [(4, Z4l), (6, Z4w name v6_1), (9, Z4z v8 v5), (10, Z4A v8 v5), (14, .cells (AB.c (AA v5 2).2) 146), (100000, Z4x v6_1)]⟩ ?_
   refine AC <| AC ?_
   refine rc [(37, (Z4B v5))] [Al (Z4B v5).2.1, BH (.cells (AB.c (AA v5 2).2) 146)] ⟨[(4, tP 4 0), (5, tP 14 0), (6, tP 6 0), (7, Z4n l), (8, tI v8), (9, tP 9 0), (10, tP 10 0), (37, tI (AA (AA v5 2).2 3).1)], [(4, Z4l), (6, Z4w name v6_1), (9, Z4z v8 v5), (10, Z4A v8 v5), (14, Z4C v5), (100000, Z4x v6_1)]⟩ (.cons (Ai (fun _ _ => kr) kr kr (Bd (AA v5 2).2 3 au5 au7)) .nil) (.cons rfl (.cons rfl .nil)) <| AJ ?_
   refine Bm (⟨[(4, tP 4 0), (5, tP 14 0), (6, tP 6 0), (7, tI (W64 (2 + (AA (AB.mk l 0) 5).1))), (8, tI v8), (9, tP 9 0)], [(4, .cells [.s (⟨#[]⟩), vN, vN] 114), (6, .cells [.s name, .own 100000 7 v6_1.length, vN] 114), (9, .cells [.s (Ac v8), .i (bif decide (((AA (AA v5 2).2 3).1 : Int) = 0) then (Z4D v8 v5).Kind else (bif decide (((AA (AA v5 2).2 3).1 : Int) = 1) then (Z4G v8 v5).Kind else 1)), lst 7 AH.c (Z4I v5 v8), .i (bif decide (((AA (AA v5 2).2 3).1 : Int) = 0) then (Z4D v8 v5).R else (bif decide (((AA (AA v5 2).2 3).1 : Int) = 1) then (Z4G v8 v5).R else 4)), .i (W64 (30 * v8)), .i (W64 (10 * (AA v5 2).1)), .i 0] 118), (14, .cells (AB.c (Z4H v5)) 146), (100000, .row 7 v6_1.length (AY Ap.c v6_1) 118)]⟩) ?_ ?_
   ·refine Af <| AC ?_
    refine rn ⟨[(4, tP 4 0), (5, tP 14 0), (6, tP 6 0), (7, Z4n l), (8, tI v8), (9, tP 9 0), (10, tP 10 0), (37, tI (AA (AA v5 2).2 3).1), (54, tB (decide (((AA (AA v5 2).2 3).1 : Int) = 0)))], [(4, Z4l), (6, Z4w name v6_1), (9, Z4z v8 v5), (10, Z4A v8 v5), (14, Z4C v5), (100000, Z4x v6_1)]⟩ ?_
    refine Ae _ rfl (fun h2 => ?_) (fun h2 => ?_)
    ·have g2 := oT h2
     refine rc [(69, E8 (An.mk (W64 ((W64 (30 * v8)) - 6)) (W64 ((W64 (10 * (AA v5 2).1)) - 6)) (W64 ((W64 (30 * v8)) + 6)) (W64 ((W64 (10 * (AA v5 2).1)) + 6))))] [Al (E8 (An.mk (W64 ((W64 (30 * v8)) - 6)) (W64 ((W64 (10 * (AA v5 2).1)) - 6)) (W64 ((W64 (30 * v8)) + 6)) (W64 ((W64 (10 * (AA v5 2).1)) + 6)))).2.1] ⟨[(4, tP 4 0), (5, tP 14 0), (6, tP 6 0), (7, Z4n l), (8, tI v8), (9, tP 9 0)], [(4, Z4l), (6, Z4w name v6_1), (9, .cells [.s (Ac v8), .i (Z4D v8 v5).Kind, lst 7 AH.c (Z4D v8 v5).Edges, .i (Z4D v8 v5).R, .i (W64 (30 * v8)), .i (W64 (10 * (AA v5 2).1)), .i 0] 118), (14, Z4C v5), (100000, Z4x v6_1)]⟩ (.cons (Jb (An.mk (W64 ((W64 (30 * v8)) - 6)) (W64 ((W64 (10 * (AA v5 2).1)) - 6)) (W64 ((W64 (30 * v8)) + 6)) (W64 ((W64 (10 * (AA v5 2).1)) + 6)))) .nil) (.cons rfl .nil) <| Bq <| AJ ?_
     refine A6 ?_
     first | rfl | (simp only [h2, Z4H, Z4I, cond_true, cond_false] <;> rfl)
    ·have g2 := oF h2
     refine AC <| rn ⟨[(4, tP 4 0), (5, tP 14 0), (6, tP 6 0), (7, Z4n l), (8, tI v8), (9, tP 9 0), (10, tP 10 0), (71, tB (decide (((AA (AA v5 2).2 3).1 : Int) = 1)))], [(4, Z4l), (6, Z4w name v6_1), (9, Z4z v8 v5), (10, Z4A v8 v5), (14, Z4C v5), (100000, Z4x v6_1)]⟩ ?_
     refine Ae _ rfl (fun h3 => ?_) (fun h3 => ?_)
     ·have g3 := oT h3
      refine dw [] [(75, (Z4E v5)), (77, Gy (AE.mk (W64 (30 * v8)) (W64 (10 * (AA v5 2).1))) (W64 (4 + (AA (AA (AA v5 2).2 3).2 3).1)))] [Al (Z4E v5).2.1, BH (.cells (AB.c (AA (AA v5 2).2 3).2) 146), Al (Gy (AE.mk (W64 (30 * v8)) (W64 (10 * (AA v5 2).1))) (W64 (4 + (AA (AA (AA v5 2).2 3).2 3).1))).2.1] ⟨[(4, tP 4 0), (5, tP 14 0), (6, tP 6 0), (7, Z4n l), (8, tI v8), (9, tP 9 0)], [(4, Z4l), (6, Z4w name v6_1), (9, .cells [.s (Ac v8), .i (Z4G v8 v5).Kind, lst 7 AH.c (Z4G v8 v5).Edges, .i (Z4G v8 v5).R, .i (W64 (30 * v8)), .i (W64 (10 * (AA v5 2).1)), .i 0] 118), (14, .cells (AB.c (Z4F v5)) 146), (100000, Z4x v6_1)]⟩ (.cons (Ai (fun _ _ => kr) kr kr (Bd (AA (AA v5 2).2 3).2 3 au5 au7)) (.cons (Pb (AE.mk (W64 (30 * v8)) (W64 (10 * (AA v5 2).1))) (W64 (4 + (AA (AA (AA v5 2).2 3).2 3).1))) .nil)) (.cons rfl (.cons rfl (.cons rfl .nil))) <| Bq <| AJ ?_
      refine A6 ?_
      first | rfl | (simp only [h2, h3, Z4H, Z4I, cond_true, cond_false] <;> rfl)
     ·have g3 := oF h3
      refine rg ⟨[(4, tP 4 0), (5, tP 14 0), (6, tP 6 0), (7, Z4n l), (8, tI v8), (9, tP 9 0)], [(4, Z4l), (6, Z4w name v6_1), (9, .cells [.s (Ac v8), .i 1, .list true 7 1 (A0 7 1 [.i 1, .i (W64 ((W64 (30 * v8)) - 2)), .i (W64 (10 * (AA v5 2).1)), .i (W64 ((W64 (30 * v8)) + 2)), .i (W64 (10 * (AA v5 2).1)), .i 0, .i 0]), .i 4, .i (W64 (30 * v8)), .i (W64 (10 * (AA v5 2).1)), .i 0] 118), (14, Z4C v5), (100000, Z4x v6_1)]⟩ <| Bq <| AJ ?_
      refine Cv.trans (BR (⟨[(4, tP 4 0), (5, tP 14 0), (6, tP 6 0), (7, Z4n l), (8, tI v8), (9, tP 9 0)], [(4, Z4l), (6, Z4w name v6_1), (9, .cells [.s (Ac v8), .i 1, lst 7 AH.c [AH.mk 1 (AE.mk (W64 ((W64 (30 * v8)) - 2)) (W64 (10 * (AA v5 2).1))) (AE.mk (W64 ((W64 (30 * v8)) + 2)) (W64 (10 * (AA v5 2).1))) (AE.mk 0 0)], .i 4, .i (W64 (30 * v8)), .i (W64 (10 * (AA v5 2).1)), .i 0] 118), (14, Z4C v5), (100000, Z4x v6_1)]⟩) lr (.cons ⟨rfl, .refl _⟩ (.cons ⟨rfl, .refl _⟩ (.cons ⟨rfl, .cells _ (rr (rr (.cons (Bt true (A2 (c := AH.c) (xs := ([AH.mk 1 (AE.mk (W64 ((W64 (30 * v8)) - 2)) (W64 (10 * (AA v5 2).1))) (AE.mk (W64 ((W64 (30 * v8)) + 2)) (W64 (10 * (AA v5 2).1))) (AE.mk 0 0)] : List AH)) rfl kr)) (rr (rr (rr (rr .nil)))))))⟩ lr)))) (A6 ?_)
      first | rfl | (simp only [h2, h3, Z4H, Z4I, cond_true, cond_false] <;> rfl)
   refine AC <| rc [(80, (Z4J v5)), (83, (Z4K v5))] [Al (Z4J v5).2.1, BH (.cells (AB.c (Z4H v5)) 146), Al (Z4K v5).2.1, BH (.cells (AB.c (AA (Z4H v5) 4).2) 146)] ⟨[(4, tP 4 0), (5, tP 14 0), (6, tP 6 0), (7, Z4n l), (8, tI v8), (9, tP 9 0)], [(4, Z4l), (6, Z4w name v6_1), (9, .cells [.s (Ac v8), .i (bif decide (((AA (AA v5 2).2 3).1 : Int) = 0) then (Z4D v8 v5).Kind else (bif decide (((AA (AA v5 2).2 3).1 : Int) = 1) then (Z4G v8 v5).Kind else 1)), lst 7 AH.c (Z4I v5 v8), .i (bif decide (((AA (AA v5 2).2 3).1 : Int) = 0) then (Z4D v8 v5).R else (bif decide (((AA (AA v5 2).2 3).1 : Int) = 1) then (Z4G v8 v5).R else 4)), .i (W64 (30 * v8)), .i (W64 (10 * (AA v5 2).1)), .i (W64 ((W64 (2 * (AA (Z4H v5) 4).1)) * (AA (AA (Z4H v5) 4).2 2).1))] 118), (14, .cells (AB.c (Z4L v5)) 146), (100000, Z4x v6_1)]⟩ (.cons (Ai (fun _ _ => kr) kr kr (Bd (Z4H v5) 4 au5 au7)) (.cons (Ai (fun _ _ => kr) kr kr (Bd (AA (Z4H v5) 4).2 2 au5 au7)) .nil)) (.cons rfl (.cons rfl (.cons rfl (.cons rfl .nil)))) <| AJ ?_
   refine rc [] [v6_1.length = v6_1.length, v6_1.length + 1 <= maxLen, (v6_1.length + 1) * 80 <= 140737488355328] ⟨[(4, tP 4 0), (5, tP 14 0), (6, tP 6 0), (7, Z4n l), (8, tI v8)], [(4, Z4l), (6, .cells [.s name, .own 90 7 (v6_1.length + 1), vN] 114), (14, .cells (AB.c (Z4L v5)) 146), (90, .row 7 (v6_1.length + 1) (fun i_ j_ => if i_ < v6_1.length then (AY Ap.c v6_1) i_ j_ else (A0 7 1 [.s (Ac v8), .i (bif decide (((AA (AA v5 2).2 3).1 : Int) = 0) then (Z4D v8 v5).Kind else (bif decide (((AA (AA v5 2).2 3).1 : Int) = 1) then (Z4G v8 v5).Kind else 1)), lst 7 AH.c (Z4I v5 v8), .i (bif decide (((AA (AA v5 2).2 3).1 : Int) = 0) then (Z4D v8 v5).R else (bif decide (((AA (AA v5 2).2 3).1 : Int) = 1) then (Z4G v8 v5).R else 4)), .i (W64 (30 * v8)), .i (W64 (10 * (AA v5 2).1)), .i (W64 ((W64 (2 * (AA (Z4H v5) 4).1)) * (AA (AA (Z4H v5) 4).2 2).1))]) (i_ - v6_1.length) j_) 118)]⟩ .nil (.cons rfl (.cons au3 (.cons au3 .nil))) <| Bq <| AJ ?_
   refine Bl (Cv.trans (BR (⟨[(4, tP 4 0), (5, tP 14 0), (6, tP 6 0), (7, Z4n l), (8, tI v8)], [(4, Z4l), (6, .cells [.s name, .own 90 7 (v6_1 ++ [Ap.mk (Ac v8) (AQ.mk (bif decide (((AA (AA v5 2).2 3).1 : Int) = 0) then (Z4D v8 v5).Kind else (bif decide (((AA (AA v5 2).2 3).1 : Int) = 1) then (Z4G v8 v5).Kind else 1)) (Z4I v5 v8) (bif decide (((AA (AA v5 2).2 3).1 : Int) = 0) then (Z4D v8 v5).R else (bif decide (((AA (AA v5 2).2 3).1 : Int) = 1) then (Z4G v8 v5).R else 4))) (AE.mk (W64 (30 * v8)) (W64 (10 * (AA v5 2).1))) (W64 ((W64 (2 * (AA (Z4H v5) 4).1)) * (AA (AA (Z4H v5) 4).2 2).1))]).length, vN] 114), (14, .cells (AB.c (Z4L v5)) 146), (90, .row 7 (v6_1 ++ [Ap.mk (Ac v8) (AQ.mk (bif decide (((AA (AA v5 2).2 3).1 : Int) = 0) then (Z4D v8 v5).Kind else (bif decide (((AA (AA v5 2).2 3).1 : Int) = 1) then (Z4G v8 v5).Kind else 1)) (Z4I v5 v8) (bif decide (((AA (AA v5 2).2 3).1 : Int) = 0) then (Z4D v8 v5).R else (bif decide (((AA (AA v5 2).2 3).1 : Int) = 1) then (Z4G v8 v5).R else 4))) (AE.mk (W64 (30 * v8)) (W64 (10 * (AA v5 2).1))) (W64 ((W64 (2 * (AA (Z4H v5) 4).1)) * (AA (AA (Z4H v5) 4).2 2).1))]).length (AY Ap.c (v6_1 ++ [Ap.mk (Ac v8) (AQ.mk (bif decide (((AA (AA v5 2).2 3).1 : Int) = 0) then (Z4D v8 v5).Kind else (bif decide (((AA (AA v5 2).2 3).1 : Int) = 1) then (Z4G v8 v5).Kind else 1)) (Z4I v5 v8) (bif decide (((AA (AA v5 2).2 3).1 : Int) = 0) then (Z4D v8 v5).R else (bif decide (((AA (AA v5 2).2 3).1 : Int) = 1) then (Z4G v8 v5).R else 4))) (AE.mk (W64 (30 * v8)) (W64 (10 * (AA v5 2).1))) (W64 ((W64 (2 * (AA (Z4H v5) 4).1)) * (AA (AA (Z4H v5) 4).2 2).1))])) 118)]⟩) lr (.cons ⟨rfl, .refl _⟩ (.cons ⟨rfl, .cells _ (rr (.cons (.own _ _ au2) (rr .nil)))⟩ (.cons ⟨rfl, .refl _⟩ (.cons ⟨rfl, Aw 118 (BV (BK 7 Ap.c v6_1) (A2 (c := Ap.c) (xs := ([Ap.mk (Ac v8) (AQ.mk (bif decide (((AA (AA v5 2).2 3).1 : Int) = 0) then (Z4D v8 v5).Kind else (bif decide (((AA (AA v5 2).2 3).1 : Int) = 1) then (Z4G v8 v5).Kind else 1)) (Z4I v5 v8) (bif decide (((AA (AA v5 2).2 3).1 : Int) = 0) then (Z4D v8 v5).R else (bif decide (((AA (AA v5 2).2 3).1 : Int) = 1) then (Z4G v8 v5).R else 4))) (AE.mk (W64 (30 * v8)) (W64 (10 * (AA v5 2).1))) (W64 ((W64 (2 * (AA (Z4H v5) 4).1)) * (AA (AA (Z4H v5) 4).2 2).1))] : List Ap)) rfl kr))⟩ .nil))))) (Cv.refl _)) ?_
   refine rg ⟨[(4, tP 4 0), (5, tP 14 0), (6, tP 6 0), (7, Z4n l), (8, tI (W64 (v8 + 1)))], [(4, Z4l), (6, .cells [.s name, .own 90 7 (v6_1 ++ [Ap.mk (Ac v8) (AQ.mk (bif decide (((AA (AA v5 2).2 3).1 : Int) = 0) then (Z4D v8 v5).Kind else (bif decide (((AA (AA v5 2).2 3).1 : Int) = 1) then (Z4G v8 v5).Kind else 1)) (Z4I v5 v8) (bif decide (((AA (AA v5 2).2 3).1 : Int) = 0) then (Z4D v8 v5).R else (bif decide (((AA (AA v5 2).2 3).1 : Int) = 1) then (Z4G v8 v5).R else 4))) (AE.mk (W64 (30 * v8)) (W64 (10 * (AA v5 2).1))) (W64 ((W64 (2 * (AA (Z4H v5) 4).1)) * (AA (AA (Z4H v5) 4).2 2).1))]).length, vN] 114), (14, .cells (AB.c (Z4L v5)) 146), (90, .row 7 (v6_1 ++ [Ap.mk (Ac v8) (AQ.mk (bif decide (((AA (AA v5 2).2 3).1 : Int) = 0) then (Z4D v8 v5).Kind else (bif decide (((AA (AA v5 2).2 3).1 : Int) = 1) then (Z4G v8 v5).Kind else 1)) (Z4I v5 v8) (bif decide (((AA (AA v5 2).2 3).1 : Int) = 0) then (Z4D v8 v5).R else (bif decide (((AA (AA v5 2).2 3).1 : Int) = 1) then (Z4G v8 v5).R else 4))) (AE.mk (W64 (30 * v8)) (W64 (10 * (AA v5 2).1))) (W64 ((W64 (2 * (AA (Z4H v5) 4).1)) * (AA (AA (Z4H v5) 4).2 2).1))]).length (AY Ap.c (v6_1 ++ [Ap.mk (Ac v8) (AQ.mk (bif decide (((AA (AA v5 2).2 3).1 : Int) = 0) then (Z4D v8 v5).Kind else (bif decide (((AA (AA v5 2).2 3).1 : Int) = 1) then (Z4G v8 v5).Kind else 1)) (Z4I v5 v8) (bif decide (((AA (AA v5 2).2 3).1 : Int) = 0) then (Z4D v8 v5).R else (bif decide (((AA (AA v5 2).2 3).1 : Int) = 1) then (Z4G v8 v5).R else 4))) (AE.mk (W64 (30 * v8)) (W64 (10 * (AA v5 2).1))) (W64 ((W64 (2 * (AA (Z4H v5) 4).1)) * (AA (AA (Z4H v5) 4).2 2).1))])) 118)]⟩ ?_
   (try rw [(show W64 (v8 + 1) = v8 + 1 from BP (by omega) au9)])
   refine AJ ?_
   refine ⟨(n0, v6_1 ++ [Ap.mk (Ac v8) (AQ.mk (bif decide (((AA (AA v5 2).2 3).1 : Int) = 0) then (Z4D v8 v5).Kind else (bif decide (((AA (AA v5 2).2 3).1 : Int) = 1) then (Z4G v8 v5).Kind else 1)) (Z4I v5 v8) (bif decide (((AA (AA v5 2).2 3).1 : Int) = 0) then (Z4D v8 v5).R else (bif decide (((AA (AA v5 2).2 3).1 : Int) = 1) then (Z4G v8 v5).R else 4))) (AE.mk (W64 (30 * v8)) (W64 (10 * (AA v5 2).1))) (W64 ((W64 (2 * (AA (Z4H v5) 4).1)) * (AA (AA (Z4H v5) 4).2 2).1))], Z4L v5, v8 + 1), ⟨?_, ?_, (by rw [<- hF0]; simp only [DA, h1, cond_true, cond_false])⟩, Nat.lt_succ_self _, Cv.trans (Be (⟨[(4, tP 4 0), (5, tP 14 0), (6, tP 6 0), (7, Z4n l), (8, tI (v8 + 1))], [(4, Z4l), (6, .cells [.s name, .own 100000 7 (v6_1 ++ [Ap.mk (Ac v8) (AQ.mk (bif decide (((AA (AA v5 2).2 3).1 : Int) = 0) then (Z4D v8 v5).Kind else (bif decide (((AA (AA v5 2).2 3).1 : Int) = 1) then (Z4G v8 v5).Kind else 1)) (Z4I v5 v8) (bif decide (((AA (AA v5 2).2 3).1 : Int) = 0) then (Z4D v8 v5).R else (bif decide (((AA (AA v5 2).2 3).1 : Int) = 1) then (Z4G v8 v5).R else 4))) (AE.mk (W64 (30 * v8)) (W64 (10 * (AA v5 2).1))) (W64 ((W64 (2 * (AA (Z4H v5) 4).1)) * (AA (AA (Z4H v5) 4).2 2).1))]).length, vN] 114), (14, .cells (AB.c (Z4L v5)) 146), (100000, .row 7 (v6_1 ++ [Ap.mk (Ac v8) (AQ.mk (bif decide (((AA (AA v5 2).2 3).1 : Int) = 0) then (Z4D v8 v5).Kind else (bif decide (((AA (AA v5 2).2 3).1 : Int) = 1) then (Z4G v8 v5).Kind else 1)) (Z4I v5 v8) (bif decide (((AA (AA v5 2).2 3).1 : Int) = 0) then (Z4D v8 v5).R else (bif decide (((AA (AA v5 2).2 3).1 : Int) = 1) then (Z4G v8 v5).R else 4))) (AE.mk (W64 (30 * v8)) (W64 (10 * (AA v5 2).1))) (W64 ((W64 (2 * (AA (Z4H v5) 4).1)) * (AA (AA (Z4H v5) 4).2 2).1))]).length (AY Ap.c (v6_1 ++ [Ap.mk (Ac v8) (AQ.mk (bif decide (((AA (AA v5 2).2 3).1 : Int) = 0) then (Z4D v8 v5).Kind else (bif decide (((AA (AA v5 2).2 3).1 : Int) = 1) then (Z4G v8 v5).Kind else 1)) (Z4I v5 v8) (bif decide (((AA (AA v5 2).2 3).1 : Int) = 0) then (Z4D v8 v5).R else (bif decide (((AA (AA v5 2).2 3).1 : Int) = 1) then (Z4G v8 v5).R else 4))) (AE.mk (W64 (30 * v8)) (W64 (10 * (AA v5 2).1))) (W64 ((W64 (2 * (AA (Z4H v5) 4).1)) * (AA (AA (Z4H v5) 4).2 2).1))])) 118)]⟩) 90 100000 (K := []) (fun k x h => by cases h) rfl rfl kr kr) (A6 kr)⟩
   ·show ((W64 (2 + (AA (AB.mk l 0) 5).1)) - (v8 + 1)).toNat < n0; omega
   ·exact ⟨(by show Bp (Z4L v5); repeat (first | with_reducible assumption | exact CS (Cz hll _) | with_reducible refine BX ?_ | with_reducible refine Dv ?_ | with_reducible refine DD ?_ | with_reducible refine Cs ?_  | with_reducible refine Cc ?_ ?_)), ax0, ax0, ax0⟩
  ·have g1 := oF h1
   have k1 := MR g1 (by decide) (by decide) (by decide) (by decide)
   refine BZ <| BI ?_
   refine BI <| Ba ?_
   refine AJ <| AC <| AC ?_
   refine Bm (⟨[(4, tP 4 0), (5, tP 14 0), (6, tP 6 0), (7, tI (W64 (2 + (AA (AB.mk l 0) 5).1))), (98, tB (bif decide (((W64 (2 + (AA (AB.mk l 0) 5).1)) : Int) < 4) then (bif decide (((W64 (2 + (AA (AB.mk l 0) 5).1)) : Int) < 4) then decide ((0 : Int) < (AA v5 3).1) else false) else (bif decide (((W64 (2 + (AA (AB.mk l 0) 5).1)) : Int) < 4) then false else false)))], [(4, .cells [.s (⟨#[]⟩), vN, vN] 114), (6, .cells [.s name, .own 100000 7 v6_1.length, vN] 114), (14, .cells (AB.c (Z4N l v5)) 146), (100000, .row 7 v6_1.length (AY Ap.c v6_1) 118)]⟩) ?_ ?_
   ·refine N0 (decide (((W64 (2 + (AA (AB.mk l 0) 5).1)) : Int) < 4)) (fun h2 => ?_) (fun h2 => ?_)
    ·have g2 := oT h2
     refine Ei ?_
     refine HR Dz 4 [] [] [] [4, 5, 6, 7, 94, 95] [4, 6, 14, 100000] [] ⟨[(4, tP 4 0), (5, tP 14 0), (6, tP 6 0), (7, Z4n l), (94, Z4p l), (95, Z4q l)], [(4, Z4l), (6, Z4w name v6_1), (14, .cells (AB.c v5) 146), (100000, Z4x v6_1)]⟩ .nil kr .nil ?_
     refine KZ Dz 2 true ((decide (((W64 (2 + (AA (AB.mk l 0) 5).1)) : Int) < 4)) = true) [] [(96, (Z4M v5))] [((decide (((W64 (2 + (AA (AB.mk l 0) 5).1)) : Int) < 4)) = true) -> ((decide (((W64 (2 + (AA (AB.mk l 0) 5).1)) : Int) < 4)) = true), Al (Z4M v5).2.1, BH (.cells (AB.c v5) 146)] ⟨[(4, tP 4 0), (5, tP 14 0), (6, tP 6 0), (7, Z4n l), (94, Z4p l), (95, Z4q l), (96, tI (AA v5 3).1)], [(4, Z4l), (6, Z4w name v6_1), (14, .cells (AB.c (AA v5 3).2) 146), (100000, Z4x v6_1)]⟩ rfl kr h2 (.cons (Ai (fun _ _ => kr) kr kr (Bd v5 3 au5 au7)) .nil) kr (.cons id (.cons rfl (.cons rfl .nil))) ?_
     refine GJ Dz [] [] [] [4, 5, 6, 7, 98] [4, 6, 14, 100000] [(decide (((W64 (2 + (AA (AB.mk l 0) 5).1)) : Int) < 4)) = true -> ((decide (((W64 (2 + (AA (AB.mk l 0) 5).1)) : Int) < 4)) = true)] ⟨[(4, tP 4 0), (5, tP 14 0), (6, tP 6 0), (7, Z4n l), (98, tB (bif decide (((W64 (2 + (AA (AB.mk l 0) 5).1)) : Int) < 4) then decide ((0 : Int) < (AA v5 3).1) else false))], [(4, Z4l), (6, Z4w name v6_1), (14, .cells (AB.c (AA v5 3).2) 146), (100000, Z4x v6_1)]⟩ .nil kr (.cons id .nil) <| AJ ?_
     refine A6 ?_
     first | rfl | (simp only [h2, Z4N, cond_true, cond_false] <;> rfl)
    ·have g2 := oF h2
     refine Ei ?_
     refine HR Dz 4 [] [] [] [4, 5, 6, 7, 94, 95] [4, 6, 14, 100000] [] ⟨[(4, tP 4 0), (5, tP 14 0), (6, tP 6 0), (7, Z4n l), (94, Z4p l), (95, Z4q l)], [(4, Z4l), (6, Z4w name v6_1), (14, .cells (AB.c v5) 146), (100000, Z4x v6_1)]⟩ .nil kr .nil ?_
     refine Ka 2 true ((decide (((W64 (2 + (AA (AB.mk l 0) 5).1)) : Int) < 4)) = true) ⟨[(4, tP 4 0), (5, tP 14 0), (6, tP 6 0), (7, Z4n l), (94, Z4p l), (95, Z4q l), (96, .grd ((decide (((W64 (2 + (AA (AB.mk l 0) 5).1)) : Int) < 4)) = true) (.one (.b false)))], [(4, Z4l), (6, Z4w name v6_1), (14, .cells (AB.c v5) 146), (100000, Z4x v6_1)]⟩ rfl kr (fun e => by rw [h2] at e; cases e) kr kr ?_
     refine GJ Dz [] [] [] [4, 5, 6, 7, 98] [4, 6, 14, 100000] [¬ ((decide (((W64 (2 + (AA (AB.mk l 0) 5).1)) : Int) < 4)) = true), (decide (((W64 (2 + (AA (AB.mk l 0) 5).1)) : Int) < 4)) = true -> ((decide (((W64 (2 + (AA (AB.mk l 0) 5).1)) : Int) < 4)) = true)] ⟨[(4, tP 4 0), (5, tP 14 0), (6, tP 6 0), (7, Z4n l), (98, tB (bif decide (((W64 (2 + (AA (AB.mk l 0) 5).1)) : Int) < 4) then false else false))], [(4, Z4l), (6, Z4w name v6_1), (14, .cells (AB.c v5) 146), (100000, Z4x v6_1)]⟩ .nil kr (.cons (fun e => by rw [h2] at e; cases e) (.cons id .nil)) <| AJ ?_
     refine A6 ?_
     first | rfl | (simp only [h2, Z4N, cond_true, cond_false] <;> rfl)
   refine Bm (⟨[(4, tP 4 0), (5, tP 14 0), (6, tP 6 0), (7, tI (W64 (2 + (AA (AB.mk l 0) 5).1)))], [(4, .cells [.s (⟨#[]⟩), vN, vN] 114), (6, .cells [.s name, .own 100000 7 v6_1.length, .own 100001 2 (Z4S l v5).length] 114), (14, .cells (AB.c (Z4R l v5)) 146), (100000, .row 7 v6_1.length (AY Ap.c v6_1) 118), (100001, .row 2 (Z4S l v5).length (AY As.c (Z4S l v5)) 157)]⟩) ?_ ?_
   ·refine Ae (bif decide (((W64 (2 + (AA (AB.mk l 0) 5).1)) : Int) < 4) then (bif decide (((W64 (2 + (AA (AB.mk l 0) 5).1)) : Int) < 4) then decide ((0 : Int) < (AA v5 3).1) else false) else (bif decide (((W64 (2 + (AA (AB.mk l 0) 5).1)) : Int) < 4) then false else false)) kr (fun h2 => ?_) (fun h2 => ?_)
    ·refine Da Dz [107] [] [(99, B9 0), (101, B9 1), (103, (Z4O l v5))] [4, 5, 6, 7] [4, 6, 14, 107, 100000] [Al (B9 0).2.1, Al (B9 1).2.1, Al (Z4O l v5).2.1, BH (.cells (AB.c (Z4N l v5)) 146)] ⟨[(4, tP 4 0), (5, tP 14 0), (6, tP 6 0), (7, Z4n l)], [(4, Z4l), (6, .cells [.s name, .own 100000 7 v6_1.length, .own 107 2 1] 114), (14, Z4P l v5), (107, .row 2 1 (A0 2 1 [.i 0, .list true 2 2 (A0 2 2 [.s (Ac 0), .i 1, .s (Ac 1), .i (AA (Z4N l v5) 2).1])]) 157), (100000, Z4x v6_1)]⟩ (.cons (Dm 0 au6) (.cons (Dm 1 au6) (.cons (Ai (fun _ _ => kr) kr kr (Bd (Z4N l v5) 2 au5 au7)) .nil))) kr (.cons rfl (.cons rfl (.cons rfl (.cons rfl .nil)))) <| AJ ?_
     refine Cv.trans (BR (⟨[(4, tP 4 0), (5, tP 14 0), (6, tP 6 0), (7, Z4n l)], [(4, Z4l), (6, .cells [.s name, .own 100000 7 v6_1.length, .own 107 2 ([As.mk 0 [BT.mk (Ac 0) 1, BT.mk (Ac 1) (AA (Z4N l v5) 2).1]].length)] 114), (14, Z4P l v5), (107, Z4Q l v5), (100000, Z4x v6_1)]⟩) lr (.cons ⟨rfl, .refl _⟩ (.cons ⟨rfl, .cells _ (rr (rr (.cons (.own _ _ au2) .nil)))⟩ (.cons ⟨rfl, .refl _⟩ (.cons ⟨rfl, Aw 157 (Dl (c := As.c) (xs := ([As.mk 0 [BT.mk (Ac 0) 1, BT.mk (Ac 1) (AA (Z4N l v5) 2).1]] : List As)) (y := [[.i 0, .list true 2 2 (A0 2 2 [.s (Ac 0), .i 1, .s (Ac 1), .i (AA (Z4N l v5) 2).1])]]) (z := [[.i 0, lst 2 BT.c [BT.mk (Ac 0) 1, BT.mk (Ac 1) (AA (Z4N l v5) 2).1]]]) rfl kr kr (.cons (rr (.cons (Bt true (A2 (c := BT.c) (xs := ([BT.mk (Ac 0) 1, BT.mk (Ac 1) (AA (Z4N l v5) 2).1] : List BT)) rfl kr)) .nil)) .nil))⟩ lr))))) (Cv.trans (Be (⟨[(4, tP 4 0), (5, tP 14 0), (6, tP 6 0), (7, Z4n l)], [(4, Z4l), (6, Z58 name v6_1 l v5), (14, Z4P l v5), (100001, Z4Q l v5), (100000, Z4x v6_1)]⟩) 107 100001 (K := []) (fun k x h => by cases h) rfl rfl kr kr) (Cv.trans (BA [4, 5, 6, 7] [4, 6, 14, 100000, 100001] (⟨[(4, tP 4 0), (5, tP 14 0), (6, tP 6 0), (7, Z4n l)], [(4, Z4l), (6, Z58 name v6_1 l v5), (14, Z4P l v5), (100000, Z4x v6_1), (100001, Z4Q l v5)]⟩) kr) (A6 ?_)))
     first | rfl | (simp only [h2, Z4R, Z4S, cond_true, cond_false] <;> rfl)
    ·refine Ak <| AJ ?_
     refine Cv.trans (BA [4, 5, 6, 7] [4, 6, 14, 100000] (⟨[(4, tP 4 0), (5, tP 14 0), (6, tP 6 0), (7, Z4n l)], [(4, Z4l), (6, Z4w name v6_1), (14, .cells (AB.c (Z4N l v5)) 146), (100000, Z4x v6_1)]⟩) kr) (Cv.trans (CH (⟨[(4, tP 4 0), (5, tP 14 0), (6, tP 6 0), (7, Z4n l)], [(100001, .row 2 0 (fun _ _ => default) 157), (4, Z4l), (6, .cells [.s name, .own 100000 7 v6_1.length, .own 100001 2 0] 114), (14, .cells (AB.c (Z4N l v5)) 146), (100000, Z4x v6_1)]⟩) 100001 2 (fun _ _ => default) 157 [] [(6, [2])] (K := []) (fun k x h => by cases h) rfl kr kr) (Cv.trans (BR (⟨[(4, tP 4 0), (5, tP 14 0), (6, tP 6 0), (7, Z4n l)], [(100001, Z4r), (4, Z4l), (6, Z59 name v6_1), (14, .cells (AB.c (Z4N l v5)) 146), (100000, Z4x v6_1)]⟩) lr (.cons ⟨rfl, Aw 157 (CF 2 (fun _ _ => default) As.c)⟩ (.cons ⟨rfl, .refl _⟩ (.cons ⟨rfl, .cells _ (rr (rr (.cons (.own _ _ au2) .nil)))⟩ lr)))) (Cv.trans (BA [4, 5, 6, 7] [4, 6, 14, 100000, 100001] (⟨[(4, tP 4 0), (5, tP 14 0), (6, tP 6 0), (7, Z4n l)], [(4, Z4l), (6, Z59 name v6_1), (14, .cells (AB.c (Z4N l v5)) 146), (100000, Z4x v6_1), (100001, Z4r)]⟩) kr) (A6 ?_))))
     first | rfl | (simp only [h2, Z4R, Z4S, cond_true, cond_false] <;> rfl)
   refine AC <| AC ?_
   refine Bm (⟨[(4, tP 4 0), (5, tP 14 0), (6, tP 6 0), (7, tI (W64 (2 + (AA (AB.mk l 0) 5).1))), (115, tB (bif decide ((4 : Int) <= (W64 (2 + (AA (AB.mk l 0) 5).1))) then (bif decide ((4 : Int) <= (W64 (2 + (AA (AB.mk l 0) 5).1))) then decide ((0 : Int) < (AA (Z4R l v5) 3).1) else false) else (bif decide ((4 : Int) <= (W64 (2 + (AA (AB.mk l 0) 5).1))) then false else false)))], [(4, .cells [.s (⟨#[]⟩), vN, vN] 114), (6, .cells [.s name, .own 100000 7 v6_1.length, .own 100001 2 (Z4S l v5).length] 114), (14, .cells (AB.c (Z4V l v5)) 146), (100000, .row 7 v6_1.length (AY Ap.c v6_1) 118), (100001, .row 2 (Z4S l v5).length (AY As.c (Z4S l v5)) 157)]⟩) ?_ ?_
   ·refine N0 (decide ((4 : Int) <= (W64 (2 + (AA (AB.mk l 0) 5).1)))) (fun h2 => ?_) (fun h2 => ?_)
    ·have g2 := oT h2
     refine Ei ?_
     refine HR Dz 4 [] [] [] [4, 5, 6, 7, 111, 112] [4, 6, 14, 100000, 100001] [] ⟨[(4, tP 4 0), (5, tP 14 0), (6, tP 6 0), (7, Z4n l), (111, Z4s l), (112, Z4t l)], [(4, Z4l), (6, Z5a name v6_1 l v5), (14, .cells (AB.c (Z4R l v5)) 146), (100000, Z4x v6_1), (100001, Z4U l v5)]⟩ .nil kr .nil ?_
     refine KZ Dz 2 true ((decide ((4 : Int) <= (W64 (2 + (AA (AB.mk l 0) 5).1)))) = true) [] [(113, (Z4T l v5))] [((decide ((4 : Int) <= (W64 (2 + (AA (AB.mk l 0) 5).1)))) = true) -> ((decide ((4 : Int) <= (W64 (2 + (AA (AB.mk l 0) 5).1)))) = true), Al (Z4T l v5).2.1, BH (.cells (AB.c (Z4R l v5)) 146)] ⟨[(4, tP 4 0), (5, tP 14 0), (6, tP 6 0), (7, Z4n l), (111, Z4s l), (112, Z4t l), (113, tI (AA (Z4R l v5) 3).1)], [(4, Z4l), (6, Z5a name v6_1 l v5), (14, .cells (AB.c (AA (Z4R l v5) 3).2) 146), (100000, Z4x v6_1), (100001, Z4U l v5)]⟩ rfl kr h2 (.cons (Ai (fun _ _ => kr) kr kr (Bd (Z4R l v5) 3 au5 au7)) .nil) kr (.cons id (.cons rfl (.cons rfl .nil))) ?_
     refine GJ Dz [] [] [] [4, 5, 6, 7, 115] [4, 6, 14, 100000, 100001] [(decide ((4 : Int) <= (W64 (2 + (AA (AB.mk l 0) 5).1)))) = true -> ((decide ((4 : Int) <= (W64 (2 + (AA (AB.mk l 0) 5).1)))) = true)] ⟨[(4, tP 4 0), (5, tP 14 0), (6, tP 6 0), (7, Z4n l), (115, tB (bif decide ((4 : Int) <= (W64 (2 + (AA (AB.mk l 0) 5).1))) then decide ((0 : Int) < (AA (Z4R l v5) 3).1) else false))], [(4, Z4l), (6, Z5a name v6_1 l v5), (14, .cells (AB.c (AA (Z4R l v5) 3).2) 146), (100000, Z4x v6_1), (100001, Z4U l v5)]⟩ .nil kr (.cons id .nil) <| AJ ?_
     refine A6 ?_
     first | rfl | (simp only [h2, Z4V, cond_true, cond_false] <;> rfl)
    ·have g2 := oF h2
     refine Ei ?_
     refine HR Dz 4 [] [] [] [4, 5, 6, 7, 111, 112] [4, 6, 14, 100000, 100001] [] ⟨[(4, tP 4 0), (5, tP 14 0), (6, tP 6 0), (7, Z4n l), (111, Z4s l), (112, Z4t l)], [(4, Z4l), (6, Z5a name v6_1 l v5), (14, .cells (AB.c (Z4R l v5)) 146), (100000, Z4x v6_1), (100001, Z4U l v5)]⟩ .nil kr .nil ?_
     refine Ka 2 true ((decide ((4 : Int) <= (W64 (2 + (AA (AB.mk l 0) 5).1)))) = true) ⟨[(4, tP 4 0), (5, tP 14 0), (6, tP 6 0), (7, Z4n l), (111, Z4s l), (112, Z4t l), (113, .grd ((decide ((4 : Int) <= (W64 (2 + (AA (AB.mk l 0) 5).1)))) = true) (.one (.b false)))], [(4, Z4l), (6, Z5a name v6_1 l v5), (14, .cells (AB.c (Z4R l v5)) 146), (100000, Z4x v6_1), (100001, Z4U l v5)]⟩ rfl kr (fun e => by rw [h2] at e; cases e) kr kr ?_
     refine GJ Dz [] [] [] [4, 5, 6, 7, 115] [4, 6, 14, 100000, 100001] [¬ ((decide ((4 : Int) <= (W64 (2 + (AA (AB.mk l 0) 5).1)))) = true), (decide ((4 : Int) <= (W64 (2 + (AA (AB.mk l 0) 5).1)))) = true -> ((decide ((4 : Int) <= (W64 (2 + (AA (AB.mk l 0) 5).1)))) = true)] ⟨[(4, tP 4 0), (5, tP 14 0), (6, tP 6 0), (7, Z4n l), (115, tB (bif decide ((4 : Int) <= (W64 (2 + (AA (AB.mk l 0) 5).1))) then false else false))], [(4, Z4l), (6, Z5a name v6_1 l v5), (14, .cells (AB.c (Z4R l v5)) 146), (100000, Z4x v6_1), (100001, Z4U l v5)]⟩ .nil kr (.cons (fun e => by rw [h2] at e; cases e) (.cons id .nil)) <| AJ ?_
     refine A6 ?_
     first | rfl | (simp only [h2, Z4V, cond_true, cond_false] <;> rfl)
   refine Bm (⟨[(4, tP 4 0), (5, tP 14 0), (6, tP 6 0), (7, tI (W64 (2 + (AA (AB.mk l 0) 5).1)))], [(4, .cells [.s (⟨#[]⟩), vN, vN] 114), (6, .cells [.s name, .own 100000 7 v6_1.length, .own 100002 2 (Z50 l v5).length] 114), (14, .cells (AB.c (Z4Z l v5)) 146), (100000, .row 7 v6_1.length (AY Ap.c v6_1) 118), (100002, .row 2 (Z50 l v5).length (AY As.c (Z50 l v5)) 157)]⟩) ?_ ?_
   ·refine Ae (bif decide ((4 : Int) <= (W64 (2 + (AA (AB.mk l 0) 5).1))) then (bif decide ((4 : Int) <= (W64 (2 + (AA (AB.mk l 0) 5).1))) then decide ((0 : Int) < (AA (Z4R l v5) 3).1) else false) else (bif decide ((4 : Int) <= (W64 (2 + (AA (AB.mk l 0) 5).1))) then false else false)) kr (fun h2 => ?_) (fun h2 => ?_)
    ·refine AC <| rc [(117, (Z4W l v5))] [Al (Z4W l v5).2.1, BH (.cells (AB.c (Z4V l v5)) 146)] ⟨[(4, tP 4 0), (5, tP 14 0), (6, tP 6 0), (7, Z4n l), (11, tI (AA (Z4V l v5) 2).1)], [(4, Z4l), (6, Z5a name v6_1 l v5), (14, Z4X l v5), (100000, Z4x v6_1), (100001, Z4U l v5)]⟩ (.cons (Ai (fun _ _ => kr) kr kr (Bd (Z4V l v5) 2 au5 au7)) .nil) (.cons rfl (.cons rfl .nil)) <| AJ ?_
     refine Da Dz [134] [] [(118, B9 0), (121, B9 1), (126, B9 2), (129, B9 3)] [4, 5, 6, 7] [4, 6, 14, 134, 100000] [Al (B9 0).2.1, Al (B9 1).2.1, Al (B9 2).2.1, Al (B9 3).2.1] ⟨[(4, tP 4 0), (5, tP 14 0), (6, tP 6 0), (7, Z4n l)], [(4, Z4l), (6, .cells [.s name, .own 100000 7 v6_1.length, .own 134 2 2] 114), (14, Z4X l v5), (134, .row 2 2 (A0 2 2 [.i 1, .list true 2 2 (A0 2 2 [.s (Ac 0), .i (AA (Z4V l v5) 2).1, .s (Ac 1), .i (AA (Z4V l v5) 2).1]), .i 1, .list true 2 2 (A0 2 2 [.s (Ac 2), .i (AA (Z4V l v5) 2).1, .s (Ac 3), .i (AA (Z4V l v5) 2).1])]) 157), (100000, Z4x v6_1)]⟩ (.cons (Dm 0 au6) (.cons (Dm 1 au6) (.cons (Dm 2 au6) (.cons (Dm 3 au6) .nil)))) kr (.cons rfl (.cons rfl (.cons rfl (.cons rfl .nil)))) <| AJ ?_
     refine Cv.trans (BR (⟨[(4, tP 4 0), (5, tP 14 0), (6, tP 6 0), (7, Z4n l)], [(4, Z4l), (6, .cells [.s name, .own 100000 7 v6_1.length, .own 134 2 ([As.mk 1 [BT.mk (Ac 0) (AA (Z4V l v5) 2).1, BT.mk (Ac 1) (AA (Z4V l v5) 2).1], As.mk 1 [BT.mk (Ac 2) (AA (Z4V l v5) 2).1, BT.mk (Ac 3) (AA (Z4V l v5) 2).1]].length)] 114), (14, Z4X l v5), (134, Z4Y l v5), (100000, Z4x v6_1)]⟩) lr (.cons ⟨rfl, .refl _⟩ (.cons ⟨rfl, .cells _ (rr (rr (.cons (.own _ _ au2) .nil)))⟩ (.cons ⟨rfl, .refl _⟩ (.cons ⟨rfl, Aw 157 (Dl (c := As.c) (xs := ([As.mk 1 [BT.mk (Ac 0) (AA (Z4V l v5) 2).1, BT.mk (Ac 1) (AA (Z4V l v5) 2).1], As.mk 1 [BT.mk (Ac 2) (AA (Z4V l v5) 2).1, BT.mk (Ac 3) (AA (Z4V l v5) 2).1]] : List As)) (y := [[.i 1, .list true 2 2 (A0 2 2 [.s (Ac 0), .i (AA (Z4V l v5) 2).1, .s (Ac 1), .i (AA (Z4V l v5) 2).1])], [.i 1, .list true 2 2 (A0 2 2 [.s (Ac 2), .i (AA (Z4V l v5) 2).1, .s (Ac 3), .i (AA (Z4V l v5) 2).1])]]) (z := [[.i 1, lst 2 BT.c [BT.mk (Ac 0) (AA (Z4V l v5) 2).1, BT.mk (Ac 1) (AA (Z4V l v5) 2).1]], [.i 1, lst 2 BT.c [BT.mk (Ac 2) (AA (Z4V l v5) 2).1, BT.mk (Ac 3) (AA (Z4V l v5) 2).1]]]) rfl kr kr (.cons (rr (.cons (Bt true (A2 (c := BT.c) (xs := ([BT.mk (Ac 0) (AA (Z4V l v5) 2).1, BT.mk (Ac 1) (AA (Z4V l v5) 2).1] : List BT)) rfl kr)) .nil)) (.cons (rr (.cons (Bt true (A2 (c := BT.c) (xs := ([BT.mk (Ac 2) (AA (Z4V l v5) 2).1, BT.mk (Ac 3) (AA (Z4V l v5) 2).1] : List BT)) rfl kr)) .nil)) .nil)))⟩ lr))))) (Cv.trans (Be (⟨[(4, tP 4 0), (5, tP 14 0), (6, tP 6 0), (7, Z4n l)], [(4, Z4l), (6, Z5b name v6_1 l v5), (14, Z4X l v5), (100002, Z4Y l v5), (100000, Z4x v6_1)]⟩) 134 100002 (K := []) (fun k x h => by cases h) rfl rfl kr kr) (Cv.trans (BA [4, 5, 6, 7] [4, 6, 14, 100000, 100002] (⟨[(4, tP 4 0), (5, tP 14 0), (6, tP 6 0), (7, Z4n l)], [(4, Z4l), (6, Z5b name v6_1 l v5), (14, Z4X l v5), (100000, Z4x v6_1), (100002, Z4Y l v5)]⟩) kr) (A6 ?_)))
     first | rfl | (simp only [h2, Z4Z, Z50, cond_true, cond_false] <;> rfl)
    ·refine Ak <| AJ ?_
     refine Cv.trans (BA [4, 5, 6, 7] [4, 6, 14, 100000, 100001] (⟨[(4, tP 4 0), (5, tP 14 0), (6, tP 6 0), (7, Z4n l)], [(4, Z4l), (6, Z5a name v6_1 l v5), (14, .cells (AB.c (Z4V l v5)) 146), (100000, Z4x v6_1), (100001, Z4U l v5)]⟩) kr) (Cv.trans (Be (⟨[(4, tP 4 0), (5, tP 14 0), (6, tP 6 0), (7, Z4n l)], [(4, Z4l), (6, .cells [.s name, .own 100000 7 v6_1.length, .own 100002 2 (Z4S l v5).length] 114), (14, .cells (AB.c (Z4V l v5)) 146), (100000, Z4x v6_1), (100002, Z4U l v5)]⟩) 100001 100002 (K := []) (fun k x h => by cases h) rfl rfl kr kr) (A6 ?_))
     first | rfl | (simp only [h2, Z4Z, Z50, cond_true, cond_false] <;> rfl)
   refine AC <| AC ?_
   refine Bm (⟨[(4, tP 4 0), (5, tP 14 0), (6, tP 6 0), (148, tB (bif bif decide (((W64 (2 + (AA (AB.mk l 0) 5).1)) : Int) = 6) then decide ((0 : Int) < (((Z50 l v5).length : Nat) : Int)) else false then (bif bif decide (((W64 (2 + (AA (AB.mk l 0) 5).1)) : Int) = 6) then decide ((0 : Int) < (((Z50 l v5).length : Nat) : Int)) else false then decide (((AA (Z4Z l v5) 2).1 : Int) = 1) else false) else (bif bif decide (((W64 (2 + (AA (AB.mk l 0) 5).1)) : Int) = 6) then decide ((0 : Int) < (((Z50 l v5).length : Nat) : Int)) else false then false else false)))], [(4, .cells [.s (⟨#[]⟩), vN, vN] 114), (6, .cells [.s name, .own 100000 7 v6_1.length, .own 100002 2 (Z50 l v5).length] 114), (14, .cells (AB.c (Z53 l v5)) 146), (100000, .row 7 v6_1.length (AY Ap.c v6_1) 118), (100002, .row 2 (Z50 l v5).length (AY As.c (Z50 l v5)) 157)]⟩) ?_ ?_
   ·refine N0 (bif decide (((W64 (2 + (AA (AB.mk l 0) 5).1)) : Int) = 6) then decide ((0 : Int) < (((Z50 l v5).length : Nat) : Int)) else false) (fun h2 => ?_) (fun h2 => ?_)
    ·have g2 := IY h2
     refine Ei ?_
     refine HR Dz 10 [] [] [] [4, 5, 6, 144, 145] [4, 6, 14, 100000, 100002] [((decide (((W64 (2 + (AA (AB.mk l 0) 5).1)) : Int) = 6)) = true) -> ((decide (((W64 (2 + (AA (AB.mk l 0) 5).1)) : Int) = 6)) = true), ((decide (((W64 (2 + (AA (AB.mk l 0) 5).1)) : Int) = 6)) = true) -> ((decide (((W64 (2 + (AA (AB.mk l 0) 5).1)) : Int) = 6)) = true), ((decide (((W64 (2 + (AA (AB.mk l 0) 5).1)) : Int) = 6)) = true) -> ((decide (((W64 (2 + (AA (AB.mk l 0) 5).1)) : Int) = 6)) = true), (decide (((W64 (2 + (AA (AB.mk l 0) 5).1)) : Int) = 6)) = true -> ((decide (((W64 (2 + (AA (AB.mk l 0) 5).1)) : Int) = 6)) = true)] ⟨[(4, tP 4 0), (5, tP 14 0), (6, tP 6 0), (144, tB (bif decide (((W64 (2 + (AA (AB.mk l 0) 5).1)) : Int) = 6) then decide ((0 : Int) < (((Z50 l v5).length : Nat) : Int)) else false)), (145, .grd ((bif decide (((W64 (2 + (AA (AB.mk l 0) 5).1)) : Int) = 6) then decide ((0 : Int) < (((Z50 l v5).length : Nat) : Int)) else false) = true) (.one (.ptr 14 0)))], [(4, Z4l), (6, Z5c name v6_1 l v5), (14, .cells (AB.c (Z4Z l v5)) 146), (100000, Z4x v6_1), (100002, Z52 l v5)]⟩ .nil kr (.cons id (.cons id (.cons id (.cons id .nil)))) ?_
     refine KZ Dz 8 true ((bif decide (((W64 (2 + (AA (AB.mk l 0) 5).1)) : Int) = 6) then decide ((0 : Int) < (((Z50 l v5).length : Nat) : Int)) else false) = true) [] [(146, (Z51 l v5))] [((bif decide (((W64 (2 + (AA (AB.mk l 0) 5).1)) : Int) = 6) then decide ((0 : Int) < (((Z50 l v5).length : Nat) : Int)) else false) = true) -> ((bif decide (((W64 (2 + (AA (AB.mk l 0) 5).1)) : Int) = 6) then decide ((0 : Int) < (((Z50 l v5).length : Nat) : Int)) else false) = true), Al (Z51 l v5).2.1, BH (.cells (AB.c (Z4Z l v5)) 146)] ⟨[(4, tP 4 0), (5, tP 14 0), (6, tP 6 0), (144, tB (bif decide (((W64 (2 + (AA (AB.mk l 0) 5).1)) : Int) = 6) then decide ((0 : Int) < (((Z50 l v5).length : Nat) : Int)) else false)), (145, .grd ((bif decide (((W64 (2 + (AA (AB.mk l 0) 5).1)) : Int) = 6) then decide ((0 : Int) < (((Z50 l v5).length : Nat) : Int)) else false) = true) (.one (.ptr 14 0))), (146, tI (AA (Z4Z l v5) 2).1)], [(4, Z4l), (6, Z5c name v6_1 l v5), (14, .cells (AB.c (AA (Z4Z l v5) 2).2) 146), (100000, Z4x v6_1), (100002, Z52 l v5)]⟩ rfl kr h2 (.cons (Ai (fun _ _ => kr) kr kr (Bd (Z4Z l v5) 2 au5 au7)) .nil) kr (.cons id (.cons rfl (.cons rfl .nil))) ?_
     refine GJ Dz [] [] [] [4, 5, 6, 148] [4, 6, 14, 100000, 100002] [(bif decide (((W64 (2 + (AA (AB.mk l 0) 5).1)) : Int) = 6) then decide ((0 : Int) < (((Z50 l v5).length : Nat) : Int)) else false) = true -> ((bif decide (((W64 (2 + (AA (AB.mk l 0) 5).1)) : Int) = 6) then decide ((0 : Int) < (((Z50 l v5).length : Nat) : Int)) else false) = true)] ⟨[(4, tP 4 0), (5, tP 14 0), (6, tP 6 0), (148, tB (bif bif decide (((W64 (2 + (AA (AB.mk l 0) 5).1)) : Int) = 6) then decide ((0 : Int) < (((Z50 l v5).length : Nat) : Int)) else false then decide (((AA (Z4Z l v5) 2).1 : Int) = 1) else false))], [(4, Z4l), (6, Z5c name v6_1 l v5), (14, .cells (AB.c (AA (Z4Z l v5) 2).2) 146), (100000, Z4x v6_1), (100002, Z52 l v5)]⟩ .nil kr (.cons id .nil) <| AJ ?_
     refine A6 ?_
     first | rfl | (simp only [h2, Z53, cond_true, cond_false] <;> rfl)
    ·refine Ei ?_
     refine HR Dz 10 [] [] [] [4, 5, 6, 144, 145] [4, 6, 14, 100000, 100002] [((decide (((W64 (2 + (AA (AB.mk l 0) 5).1)) : Int) = 6)) = true) -> ((decide (((W64 (2 + (AA (AB.mk l 0) 5).1)) : Int) = 6)) = true), ((decide (((W64 (2 + (AA (AB.mk l 0) 5).1)) : Int) = 6)) = true) -> ((decide (((W64 (2 + (AA (AB.mk l 0) 5).1)) : Int) = 6)) = true), ((decide (((W64 (2 + (AA (AB.mk l 0) 5).1)) : Int) = 6)) = true) -> ((decide (((W64 (2 + (AA (AB.mk l 0) 5).1)) : Int) = 6)) = true), (decide (((W64 (2 + (AA (AB.mk l 0) 5).1)) : Int) = 6)) = true -> ((decide (((W64 (2 + (AA (AB.mk l 0) 5).1)) : Int) = 6)) = true)] ⟨[(4, tP 4 0), (5, tP 14 0), (6, tP 6 0), (144, tB (bif decide (((W64 (2 + (AA (AB.mk l 0) 5).1)) : Int) = 6) then decide ((0 : Int) < (((Z50 l v5).length : Nat) : Int)) else false)), (145, .grd ((bif decide (((W64 (2 + (AA (AB.mk l 0) 5).1)) : Int) = 6) then decide ((0 : Int) < (((Z50 l v5).length : Nat) : Int)) else false) = true) (.one (.ptr 14 0)))], [(4, Z4l), (6, Z5c name v6_1 l v5), (14, .cells (AB.c (Z4Z l v5)) 146), (100000, Z4x v6_1), (100002, Z52 l v5)]⟩ .nil kr (.cons id (.cons id (.cons id (.cons id .nil)))) ?_
     refine Ka 8 true ((bif decide (((W64 (2 + (AA (AB.mk l 0) 5).1)) : Int) = 6) then decide ((0 : Int) < (((Z50 l v5).length : Nat) : Int)) else false) = true) ⟨[(4, tP 4 0), (5, tP 14 0), (6, tP 6 0), (144, tB (bif decide (((W64 (2 + (AA (AB.mk l 0) 5).1)) : Int) = 6) then decide ((0 : Int) < (((Z50 l v5).length : Nat) : Int)) else false)), (145, .grd ((bif decide (((W64 (2 + (AA (AB.mk l 0) 5).1)) : Int) = 6) then decide ((0 : Int) < (((Z50 l v5).length : Nat) : Int)) else false) = true) (.one (.ptr 14 0))), (146, .grd ((bif decide (((W64 (2 + (AA (AB.mk l 0) 5).1)) : Int) = 6) then decide ((0 : Int) < (((Z50 l v5).length : Nat) : Int)) else false) = true) (.one (.b false)))], [(4, Z4l), (6, Z5c name v6_1 l v5), (14, .cells (AB.c (Z4Z l v5)) 146), (100000, Z4x v6_1), (100002, Z52 l v5)]⟩ rfl kr (fun e => by rw [h2] at e; cases e) kr kr ?_
     refine GJ Dz [] [] [] [4, 5, 6, 148] [4, 6, 14, 100000, 100002] [¬ ((bif decide (((W64 (2 + (AA (AB.mk l 0) 5).1)) : Int) = 6) then decide ((0 : Int) < (((Z50 l v5).length : Nat) : Int)) else false) = true), (bif decide (((W64 (2 + (AA (AB.mk l 0) 5).1)) : Int) = 6) then decide ((0 : Int) < (((Z50 l v5).length : Nat) : Int)) else false) = true -> ((bif decide (((W64 (2 + (AA (AB.mk l 0) 5).1)) : Int) = 6) then decide ((0 : Int) < (((Z50 l v5).length : Nat) : Int)) else false) = true)] ⟨[(4, tP 4 0), (5, tP 14 0), (6, tP 6 0), (148, tB (bif bif decide (((W64 (2 + (AA (AB.mk l 0) 5).1)) : Int) = 6) then decide ((0 : Int) < (((Z50 l v5).length : Nat) : Int)) else false then false else false))], [(4, Z4l), (6, Z5c name v6_1 l v5), (14, .cells (AB.c (Z4Z l v5)) 146), (100000, Z4x v6_1), (100002, Z52 l v5)]⟩ .nil kr (.cons (fun e => by rw [h2] at e; cases e) (.cons id .nil)) <| AJ ?_
     refine A6 ?_
     first | rfl | (simp only [h2, Z53, cond_true, cond_false] <;> rfl)
   refine Bm (⟨[(4, tP 4 0), (6, tP 6 0)], [(4, .cells [.s (⟨#[]⟩), vN, vN] 114), (6, .cells [.s name, .own 100000 7 v6_1.length, .own 100003 2 (Z56 l v5).length] 114), (100000, .row 7 v6_1.length (AY Ap.c v6_1) 118), (100003, .row 2 (Z56 l v5).length (AY As.c (Z56 l v5)) 157)]⟩) ?_ ?_
   ·refine Ae (bif bif decide (((W64 (2 + (AA (AB.mk l 0) 5).1)) : Int) = 6) then decide ((0 : Int) < (((Z50 l v5).length : Nat) : Int)) else false then (bif bif decide (((W64 (2 + (AA (AB.mk l 0) 5).1)) : Int) = 6) then decide ((0 : Int) < (((Z50 l v5).length : Nat) : Int)) else false then decide (((AA (Z4Z l v5) 2).1 : Int) = 1) else false) else (bif bif decide (((W64 (2 + (AA (AB.mk l 0) 5).1)) : Int) = 6) then decide ((0 : Int) < (((Z50 l v5).length : Nat) : Int)) else false then false else false)) kr (fun h2 => ?_) (fun h2 => ?_)
    ·refine dw [] [(152, (Z54 l v5)), (153, B9 5), (163, B9 4)] [Al (Z54 l v5).2.1, BH (.cells (AB.c (Z53 l v5)) 146), Al (B9 5).2.1, 0 <= (0 : Int) /\ (0 : Int) < (((Z50 l v5).length : Nat) : Int), 0 < (Z50 l v5).length, 0 <= (0 : Int) /\ (0 : Int) < ((((Z50 l v5).getD 0 default).Legs.length : Nat) : Int), Al (B9 4).2.1, 0 <= (0 : Int) /\ (0 : Int) < (((Z50 l v5).length : Nat) : Int), 0 < (Z50 l v5).length, 0 <= (1 : Int) /\ (1 : Int) < ((((Z50 l v5).getD 0 default).Legs.length : Nat) : Int), (Z50 l v5).length = (Z50 l v5).length, (Z50 l v5).length + 1 <= maxLen, ((Z50 l v5).length + 1) * 32 <= 140737488355328] ⟨[(4, tP 4 0), (6, tP 6 0)], [(4, Z4l), (6, .cells [.s name, .own 100000 7 v6_1.length, .own 176 2 ((Z50 l v5).length + 1)] 114), (176, .row 2 ((Z50 l v5).length + 1) (fun i_ j_ => if i_ < (Z50 l v5).length then (AY As.c (Z50 l v5)) i_ j_ else (A0 2 1 [.i (AA (Z53 l v5) 3).1, .list true 2 2 (A0 2 2 [.s (Ac 5), .i (((Z50 l v5).getD 0 default).Legs.getD 0 default).Group, .s (Ac 4), .i (((Z50 l v5).getD 0 default).Legs.getD 1 default).Group])]) (i_ - (Z50 l v5).length) j_) 157), (100000, Z4x v6_1)]⟩ (.cons (Ai (fun _ _ => kr) kr kr (Bd (Z53 l v5) 3 au5 au7)) (.cons (Dm 5 au6) (.cons (Dm 4 au6) .nil))) (.cons rfl (.cons rfl (.cons rfl (.cons ⟨by decide, (GK (by with_reducible assumption))⟩ (.cons (Ph (GK (by with_reducible assumption))) (.cons (Pu (by decide) rfl rfl rfl (GK (by with_reducible assumption))) (.cons rfl (.cons ⟨by decide, (GK (by with_reducible assumption))⟩ (.cons (Ph (GK (by with_reducible assumption))) (.cons (Pu (by decide) rfl rfl rfl (GK (by with_reducible assumption))) (.cons rfl (.cons (SC (LR rfl)) (.cons (SD (LR rfl)) .nil))))))))))))) <| AJ ?_
     refine Cv.trans (BR (⟨[(4, tP 4 0), (6, tP 6 0)], [(4, Z4l), (6, .cells [.s name, .own 100000 7 v6_1.length, .own 176 2 ((Z50 l v5) ++ [As.mk (AA (Z53 l v5) 3).1 [BT.mk (Ac 5) (((Z50 l v5).getD 0 default).Legs.getD 0 default).Group, BT.mk (Ac 4) (((Z50 l v5).getD 0 default).Legs.getD 1 default).Group]]).length] 114), (176, Z55 l v5), (100000, Z4x v6_1)]⟩) lr (.cons ⟨rfl, .refl _⟩ (.cons ⟨rfl, .cells _ (rr (rr (.cons (.own _ _ au2) .nil)))⟩ (.cons ⟨rfl, Aw 157 (BV (BK 2 As.c (Z50 l v5)) (Dl (c := As.c) (xs := ([As.mk (AA (Z53 l v5) 3).1 [BT.mk (Ac 5) (((Z50 l v5).getD 0 default).Legs.getD 0 default).Group, BT.mk (Ac 4) (((Z50 l v5).getD 0 default).Legs.getD 1 default).Group]] : List As)) (y := [[.i (AA (Z53 l v5) 3).1, .list true 2 2 (A0 2 2 [.s (Ac 5), .i (((Z50 l v5).getD 0 default).Legs.getD 0 default).Group, .s (Ac 4), .i (((Z50 l v5).getD 0 default).Legs.getD 1 default).Group])]]) (z := [[.i (AA (Z53 l v5) 3).1, lst 2 BT.c [BT.mk (Ac 5) (((Z50 l v5).getD 0 default).Legs.getD 0 default).Group, BT.mk (Ac 4) (((Z50 l v5).getD 0 default).Legs.getD 1 default).Group]]]) rfl kr kr (.cons (rr (.cons (Bt true (A2 (c := BT.c) (xs := ([BT.mk (Ac 5) (((Z50 l v5).getD 0 default).Legs.getD 0 default).Group, BT.mk (Ac 4) (((Z50 l v5).getD 0 default).Legs.getD 1 default).Group] : List BT)) rfl kr)) .nil)) .nil)))⟩ lr)))) (Cv.trans (Be (⟨[(4, tP 4 0), (6, tP 6 0)], [(4, Z4l), (6, Z5d name v6_1 l v5), (100003, Z55 l v5), (100000, Z4x v6_1)]⟩) 176 100003 (K := []) (fun k x h => by cases h) rfl rfl kr kr) (Cv.trans (BA [4, 6] [4, 6, 100000, 100003] (⟨[(4, tP 4 0), (6, tP 6 0)], [(4, Z4l), (6, Z5d name v6_1 l v5), (100000, Z4x v6_1), (100003, Z55 l v5)]⟩) kr) (A6 ?_)))
     first | rfl | (simp only [h2, Z56, cond_true, cond_false] <;> rfl)
    ·refine Ak <| AJ ?_
     refine Cv.trans (BA [4, 6] [4, 6, 100000, 100002] (⟨[(4, tP 4 0), (6, tP 6 0)], [(4, Z4l), (6, Z5c name v6_1 l v5), (100000, Z4x v6_1), (100002, Z52 l v5)]⟩) kr) (Cv.trans (Be (⟨[(4, tP 4 0), (6, tP 6 0)], [(4, Z4l), (6, .cells [.s name, .own 100000 7 v6_1.length, .own 100003 2 (Z50 l v5).length] 114), (100000, Z4x v6_1), (100003, Z52 l v5)]⟩) 100002 100003 (K := []) (fun k x h => by cases h) rfl rfl kr kr) (A6 ?_))
     first | rfl | (simp only [h2, Z56, cond_true, cond_false] <;> rfl)
   refine AC <| rn ⟨[(4, tP 4 0)], [(4, .cells [.s name, .own 100000 7 v6_1.length, .own 100003 2 (Z56 l v5).length] 114), (100000, Z4x v6_1), (100003, Z57 l v5)]⟩ <| Aj ?_
   exact ⟨_, Cv.trans (Cu (⟨[(4, tP 4 0)], [(4, .cells [.s name, lst 7 Ap.c v6_1, .own 100003 2 (Z56 l v5).length] 114), (100003, Z57 l v5)]⟩) 100000 7 v6_1.length (AY Ap.c v6_1) 118 (K := []) (fun k x h => by cases h) kr kr (.cons ⟨rfl, rfl⟩ .nil) kr) (Cv.trans (Cu (⟨[(4, tP 4 0)], [(4, .cells [.s name, lst 7 Ap.c v6_1, lst 2 As.c (Z56 l v5)] 114)]⟩) 100003 2 (Z56 l v5).length (AY As.c (Z56 l v5)) 157 (K := []) (fun k x h => by cases h) kr kr (.cons ⟨rfl, rfl⟩ .nil) kr) (Cv.refl _)), .inl rfl, .av (.agg [.s name, lst 7 Ap.c v6_1, lst 2 As.c (Z56 l v5)]), by kernel_rfl, Ao (by rw [<- hF0]; first | (simp only [DA, h1, cond_true, cond_false] <;> rfl))⟩
theorem NK (l : (List Int)) (name : ByteArray) (hl : (l.length : Int) <= 9223372036854775807) : A1 Try.prog (Fo l name).1 (Fo l name).2.1 (Fo l name).2.2 := Aa (fun _ _ => kr) fun _ => TO l name hl
def HT (x0 : AE) (x1 : AE) : AH := AH.mk 1 x0 x1 (AE.mk 0 0)
def D9 (x0 : AE) (x1 : AE) : FuncId × List Av × Ef := (80, [.agg (AE.c x0), .agg (AE.c x1)], .val [] (.av (.agg (AH.c (HT x0 x1)))))
theorem TC (x0 : AE) (x1 : AE) : Bo Try.prog 80 (D9 x0 x1).2.1 (.av (.agg (AH.c (HT x0 x1)))) := by
 refine AX Try.func80 rfl kr kr fun W0 M0 => ?_
 refine AC <| rn ⟨[(2, tP 2 0), (3, tP 3 0), (4, tP 4 0)], [(2, .cells (AE.c x0) 52), (3, .cells (AE.c x1) 52), (4, .cells [.i 0, .i 0, .i 0, .i 0, .i 0, .i 0, .i 0] 133)]⟩ <| AC ?_
 refine rn ⟨[(4, tP 4 0)], [(4, .cells [.i 1, .i x0.X, .i x0.Y, .i x1.X, .i x1.Y, .i 0, .i 0] 133)]⟩ <| Aj ?_
 exact ⟨_, Cv.refl _, .inl rfl, .av (.agg [.i 1, .i x0.X, .i x0.Y, .i x1.X, .i x1.Y, .i 0, .i 0]), by kernel_rfl, Ao (by rfl)⟩
theorem IE (x0 : AE) (x1 : AE) : A1 Try.prog (D9 x0 x1).1 (D9 x0 x1).2.1 (D9 x0 x1).2.2 := Aa (fun _ _ => kr) fun _ => TC x0 x1
def Z5e : Blk := .cells [.i 0, vN, .i 0] 29
def Z5f : Blk := .cells [.i 2, vN, .i 0] 29
def Z5g (r : An) (radius : Int) : Blk := .cells [.i (W64 (r.X1 - radius)), .i (W64 (r.Y0 + radius)), .i (W64 (r.X1 - radius)), .i (W64 (r.Y1 - radius)), .i (W64 (r.X0 + radius)), .i (W64 (r.Y1 - radius)), .i (W64 (r.X0 + radius)), .i (W64 (r.Y0 + radius))] 179
def Z5h (r : An) (radius : Int) : AH := EI (AE.mk (W64 (r.X1 - radius)) (W64 (r.Y0 + radius))) radius 3 2
def Z5i (r : An) (radius : Int) : AH := EI (AE.mk (W64 (r.X1 - radius)) (W64 (r.Y1 - radius))) radius 4 2
def Z5j (r : An) (radius : Int) : Blk := .cells (AH.c (Z5i r radius)) 133
def Z5k (r : An) (radius : Int) : AH := HT (Z5h r radius).B (Z5i r radius).A
def Z5l (r : An) (radius : Int) : Blk := .cells [.i 2, .own 77 7 ([Z5h r radius, Z5k r radius].length), .i 0] 29
def Z5m (r : An) (radius : Int) : Blk := .row 7 ([Z5h r radius, Z5k r radius].length) (AY AH.c [Z5h r radius, Z5k r radius]) 133
def Z5n (r : An) (radius : Int) : Blk := .cells [.i 2, .own 100000 7 ([Z5h r radius, Z5k r radius].length), .i 0] 29
def Z5o (r : An) (radius : Int) : AH := EI (AE.mk (W64 (r.X0 + radius)) (W64 (r.Y1 - radius))) radius 5 2
def Z5p (r : An) (radius : Int) : Blk := .cells (AH.c (Z5o r radius)) 133
def Z5q (r : An) (radius : Int) : AH := HT (Z5i r radius).B (Z5o r radius).A
def Z5r (r : An) (radius : Int) : Blk := .cells [.i 2, .own 77 7 ([Z5h r radius, Z5k r radius] ++ [Z5i r radius, Z5q r radius]).length, .i 0] 29
def Z5s (r : An) (radius : Int) : Blk := .row 7 ([Z5h r radius, Z5k r radius] ++ [Z5i r radius, Z5q r radius]).length (AY AH.c ([Z5h r radius, Z5k r radius] ++ [Z5i r radius, Z5q r radius])) 133
def Z5t (r : An) (radius : Int) : Blk := .cells [.i 2, .own 100001 7 ([Z5h r radius, Z5k r radius] ++ [Z5i r radius, Z5q r radius]).length, .i 0] 29
def Z5u (r : An) (radius : Int) : AH := EI (AE.mk (W64 (r.X0 + radius)) (W64 (r.Y0 + radius))) radius 6 2
def Z5v (r : An) (radius : Int) : Blk := .cells (AH.c (Z5u r radius)) 133
def Z5w (r : An) (radius : Int) : AH := HT (Z5o r radius).B (Z5u r radius).A
def Z5x (r : An) (radius : Int) : Blk := .cells [.i 2, .own 77 7 (([Z5h r radius, Z5k r radius] ++ [Z5i r radius, Z5q r radius]) ++ [Z5o r radius, Z5w r radius]).length, .i 0] 29
def Z5y (r : An) (radius : Int) : Blk := .row 7 (([Z5h r radius, Z5k r radius] ++ [Z5i r radius, Z5q r radius]) ++ [Z5o r radius, Z5w r radius]).length (AY AH.c (([Z5h r radius, Z5k r radius] ++ [Z5i r radius, Z5q r radius]) ++ [Z5o r radius, Z5w r radius])) 133
def Z5z (r : An) (radius : Int) : Blk := .cells [.i 2, .own 100002 7 (([Z5h r radius, Z5k r radius] ++ [Z5i r radius, Z5q r radius]) ++ [Z5o r radius, Z5w r radius]).length, .i 0] 29
def Z5A (r : An) (radius : Int) : AH := EI (AE.mk (W64 (r.X1 - radius)) (W64 (r.Y0 + radius))) radius 7 2
def Z5B (r : An) (radius : Int) : AH := HT (Z5u r radius).B (Z5A r radius).A
def Z5C (r : An) (radius : Int) : Blk := .cells [.i 2, .own 77 7 ((([Z5h r radius, Z5k r radius] ++ [Z5i r radius, Z5q r radius]) ++ [Z5o r radius, Z5w r radius]) ++ [Z5u r radius, Z5B r radius]).length, .i 0] 29
def Z5D (r : An) (radius : Int) : Blk := .row 7 ((([Z5h r radius, Z5k r radius] ++ [Z5i r radius, Z5q r radius]) ++ [Z5o r radius, Z5w r radius]) ++ [Z5u r radius, Z5B r radius]).length (AY AH.c ((([Z5h r radius, Z5k r radius] ++ [Z5i r radius, Z5q r radius]) ++ [Z5o r radius, Z5w r radius]) ++ [Z5u r radius, Z5B r radius])) 133
def Z5E (r : An) (radius : Int) : Blk := .cells [.i 2, .own 100003 7 ((([Z5h r radius, Z5k r radius] ++ [Z5i r radius, Z5q r radius]) ++ [Z5o r radius, Z5w r radius]) ++ [Z5u r radius, Z5B r radius]).length, .i 0] 29
def FP (r : An) (radius : Int) : AQ := AQ.mk 2 ((([Z5h r radius, Z5k r radius] ++ [Z5i r radius, Z5q r radius]) ++ [Z5o r radius, Z5w r radius]) ++ [Z5u r radius, Z5B r radius]) 0
def FN (r : An) (radius : Int) : FuncId × List Av × Ef := (55, [.agg (An.c r), .one (.i radius)], .val [] (.av (.agg (AQ.c (FP r radius)))))
theorem QO (r : An) (radius : Int) : Bo Try.prog 55 (FN r radius).2.1 (.av (.agg (AQ.c (FP r radius)))) := by
 refine AX Try.func55 rfl kr kr fun W0 M0 => ?_
 refine AC <| rn ⟨[(1, tI radius), (2, tP 2 0), (4, tP 4 0)], [(2, .cells (An.c r) 76), (4, Z5e)]⟩ <| AC ?_
 refine rn ⟨[(1, tI radius), (2, tP 2 0), (4, tP 4 0), (5, tP 5 0)], [(2, .cells (An.c r) 76), (4, Z5e), (5, Z5f)]⟩ <| AC ?_
 refine rn ⟨[(1, tI radius), (4, tP 4 0), (5, tP 5 0), (6, tP 6 0)], [(4, Z5e), (5, Z5f), (6, Z5g r radius)]⟩ ?_
 refine AC <| AC ?_
 refine rn ⟨[(1, tI radius), (4, tP 4 0), (5, tP 5 0), (6, tP 6 0), (7, tI 0)], [(4, Z5e), (5, Z5f), (6, Z5g r radius)]⟩ <| Af ?_
 refine I7 5 ?_
 refine Fc <| AC <| AC ?_
 refine rn ⟨[(1, tI radius), (4, tP 4 0), (5, tP 5 0), (6, tP 6 0), (7, tI 0), (49, tB true)], [(4, Z5e), (5, Z5f), (6, Z5g r radius)]⟩ ?_
 refine Db kr <| Ak ?_
 refine AJ <| AC ?_
 refine Af <| AC ?_
 refine rc [(58, Bx (AE.mk (W64 (r.X1 - radius)) (W64 (r.Y0 + radius))) radius 3 2)] [0 <= (0 : Int) /\ (0 : Int) < (4 : Int), Al (Bx (AE.mk (W64 (r.X1 - radius)) (W64 (r.Y0 + radius))) radius 3 2).2.1] ⟨[(1, tI radius), (4, tP 4 0), (5, tP 5 0), (6, tP 6 0), (7, tI 0), (8, tP 8 0)], [(4, Z5e), (5, Z5f), (6, Z5g r radius), (8, .cells (AH.c (Z5h r radius)) 133)]⟩ (.cons (DS (AE.mk (W64 (r.X1 - radius)) (W64 (r.Y0 + radius))) radius 3 2) .nil) (.cons (by decide) (.cons rfl .nil)) <| AJ <| AC ?_
 refine rc [(67, Bx (AE.mk (W64 (r.X1 - radius)) (W64 (r.Y1 - radius))) radius 4 2)] [(4 : Int) ≠ 0, 0 <= (1 : Int) /\ (1 : Int) < (4 : Int), Al (Bx (AE.mk (W64 (r.X1 - radius)) (W64 (r.Y1 - radius))) radius 4 2).2.1] ⟨[(1, tI radius), (4, tP 4 0), (5, tP 5 0), (6, tP 6 0), (7, tI 0), (8, tP 8 0), (9, tP 9 0)], [(4, Z5e), (5, Z5f), (6, Z5g r radius), (8, .cells (AH.c (Z5h r radius)) 133), (9, Z5j r radius)]⟩ (.cons (DS (AE.mk (W64 (r.X1 - radius)) (W64 (r.Y1 - radius))) radius 4 2) .nil) (.cons au14 (.cons (by decide) (.cons rfl .nil))) <| AJ ?_
 refine dw [] [(75, D9 (Z5h r radius).B (Z5i r radius).A)] [Al (D9 (Z5h r radius).B (Z5i r radius).A).2.1, 2 <= maxLen, 2 * 56 <= 140737488355328] ⟨[(1, tI radius), (4, tP 4 0), (5, tP 5 0), (6, tP 6 0), (7, tI 0)], [(4, Z5e), (5, .cells [.i 2, .own 77 7 2, .i 0] 29), (6, Z5g r radius), (77, .row 7 2 (A0 7 2 [.i (Z5h r radius).Kind, .i (Z5h r radius).A.X, .i (Z5h r radius).A.Y, .i (Z5h r radius).B.X, .i (Z5h r radius).B.Y, .i (Z5h r radius).C.X, .i (Z5h r radius).C.Y, .i (Z5k r radius).Kind, .i (Z5k r radius).A.X, .i (Z5k r radius).A.Y, .i (Z5k r radius).B.X, .i (Z5k r radius).B.Y, .i (Z5k r radius).C.X, .i (Z5k r radius).C.Y]) 133)]⟩ (.cons (IE (Z5h r radius).B (Z5i r radius).A) .nil) (.cons rfl (.cons au3 (.cons au3 .nil))) <| Bq <| AJ ?_
 refine Bl (Cv.trans (BR (⟨[(1, tI radius), (4, tP 4 0), (5, tP 5 0), (6, tP 6 0), (7, tI 0)], [(4, Z5e), (5, Z5l r radius), (6, Z5g r radius), (77, Z5m r radius)]⟩) lr (.cons ⟨rfl, .refl _⟩ (.cons ⟨rfl, .cells _ (rr (.cons (.own _ _ au2) (rr .nil)))⟩ (.cons ⟨rfl, .refl _⟩ (.cons ⟨rfl, Aw 133 (A2 (c := AH.c) (xs := ([Z5h r radius, Z5k r radius] : List AH)) rfl kr)⟩ .nil))))) (Cv.refl _)) ?_
 refine rn ⟨[(1, tI radius), (4, tP 4 0), (5, tP 5 0), (6, tP 6 0), (7, tI 1)], [(4, Z5e), (5, Z5l r radius), (6, Z5g r radius), (77, Z5m r radius)]⟩ ?_
 refine Fc ?_
 refine Bl (Cv.trans (Be (⟨[(1, tI radius), (4, tP 4 0), (5, tP 5 0), (6, tP 6 0), (7, tI 1)], [(4, Z5e), (5, Z5n r radius), (6, Z5g r radius), (100000, Z5m r radius)]⟩) 77 100000 (K := []) (fun k x h => by cases h) rfl rfl kr kr) (Cv.refl _)) <| AC <| AC ?_
 refine rn ⟨[(1, tI radius), (4, tP 4 0), (5, tP 5 0), (6, tP 6 0), (7, tI 1), (49, tB true)], [(4, Z5e), (5, Z5n r radius), (6, Z5g r radius), (100000, Z5m r radius)]⟩ ?_
 refine Db kr <| Ak ?_
 refine AJ <| AC ?_
 refine Af <| AC ?_
 refine rc [(58, Bx (AE.mk (W64 (r.X1 - radius)) (W64 (r.Y1 - radius))) radius 4 2)] [0 <= (1 : Int) /\ (1 : Int) < (4 : Int), Al (Bx (AE.mk (W64 (r.X1 - radius)) (W64 (r.Y1 - radius))) radius 4 2).2.1] ⟨[(1, tI radius), (4, tP 4 0), (5, tP 5 0), (6, tP 6 0), (7, tI 1), (8, tP 8 0)], [(4, Z5e), (5, Z5n r radius), (6, Z5g r radius), (8, Z5j r radius), (100000, Z5m r radius)]⟩ (.cons (DS (AE.mk (W64 (r.X1 - radius)) (W64 (r.Y1 - radius))) radius 4 2) .nil) (.cons (by decide) (.cons rfl .nil)) <| AJ <| AC ?_
 refine rc [(67, Bx (AE.mk (W64 (r.X0 + radius)) (W64 (r.Y1 - radius))) radius 5 2)] [(4 : Int) ≠ 0, 0 <= (2 : Int) /\ (2 : Int) < (4 : Int), Al (Bx (AE.mk (W64 (r.X0 + radius)) (W64 (r.Y1 - radius))) radius 5 2).2.1] ⟨[(1, tI radius), (4, tP 4 0), (5, tP 5 0), (6, tP 6 0), (7, tI 1), (8, tP 8 0), (9, tP 9 0)], [(4, Z5e), (5, Z5n r radius), (6, Z5g r radius), (8, Z5j r radius), (9, Z5p r radius), (100000, Z5m r radius)]⟩ (.cons (DS (AE.mk (W64 (r.X0 + radius)) (W64 (r.Y1 - radius))) radius 5 2) .nil) (.cons au14 (.cons (by decide) (.cons rfl .nil))) <| AJ ?_
 refine dw [] [(75, D9 (Z5i r radius).B (Z5o r radius).A)] [Al (D9 (Z5i r radius).B (Z5o r radius).A).2.1, [Z5h r radius, Z5k r radius].length = [Z5h r radius, Z5k r radius].length, ([Z5h r radius, Z5k r radius].length) + 2 <= maxLen, (([Z5h r radius, Z5k r radius].length) + 2) * 56 <= 140737488355328] ⟨[(1, tI radius), (4, tP 4 0), (5, tP 5 0), (6, tP 6 0), (7, tI 1)], [(4, Z5e), (5, .cells [.i 2, .own 77 7 (([Z5h r radius, Z5k r radius].length) + 2), .i 0] 29), (6, Z5g r radius), (77, .row 7 (([Z5h r radius, Z5k r radius].length) + 2) (fun i_ j_ => if i_ < ([Z5h r radius, Z5k r radius].length) then (AY AH.c [Z5h r radius, Z5k r radius]) i_ j_ else (A0 7 2 [.i (Z5i r radius).Kind, .i (Z5i r radius).A.X, .i (Z5i r radius).A.Y, .i (Z5i r radius).B.X, .i (Z5i r radius).B.Y, .i (Z5i r radius).C.X, .i (Z5i r radius).C.Y, .i (Z5q r radius).Kind, .i (Z5q r radius).A.X, .i (Z5q r radius).A.Y, .i (Z5q r radius).B.X, .i (Z5q r radius).B.Y, .i (Z5q r radius).C.X, .i (Z5q r radius).C.Y]) (i_ - ([Z5h r radius, Z5k r radius].length)) j_) 133)]⟩ (.cons (IE (Z5i r radius).B (Z5o r radius).A) .nil) (.cons rfl (.cons rfl (.cons au3 (.cons au3 .nil)))) <| Bq <| AJ ?_
 refine Bl (Cv.trans (BR (⟨[(1, tI radius), (4, tP 4 0), (5, tP 5 0), (6, tP 6 0), (7, tI 1)], [(4, Z5e), (5, Z5r r radius), (6, Z5g r radius), (77, Z5s r radius)]⟩) lr (.cons ⟨rfl, .refl _⟩ (.cons ⟨rfl, .cells _ (rr (.cons (.own _ _ au2) (rr .nil)))⟩ (.cons ⟨rfl, .refl _⟩ (.cons ⟨rfl, Aw 133 (BV (BK 7 AH.c [Z5h r radius, Z5k r radius]) (A2 (c := AH.c) (xs := ([Z5i r radius, Z5q r radius] : List AH)) rfl kr))⟩ .nil))))) (Cv.refl _)) ?_
 refine rn ⟨[(1, tI radius), (4, tP 4 0), (5, tP 5 0), (6, tP 6 0), (7, tI 2)], [(4, Z5e), (5, Z5r r radius), (6, Z5g r radius), (77, Z5s r radius)]⟩ ?_
 refine Fc ?_
 refine Bl (Cv.trans (Be (⟨[(1, tI radius), (4, tP 4 0), (5, tP 5 0), (6, tP 6 0), (7, tI 2)], [(4, Z5e), (5, Z5t r radius), (6, Z5g r radius), (100001, Z5s r radius)]⟩) 77 100001 (K := []) (fun k x h => by cases h) rfl rfl kr kr) (Cv.refl _)) <| AC <| AC ?_
 refine rn ⟨[(1, tI radius), (4, tP 4 0), (5, tP 5 0), (6, tP 6 0), (7, tI 2), (49, tB true)], [(4, Z5e), (5, Z5t r radius), (6, Z5g r radius), (100001, Z5s r radius)]⟩ ?_
 refine Db kr <| Ak ?_
 refine AJ <| AC ?_
 refine Af <| AC ?_
 refine rc [(58, Bx (AE.mk (W64 (r.X0 + radius)) (W64 (r.Y1 - radius))) radius 5 2)] [0 <= (2 : Int) /\ (2 : Int) < (4 : Int), Al (Bx (AE.mk (W64 (r.X0 + radius)) (W64 (r.Y1 - radius))) radius 5 2).2.1] ⟨[(1, tI radius), (4, tP 4 0), (5, tP 5 0), (6, tP 6 0), (7, tI 2), (8, tP 8 0)], [(4, Z5e), (5, Z5t r radius), (6, Z5g r radius), (8, Z5p r radius), (100001, Z5s r radius)]⟩ (.cons (DS (AE.mk (W64 (r.X0 + radius)) (W64 (r.Y1 - radius))) radius 5 2) .nil) (.cons (by decide) (.cons rfl .nil)) <| AJ <| AC ?_
 refine rc [(67, Bx (AE.mk (W64 (r.X0 + radius)) (W64 (r.Y0 + radius))) radius 6 2)] [(4 : Int) ≠ 0, 0 <= (3 : Int) /\ (3 : Int) < (4 : Int), Al (Bx (AE.mk (W64 (r.X0 + radius)) (W64 (r.Y0 + radius))) radius 6 2).2.1] ⟨[(1, tI radius), (4, tP 4 0), (5, tP 5 0), (6, tP 6 0), (7, tI 2), (8, tP 8 0), (9, tP 9 0)], [(4, Z5e), (5, Z5t r radius), (6, Z5g r radius), (8, Z5p r radius), (9, Z5v r radius), (100001, Z5s r radius)]⟩ (.cons (DS (AE.mk (W64 (r.X0 + radius)) (W64 (r.Y0 + radius))) radius 6 2) .nil) (.cons au14 (.cons (by decide) (.cons rfl .nil))) <| AJ ?_
 refine dw [] [(75, D9 (Z5o r radius).B (Z5u r radius).A)] [Al (D9 (Z5o r radius).B (Z5u r radius).A).2.1, ([Z5h r radius, Z5k r radius] ++ [Z5i r radius, Z5q r radius]).length = ([Z5h r radius, Z5k r radius] ++ [Z5i r radius, Z5q r radius]).length, ([Z5h r radius, Z5k r radius] ++ [Z5i r radius, Z5q r radius]).length + 2 <= maxLen, (([Z5h r radius, Z5k r radius] ++ [Z5i r radius, Z5q r radius]).length + 2) * 56 <= 140737488355328] ⟨[(1, tI radius), (4, tP 4 0), (5, tP 5 0), (6, tP 6 0), (7, tI 2)], [(4, Z5e), (5, .cells [.i 2, .own 77 7 (([Z5h r radius, Z5k r radius] ++ [Z5i r radius, Z5q r radius]).length + 2), .i 0] 29), (6, Z5g r radius), (77, .row 7 (([Z5h r radius, Z5k r radius] ++ [Z5i r radius, Z5q r radius]).length + 2) (fun i_ j_ => if i_ < ([Z5h r radius, Z5k r radius] ++ [Z5i r radius, Z5q r radius]).length then (AY AH.c ([Z5h r radius, Z5k r radius] ++ [Z5i r radius, Z5q r radius])) i_ j_ else (A0 7 2 [.i (Z5o r radius).Kind, .i (Z5o r radius).A.X, .i (Z5o r radius).A.Y, .i (Z5o r radius).B.X, .i (Z5o r radius).B.Y, .i (Z5o r radius).C.X, .i (Z5o r radius).C.Y, .i (Z5w r radius).Kind, .i (Z5w r radius).A.X, .i (Z5w r radius).A.Y, .i (Z5w r radius).B.X, .i (Z5w r radius).B.Y, .i (Z5w r radius).C.X, .i (Z5w r radius).C.Y]) (i_ - ([Z5h r radius, Z5k r radius] ++ [Z5i r radius, Z5q r radius]).length) j_) 133)]⟩ (.cons (IE (Z5o r radius).B (Z5u r radius).A) .nil) (.cons rfl (.cons rfl (.cons au3 (.cons au3 .nil)))) <| Bq <| AJ ?_
 refine Bl (Cv.trans (BR (⟨[(1, tI radius), (4, tP 4 0), (5, tP 5 0), (6, tP 6 0), (7, tI 2)], [(4, Z5e), (5, Z5x r radius), (6, Z5g r radius), (77, Z5y r radius)]⟩) lr (.cons ⟨rfl, .refl _⟩ (.cons ⟨rfl, .cells _ (rr (.cons (.own _ _ au2) (rr .nil)))⟩ (.cons ⟨rfl, .refl _⟩ (.cons ⟨rfl, Aw 133 (BV (BK 7 AH.c ([Z5h r radius, Z5k r radius] ++ [Z5i r radius, Z5q r radius])) (A2 (c := AH.c) (xs := ([Z5o r radius, Z5w r radius] : List AH)) rfl kr))⟩ .nil))))) (Cv.refl _)) ?_
 refine rn ⟨[(1, tI radius), (4, tP 4 0), (5, tP 5 0), (6, tP 6 0), (7, tI 3)], [(4, Z5e), (5, Z5x r radius), (6, Z5g r radius), (77, Z5y r radius)]⟩ ?_
 refine Fc ?_
 refine Bl (Cv.trans (Be (⟨[(1, tI radius), (4, tP 4 0), (5, tP 5 0), (6, tP 6 0), (7, tI 3)], [(4, Z5e), (5, Z5z r radius), (6, Z5g r radius), (100002, Z5y r radius)]⟩) 77 100002 (K := []) (fun k x h => by cases h) rfl rfl kr kr) (Cv.refl _)) <| AC <| AC ?_
 refine rn ⟨[(1, tI radius), (4, tP 4 0), (5, tP 5 0), (6, tP 6 0), (7, tI 3), (49, tB true)], [(4, Z5e), (5, Z5z r radius), (6, Z5g r radius), (100002, Z5y r radius)]⟩ ?_
 refine Db kr <| Ak ?_
 refine AJ <| AC ?_
 refine Af <| AC ?_
 refine rc [(58, Bx (AE.mk (W64 (r.X0 + radius)) (W64 (r.Y0 + radius))) radius 6 2)] [0 <= (3 : Int) /\ (3 : Int) < (4 : Int), Al (Bx (AE.mk (W64 (r.X0 + radius)) (W64 (r.Y0 + radius))) radius 6 2).2.1] ⟨[(1, tI radius), (4, tP 4 0), (5, tP 5 0), (6, tP 6 0), (7, tI 3), (8, tP 8 0)], [(4, Z5e), (5, Z5z r radius), (6, Z5g r radius), (8, Z5v r radius), (100002, Z5y r radius)]⟩ (.cons (DS (AE.mk (W64 (r.X0 + radius)) (W64 (r.Y0 + radius))) radius 6 2) .nil) (.cons (by decide) (.cons rfl .nil)) <| AJ <| AC ?_
 refine rc [(67, Bx (AE.mk (W64 (r.X1 - radius)) (W64 (r.Y0 + radius))) radius 7 2)] [(4 : Int) ≠ 0, 0 <= (0 : Int) /\ (0 : Int) < (4 : Int), Al (Bx (AE.mk (W64 (r.X1 - radius)) (W64 (r.Y0 + radius))) radius 7 2).2.1] ⟨[(1, tI radius), (4, tP 4 0), (5, tP 5 0), (6, tP 6 0), (7, tI 3), (8, tP 8 0), (9, tP 9 0)], [(4, Z5e), (5, Z5z r radius), (6, Z5g r radius), (8, Z5v r radius), (9, .cells (AH.c (Z5A r radius)) 133), (100002, Z5y r radius)]⟩ (.cons (DS (AE.mk (W64 (r.X1 - radius)) (W64 (r.Y0 + radius))) radius 7 2) .nil) (.cons au14 (.cons (by decide) (.cons rfl .nil))) <| AJ ?_
 refine dw [] [(75, D9 (Z5u r radius).B (Z5A r radius).A)] [Al (D9 (Z5u r radius).B (Z5A r radius).A).2.1, (([Z5h r radius, Z5k r radius] ++ [Z5i r radius, Z5q r radius]) ++ [Z5o r radius, Z5w r radius]).length = (([Z5h r radius, Z5k r radius] ++ [Z5i r radius, Z5q r radius]) ++ [Z5o r radius, Z5w r radius]).length, (([Z5h r radius, Z5k r radius] ++ [Z5i r radius, Z5q r radius]) ++ [Z5o r radius, Z5w r radius]).length + 2 <= maxLen, ((([Z5h r radius, Z5k r radius] ++ [Z5i r radius, Z5q r radius]) ++ [Z5o r radius, Z5w r radius]).length + 2) * 56 <= 140737488355328] ⟨[(1, tI radius), (4, tP 4 0), (5, tP 5 0), (6, tP 6 0), (7, tI 3)], [(4, Z5e), (5, .cells [.i 2, .own 77 7 ((([Z5h r radius, Z5k r radius] ++ [Z5i r radius, Z5q r radius]) ++ [Z5o r radius, Z5w r radius]).length + 2), .i 0] 29), (6, Z5g r radius), (77, .row 7 ((([Z5h r radius, Z5k r radius] ++ [Z5i r radius, Z5q r radius]) ++ [Z5o r radius, Z5w r radius]).length + 2) (fun i_ j_ => if i_ < (([Z5h r radius, Z5k r radius] ++ [Z5i r radius, Z5q r radius]) ++ [Z5o r radius, Z5w r radius]).length then (AY AH.c (([Z5h r radius, Z5k r radius] ++ [Z5i r radius, Z5q r radius]) ++ [Z5o r radius, Z5w r radius])) i_ j_ else (A0 7 2 [.i (Z5u r radius).Kind, .i (Z5u r radius).A.X, .i (Z5u r radius).A.Y, .i (Z5u r radius).B.X, .i (Z5u r radius).B.Y, .i (Z5u r radius).C.X, .i (Z5u r radius).C.Y, .i (Z5B r radius).Kind, .i (Z5B r radius).A.X, .i (Z5B r radius).A.Y, .i (Z5B r radius).B.X, .i (Z5B r radius).B.Y, .i (Z5B r radius).C.X, .i (Z5B r radius).C.Y]) (i_ - (([Z5h r radius, Z5k r radius] ++ [Z5i r radius, Z5q r radius]) ++ [Z5o r radius, Z5w r radius]).length) j_) 133)]⟩ (.cons (IE (Z5u r radius).B (Z5A r radius).A) .nil) (.cons rfl (.cons rfl (.cons au3 (.cons au3 .nil)))) <| Bq <| AJ ?_
 refine Bl (Cv.trans (BR (⟨[(1, tI radius), (4, tP 4 0), (5, tP 5 0), (6, tP 6 0), (7, tI 3)], [(4, Z5e), (5, Z5C r radius), (6, Z5g r radius), (77, Z5D r radius)]⟩) lr (.cons ⟨rfl, .refl _⟩ (.cons ⟨rfl, .cells _ (rr (.cons (.own _ _ au2) (rr .nil)))⟩ (.cons ⟨rfl, .refl _⟩ (.cons ⟨rfl, Aw 133 (BV (BK 7 AH.c (([Z5h r radius, Z5k r radius] ++ [Z5i r radius, Z5q r radius]) ++ [Z5o r radius, Z5w r radius])) (A2 (c := AH.c) (xs := ([Z5u r radius, Z5B r radius] : List AH)) rfl kr))⟩ .nil))))) (Cv.refl _)) ?_
 refine rn ⟨[(1, tI radius), (4, tP 4 0), (5, tP 5 0), (6, tP 6 0), (7, tI 4)], [(4, Z5e), (5, Z5C r radius), (6, Z5g r radius), (77, Z5D r radius)]⟩ ?_
 refine Fc ?_
 refine Bl (Cv.trans (Be (⟨[(1, tI radius), (4, tP 4 0), (5, tP 5 0), (6, tP 6 0), (7, tI 4)], [(4, Z5e), (5, Z5E r radius), (6, Z5g r radius), (100003, Z5D r radius)]⟩) 77 100003 (K := []) (fun k x h => by cases h) rfl rfl kr kr) (Cv.refl _)) <| AC <| AC ?_
 refine rn ⟨[(1, tI radius), (4, tP 4 0), (5, tP 5 0), (6, tP 6 0), (7, tI 4), (49, tB false)], [(4, Z5e), (5, Z5E r radius), (6, Z5g r radius), (100003, Z5D r radius)]⟩ ?_
 refine EH kr <| BZ ?_
 refine BI <| BI ?_
 refine Ba <| AJ <| AC ?_
 refine rn ⟨[(4, tP 4 0)], [(4, Z5E r radius), (100003, Z5D r radius)]⟩ <| Aj ?_
 exact ⟨_, Cv.trans (Cu (⟨[(4, tP 4 0)], [(4, .cells [.i 2, lst 7 AH.c ((([Z5h r radius, Z5k r radius] ++ [Z5i r radius, Z5q r radius]) ++ [Z5o r radius, Z5w r radius]) ++ [Z5u r radius, Z5B r radius]), .i 0] 29)]⟩) 100003 7 ((([Z5h r radius, Z5k r radius] ++ [Z5i r radius, Z5q r radius]) ++ [Z5o r radius, Z5w r radius]) ++ [Z5u r radius, Z5B r radius]).length (AY AH.c ((([Z5h r radius, Z5k r radius] ++ [Z5i r radius, Z5q r radius]) ++ [Z5o r radius, Z5w r radius]) ++ [Z5u r radius, Z5B r radius])) 133 (K := []) (fun k x h => by cases h) kr kr (.cons ⟨rfl, rfl⟩ .nil) kr) (Cv.refl _), .inl rfl, .av (.agg [.i 2, lst 7 AH.c ((([Z5h r radius, Z5k r radius] ++ [Z5i r radius, Z5q r radius]) ++ [Z5o r radius, Z5w r radius]) ++ [Z5u r radius, Z5B r radius]), .i 0]), by kernel_rfl, Ao (by rfl)⟩
theorem Oi (r : An) (radius : Int) : A1 Try.prog (FN r radius).1 (FN r radius).2.1 (FN r radius).2.2 := Aa (fun _ _ => kr) fun _ => QO r radius
end
section
open Go.RowKit
theorem LK (l : List Int) (name : ByteArray) : ∀ (n : Nat) (v : List Ap) (d : AB) (k : Int), 0 <= k -> k <= W64 (2 + (AA (AB.mk l 0) 5).1) -> ((W64 (2 + (AA (AB.mk l 0) 5).1)) - k).toNat < n ->
  (DA l name n v d k).Name = name /\ ((DA l name n v d k).Pads.length : Int) = v.length + (W64 (2 + (AA (AB.mk l 0) 5).1) - k)
 | 0, v, d, k, _, _, h => absurd h (Nat.not_lt_zero _)
 | n + 1, v, d, k, h0, h1, h2 => by
  unfold DA
  by_cases h : k < W64 (2 + (AA (AB.mk l 0) 5).1)
  ·simp only [h, decide_true, cond_true]
   obtain ⟨e1, e2⟩ := LK l name n (v ++ [_]) _ (k + 1) (by omega) (by omega) (by omega)
   refine ⟨e1, e2.trans ?_⟩
   simp only [List.length_append, List.length_cons, List.length_nil]
   omega
  ·simp only [h, decide_false, cond_false]
   refine ⟨by first | trivial | rfl, ?_⟩
   show (v.length : Int) = _
   omega
theorem LJ (l : List Int) (name : ByteArray) : (BD l name).Name = name /\ 2 <= ((BD l name).Pads.length : Int) /\ ((BD l name).Pads.length : Int) <= 6 := by
 have hn := Cq (AB.mk l 0) 5 (by decide) (by decide)
 have hw : W64 (2 + (AA (AB.mk l 0) 5).1) = 2 + (AA (AB.mk l 0) 5).1 := BP (by omega) (by omega)
 obtain ⟨e1, e2⟩ := LK l name (((W64 (2 + (AA (AB.mk l 0) 5).1)) - 0).toNat + 1) [] (AA (AB.mk l 0) 5).2 0 (by omega) (by omega) (by omega)
 refine ⟨e1, ?_⟩
 unfold BD
 rw [e2, hw]
 simp only [List.length_nil]
 omega
theorem Ql {a c : AG} : BJ [a, c] a.Name = (a, true) := by
 unfold BJ DP
 simp [Z0t]
theorem Qk {a c : AG} (h : ¬ a.Name.toList = c.Name.toList) : BJ [a, c] c.Name = (c, true) := by
 have hb : (a.Name.toList == c.Name.toList) = false := by simp [h]
 unfold BJ DP
 simp [DP, Z0t, hb]
def Kh (types : List AG) (xs : List AD) : Prop := ∀ k : Int, 0 <= k -> k < (xs.length : Int) -> 1 <= ((BJ types (xs.getD k.toNat default).Type').1.Pads.length : Int) /\ ((BJ types (xs.getD k.toNat default).Type').1.Pads.length : Int) <= 6
theorem PU {types : List AG} : Kh types ([] : List AD) := fun k h0 h1 => absurd h1 (by simp only [List.length_nil]; omega)
theorem PV {types : List AG} {xs : List AD} {p : AD} (h : Kh types xs) (hp : 1 <= ((BJ types p.Type').1.Pads.length : Int) /\ ((BJ types p.Type').1.Pads.length : Int) <= 6) : Kh types (xs ++ [p]) := by
 intro k h0 h1
 simp only [List.length_append, List.length_cons, List.length_nil] at h1
 by_cases hk : k.toNat < xs.length
 ·rw [List.getD_eq_getElem?_getD, List.getElem?_append_left hk, <- List.getD_eq_getElem?_getD]
  exact h k h0 (by omega)
 ·rw [List.getD_eq_getElem?_getD, List.getElem?_append_right (by omega), show k.toNat - xs.length = 0 by omega]
  exact hp
theorem K5 (a c : List Int) (i : Int) (hi : 0 <= i /\ i < 2) : 1 <= ((BJ [BD a { data := #[82] }, BD c { data := #[81] }] (([BD a { data := #[82] }, BD c { data := #[81] }] : List AG).getD i.toNat default).Name).1.Pads.length : Int) /\ ((BJ [BD a { data := #[82] }, BD c { data := #[81] }] (([BD a { data := #[82] }, BD c { data := #[81] }] : List AG).getD i.toNat default).Name).1.Pads.length : Int) <= 6 := by
 have ha := LJ a { data := #[82] }
 have hc := LJ c { data := #[81] }
 have h01 : i = 0 \/ i = 1 := by omega
 rcases h01 with rfl | rfl
 ·show 1 <= ((BJ [BD a { data := #[82] }, BD c { data := #[81] }] (BD a { data := #[82] }).Name).1.Pads.length : Int) /\ ((BJ [BD a { data := #[82] }, BD c { data := #[81] }] (BD a { data := #[82] }).Name).1.Pads.length : Int) <= 6
  rw [Ql]
  exact ⟨by show 1 <= ((BD a { data := #[82] }).Pads.length : Int); omega, ha.2.2⟩
 ·show 1 <= ((BJ [BD a { data := #[82] }, BD c { data := #[81] }] (BD c { data := #[81] }).Name).1.Pads.length : Int) /\ ((BJ [BD a { data := #[82] }, BD c { data := #[81] }] (BD c { data := #[81] }).Name).1.Pads.length : Int) <= 6
  rw [Qk (by rw [ha.1, hc.1]; decide +kernel)]
  exact ⟨by show 1 <= ((BD c { data := #[81] }).Pads.length : Int); omega, hc.2.2⟩
theorem Qb {d : AB} (h : (AA d 5).1 < 3) (h0 : ¬ (AA d 5).1 = 0) (h1 : ¬ (AA d 5).1 = 1) : (AA d 5).1 = 2 := by
 have := Cq d 5 (by decide) (by decide)
 omega
theorem RU {b : AF} {types : List AG} (h : Kh types b.Parts) : Ji b types := fun k h0 h1 => (h k h0 h1).1
def Co (v : List AR) (m : Int) : Prop := (v.length : Int) <= m
theorem D6 {α : Type} {c : Bool} {a b : List α} {m : Int} (ha : (a.length : Int) <= m) (hb : (b.length : Int) <= m) : ((bif c then a else b).length : Int) <= m := by cases c <;> assumption
theorem D7 {α : Type} {a : List α} {x : α} {m : Int} (h : (a.length : Int) + 1 <= m) : ((a ++ [x]).length : Int) <= m := by simp only [List.length_append, List.length_cons, List.length_nil]; omega
theorem UL {d : AB} {a c : AG} : 0 <= (AA d 2).1 /\ (AA d 2).1 < ((([a, c] : List AG).length : Nat) : Int) := Cq d 2 (by decide) (by decide)
theorem Uj {b B : AF} (h : Ib b B) (hb : (b.Parts.length : Int) <= 1000000) : (B.Parts.length : Int) <= 1000000 := by rw [h.par]; exact hb
theorem TT {b B : AF} (h : Ib b B) (hb : 1 <= (b.Parts.length : Int)) : 1 <= (B.Parts.length : Int) := by rw [h.par]; exact hb
theorem Ug {b B : AF} (h : Ib b B) : (B.Tracks.length : Int) <= 1000000 := by have := h.trk; omega
theorem Uf {b B : AF} (h : Ib b B) : (B.Vias.length : Int) <= 1000000 := by have := h.via; omega
theorem Ui {b B : AF} (h : Ib b B) : (B.Pours.length : Int) <= 1000000 := by have := h.pou; omega
theorem Uk {b B : AF} (h : Ib b B) : (B.Keeps.length : Int) <= 1000000 := by have := h.kee; omega
theorem Uh {b B : AF} (h : Ib b B) : (B.Slots.length : Int) <= 1000000 := by have := h.slo; omega
def Z5F (l : (List (List Int))) : Tv := .av (oL l)
def Z5G : Blk := .cells [.i 0, .i 0, vN, .i 0, vN, vN, vN, vN, vN, vN, vN, vN, vN, vN, vN] 42
def Z5H (l : (List (List Int))) : AG := BD (AZ l 0) ({ data := #[82] } : ByteArray)
def Z5I (l : (List (List Int))) : AG := BD (AZ l 1) ({ data := #[81] } : ByteArray)
def Z5J (l : (List (List Int))) : Tv := .av (.one (lst 3 AG.c [Z5H l, Z5I l]))
def Z5K (l : (List (List Int))) : Blk := .cells [lst 1 (fun x => [.i x]) (AZ l 2), .i 0] 146
def Z5L : Blk := .cells [.i 2, .i (Ce (An.mk 0 0 400 400)).Kind, lst 7 AH.c (Ce (An.mk 0 0 400 400)).Edges, .i (Ce (An.mk 0 0 400 400)).R, vN, .own 31 2 3, vN, vN, vN, vN, vN, vN, vN, vN, vN] 42
def Z5M : Blk := .rowx 2 3 (fun _ _ => default) 48 [(0, [.s ({ data := #[78, 49] } : ByteArray), vN]), (1, [.s ({ data := #[78, 50] } : ByteArray), vN]), (2, [.s ({ data := #[71, 78, 68] } : ByteArray), vN])]
def Z5N (l : (List (List Int))) : FuncId × List Av × Ef := (54, ([.one (.ptr 1000 0), .one (.i 3)] : List Av).map (Bv 1000 25), wrI 25 (.cells [lst 1 (fun x => [.i x]) (AZ l 2), .i 0] 146) (tI (AA (AB.mk (AZ l 2) 0) 3).1) (.cells (AB.c (AA (AB.mk (AZ l 2) 0) 3).2) 146))
def Z5O (l : (List (List Int))) : Blk := .cells (AB.c (AA (AB.mk (AZ l 2) 0) 3).2) 146
def Z5P (l : (List (List Int))) : AQ := bif decide (((AA (AB.mk (AZ l 2) 0) 3).1 : Int) = 0) then (FP (An.mk 0 0 400 400) 50) else (Ce (An.mk 0 0 400 400))
def Z5Q (l : (List (List Int))) : FuncId × List Av × Ef := (54, ([.one (.ptr 1000 0), .one (.i 3)] : List Av).map (Bv 1000 25), wrI 25 (.cells (AB.c (AA (AB.mk (AZ l 2) 0) 3).2) 146) (tI (AA (AA (AB.mk (AZ l 2) 0) 3).2 3).1) (.cells (AB.c (AA (AA (AB.mk (AZ l 2) 0) 3).2 3).2) 146))
abbrev Z5R (l : (List (List Int))) : AB := (AA (AA (AB.mk (AZ l 2) 0) 3).2 3).2
def Z5S (l : (List (List Int))) : Tv := tI (W64 (1 + (AA (AA (AB.mk (AZ l 2) 0) 3).2 3).1))
def Z5T (l : (List (List Int))) : Blk := .cells [.i 2, .i (Z5P l).Kind, lst 7 AH.c (Z5P l).Edges, .i (Z5P l).R, vN, .own 31 2 3, vN, vN, vN, vN, vN, vN, vN, vN, vN] 42
def Z5U (l : (List (List Int))) : Blk := .cells [lst 1 (fun x => [.i x]) (AZ l 3), .i 0] 146
def Z5V : Blk := .row 7 ([] : List AD).length (AY AD.c ([] : List AD)) 59
def Z5W (l : (List (List Int))) : Blk := .cells [.i 2, .i (Z5P l).Kind, lst 7 AH.c (Z5P l).Edges, .i (Z5P l).R, .own 100000 7 ([] : List AD).length, .own 31 2 3, vN, vN, vN, vN, vN, vN, vN, vN, vN] 42
def Z5X (l : (List (List Int))) (v6_4 : List AD) : Blk := .cells [.i 2, .i (Z5P l).Kind, lst 7 AH.c (Z5P l).Edges, .i (Z5P l).R, .own 100000 7 v6_4.length, .own 31 2 3, vN, vN, vN, vN, vN, vN, vN, vN, vN] 42
def Z5Y (v6_4 : List AD) : Blk := .row 7 v6_4.length (AY AD.c v6_4) 59
def Z5Z (v5 : AB) : FuncId × List Av × Ef := (54, ([.one (.ptr 1000 0), .one (.i 2)] : List Av).map (Bv 1000 25), wrI 25 (.cells (AB.c v5) 146) (tI (AA v5 2).1) (.cells (AB.c (AA v5 2).2) 146))
def Z60 (v5 : AB) : FuncId × List Av × Ef := (54, ([.one (.ptr 1000 0), .one (.i 4)] : List Av).map (Bv 1000 25), wrI 25 (.cells (AB.c (AA v5 2).2) 146) (tI (AA (AA v5 2).2 4).1) (.cells (AB.c (AA (AA v5 2).2 4).2) 146))
def Z61 (v5 : AB) : FuncId × List Av × Ef := (54, ([.one (.ptr 1000 0), .one (.i 3)] : List Av).map (Bv 1000 25), wrI 25 (.cells (AB.c (AA (AA v5 2).2 4).2) 146) (tI (AA (AA (AA v5 2).2 4).2 3).1) (.cells (AB.c (AA (AA (AA v5 2).2 4).2 3).2) 146))
abbrev Z62 (v5 : AB) : AB := (AA (AA (AA v5 2).2 4).2 3).2
def Z63 (v5 : AB) : FuncId × List Av × Ef := (54, ([.one (.ptr 1000 0), .one (.i 5)] : List Av).map (Bv 1000 25), wrI 25 (.cells (AB.c (Z62 v5)) 146) (tI (AA (Z62 v5) 5).1) (.cells (AB.c (AA (Z62 v5) 5).2) 146))
def Z64 (v5 : AB) : FuncId × List Av × Ef := (54, ([.one (.ptr 1000 0), .one (.i 3)] : List Av).map (Bv 1000 25), wrI 25 (.cells (AB.c (AA (Z62 v5) 5).2) 146) (tI (AA (AA (Z62 v5) 5).2 3).1) (.cells (AB.c (AA (AA (Z62 v5) 5).2 3).2) 146))
abbrev Z65 (v5 : AB) : AB := (AA (AA (Z62 v5) 5).2 3).2
def Z66 (v5 : AB) : FuncId × List Av × Ef := (54, ([.one (.ptr 1000 0), .one (.i 3)] : List Av).map (Bv 1000 25), wrI 25 (.cells (AB.c (Z65 v5)) 146) (tI (AA (Z65 v5) 3).1) (.cells (AB.c (AA (Z65 v5) 3).2) 146))
def Z67 (v5 : AB) : Blk := .cells (AB.c (AA (Z65 v5) 3).2) 146
def Z68 (l : (List (List Int))) (v6_4 : List AD) (v8 : Int) (v5 : AB) : Blk := .cells [.i 2, .i (Z5P l).Kind, lst 7 AH.c (Z5P l).Edges, .i (Z5P l).R, .own 86 7 (v6_4 ++ [AD.mk (W64 (1 + v8)) (([({ data := #[82, 49] } : ByteArray), ({ data := #[82, 50] } : ByteArray), ({ data := #[120, 47, 82, 49] } : ByteArray)] : List ByteArray).getD v8.toNat ⟨#[]⟩) ([Z5H l, Z5I l].getD (AA v5 2).1.toNat default).Name (AE.mk (W64 ((W64 (80 + (W64 (100 * v8)))) + (W64 (5 * (AA (Z62 v5) 5).1)))) (W64 ((W64 (100 + (W64 (80 * (AA (AA (Z62 v5) 5).2 3).1)))) + (W64 (5 * (AA (Z65 v5) 3).1))))) (AA (AA v5 2).2 4).1 (decide (((AA (AA (AA v5 2).2 4).2 3).1 : Int) = 0))]).length, .own 31 2 3, vN, vN, vN, vN, vN, vN, vN, vN, vN] 42
def Z69 (v6_4 : List AD) (v8 : Int) (l : (List (List Int))) (v5 : AB) : Blk := .row 7 (v6_4 ++ [AD.mk (W64 (1 + v8)) (([({ data := #[82, 49] } : ByteArray), ({ data := #[82, 50] } : ByteArray), ({ data := #[120, 47, 82, 49] } : ByteArray)] : List ByteArray).getD v8.toNat ⟨#[]⟩) ([Z5H l, Z5I l].getD (AA v5 2).1.toNat default).Name (AE.mk (W64 ((W64 (80 + (W64 (100 * v8)))) + (W64 (5 * (AA (Z62 v5) 5).1)))) (W64 ((W64 (100 + (W64 (80 * (AA (AA (Z62 v5) 5).2 3).1)))) + (W64 (5 * (AA (Z65 v5) 3).1))))) (AA (AA v5 2).2 4).1 (decide (((AA (AA (AA v5 2).2 4).2 3).1 : Int) = 0))]).length (AY AD.c (v6_4 ++ [AD.mk (W64 (1 + v8)) (([({ data := #[82, 49] } : ByteArray), ({ data := #[82, 50] } : ByteArray), ({ data := #[120, 47, 82, 49] } : ByteArray)] : List ByteArray).getD v8.toNat ⟨#[]⟩) ([Z5H l, Z5I l].getD (AA v5 2).1.toNat default).Name (AE.mk (W64 ((W64 (80 + (W64 (100 * v8)))) + (W64 (5 * (AA (Z62 v5) 5).1)))) (W64 ((W64 (100 + (W64 (80 * (AA (AA (Z62 v5) 5).2 3).1)))) + (W64 (5 * (AA (Z65 v5) 3).1))))) (AA (AA v5 2).2 4).1 (decide (((AA (AA (AA v5 2).2 4).2 3).1 : Int) = 0))])) 59
def Z6a : Blk := .row 2 ([] : List AR).length (AY AR.c ([] : List AR)) 25
def Z6b (v31_1 : List AR) : Blk := .row 2 v31_1.length (AY AR.c v31_1) 25
def Z6c (v31_3 : List AR) : Blk := .row 2 v31_3.length (AY AR.c v31_3) 25
def Z6d (v31_5 : List AR) : Blk := .row 2 v31_5.length (AY AR.c v31_5) 25
def Z6e (l : (List (List Int))) (v6_4 : List AD) : Blk := .cells [.i 2, .i (Z5P l).Kind, lst 7 AH.c (Z5P l).Edges, .i (Z5P l).R, lst 7 AD.c v6_4, .own 31 2 3, vN, vN, vN, vN, vN, vN, vN, vN, vN] 42
def Z6f (v10 : Int) (l : (List (List Int))) : Tv := tB (decide ((v10 : Int) < (W64 (1 + (AA (AA (AB.mk (AZ l 2) 0) 3).2 3).1))))
def Z6g (l : (List (List Int))) (v6_4 : List AD) (v10 : Int) : AG := (BJ [Z5H l, Z5I l] (v6_4.getD v10.toNat default).Type').1
def Z6h (l : (List (List Int))) (v6_4 : List AD) (v10 : Int) : Blk := .cells (AG.c (Z6g l v6_4 v10)) 114
def Z6i (v31_1' : List AR) : Blk := .row 2 v31_1'.length (AY AR.c v31_1') 25
def Z6j (v31_3' : List AR) : Blk := .row 2 v31_3'.length (AY AR.c v31_3') 25
def Z6k (v31_5' : List AR) : Blk := .row 2 v31_5'.length (AY AR.c v31_5') 25
def Z6l (v5'' : AB) : FuncId × List Av × Ef := (54, ([.one (.ptr 1000 0), .one (.i 5)] : List Av).map (Bv 1000 91), wrI 91 (.cells (AB.c v5'') 146) (tI (AA v5'' 5).1) (.cells (AB.c (AA v5'' 5).2) 146))
def Z6m (v31_1' : List AR) (v6_4 : List AD) (v10 : Int) (l : (List (List Int))) (v13 : Int) : Blk := .row 2 (v31_1' ++ [AR.mk (v6_4.getD v10.toNat default).Ref ((Z6g l v6_4 v10).Pads.getD v13.toNat default).Name]).length (AY AR.c (v31_1' ++ [AR.mk (v6_4.getD v10.toNat default).Ref ((Z6g l v6_4 v10).Pads.getD v13.toNat default).Name])) 25
def Z6n (v31_3' : List AR) (v6_4 : List AD) (v10 : Int) (l : (List (List Int))) (v13 : Int) : Blk := .row 2 (v31_3' ++ [AR.mk (v6_4.getD v10.toNat default).Ref ((Z6g l v6_4 v10).Pads.getD v13.toNat default).Name]).length (AY AR.c (v31_3' ++ [AR.mk (v6_4.getD v10.toNat default).Ref ((Z6g l v6_4 v10).Pads.getD v13.toNat default).Name])) 25
def Z6o (v31_5' : List AR) (v6_4 : List AD) (v10 : Int) (l : (List (List Int))) (v13 : Int) : Blk := .row 2 (v31_5' ++ [AR.mk (v6_4.getD v10.toNat default).Ref ((Z6g l v6_4 v10).Pads.getD v13.toNat default).Name]).length (AY AR.c (v31_5' ++ [AR.mk (v6_4.getD v10.toNat default).Ref ((Z6g l v6_4 v10).Pads.getD v13.toNat default).Name])) 25
def Z6p (v5'' : AB) (v31_1' : List AR) (v6_4 : List AD) (v10 : Int) (l : (List (List Int))) (v13 : Int) : (List AR) := bif decide (((AA v5'' 5).1 : Int) < 3) then (bif decide (((AA v5'' 5).1 : Int) = 0) then (v31_1' ++ [AR.mk (v6_4.getD v10.toNat default).Ref ((Z6g l v6_4 v10).Pads.getD v13.toNat default).Name]) else v31_1') else v31_1'
def Z6q (v5'' : AB) (v31_3' : List AR) (v6_4 : List AD) (v10 : Int) (l : (List (List Int))) (v13 : Int) : (List AR) := bif decide (((AA v5'' 5).1 : Int) < 3) then (bif decide (((AA v5'' 5).1 : Int) = 0) then v31_3' else (bif decide (((AA v5'' 5).1 : Int) = 1) then (v31_3' ++ [AR.mk (v6_4.getD v10.toNat default).Ref ((Z6g l v6_4 v10).Pads.getD v13.toNat default).Name]) else v31_3')) else v31_3'
def Z6r (v5'' : AB) (v31_5' : List AR) (v6_4 : List AD) (v10 : Int) (l : (List (List Int))) (v13 : Int) : (List AR) := bif decide (((AA v5'' 5).1 : Int) < 3) then (bif decide (((AA v5'' 5).1 : Int) = 0) then v31_5' else (bif decide (((AA v5'' 5).1 : Int) = 1) then v31_5' else (v31_5' ++ [AR.mk (v6_4.getD v10.toNat default).Ref ((Z6g l v6_4 v10).Pads.getD v13.toNat default).Name]))) else v31_5'
def Z6s (v5'' : AB) (v31_1' : List AR) (v6_4 : List AD) (v10 : Int) (l : (List (List Int))) (v13 : Int) : Blk := .row 2 (Z6p v5'' v31_1' v6_4 v10 l v13).length (AY AR.c (Z6p v5'' v31_1' v6_4 v10 l v13)) 25
def Z6t (v5'' : AB) (v31_3' : List AR) (v6_4 : List AD) (v10 : Int) (l : (List (List Int))) (v13 : Int) : Blk := .row 2 (Z6q v5'' v31_3' v6_4 v10 l v13).length (AY AR.c (Z6q v5'' v31_3' v6_4 v10 l v13)) 25
def Z6u (v5'' : AB) (v31_5' : List AR) (v6_4 : List AD) (v10 : Int) (l : (List (List Int))) (v13 : Int) : Blk := .row 2 (Z6r v5'' v31_5' v6_4 v10 l v13).length (AY AR.c (Z6r v5'' v31_5' v6_4 v10 l v13)) 25
def Z6v (l : (List (List Int))) (v6_4 : List AD) (v31_1 : List AR) (v31_3 : List AR) (v31_5 : List AR) : AF := BM (AF.mk 2 (Z5P l) v6_4 [Ad.mk ({ data := #[78, 49] } : ByteArray) v31_1, Ad.mk ({ data := #[78, 50] } : ByteArray) v31_3, Ad.mk ({ data := #[71, 78, 68] } : ByteArray) v31_5] [] [] [] [] [] [] [] [] []) [Z5H l, Z5I l] l
def Z6w (l : (List (List Int))) (v6_4 : List AD) (v31_1 : List AR) (v31_3 : List AR) (v31_5 : List AR) : FuncId × List Av × Ef := (56, ([.one (.ptr 1000 0), .one (lst 3 AG.c [Z5H l, Z5I l]), .one (lst 1 (fun x => [lst 1 (fun x => [.i x]) x]) l)] : List Av).map (Bv 1000 6), wrI 6 (.cells [.i 2, .i (Z5P l).Kind, lst 7 AH.c (Z5P l).Edges, .i (Z5P l).R, lst 7 AD.c v6_4, lst 2 Ad.c [Ad.mk ({ data := #[78, 49] } : ByteArray) v31_1, Ad.mk ({ data := #[78, 50] } : ByteArray) v31_3, Ad.mk ({ data := #[71, 78, 68] } : ByteArray) v31_5], vN, vN, vN, vN, vN, vN, vN, vN, vN] 42) (.tup []) (.cells [.i (Z6v l v6_4 v31_1 v31_3 v31_5).Layers, .i (Z6v l v6_4 v31_1 v31_3 v31_5).Outline.Kind, lst 7 AH.c (Z6v l v6_4 v31_1 v31_3 v31_5).Outline.Edges, .i (Z6v l v6_4 v31_1 v31_3 v31_5).Outline.R, lst 7 AD.c (Z6v l v6_4 v31_1 v31_3 v31_5).Parts, lst 2 Ad.c (Z6v l v6_4 v31_1 v31_3 v31_5).Nets, lst 6 Am.c (Z6v l v6_4 v31_1 v31_3 v31_5).Tracks, lst 8 BS.c (Z6v l v6_4 v31_1 v31_3 v31_5).Vias, lst 8 A5.c (Z6v l v6_4 v31_1 v31_3 v31_5).Pours, lst 5 BG.c (Z6v l v6_4 v31_1 v31_3 v31_5).Keeps, lst 4 BW.c (Z6v l v6_4 v31_1 v31_3 v31_5).Slots, vN, vN, vN, vN] 42))
def Z6x (l : (List (List Int))) (v6_4 : List AD) (v31_1 : List AR) (v31_3 : List AR) (v31_5 : List AR) : AF × AB := DM (AF.mk (Z6v l v6_4 v31_1 v31_3 v31_5).Layers (Z6v l v6_4 v31_1 v31_3 v31_5).Outline (Z6v l v6_4 v31_1 v31_3 v31_5).Parts (Z6v l v6_4 v31_1 v31_3 v31_5).Nets (Z6v l v6_4 v31_1 v31_3 v31_5).Tracks (Z6v l v6_4 v31_1 v31_3 v31_5).Vias (Z6v l v6_4 v31_1 v31_3 v31_5).Pours (Z6v l v6_4 v31_1 v31_3 v31_5).Keeps (Z6v l v6_4 v31_1 v31_3 v31_5).Slots [] [] [] []) (AB.mk (AZ l 7) 0)
def Z6y (l : (List (List Int))) (v6_4 : List AD) (v31_1 : List AR) (v31_3 : List AR) (v31_5 : List AR) : FuncId × List Av × Ef := (57, ([.one (.ptr 1000 0), .one (.ptr 1001 0)] : List Av).map (EV 1000 6 1001 151), UJ 6 151 (.cells [.i (Z6v l v6_4 v31_1 v31_3 v31_5).Layers, .i (Z6v l v6_4 v31_1 v31_3 v31_5).Outline.Kind, lst 7 AH.c (Z6v l v6_4 v31_1 v31_3 v31_5).Outline.Edges, .i (Z6v l v6_4 v31_1 v31_3 v31_5).Outline.R, lst 7 AD.c (Z6v l v6_4 v31_1 v31_3 v31_5).Parts, lst 2 Ad.c (Z6v l v6_4 v31_1 v31_3 v31_5).Nets, lst 6 Am.c (Z6v l v6_4 v31_1 v31_3 v31_5).Tracks, lst 8 BS.c (Z6v l v6_4 v31_1 v31_3 v31_5).Vias, lst 8 A5.c (Z6v l v6_4 v31_1 v31_3 v31_5).Pours, lst 5 BG.c (Z6v l v6_4 v31_1 v31_3 v31_5).Keeps, lst 4 BW.c (Z6v l v6_4 v31_1 v31_3 v31_5).Slots, vN, vN, vN, vN] 42) (.cells [lst 1 (fun x => [.i x]) (AZ l 7), .i 0] 146) (.tup []) (.cells (AF.c (Z6x l v6_4 v31_1 v31_3 v31_5).1) 42) (.cells (AB.c (Z6x l v6_4 v31_1 v31_3 v31_5).2) 146))
def Z6z : Blk := .rowx 2 3 (fun _ _ => default) 48 [(0, [.s ({ data := #[78, 49] } : ByteArray), .own 100001 2 ([] : List AR).length]), (1, [.s ({ data := #[78, 50] } : ByteArray), .own 100002 2 ([] : List AR).length]), (2, [.s ({ data := #[71, 78, 68] } : ByteArray), .own 100003 2 ([] : List AR).length])]
def Z6A (v31_1 : List AR) (v31_3 : List AR) (v31_5 : List AR) : Blk := .rowx 2 3 (fun _ _ => default) 48 [(0, [.s ({ data := #[78, 49] } : ByteArray), .own 100001 2 v31_1.length]), (1, [.s ({ data := #[78, 50] } : ByteArray), .own 100002 2 v31_3.length]), (2, [.s ({ data := #[71, 78, 68] } : ByteArray), .own 100003 2 v31_5.length])]
def Z6B (v31_1' : List AR) (v31_3' : List AR) (v31_5' : List AR) : Blk := .rowx 2 3 (fun _ _ => default) 48 [(0, [.s ({ data := #[78, 49] } : ByteArray), .own 100001 2 v31_1'.length]), (1, [.s ({ data := #[78, 50] } : ByteArray), .own 100002 2 v31_3'.length]), (2, [.s ({ data := #[71, 78, 68] } : ByteArray), .own 100003 2 v31_5'.length])]
def Z6C (v31_1' : List AR) (v6_4 : List AD) (v10 : Int) (l : (List (List Int))) (v13 : Int) (v31_3' : List AR) (v31_5' : List AR) : Blk := .rowx 2 3 (fun _ _ => default) 48 [(0, [.s ({ data := #[78, 49] } : ByteArray), .own 100004 2 (v31_1' ++ [AR.mk (v6_4.getD v10.toNat default).Ref ((Z6g l v6_4 v10).Pads.getD v13.toNat default).Name]).length]), (1, [.s ({ data := #[78, 50] } : ByteArray), .own 100005 2 v31_3'.length]), (2, [.s ({ data := #[71, 78, 68] } : ByteArray), .own 100006 2 v31_5'.length])]
def Z6D (v31_1' : List AR) (v31_3' : List AR) (v6_4 : List AD) (v10 : Int) (l : (List (List Int))) (v13 : Int) (v31_5' : List AR) : Blk := .rowx 2 3 (fun _ _ => default) 48 [(0, [.s ({ data := #[78, 49] } : ByteArray), .own 100004 2 v31_1'.length]), (1, [.s ({ data := #[78, 50] } : ByteArray), .own 100005 2 (v31_3' ++ [AR.mk (v6_4.getD v10.toNat default).Ref ((Z6g l v6_4 v10).Pads.getD v13.toNat default).Name]).length]), (2, [.s ({ data := #[71, 78, 68] } : ByteArray), .own 100006 2 v31_5'.length])]
def Z6E (v31_1' : List AR) (v31_3' : List AR) (v31_5' : List AR) (v6_4 : List AD) (v10 : Int) (l : (List (List Int))) (v13 : Int) : Blk := .rowx 2 3 (fun _ _ => default) 48 [(0, [.s ({ data := #[78, 49] } : ByteArray), .own 100004 2 v31_1'.length]), (1, [.s ({ data := #[78, 50] } : ByteArray), .own 100005 2 v31_3'.length]), (2, [.s ({ data := #[71, 78, 68] } : ByteArray), .own 100006 2 (v31_5' ++ [AR.mk (v6_4.getD v10.toNat default).Ref ((Z6g l v6_4 v10).Pads.getD v13.toNat default).Name]).length])]
def DW (l : (List (List Int))) (v6_4 : List AD) (v5 : AB) (v8 : Int) (v31_1 : List AR) (v31_3 : List AR) (v31_5 : List AR) (v5' : AB) (v10 : Int) (K0 : List AD -> AB -> Int -> (AF × (List AG))) (K1 : List AR -> List AR -> List AR -> AB -> Int -> (AF × (List AG))) : Nat -> List AR -> List AR -> List AR -> AB -> Int -> (AF × (List AG))
 | 0, _, _, _, _, _ => default
 | n2 + 1, v31_1', v31_3', v31_5', v5'', v13 => bif decide ((v13 : Int) < ((Z6g l v6_4 v10).Pads.length : Int)) then ((DW l v6_4 v5 v8 v31_1 v31_3 v31_5 v5' v10 K0 K1 n2) (Z6p v5'' v31_1' v6_4 v10 l v13) (Z6q v5'' v31_3' v6_4 v10 l v13) (Z6r v5'' v31_5' v6_4 v10 l v13) (AA v5'' 5).2 (v13 + 1)) else (K1 v31_1' v31_3' v31_5' v5'' (v10 + 1))
def C9 (l : (List (List Int))) (v6_4 : List AD) (v5 : AB) (v8 : Int) (K0 : List AD -> AB -> Int -> (AF × (List AG))) : Nat -> List AR -> List AR -> List AR -> AB -> Int -> (AF × (List AG))
 | 0, _, _, _, _, _ => default
 | n1 + 1, v31_1, v31_3, v31_5, v5', v10 => bif decide ((v10 : Int) < (W64 (1 + (AA (AA (AB.mk (AZ l 2) 0) 3).2 3).1))) then (DW l v6_4 v5 v8 v31_1 v31_3 v31_5 v5' v10 K0 (C9 l v6_4 v5 v8 K0 n1) ((((Z6g l v6_4 v10).Pads.length : Int) - 0).toNat + 1) v31_1 v31_3 v31_5 v5' 0) else ((Z6x l v6_4 v31_1 v31_3 v31_5).1, [Z5H l, Z5I l])
def CY (l : (List (List Int))) : Nat -> List AD -> AB -> Int -> (AF × (List AG))
 | 0, _, _, _ => default
 | n0 + 1, v6_4, v5, v8 => bif decide ((v8 : Int) < (W64 (1 + (AA (AA (AB.mk (AZ l 2) 0) 3).2 3).1))) then ((CY l n0) (v6_4 ++ [AD.mk (W64 (1 + v8)) (([({ data := #[82, 49] } : ByteArray), ({ data := #[82, 50] } : ByteArray), ({ data := #[120, 47, 82, 49] } : ByteArray)] : List ByteArray).getD v8.toNat ⟨#[]⟩) ([Z5H l, Z5I l].getD (AA v5 2).1.toNat default).Name (AE.mk (W64 ((W64 (80 + (W64 (100 * v8)))) + (W64 (5 * (AA (Z62 v5) 5).1)))) (W64 ((W64 (100 + (W64 (80 * (AA (AA (Z62 v5) 5).2 3).1)))) + (W64 (5 * (AA (Z65 v5) 3).1))))) (AA (AA v5 2).2 4).1 (decide (((AA (AA (AA v5 2).2 4).2 3).1 : Int) = 0))]) (AA (Z65 v5) 3).2 (v8 + 1)) else (C9 l v6_4 v5 v8 (CY l n0) (((W64 (1 + (AA (AA (AB.mk (AZ l 2) 0) 3).2 3).1)) - 0).toNat + 1) ([] : List AR) ([] : List AR) ([] : List AR) (AB.mk (AZ l 3) 0) 0)
def DF (l : (List (List Int))) : (AF × (List AG)) := CY l (((W64 (1 + (AA (AA (AB.mk (AZ l 2) 0) 3).2 3).1)) - 0).toNat + 1) ([] : List AD) (Z5R l) 0
def HP (l : (List (List Int))) : FuncId × List Av × Ef := (24, [.one (lst 1 (fun x => [lst 1 (fun x => [.i x]) x]) l)], .val [] (.tup [.agg (AF.c (DF l).1), .one (lst 3 AG.c (DF l).2)]))
theorem au10 {p : Prop} (h : p := by first | (with_reducible exact Cz hll _) | with_reducible assumption | omega | decide | (simp only [List.length_cons, List.length_nil, List.length_append]; omega) | (exact RU (by assumption)) | ((refine And.intro ?_ ?_ <;> simp; done)) | ((simp only; exact Uj (Fi _ _ _) (by show (v6_4.length : Int) ≤ _; omega))) | ((simp only; exact TT (Fi _ _ _) (by show 1 ≤ (v6_4.length : Int); omega))) | ((simp only; exact Ug (Fi _ _ _))) | ((simp only; exact Uf (Fi _ _ _))) | ((simp only; exact Ui (Fi _ _ _))) | ((simp only; exact Uk (Fi _ _ _))) | ((simp only; exact Uh (Fi _ _ _))) | assumption) : p := h
theorem au11 {p : Prop} (h : p := by first | exact HD _ _ _ (by decide) (by decide) (by decide) | exact UL | exact three_ix (by omega) (by omega) | decide | omega) : p := h
theorem au17 {p : Prop} (h : p := by first | (unfold Co at *; unfold maxLen; omega) | (unfold Co at *; omega) | (unfold maxLen; omega) | omega) : p := h
set_option maxHeartbeats 4000000 in
theorem TN (l : (List (List Int))) (hl : (l.length : Int) <= 9223372036854775807) (hll : ∀ x ∈ l, (x.length : Int) <= 9223372036854775807) : Bo Try.prog 24 (HP l).2.1 (.tup [.agg (AF.c (DF l).1), .one (lst 3 AG.c (DF l).2)]) := by
 refine AX Try.func24 rfl kr kr fun W0 M0 => ?_
 have hmany : 1 <= W64 (1 + (AA (AA (AB.mk (AZ l 2) 0) 3).2 3).1) := by have := Cq (AA (AB.mk (AZ l 2) 0) 3).2 3 (by decide) (by decide); rw [BP (by omega) (by omega)]; omega
 refine AC <| rn ⟨[(0, Z5F l), (2, tP 2 0)], [(2, Z5G)]⟩ <| AC ?_
 refine rc [(16, Cf l 0), (17, Fo (AZ l 0) ({ data := #[82] } : ByteArray)), (19, Cf l 1), (20, Fo (AZ l 1) ({ data := #[81] } : ByteArray))] [Al (Cf l 0).2.1, Al (Fo (AZ l 0) ({ data := #[82] } : ByteArray)).2.1, Al (Cf l 1).2.1, Al (Fo (AZ l 1) ({ data := #[81] } : ByteArray)).2.1] ⟨[(0, Z5F l), (2, tP 2 0), (4, .av (.one (.list true 3 2 (A0 3 2 [.s (Z5H l).Name, lst 7 Ap.c (Z5H l).Pads, lst 2 As.c (Z5H l).Gates, .s (Z5I l).Name, lst 7 Ap.c (Z5I l).Pads, lst 2 As.c (Z5I l).Gates]))))], [(2, Z5G)]⟩ (.cons (Ey l 0 au10) (.cons (NK (AZ l 0) ({ data := #[82] } : ByteArray) au10) (.cons (Ey l 1 au10) (.cons (NK (AZ l 1) ({ data := #[81] } : ByteArray) au10) .nil)))) (.cons rfl (.cons rfl (.cons rfl (.cons rfl .nil)))) <| AJ ?_
 refine Bl (Cv.trans (BR (⟨[(0, Z5F l), (2, tP 2 0), (4, Z5J l)], [(2, Z5G)]⟩) (.cons ⟨rfl, .refl _⟩ (.cons ⟨rfl, .refl _⟩ (.cons ⟨rfl, .av (.one (Bt true (A2 (c := AG.c) (xs := ([Z5H l, Z5I l] : List AG)) rfl kr)))⟩ .nil))) lr) (Cv.refl _)) <| AC ?_
 refine rc [(23, Cf l 2)] [Al (Cf l 2).2.1] ⟨[(0, Z5F l), (2, tP 2 0), (4, Z5J l), (5, tP 25 0)], [(2, Z5G), (25, Z5K l)]⟩ (.cons (Ey l 2 au10) .nil) (.cons rfl .nil) <| AJ <| AC ?_
 refine Da Dz [31] [] [(27, E8 (An.mk 0 0 400 400))] [0, 2, 4, 5, 6] [2, 6, 25, 31] [Al (E8 (An.mk 0 0 400 400)).2.1] ⟨[(0, Z5F l), (2, tP 2 0), (4, Z5J l), (5, tP 25 0), (6, tP 6 0)], [(2, Z5G), (6, Z5L), (25, Z5K l), (31, .row 2 3 (A0 2 3 [.s ({ data := #[78, 49] } : ByteArray), vN, .s ({ data := #[78, 50] } : ByteArray), vN, .s ({ data := #[71, 78, 68] } : ByteArray), vN]) 48)]⟩ (.cons (Jb (An.mk 0 0 400 400)) .nil) kr (.cons rfl .nil) <| AJ ?_
 refine Bl (Cv.trans (ST (⟨[(0, Z5F l), (2, tP 2 0), (4, Z5J l), (5, tP 25 0), (6, tP 6 0)], [(2, Z5G), (6, Z5L), (25, Z5K l), (31, Z5M)]⟩) 31 2 3 (A0 2 3 [.s ({ data := #[78, 49] } : ByteArray), vN, .s ({ data := #[78, 50] } : ByteArray), vN, .s ({ data := #[71, 78, 68] } : ByteArray), vN]) 48 kr kr kr) (Cv.refl _)) <| AC <| AC ?_
 refine rc [(34, (Z5N l))] [Al (Z5N l).2.1, BH (.cells [lst 1 (fun x => [.i x]) (AZ l 2), .i 0] 146)] ⟨[(0, Z5F l), (2, tP 2 0), (4, Z5J l), (5, tP 25 0), (6, tP 6 0), (35, tB (decide (((AA (AB.mk (AZ l 2) 0) 3).1 : Int) = 0)))], [(2, Z5G), (6, Z5L), (25, Z5O l), (31, Z5M)]⟩ (.cons (Ai (fun _ _ => kr) kr kr (Bd (AB.mk (AZ l 2) 0) 3 au5 au7)) .nil) (.cons rfl (.cons rfl .nil)) <| AJ ?_
 refine Bm (⟨[(0, .av (oL l)), (2, tP 2 0), (4, tO (lst 3 AG.c [Z5H l, Z5I l])), (5, tP 25 0), (6, tP 6 0)], [(2, .cells [.i 0, .i 0, vN, .i 0, vN, vN, vN, vN, vN, vN, vN, vN, vN, vN, vN] 42), (6, .cells [.i 2, .i (Z5P l).Kind, lst 7 AH.c (Z5P l).Edges, .i (Z5P l).R, vN, .own 31 2 3, vN, vN, vN, vN, vN, vN, vN, vN, vN] 42), (25, .cells (AB.c (AA (AB.mk (AZ l 2) 0) 3).2) 146), (31, .rowx 2 3 (fun _ _ => default) 48 [(0, [.s ({ data := #[78, 49] } : ByteArray), vN]), (1, [.s ({ data := #[78, 50] } : ByteArray), vN]), (2, [.s ({ data := #[71, 78, 68] } : ByteArray), vN])])]⟩) ?_ ?_
 ·refine Ae _ rfl (fun h1 => ?_) (fun h1 => ?_)
  ·have g1 := oT h1
   refine rc [(37, FN (An.mk 0 0 400 400) 50)] [Al (FN (An.mk 0 0 400 400) 50).2.1] ⟨[(0, Z5F l), (2, tP 2 0), (4, Z5J l), (5, tP 25 0), (6, tP 6 0)], [(2, Z5G), (6, .cells [.i 2, .i (FP (An.mk 0 0 400 400) 50).Kind, lst 7 AH.c (FP (An.mk 0 0 400 400) 50).Edges, .i (FP (An.mk 0 0 400 400) 50).R, vN, .own 31 2 3, vN, vN, vN, vN, vN, vN, vN, vN, vN] 42), (25, Z5O l), (31, Z5M)]⟩ (.cons (Oi (An.mk 0 0 400 400) 50) .nil) (.cons rfl .nil) <| AJ ?_
   refine A6 ?_
   first | rfl | (simp only [h1, Z5P, cond_true, cond_false] <;> rfl)
  ·have g1 := oF h1
   refine Ak <| AJ ?_
   refine Cv.trans (BA [0, 2, 4, 5, 6] [2, 6, 25, 31] (⟨[(0, Z5F l), (2, tP 2 0), (4, Z5J l), (5, tP 25 0), (6, tP 6 0)], [(2, Z5G), (6, Z5L), (25, Z5O l), (31, Z5M)]⟩) kr) (A6 ?_)
   first | rfl | (simp only [h1, Z5P, cond_true, cond_false] <;> rfl)
 refine AC <| rc [(40, (Z5Q l))] [Al (Z5Q l).2.1, BH (.cells (AB.c (AA (AB.mk (AZ l 2) 0) 3).2) 146)] ⟨[(0, Z5F l), (2, tP 2 0), (4, Z5J l), (5, tP 25 0), (6, tP 6 0), (7, Z5S l)], [(2, Z5G), (6, Z5T l), (25, .cells (AB.c (Z5R l)) 146), (31, Z5M)]⟩ (.cons (Ai (fun _ _ => kr) kr kr (Bd (AA (AB.mk (AZ l 2) 0) 3).2 3 au5 au7)) .nil) (.cons rfl (.cons rfl .nil)) <| AJ ?_
 refine AC <| AC ?_
 refine rn ⟨[(0, Z5F l), (2, tP 2 0), (4, Z5J l), (5, tP 25 0), (6, tP 6 0), (7, Z5S l), (8, tI 0)], [(2, Z5G), (6, Z5T l), (25, .cells (AB.c (Z5R l)) 146), (31, Z5M)]⟩ <| Af ?_
 refine Bl (Cv.trans (CH (⟨[(0, Z5F l), (2, tP 2 0), (4, Z5J l), (5, tP 25 0), (6, tP 6 0), (7, Z5S l), (8, tI 0)], [(100000, .row 7 0 (fun _ _ => default) 59), (2, Z5G), (6, .cells [.i 2, .i (Z5P l).Kind, lst 7 AH.c (Z5P l).Edges, .i (Z5P l).R, .own 100000 7 0, .own 31 2 3, vN, vN, vN, vN, vN, vN, vN, vN, vN] 42), (25, .cells (AB.c (Z5R l)) 146), (31, Z5M)]⟩) 100000 7 (fun _ _ => default) 59 [] [(6, [4])] (K := []) (fun k x h => by cases h) rfl kr kr) (Cv.trans (BR (⟨[(0, Z5F l), (2, tP 2 0), (4, Z5J l), (5, tP 25 0), (6, tP 6 0), (7, Z5S l), (8, tI 0)], [(100000, Z5V), (2, Z5G), (6, Z5W l), (25, .cells (AB.c (Z5R l)) 146), (31, Z5M)]⟩) lr (.cons ⟨rfl, Aw 59 (CF 7 (fun _ _ => default) AD.c)⟩ (.cons ⟨rfl, .refl _⟩ (.cons ⟨rfl, .cells _ (rr (rr (rr (rr (.cons (.own _ _ au2) (rr (rr (rr (rr (rr (rr (rr (rr (rr (rr .nil)))))))))))))))⟩ lr)))) (Cv.trans (BA [0, 2, 4, 5, 6, 7, 8] [2, 6, 25, 31, 100000] (⟨[(0, Z5F l), (2, tP 2 0), (4, Z5J l), (5, tP 25 0), (6, tP 6 0), (7, Z5S l), (8, tI 0)], [(2, Z5G), (6, Z5W l), (25, .cells (AB.c (Z5R l)) 146), (31, Z5M), (100000, Z5V)]⟩) kr) (Cv.refl _)))) ?_
 refine BL (ι := Nat × List AD × AB × Int) (fun x => ⟨[(0, Z5F l), (2, tP 2 0), (4, Z5J l), (5, tP 25 0), (6, tP 6 0), (7, Z5S l), (8, tI x.2.2.2)], [(2, Z5G), (6, .cells [.i 2, .i (Z5P l).Kind, lst 7 AH.c (Z5P l).Edges, .i (Z5P l).R, .own 100000 7 x.2.1.length, .own 31 2 3, vN, vN, vN, vN, vN, vN, vN, vN, vN] 42), (25, .cells (AB.c x.2.2.1) 146), (31, Z5M), (100000, .row 7 x.2.1.length (AY AD.c x.2.1) 59)]⟩) (fun x => ((W64 (1 + (AA (AA (AB.mk (AZ l 2) 0) 3).2 3).1)) - x.2.2.2).toNat < x.1 /\ ((x.2.1.length : Int) = x.2.2.2 /\ Kh [BD (AZ l 0) ({ data := #[82] } : ByteArray), BD (AZ l 1) ({ data := #[81] } : ByteArray)] x.2.1 /\ Bp x.2.2.1 /\ 0 <= x.2.2.2 /\ (x.2.2.2 <= (W64 (1 + (AA (AA (AB.mk (AZ l 2) 0) 3).2 3).1)) \/ x.2.2.2 = 0) /\ (x.2.1.length : Int) <= 0 + 1 * (x.2.2.2 - 0)) /\ CY l x.1 x.2.1 x.2.2.1 x.2.2.2 = DF l) (fun x => x.1) ?_ (((W64 (1 + (AA (AA (AB.mk (AZ l 2) 0) 3).2 3).1)) - 0).toNat + 1, ([] : List AD), Z5R l, 0) ⟨Nat.lt_succ_self _, ⟨ax0, (by show Kh [BD (AZ l 0) ({ data := #[82] } : ByteArray), BD (AZ l 1) ({ data := #[81] } : ByteArray)] ([] : List AD); first | exact PU | exact PV (by assumption) (K5 _ _ _ (Cq _ 2 (by decide) (by decide))) | assumption), (by show Bp (Z5R l); repeat (first | with_reducible assumption | exact CS (Cz hll _) | with_reducible refine BX ?_ | with_reducible refine Dv ?_ | with_reducible refine DD ?_ | with_reducible refine Cs ?_  | with_reducible refine Cc ?_ ?_)), ax0, ax0, ax0⟩, (by simp only [DF, cond_true, cond_false])⟩
 rintro ⟨n0, v6_4, v5, v8⟩ ⟨hn, hinv, hF⟩
 have hm0 := hn; have hinv0 := hinv; have hF0 := hF; try dsimp only at hm0 hinv0 hF0
 clear hn hinv hF
 cases n0 with
 | zero => exact absurd hm0 (Nat.not_lt_zero _)
 | succ n0 =>
  have hi0_1 := hinv0.2.1
  have hi0_2 := hinv0.2.2.1
  refine AC <| AC ?_
  refine rn ⟨[(0, Z5F l), (2, tP 2 0), (4, Z5J l), (5, tP 25 0), (6, tP 6 0), (7, Z5S l), (8, tI v8), (44, tB (decide ((v8 : Int) < (W64 (1 + (AA (AA (AB.mk (AZ l 2) 0) 3).2 3).1)))))], [(2, Z5G), (6, Z5X l v6_4), (25, .cells (AB.c v5) 146), (31, Z5M), (100000, Z5Y v6_4)]⟩ ?_
  refine Ae (decide ((v8 : Int) < (W64 (1 + (AA (AA (AB.mk (AZ l 2) 0) 3).2 3).1)))) kr (fun h1 => ?_) (fun h1 => ?_)
  ·have g1 := oT h1
   have k1 := MG g1 (by decide) (by decide) (by decide) (by decide)
   have kk1 := KF g1 (by decide) (by decide) (by decide) (by decide)
   refine Ak <| AJ ?_
   refine AC <| Af <| AC ?_
   refine dw [] [(55, (Z5Z v5)), (60, (Z60 v5)), (62, (Z61 v5))] [0 <= (v8 : Int) /\ (v8 : Int) < ((3 : Nat) : Int), Al (Z5Z v5).2.1, BH (.cells (AB.c v5) 146), 0 <= ((AA v5 2).1 : Int) /\ ((AA v5 2).1 : Int) < (([Z5H l, Z5I l].length : Nat) : Int), Al (Z60 v5).2.1, BH (.cells (AB.c (AA v5 2).2) 146), Al (Z61 v5).2.1, BH (.cells (AB.c (AA (AA v5 2).2 4).2) 146)] ⟨[(0, Z5F l), (2, tP 2 0), (4, Z5J l), (5, tP 25 0), (6, tP 6 0), (7, Z5S l), (8, tI v8), (9, tP 9 0)], [(2, Z5G), (6, Z5X l v6_4), (9, .cells [.i (W64 (1 + v8)), .s (([({ data := #[82, 49] } : ByteArray), ({ data := #[82, 50] } : ByteArray), ({ data := #[120, 47, 82, 49] } : ByteArray)] : List ByteArray).getD v8.toNat ⟨#[]⟩), .s ([Z5H l, Z5I l].getD (AA v5 2).1.toNat default).Name, .i 0, .i 0, .i (AA (AA v5 2).2 4).1, .b (decide (((AA (AA (AA v5 2).2 4).2 3).1 : Int) = 0))] 59), (25, .cells (AB.c (Z62 v5)) 146), (31, Z5M), (100000, Z5Y v6_4)]⟩ (.cons (Ai (fun _ _ => kr) kr kr (Bd v5 2 au5 au7)) (.cons (Ai (fun _ _ => kr) kr kr (Bd (AA v5 2).2 4 au5 au7)) (.cons (Ai (fun _ _ => kr) kr kr (Bd (AA (AA v5 2).2 4).2 3 au5 au7)) .nil))) (.cons au11 (.cons rfl (.cons rfl (.cons au11 (.cons rfl (.cons rfl (.cons rfl (.cons rfl .nil)))))))) <| AJ <| AC ?_
   refine rc [(69, (Z63 v5)), (73, (Z64 v5)), (77, (Z66 v5))] [Al (Z63 v5).2.1, BH (.cells (AB.c (Z62 v5)) 146), Al (Z64 v5).2.1, BH (.cells (AB.c (AA (Z62 v5) 5).2) 146), Al (Z66 v5).2.1, BH (.cells (AB.c (Z65 v5)) 146)] ⟨[(0, Z5F l), (2, tP 2 0), (4, Z5J l), (5, tP 25 0), (6, tP 6 0), (7, Z5S l), (8, tI v8), (9, tP 9 0)], [(2, Z5G), (6, Z5X l v6_4), (9, .cells [.i (W64 (1 + v8)), .s (([({ data := #[82, 49] } : ByteArray), ({ data := #[82, 50] } : ByteArray), ({ data := #[120, 47, 82, 49] } : ByteArray)] : List ByteArray).getD v8.toNat ⟨#[]⟩), .s ([Z5H l, Z5I l].getD (AA v5 2).1.toNat default).Name, .i (W64 ((W64 (80 + (W64 (100 * v8)))) + (W64 (5 * (AA (Z62 v5) 5).1)))), .i (W64 ((W64 (100 + (W64 (80 * (AA (AA (Z62 v5) 5).2 3).1)))) + (W64 (5 * (AA (Z65 v5) 3).1)))), .i (AA (AA v5 2).2 4).1, .b (decide (((AA (AA (AA v5 2).2 4).2 3).1 : Int) = 0))] 59), (25, Z67 v5), (31, Z5M), (100000, Z5Y v6_4)]⟩ (.cons (Ai (fun _ _ => kr) kr kr (Bd (Z62 v5) 5 au5 au7)) (.cons (Ai (fun _ _ => kr) kr kr (Bd (AA (Z62 v5) 5).2 3 au5 au7)) (.cons (Ai (fun _ _ => kr) kr kr (Bd (Z65 v5) 3 au5 au7)) .nil))) (.cons rfl (.cons rfl (.cons rfl (.cons rfl (.cons rfl (.cons rfl .nil)))))) <| AJ ?_
   refine rc [] [v6_4.length = v6_4.length, v6_4.length + 1 <= maxLen, (v6_4.length + 1) * 72 <= 140737488355328] ⟨[(0, Z5F l), (2, tP 2 0), (4, Z5J l), (5, tP 25 0), (6, tP 6 0), (7, Z5S l), (8, tI v8)], [(2, Z5G), (6, .cells [.i 2, .i (Z5P l).Kind, lst 7 AH.c (Z5P l).Edges, .i (Z5P l).R, .own 86 7 (v6_4.length + 1), .own 31 2 3, vN, vN, vN, vN, vN, vN, vN, vN, vN] 42), (25, Z67 v5), (31, Z5M), (86, .row 7 (v6_4.length + 1) (fun i_ j_ => if i_ < v6_4.length then (AY AD.c v6_4) i_ j_ else (A0 7 1 [.i (W64 (1 + v8)), .s (([({ data := #[82, 49] } : ByteArray), ({ data := #[82, 50] } : ByteArray), ({ data := #[120, 47, 82, 49] } : ByteArray)] : List ByteArray).getD v8.toNat ⟨#[]⟩), .s ([Z5H l, Z5I l].getD (AA v5 2).1.toNat default).Name, .i (W64 ((W64 (80 + (W64 (100 * v8)))) + (W64 (5 * (AA (Z62 v5) 5).1)))), .i (W64 ((W64 (100 + (W64 (80 * (AA (AA (Z62 v5) 5).2 3).1)))) + (W64 (5 * (AA (Z65 v5) 3).1)))), .i (AA (AA v5 2).2 4).1, .b (decide (((AA (AA (AA v5 2).2 4).2 3).1 : Int) = 0))]) (i_ - v6_4.length) j_) 59)]⟩ .nil (.cons rfl (.cons au17 (.cons au17 .nil))) <| Bq <| AJ ?_
   refine Bl (Cv.trans (BR (⟨[(0, Z5F l), (2, tP 2 0), (4, Z5J l), (5, tP 25 0), (6, tP 6 0), (7, Z5S l), (8, tI v8)], [(2, Z5G), (6, Z68 l v6_4 v8 v5), (25, Z67 v5), (31, Z5M), (86, Z69 v6_4 v8 l v5)]⟩) lr (.cons ⟨rfl, .refl _⟩ (.cons ⟨rfl, .cells _ (rr (rr (rr (rr (.cons (.own _ _ au2) (rr (rr (rr (rr (rr (rr (rr (rr (rr (rr .nil)))))))))))))))⟩ (.cons ⟨rfl, .refl _⟩ (.cons ⟨rfl, .refl _⟩ (.cons ⟨rfl, Aw 59 (BV (BK 7 AD.c v6_4) (A2 (c := AD.c) (xs := ([AD.mk (W64 (1 + v8)) (([({ data := #[82, 49] } : ByteArray), ({ data := #[82, 50] } : ByteArray), ({ data := #[120, 47, 82, 49] } : ByteArray)] : List ByteArray).getD v8.toNat ⟨#[]⟩) ([Z5H l, Z5I l].getD (AA v5 2).1.toNat default).Name (AE.mk (W64 ((W64 (80 + (W64 (100 * v8)))) + (W64 (5 * (AA (Z62 v5) 5).1)))) (W64 ((W64 (100 + (W64 (80 * (AA (AA (Z62 v5) 5).2 3).1)))) + (W64 (5 * (AA (Z65 v5) 3).1))))) (AA (AA v5 2).2 4).1 (decide (((AA (AA (AA v5 2).2 4).2 3).1 : Int) = 0))] : List AD)) rfl kr))⟩ .nil)))))) (Cv.refl _)) ?_
   refine rg ⟨[(0, Z5F l), (2, tP 2 0), (4, Z5J l), (5, tP 25 0), (6, tP 6 0), (7, Z5S l), (8, tI (W64 (v8 + 1)))], [(2, Z5G), (6, Z68 l v6_4 v8 v5), (25, Z67 v5), (31, Z5M), (86, Z69 v6_4 v8 l v5)]⟩ ?_
   (try rw [(show W64 (v8 + 1) = v8 + 1 from BP (by omega) au9)])
   refine AJ ?_
   refine ⟨(n0, v6_4 ++ [AD.mk (W64 (1 + v8)) (([({ data := #[82, 49] } : ByteArray), ({ data := #[82, 50] } : ByteArray), ({ data := #[120, 47, 82, 49] } : ByteArray)] : List ByteArray).getD v8.toNat ⟨#[]⟩) ([Z5H l, Z5I l].getD (AA v5 2).1.toNat default).Name (AE.mk (W64 ((W64 (80 + (W64 (100 * v8)))) + (W64 (5 * (AA (Z62 v5) 5).1)))) (W64 ((W64 (100 + (W64 (80 * (AA (AA (Z62 v5) 5).2 3).1)))) + (W64 (5 * (AA (Z65 v5) 3).1))))) (AA (AA v5 2).2 4).1 (decide (((AA (AA (AA v5 2).2 4).2 3).1 : Int) = 0))], (AA (Z65 v5) 3).2, v8 + 1), ⟨?_, ?_, (by rw [<- hF0]; simp only [CY, h1, cond_true, cond_false])⟩, Nat.lt_succ_self _, Cv.trans (Be (⟨[(0, Z5F l), (2, tP 2 0), (4, Z5J l), (5, tP 25 0), (6, tP 6 0), (7, Z5S l), (8, tI (v8 + 1))], [(2, Z5G), (6, .cells [.i 2, .i (Z5P l).Kind, lst 7 AH.c (Z5P l).Edges, .i (Z5P l).R, .own 100000 7 (v6_4 ++ [AD.mk (W64 (1 + v8)) (([({ data := #[82, 49] } : ByteArray), ({ data := #[82, 50] } : ByteArray), ({ data := #[120, 47, 82, 49] } : ByteArray)] : List ByteArray).getD v8.toNat ⟨#[]⟩) ([Z5H l, Z5I l].getD (AA v5 2).1.toNat default).Name (AE.mk (W64 ((W64 (80 + (W64 (100 * v8)))) + (W64 (5 * (AA (Z62 v5) 5).1)))) (W64 ((W64 (100 + (W64 (80 * (AA (AA (Z62 v5) 5).2 3).1)))) + (W64 (5 * (AA (Z65 v5) 3).1))))) (AA (AA v5 2).2 4).1 (decide (((AA (AA (AA v5 2).2 4).2 3).1 : Int) = 0))]).length, .own 31 2 3, vN, vN, vN, vN, vN, vN, vN, vN, vN] 42), (25, Z67 v5), (31, Z5M), (100000, Z69 v6_4 v8 l v5)]⟩) 86 100000 (K := []) (fun k x h => by cases h) rfl rfl kr kr) (A6 kr)⟩
   ·show ((W64 (1 + (AA (AA (AB.mk (AZ l 2) 0) 3).2 3).1)) - (v8 + 1)).toNat < n0; omega
   ·exact ⟨ax0, (by show Kh [BD (AZ l 0) ({ data := #[82] } : ByteArray), BD (AZ l 1) ({ data := #[81] } : ByteArray)] (v6_4 ++ [AD.mk (W64 (1 + v8)) (([({ data := #[82, 49] } : ByteArray), ({ data := #[82, 50] } : ByteArray), ({ data := #[120, 47, 82, 49] } : ByteArray)] : List ByteArray).getD v8.toNat ⟨#[]⟩) ([Z5H l, Z5I l].getD (AA v5 2).1.toNat default).Name (AE.mk (W64 ((W64 (80 + (W64 (100 * v8)))) + (W64 (5 * (AA (Z62 v5) 5).1)))) (W64 ((W64 (100 + (W64 (80 * (AA (AA (Z62 v5) 5).2 3).1)))) + (W64 (5 * (AA (Z65 v5) 3).1))))) (AA (AA v5 2).2 4).1 (decide (((AA (AA (AA v5 2).2 4).2 3).1 : Int) = 0))]); first | exact PU | exact PV (by assumption) (K5 _ _ _ (Cq _ 2 (by decide) (by decide))) | assumption), (by show Bp ((AA (Z65 v5) 3).2); repeat (first | with_reducible assumption | exact CS (Cz hll _) | with_reducible refine BX ?_ | with_reducible refine Dv ?_ | with_reducible refine DD ?_ | with_reducible refine Cs ?_  | with_reducible refine Cc ?_ ?_)), ax0, ax0, ax0⟩
  ·have g1 := oF h1
   have k1 := MR g1 (by decide) (by decide) (by decide) (by decide)
   refine BZ <| BI ?_
   refine BI <| Ba ?_
   refine AJ <| AC ?_
   refine rc [(89, Cf l 3)] [Al (Cf l 3).2.1] ⟨[(0, Z5F l), (2, tP 2 0), (4, Z5J l), (5, tP 91 0), (6, tP 6 0), (7, Z5S l)], [(2, Z5G), (6, Z5X l v6_4), (31, Z5M), (91, Z5U l), (100000, Z5Y v6_4)]⟩ (.cons (Ey l 3 au10) .nil) (.cons rfl .nil) <| AJ ?_
   refine AC <| AC ?_
   refine rn ⟨[(0, Z5F l), (2, tP 2 0), (4, Z5J l), (5, tP 91 0), (6, tP 6 0), (7, Z5S l), (10, tI 0)], [(2, Z5G), (6, Z5X l v6_4), (31, Z5M), (91, Z5U l), (100000, Z5Y v6_4)]⟩ <| Af ?_
   refine Bl (Cv.trans (CH (⟨[(0, Z5F l), (2, tP 2 0), (4, Z5J l), (5, tP 91 0), (6, tP 6 0), (7, Z5S l), (10, tI 0)], [(100001, .row 2 0 (fun _ _ => default) 25), (2, Z5G), (6, Z5X l v6_4), (31, .rowx 2 3 (fun _ _ => default) 48 [(0, [.s ({ data := #[78, 49] } : ByteArray), .own 100001 2 0]), (1, [.s ({ data := #[78, 50] } : ByteArray), vN]), (2, [.s ({ data := #[71, 78, 68] } : ByteArray), vN])]), (91, Z5U l), (100000, Z5Y v6_4)]⟩) 100001 2 (fun _ _ => default) 25 [] [(31, [1])] (K := []) (fun k x h => by cases h) rfl kr kr) (Cv.trans (CH (⟨[(0, Z5F l), (2, tP 2 0), (4, Z5J l), (5, tP 91 0), (6, tP 6 0), (7, Z5S l), (10, tI 0)], [(100002, .row 2 0 (fun _ _ => default) 25), (100001, .row 2 0 (fun _ _ => default) 25), (2, Z5G), (6, Z5X l v6_4), (31, .rowx 2 3 (fun _ _ => default) 48 [(0, [.s ({ data := #[78, 49] } : ByteArray), .own 100001 2 0]), (1, [.s ({ data := #[78, 50] } : ByteArray), .own 100002 2 0]), (2, [.s ({ data := #[71, 78, 68] } : ByteArray), vN])]), (91, Z5U l), (100000, Z5Y v6_4)]⟩) 100002 2 (fun _ _ => default) 25 [] [(31, [3])] (K := []) (fun k x h => by cases h) rfl kr kr) (Cv.trans (CH (⟨[(0, Z5F l), (2, tP 2 0), (4, Z5J l), (5, tP 91 0), (6, tP 6 0), (7, Z5S l), (10, tI 0)], [(100003, .row 2 0 (fun _ _ => default) 25), (100002, .row 2 0 (fun _ _ => default) 25), (100001, .row 2 0 (fun _ _ => default) 25), (2, Z5G), (6, Z5X l v6_4), (31, .rowx 2 3 (fun _ _ => default) 48 [(0, [.s ({ data := #[78, 49] } : ByteArray), .own 100001 2 0]), (1, [.s ({ data := #[78, 50] } : ByteArray), .own 100002 2 0]), (2, [.s ({ data := #[71, 78, 68] } : ByteArray), .own 100003 2 0])]), (91, Z5U l), (100000, Z5Y v6_4)]⟩) 100003 2 (fun _ _ => default) 25 [] [(31, [5])] (K := []) (fun k x h => by cases h) rfl kr kr) (Cv.trans (BR (⟨[(0, Z5F l), (2, tP 2 0), (4, Z5J l), (5, tP 91 0), (6, tP 6 0), (7, Z5S l), (10, tI 0)], [(100003, Z6a), (100002, Z6a), (100001, Z6a), (2, Z5G), (6, Z5X l v6_4), (31, Z6z), (91, Z5U l), (100000, Z5Y v6_4)]⟩) lr (.cons ⟨rfl, Aw 25 (CF 2 (fun _ _ => default) AR.c)⟩ (.cons ⟨rfl, Aw 25 (CF 2 (fun _ _ => default) AR.c)⟩ (.cons ⟨rfl, Aw 25 (CF 2 (fun _ _ => default) AR.c)⟩ (.cons ⟨rfl, .refl _⟩ (.cons ⟨rfl, .refl _⟩ (.cons ⟨rfl, .rowx _ _ _ _ (.cons ⟨rfl, (rr (.cons (.own _ _ au2) .nil))⟩ (.cons ⟨rfl, (rr (.cons (.own _ _ au2) .nil))⟩ (.cons ⟨rfl, (rr (.cons (.own _ _ au2) .nil))⟩ .nil)))⟩ lr))))))) (Cv.trans (BA [0, 2, 4, 5, 6, 7, 10] [2, 6, 31, 91, 100000, 100001, 100002, 100003] (⟨[(0, Z5F l), (2, tP 2 0), (4, Z5J l), (5, tP 91 0), (6, tP 6 0), (7, Z5S l), (10, tI 0)], [(2, Z5G), (6, Z5X l v6_4), (31, Z6z), (91, Z5U l), (100000, Z5Y v6_4), (100001, Z6a), (100002, Z6a), (100003, Z6a)]⟩) kr) (Cv.refl _)))))) ?_
   refine BL (ι := Nat × List AR × List AR × List AR × AB × Int) (fun x => ⟨[(0, Z5F l), (2, tP 2 0), (4, Z5J l), (5, tP 91 0), (6, tP 6 0), (7, Z5S l), (10, tI x.2.2.2.2.2)], [(2, Z5G), (6, Z5X l v6_4), (31, .rowx 2 3 (fun _ _ => default) 48 [(0, [.s ({ data := #[78, 49] } : ByteArray), .own 100001 2 x.2.1.length]), (1, [.s ({ data := #[78, 50] } : ByteArray), .own 100002 2 x.2.2.1.length]), (2, [.s ({ data := #[71, 78, 68] } : ByteArray), .own 100003 2 x.2.2.2.1.length])]), (91, .cells (AB.c x.2.2.2.2.1) 146), (100000, Z5Y v6_4), (100001, .row 2 x.2.1.length (AY AR.c x.2.1) 25), (100002, .row 2 x.2.2.1.length (AY AR.c x.2.2.1) 25), (100003, .row 2 x.2.2.2.1.length (AY AR.c x.2.2.2.1) 25)]⟩) (fun x => ((W64 (1 + (AA (AA (AB.mk (AZ l 2) 0) 3).2 3).1)) - x.2.2.2.2.2).toNat < x.1 /\ (Co x.2.1 (6 * x.2.2.2.2.2) /\ Co x.2.2.1 (6 * x.2.2.2.2.2) /\ Co x.2.2.2.1 (6 * x.2.2.2.2.2) /\ Bp x.2.2.2.2.1 /\ 0 <= x.2.2.2.2.2 /\ (x.2.2.2.2.2 <= (W64 (1 + (AA (AA (AB.mk (AZ l 2) 0) 3).2 3).1)) \/ x.2.2.2.2.2 = 0)) /\ C9 l v6_4 v5 v8 (CY l n0) x.1 x.2.1 x.2.2.1 x.2.2.2.1 x.2.2.2.2.1 x.2.2.2.2.2 = DF l) (fun x => x.1) ?_ (((W64 (1 + (AA (AA (AB.mk (AZ l 2) 0) 3).2 3).1)) - 0).toNat + 1, ([] : List AR), ([] : List AR), ([] : List AR), AB.mk (AZ l 3) 0, 0) ⟨Nat.lt_succ_self _, ⟨(by show Co ([] : List AR) (6 * 0); unfold Co at *; repeat (first | omega | exact D7 (by omega) | refine D6 ?_ ?_ | (simp; done))), (by show Co ([] : List AR) (6 * 0); unfold Co at *; repeat (first | omega | exact D7 (by omega) | refine D6 ?_ ?_ | (simp; done))), (by show Co ([] : List AR) (6 * 0); unfold Co at *; repeat (first | omega | exact D7 (by omega) | refine D6 ?_ ?_ | (simp; done))), (by show Bp (AB.mk (AZ l 3) 0); repeat (first | with_reducible assumption | exact CS (Cz hll _) | with_reducible refine BX ?_ | with_reducible refine Dv ?_ | with_reducible refine DD ?_ | with_reducible refine Cs ?_  | with_reducible refine Cc ?_ ?_)), ax0, ax0⟩, (by rw [<- hF0]; simp only [CY, h1, cond_true, cond_false])⟩
   rintro ⟨n1, v31_1, v31_3, v31_5, v5', v10⟩ ⟨hn, hinv, hF⟩
   have hm1 := hn; have hinv1 := hinv; have hF1 := hF; try dsimp only at hm1 hinv1 hF1
   clear hn hinv hF
   cases n1 with
   | zero => exact absurd hm1 (Nat.not_lt_zero _)
   | succ n1 =>
    have hi1_0 := hinv1.1
    have hi1_1 := hinv1.2.1
    have hi1_2 := hinv1.2.2.1
    have hi1_3 := hinv1.2.2.2.1
    refine AC <| AC ?_
    refine rn ⟨[(0, Z5F l), (2, tP 2 0), (4, Z5J l), (5, tP 91 0), (6, tP 6 0), (7, Z5S l), (10, tI v10), (94, Z6f v10 l)], [(2, Z5G), (6, Z5X l v6_4), (31, Z6A v31_1 v31_3 v31_5), (91, .cells (AB.c v5') 146), (100000, Z5Y v6_4), (100001, Z6b v31_1), (100002, Z6c v31_3), (100003, Z6d v31_5)]⟩ ?_
    refine Ae (decide ((v10 : Int) < (W64 (1 + (AA (AA (AB.mk (AZ l 2) 0) 3).2 3).1)))) kr (fun h2 => ?_) (fun h2 => ?_)
    ·have g2 := oT h2
     have k2 := MG g2 (by decide) (by decide) (by decide) (by decide)
     have kk2 := KF g2 (by decide) (by decide) (by decide) (by decide)
     refine Ak <| AJ ?_
     refine AC <| Af <| AC ?_
     refine rc [(105, E9 [Z5H l, Z5I l] (v6_4.getD v10.toNat default).Type')] [0 <= (v10 : Int) /\ (v10 : Int) < ((v6_4.length : Nat) : Int), v10.toNat < v6_4.length, Al (E9 [Z5H l, Z5I l] (v6_4.getD v10.toNat default).Type').2.1] ⟨[(0, Z5F l), (2, tP 2 0), (4, Z5J l), (5, tP 91 0), (6, tP 6 0), (7, Z5S l), (10, tI v10), (11, tP 11 0)], [(2, Z5G), (6, Z5X l v6_4), (11, Z6h l v6_4 v10), (31, Z6A v31_1 v31_3 v31_5), (91, .cells (AB.c v5') 146), (100000, Z5Y v6_4), (100001, Z6b v31_1), (100002, Z6c v31_3), (100003, Z6d v31_5)]⟩ (.cons (Jc [Z5H l, Z5I l] (v6_4.getD v10.toNat default).Type' au10) .nil) (.cons au11 (.cons au11 (.cons rfl .nil))) <| AJ <| AC ?_
     refine rn ⟨[(0, Z5F l), (2, tP 2 0), (4, Z5J l), (5, tP 91 0), (6, tP 6 0), (7, Z5S l), (10, tI v10), (11, tP 11 0), (13, tI 0)], [(2, Z5G), (6, Z5X l v6_4), (11, Z6h l v6_4 v10), (31, Z6A v31_1 v31_3 v31_5), (91, .cells (AB.c v5') 146), (100000, Z5Y v6_4), (100001, Z6b v31_1), (100002, Z6c v31_3), (100003, Z6d v31_5)]⟩ <| Af ?_
     refine BL (ι := Nat × List AR × List AR × List AR × AB × Int) (fun x => ⟨[(0, Z5F l), (2, tP 2 0), (4, Z5J l), (5, tP 91 0), (6, tP 6 0), (7, Z5S l), (10, tI v10), (11, tP 11 0), (13, tI x.2.2.2.2.2)], [(2, Z5G), (6, Z5X l v6_4), (11, Z6h l v6_4 v10), (31, .rowx 2 3 (fun _ _ => default) 48 [(0, [.s ({ data := #[78, 49] } : ByteArray), .own 100001 2 x.2.1.length]), (1, [.s ({ data := #[78, 50] } : ByteArray), .own 100002 2 x.2.2.1.length]), (2, [.s ({ data := #[71, 78, 68] } : ByteArray), .own 100003 2 x.2.2.2.1.length])]), (91, .cells (AB.c x.2.2.2.2.1) 146), (100000, Z5Y v6_4), (100001, .row 2 x.2.1.length (AY AR.c x.2.1) 25), (100002, .row 2 x.2.2.1.length (AY AR.c x.2.2.1) 25), (100003, .row 2 x.2.2.2.1.length (AY AR.c x.2.2.2.1) 25)]⟩) (fun x => (((Z6g l v6_4 v10).Pads.length : Int) - x.2.2.2.2.2).toNat < x.1 /\ (Co x.2.1 (6 * v10 + x.2.2.2.2.2) /\ Co x.2.2.1 (6 * v10 + x.2.2.2.2.2) /\ Co x.2.2.2.1 (6 * v10 + x.2.2.2.2.2) /\ Bp x.2.2.2.2.1 /\ 0 <= x.2.2.2.2.2 /\ (x.2.2.2.2.2 <= ((Z6g l v6_4 v10).Pads.length : Int) \/ x.2.2.2.2.2 = 0)) /\ DW l v6_4 v5 v8 v31_1 v31_3 v31_5 v5' v10 (CY l n0) (C9 l v6_4 v5 v8 (CY l n0) n1) x.1 x.2.1 x.2.2.1 x.2.2.2.1 x.2.2.2.2.1 x.2.2.2.2.2 = DF l) (fun x => x.1) ?_ ((((Z6g l v6_4 v10).Pads.length : Int) - 0).toNat + 1, v31_1, v31_3, v31_5, v5', 0) ⟨Nat.lt_succ_self _, ⟨(by show Co v31_1 (6 * v10 + 0); unfold Co at *; repeat (first | omega | exact D7 (by omega) | refine D6 ?_ ?_ | (simp; done))), (by show Co v31_3 (6 * v10 + 0); unfold Co at *; repeat (first | omega | exact D7 (by omega) | refine D6 ?_ ?_ | (simp; done))), (by show Co v31_5 (6 * v10 + 0); unfold Co at *; repeat (first | omega | exact D7 (by omega) | refine D6 ?_ ?_ | (simp; done))), (by show Bp v5'; repeat (first | with_reducible assumption | exact CS (Cz hll _) | with_reducible refine BX ?_ | with_reducible refine Dv ?_ | with_reducible refine DD ?_ | with_reducible refine Cs ?_  | with_reducible refine Cc ?_ ?_)), ax0, ax0⟩, (by rw [<- hF1]; simp only [C9, h2, cond_true, cond_false])⟩
     rintro ⟨n2, v31_1', v31_3', v31_5', v5'', v13⟩ ⟨hn, hinv, hF⟩
     have hm2 := hn; have hinv2 := hinv; have hF2 := hF; try dsimp only at hm2 hinv2 hF2
     clear hn hinv hF
     cases n2 with
     | zero => exact absurd hm2 (Nat.not_lt_zero _)
     | succ n2 =>
      have hi2_0 := hinv2.1
      have hi2_1 := hinv2.2.1
      have hi2_2 := hinv2.2.2.1
      have hi2_3 := hinv2.2.2.2.1
      have hp6 : ((Z6g l v6_4 v10).Pads.length : Int) <= 6 := (hi0_1 v10 (by omega) (by omega)).2
      refine AC <| AC ?_
      refine rn ⟨[(0, Z5F l), (2, tP 2 0), (4, Z5J l), (5, tP 91 0), (6, tP 6 0), (7, Z5S l), (10, tI v10), (11, tP 11 0), (13, tI v13), (112, tB (decide ((v13 : Int) < ((Z6g l v6_4 v10).Pads.length : Int))))], [(2, Z5G), (6, Z5X l v6_4), (11, Z6h l v6_4 v10), (31, Z6B v31_1' v31_3' v31_5'), (91, .cells (AB.c v5'') 146), (100000, Z5Y v6_4), (100001, Z6i v31_1'), (100002, Z6j v31_3'), (100003, Z6k v31_5')]⟩ ?_
      refine Ae _ rfl (fun h3 => ?_) (fun h3 => ?_)
      ·have g3 := oT h3
       refine Ak <| AJ <| AC ?_
       refine Bm (⟨[(0, .av (oL l)), (2, tP 2 0), (4, tO (lst 3 AG.c [Z5H l, Z5I l])), (5, tP 91 0), (6, tP 6 0), (7, tI (W64 (1 + (AA (AA (AB.mk (AZ l 2) 0) 3).2 3).1))), (10, tI v10), (11, tP 11 0), (13, tI v13)], [(2, .cells [.i 0, .i 0, vN, .i 0, vN, vN, vN, vN, vN, vN, vN, vN, vN, vN, vN] 42), (6, .cells [.i 2, .i (Z5P l).Kind, lst 7 AH.c (Z5P l).Edges, .i (Z5P l).R, .own 100000 7 v6_4.length, .own 31 2 3, vN, vN, vN, vN, vN, vN, vN, vN, vN] 42), (11, .cells (AG.c (Z6g l v6_4 v10)) 114), (31, .rowx 2 3 (fun _ _ => default) 48 [(0, [.s ({ data := #[78, 49] } : ByteArray), .own 100004 2 (Z6p v5'' v31_1' v6_4 v10 l v13).length]), (1, [.s ({ data := #[78, 50] } : ByteArray), .own 100005 2 (Z6q v5'' v31_3' v6_4 v10 l v13).length]), (2, [.s ({ data := #[71, 78, 68] } : ByteArray), .own 100006 2 (Z6r v5'' v31_5' v6_4 v10 l v13).length])]), (91, .cells (AB.c (AA v5'' 5).2) 146), (100000, .row 7 v6_4.length (AY AD.c v6_4) 59), (100004, .row 2 (Z6p v5'' v31_1' v6_4 v10 l v13).length (AY AR.c (Z6p v5'' v31_1' v6_4 v10 l v13)) 25), (100005, .row 2 (Z6q v5'' v31_3' v6_4 v10 l v13).length (AY AR.c (Z6q v5'' v31_3' v6_4 v10 l v13)) 25), (100006, .row 2 (Z6r v5'' v31_5' v6_4 v10 l v13).length (AY AR.c (Z6r v5'' v31_5' v6_4 v10 l v13)) 25)]⟩) ?_ ?_
       ·refine Af <| AC ?_
        refine rc [(116, (Z6l v5''))] [Al (Z6l v5'').2.1, BH (.cells (AB.c v5'') 146)] ⟨[(0, Z5F l), (2, tP 2 0), (4, Z5J l), (5, tP 91 0), (6, tP 6 0), (7, Z5S l), (10, tI v10), (11, tP 11 0), (13, tI v13), (14, tI (AA v5'' 5).1)], [(2, Z5G), (6, Z5X l v6_4), (11, Z6h l v6_4 v10), (31, Z6B v31_1' v31_3' v31_5'), (91, .cells (AB.c (AA v5'' 5).2) 146), (100000, Z5Y v6_4), (100001, Z6i v31_1'), (100002, Z6j v31_3'), (100003, Z6k v31_5')]⟩ (.cons (Ai (fun _ _ => kr) kr kr (Bd v5'' 5 au5 au7)) .nil) (.cons rfl (.cons rfl .nil)) <| AJ <| AC ?_
        refine rn ⟨[(0, Z5F l), (2, tP 2 0), (4, Z5J l), (5, tP 91 0), (6, tP 6 0), (7, Z5S l), (10, tI v10), (11, tP 11 0), (13, tI v13), (14, tI (AA v5'' 5).1), (118, tB (decide (((AA v5'' 5).1 : Int) < 3)))], [(2, Z5G), (6, Z5X l v6_4), (11, Z6h l v6_4 v10), (31, Z6B v31_1' v31_3' v31_5'), (91, .cells (AB.c (AA v5'' 5).2) 146), (100000, Z5Y v6_4), (100001, Z6i v31_1'), (100002, Z6j v31_3'), (100003, Z6k v31_5')]⟩ ?_
        refine Ae _ rfl (fun h4 => ?_) (fun h4 => ?_)
        ·have g4 := oT h4
         refine N0 (decide (((AA v5'' 5).1 : Int) = 0)) (fun h5 => ?_) (fun h5 => ?_)
         ·have g5 := oT h5
          (try rw [g5])
          refine dw [] [] [0 <= (0 : Int) /\ (0 : Int) < ((3 : Nat) : Int), 0 <= (v10 : Int) /\ (v10 : Int) < ((v6_4.length : Nat) : Int), v10.toNat < v6_4.length, 0 <= (v13 : Int) /\ (v13 : Int) < (((Z6g l v6_4 v10).Pads.length : Nat) : Int), v31_1'.length = v31_1'.length, v31_1'.length + 1 <= maxLen, (v31_1'.length + 1) * 32 <= 140737488355328, 0 <= (0 : Int) /\ (0 : Int) < ((3 : Nat) : Int)] ⟨[(0, Z5F l), (2, tP 2 0), (4, Z5J l), (5, tP 91 0), (6, tP 6 0), (7, Z5S l), (10, tI v10), (11, tP 11 0), (13, tI v13)], [(2, Z5G), (6, Z5X l v6_4), (11, Z6h l v6_4 v10), (31, .rowx 2 3 (fun _ _ => default) 48 [(0, [.s ({ data := #[78, 49] } : ByteArray), .own 142 2 (v31_1'.length + 1)]), (1, [.s ({ data := #[78, 50] } : ByteArray), .own 100002 2 v31_3'.length]), (2, [.s ({ data := #[71, 78, 68] } : ByteArray), .own 100003 2 v31_5'.length])]), (91, .cells (AB.c (AA v5'' 5).2) 146), (142, .row 2 (v31_1'.length + 1) (fun i_ j_ => if i_ < v31_1'.length then (AY AR.c v31_1') i_ j_ else (A0 2 1 [.s (v6_4.getD v10.toNat default).Ref, .s ((Z6g l v6_4 v10).Pads.getD v13.toNat default).Name]) (i_ - v31_1'.length) j_) 25), (100000, Z5Y v6_4), (100002, Z6j v31_3'), (100003, Z6k v31_5')]⟩ .nil (.cons au11 (.cons au11 (.cons au11 (.cons au11 (.cons rfl (.cons au17 (.cons au17 (.cons au11 .nil)))))))) <| Bq <| AJ ?_
          refine Cv.trans (BR (⟨[(0, Z5F l), (2, tP 2 0), (4, Z5J l), (5, tP 91 0), (6, tP 6 0), (7, Z5S l), (10, tI v10), (11, tP 11 0), (13, tI v13)], [(2, Z5G), (6, Z5X l v6_4), (11, Z6h l v6_4 v10), (31, .rowx 2 3 (fun _ _ => default) 48 [(0, [.s ({ data := #[78, 49] } : ByteArray), .own 142 2 (v31_1' ++ [AR.mk (v6_4.getD v10.toNat default).Ref ((Z6g l v6_4 v10).Pads.getD v13.toNat default).Name]).length]), (1, [.s ({ data := #[78, 50] } : ByteArray), .own 100002 2 v31_3'.length]), (2, [.s ({ data := #[71, 78, 68] } : ByteArray), .own 100003 2 v31_5'.length])]), (91, .cells (AB.c (AA v5'' 5).2) 146), (142, Z6m v31_1' v6_4 v10 l v13), (100000, Z5Y v6_4), (100002, Z6j v31_3'), (100003, Z6k v31_5')]⟩) lr (.cons ⟨rfl, .refl _⟩ (.cons ⟨rfl, .refl _⟩ (.cons ⟨rfl, .refl _⟩ (.cons ⟨rfl, .rowx _ _ _ _ (.cons ⟨rfl, (rr (.cons (.own _ _ au2) .nil))⟩ (.cons ⟨rfl, (rr (rr .nil))⟩ (.cons ⟨rfl, (rr (rr .nil))⟩ .nil)))⟩ (.cons ⟨rfl, .refl _⟩ (.cons ⟨rfl, Aw 25 (BV (BK 2 AR.c v31_1') (A2 (c := AR.c) (xs := ([AR.mk (v6_4.getD v10.toNat default).Ref ((Z6g l v6_4 v10).Pads.getD v13.toNat default).Name] : List AR)) rfl kr))⟩ lr))))))) (Cv.trans (Be (⟨[(0, Z5F l), (2, tP 2 0), (4, Z5J l), (5, tP 91 0), (6, tP 6 0), (7, Z5S l), (10, tI v10), (11, tP 11 0), (13, tI v13)], [(2, Z5G), (6, Z5X l v6_4), (11, Z6h l v6_4 v10), (31, .rowx 2 3 (fun _ _ => default) 48 [(0, [.s ({ data := #[78, 49] } : ByteArray), .own 100004 2 (v31_1' ++ [AR.mk (v6_4.getD v10.toNat default).Ref ((Z6g l v6_4 v10).Pads.getD v13.toNat default).Name]).length]), (1, [.s ({ data := #[78, 50] } : ByteArray), .own 100002 2 v31_3'.length]), (2, [.s ({ data := #[71, 78, 68] } : ByteArray), .own 100003 2 v31_5'.length])]), (91, .cells (AB.c (AA v5'' 5).2) 146), (100004, Z6m v31_1' v6_4 v10 l v13), (100000, Z5Y v6_4), (100002, Z6j v31_3'), (100003, Z6k v31_5')]⟩) 142 100004 (K := []) (fun k x h => by cases h) rfl rfl kr kr) (Cv.trans (Be (⟨[(0, Z5F l), (2, tP 2 0), (4, Z5J l), (5, tP 91 0), (6, tP 6 0), (7, Z5S l), (10, tI v10), (11, tP 11 0), (13, tI v13)], [(2, Z5G), (6, Z5X l v6_4), (11, Z6h l v6_4 v10), (31, .rowx 2 3 (fun _ _ => default) 48 [(0, [.s ({ data := #[78, 49] } : ByteArray), .own 100004 2 (v31_1' ++ [AR.mk (v6_4.getD v10.toNat default).Ref ((Z6g l v6_4 v10).Pads.getD v13.toNat default).Name]).length]), (1, [.s ({ data := #[78, 50] } : ByteArray), .own 100005 2 v31_3'.length]), (2, [.s ({ data := #[71, 78, 68] } : ByteArray), .own 100003 2 v31_5'.length])]), (91, .cells (AB.c (AA v5'' 5).2) 146), (100004, Z6m v31_1' v6_4 v10 l v13), (100000, Z5Y v6_4), (100005, Z6j v31_3'), (100003, Z6k v31_5')]⟩) 100002 100005 (K := []) (fun k x h => by cases h) rfl rfl kr kr) (Cv.trans (Be (⟨[(0, Z5F l), (2, tP 2 0), (4, Z5J l), (5, tP 91 0), (6, tP 6 0), (7, Z5S l), (10, tI v10), (11, tP 11 0), (13, tI v13)], [(2, Z5G), (6, Z5X l v6_4), (11, Z6h l v6_4 v10), (31, Z6C v31_1' v6_4 v10 l v13 v31_3' v31_5'), (91, .cells (AB.c (AA v5'' 5).2) 146), (100004, Z6m v31_1' v6_4 v10 l v13), (100000, Z5Y v6_4), (100005, Z6j v31_3'), (100006, Z6k v31_5')]⟩) 100003 100006 (K := []) (fun k x h => by cases h) rfl rfl kr kr) (Cv.trans (BA [0, 2, 4, 5, 6, 7, 10, 11, 13] [2, 6, 11, 31, 91, 100000, 100004, 100005, 100006] (⟨[(0, Z5F l), (2, tP 2 0), (4, Z5J l), (5, tP 91 0), (6, tP 6 0), (7, Z5S l), (10, tI v10), (11, tP 11 0), (13, tI v13)], [(2, Z5G), (6, Z5X l v6_4), (11, Z6h l v6_4 v10), (31, Z6C v31_1' v6_4 v10 l v13 v31_3' v31_5'), (91, .cells (AB.c (AA v5'' 5).2) 146), (100000, Z5Y v6_4), (100004, Z6m v31_1' v6_4 v10 l v13), (100005, Z6j v31_3'), (100006, Z6k v31_5')]⟩) kr) (A6 ?_)))))
          first | rfl | (simp only [h4, h5, Z6p, Z6q, Z6r, cond_true, cond_false] <;> rfl)
         ·have g5 := oF h5
          refine N0 (decide (((AA v5'' 5).1 : Int) = 1)) (fun h6 => ?_) (fun h6 => ?_)
          ·have g6 := oT h6
           (try rw [g6])
           refine dw [] [] [0 <= (1 : Int) /\ (1 : Int) < ((3 : Nat) : Int), 0 <= (v10 : Int) /\ (v10 : Int) < ((v6_4.length : Nat) : Int), v10.toNat < v6_4.length, 0 <= (v13 : Int) /\ (v13 : Int) < (((Z6g l v6_4 v10).Pads.length : Nat) : Int), v31_3'.length = v31_3'.length, v31_3'.length + 1 <= maxLen, (v31_3'.length + 1) * 32 <= 140737488355328, 0 <= (1 : Int) /\ (1 : Int) < ((3 : Nat) : Int)] ⟨[(0, Z5F l), (2, tP 2 0), (4, Z5J l), (5, tP 91 0), (6, tP 6 0), (7, Z5S l), (10, tI v10), (11, tP 11 0), (13, tI v13)], [(2, Z5G), (6, Z5X l v6_4), (11, Z6h l v6_4 v10), (31, .rowx 2 3 (fun _ _ => default) 48 [(0, [.s ({ data := #[78, 49] } : ByteArray), .own 100001 2 v31_1'.length]), (1, [.s ({ data := #[78, 50] } : ByteArray), .own 142 2 (v31_3'.length + 1)]), (2, [.s ({ data := #[71, 78, 68] } : ByteArray), .own 100003 2 v31_5'.length])]), (91, .cells (AB.c (AA v5'' 5).2) 146), (142, .row 2 (v31_3'.length + 1) (fun i_ j_ => if i_ < v31_3'.length then (AY AR.c v31_3') i_ j_ else (A0 2 1 [.s (v6_4.getD v10.toNat default).Ref, .s ((Z6g l v6_4 v10).Pads.getD v13.toNat default).Name]) (i_ - v31_3'.length) j_) 25), (100000, Z5Y v6_4), (100001, Z6i v31_1'), (100003, Z6k v31_5')]⟩ .nil (.cons au11 (.cons au11 (.cons au11 (.cons au11 (.cons rfl (.cons au17 (.cons au17 (.cons au11 .nil)))))))) <| Bq <| AJ ?_
           refine Cv.trans (BR (⟨[(0, Z5F l), (2, tP 2 0), (4, Z5J l), (5, tP 91 0), (6, tP 6 0), (7, Z5S l), (10, tI v10), (11, tP 11 0), (13, tI v13)], [(2, Z5G), (6, Z5X l v6_4), (11, Z6h l v6_4 v10), (31, .rowx 2 3 (fun _ _ => default) 48 [(0, [.s ({ data := #[78, 49] } : ByteArray), .own 100001 2 v31_1'.length]), (1, [.s ({ data := #[78, 50] } : ByteArray), .own 142 2 (v31_3' ++ [AR.mk (v6_4.getD v10.toNat default).Ref ((Z6g l v6_4 v10).Pads.getD v13.toNat default).Name]).length]), (2, [.s ({ data := #[71, 78, 68] } : ByteArray), .own 100003 2 v31_5'.length])]), (91, .cells (AB.c (AA v5'' 5).2) 146), (142, Z6n v31_3' v6_4 v10 l v13), (100000, Z5Y v6_4), (100001, Z6i v31_1'), (100003, Z6k v31_5')]⟩) lr (.cons ⟨rfl, .refl _⟩ (.cons ⟨rfl, .refl _⟩ (.cons ⟨rfl, .refl _⟩ (.cons ⟨rfl, .rowx _ _ _ _ (.cons ⟨rfl, (rr (rr .nil))⟩ (.cons ⟨rfl, (rr (.cons (.own _ _ au2) .nil))⟩ (.cons ⟨rfl, (rr (rr .nil))⟩ .nil)))⟩ (.cons ⟨rfl, .refl _⟩ (.cons ⟨rfl, Aw 25 (BV (BK 2 AR.c v31_3') (A2 (c := AR.c) (xs := ([AR.mk (v6_4.getD v10.toNat default).Ref ((Z6g l v6_4 v10).Pads.getD v13.toNat default).Name] : List AR)) rfl kr))⟩ lr))))))) (Cv.trans (Be (⟨[(0, Z5F l), (2, tP 2 0), (4, Z5J l), (5, tP 91 0), (6, tP 6 0), (7, Z5S l), (10, tI v10), (11, tP 11 0), (13, tI v13)], [(2, Z5G), (6, Z5X l v6_4), (11, Z6h l v6_4 v10), (31, .rowx 2 3 (fun _ _ => default) 48 [(0, [.s ({ data := #[78, 49] } : ByteArray), .own 100004 2 v31_1'.length]), (1, [.s ({ data := #[78, 50] } : ByteArray), .own 142 2 (v31_3' ++ [AR.mk (v6_4.getD v10.toNat default).Ref ((Z6g l v6_4 v10).Pads.getD v13.toNat default).Name]).length]), (2, [.s ({ data := #[71, 78, 68] } : ByteArray), .own 100003 2 v31_5'.length])]), (91, .cells (AB.c (AA v5'' 5).2) 146), (142, Z6n v31_3' v6_4 v10 l v13), (100000, Z5Y v6_4), (100004, Z6i v31_1'), (100003, Z6k v31_5')]⟩) 100001 100004 (K := []) (fun k x h => by cases h) rfl rfl kr kr) (Cv.trans (Be (⟨[(0, Z5F l), (2, tP 2 0), (4, Z5J l), (5, tP 91 0), (6, tP 6 0), (7, Z5S l), (10, tI v10), (11, tP 11 0), (13, tI v13)], [(2, Z5G), (6, Z5X l v6_4), (11, Z6h l v6_4 v10), (31, .rowx 2 3 (fun _ _ => default) 48 [(0, [.s ({ data := #[78, 49] } : ByteArray), .own 100004 2 v31_1'.length]), (1, [.s ({ data := #[78, 50] } : ByteArray), .own 100005 2 (v31_3' ++ [AR.mk (v6_4.getD v10.toNat default).Ref ((Z6g l v6_4 v10).Pads.getD v13.toNat default).Name]).length]), (2, [.s ({ data := #[71, 78, 68] } : ByteArray), .own 100003 2 v31_5'.length])]), (91, .cells (AB.c (AA v5'' 5).2) 146), (100005, Z6n v31_3' v6_4 v10 l v13), (100000, Z5Y v6_4), (100004, Z6i v31_1'), (100003, Z6k v31_5')]⟩) 142 100005 (K := []) (fun k x h => by cases h) rfl rfl kr kr) (Cv.trans (Be (⟨[(0, Z5F l), (2, tP 2 0), (4, Z5J l), (5, tP 91 0), (6, tP 6 0), (7, Z5S l), (10, tI v10), (11, tP 11 0), (13, tI v13)], [(2, Z5G), (6, Z5X l v6_4), (11, Z6h l v6_4 v10), (31, Z6D v31_1' v31_3' v6_4 v10 l v13 v31_5'), (91, .cells (AB.c (AA v5'' 5).2) 146), (100005, Z6n v31_3' v6_4 v10 l v13), (100000, Z5Y v6_4), (100004, Z6i v31_1'), (100006, Z6k v31_5')]⟩) 100003 100006 (K := []) (fun k x h => by cases h) rfl rfl kr kr) (Cv.trans (BA [0, 2, 4, 5, 6, 7, 10, 11, 13] [2, 6, 11, 31, 91, 100000, 100004, 100005, 100006] (⟨[(0, Z5F l), (2, tP 2 0), (4, Z5J l), (5, tP 91 0), (6, tP 6 0), (7, Z5S l), (10, tI v10), (11, tP 11 0), (13, tI v13)], [(2, Z5G), (6, Z5X l v6_4), (11, Z6h l v6_4 v10), (31, Z6D v31_1' v31_3' v6_4 v10 l v13 v31_5'), (91, .cells (AB.c (AA v5'' 5).2) 146), (100000, Z5Y v6_4), (100004, Z6i v31_1'), (100005, Z6n v31_3' v6_4 v10 l v13), (100006, Z6k v31_5')]⟩) kr) (A6 ?_)))))
           first | rfl | (simp only [h4, h5, h6, Z6p, Z6q, Z6r, cond_true, cond_false] <;> rfl)
          ·have g6 := oF h6
           have g7 : ((AA v5'' 5).1 : Int) = 2 := Qb (by with_reducible assumption) (by with_reducible assumption) (by with_reducible assumption)
           (try rw [g7])
           refine dw [] [] [0 <= (2 : Int) /\ (2 : Int) < ((3 : Nat) : Int), 0 <= (v10 : Int) /\ (v10 : Int) < ((v6_4.length : Nat) : Int), v10.toNat < v6_4.length, 0 <= (v13 : Int) /\ (v13 : Int) < (((Z6g l v6_4 v10).Pads.length : Nat) : Int), v31_5'.length = v31_5'.length, v31_5'.length + 1 <= maxLen, (v31_5'.length + 1) * 32 <= 140737488355328, 0 <= (2 : Int) /\ (2 : Int) < ((3 : Nat) : Int)] ⟨[(0, Z5F l), (2, tP 2 0), (4, Z5J l), (5, tP 91 0), (6, tP 6 0), (7, Z5S l), (10, tI v10), (11, tP 11 0), (13, tI v13)], [(2, Z5G), (6, Z5X l v6_4), (11, Z6h l v6_4 v10), (31, .rowx 2 3 (fun _ _ => default) 48 [(0, [.s ({ data := #[78, 49] } : ByteArray), .own 100001 2 v31_1'.length]), (1, [.s ({ data := #[78, 50] } : ByteArray), .own 100002 2 v31_3'.length]), (2, [.s ({ data := #[71, 78, 68] } : ByteArray), .own 142 2 (v31_5'.length + 1)])]), (91, .cells (AB.c (AA v5'' 5).2) 146), (142, .row 2 (v31_5'.length + 1) (fun i_ j_ => if i_ < v31_5'.length then (AY AR.c v31_5') i_ j_ else (A0 2 1 [.s (v6_4.getD v10.toNat default).Ref, .s ((Z6g l v6_4 v10).Pads.getD v13.toNat default).Name]) (i_ - v31_5'.length) j_) 25), (100000, Z5Y v6_4), (100001, Z6i v31_1'), (100002, Z6j v31_3')]⟩ .nil (.cons au11 (.cons au11 (.cons au11 (.cons au11 (.cons rfl (.cons au17 (.cons au17 (.cons au11 .nil)))))))) <| Bq <| AJ ?_
           refine Cv.trans (BR (⟨[(0, Z5F l), (2, tP 2 0), (4, Z5J l), (5, tP 91 0), (6, tP 6 0), (7, Z5S l), (10, tI v10), (11, tP 11 0), (13, tI v13)], [(2, Z5G), (6, Z5X l v6_4), (11, Z6h l v6_4 v10), (31, .rowx 2 3 (fun _ _ => default) 48 [(0, [.s ({ data := #[78, 49] } : ByteArray), .own 100001 2 v31_1'.length]), (1, [.s ({ data := #[78, 50] } : ByteArray), .own 100002 2 v31_3'.length]), (2, [.s ({ data := #[71, 78, 68] } : ByteArray), .own 142 2 (v31_5' ++ [AR.mk (v6_4.getD v10.toNat default).Ref ((Z6g l v6_4 v10).Pads.getD v13.toNat default).Name]).length])]), (91, .cells (AB.c (AA v5'' 5).2) 146), (142, Z6o v31_5' v6_4 v10 l v13), (100000, Z5Y v6_4), (100001, Z6i v31_1'), (100002, Z6j v31_3')]⟩) lr (.cons ⟨rfl, .refl _⟩ (.cons ⟨rfl, .refl _⟩ (.cons ⟨rfl, .refl _⟩ (.cons ⟨rfl, .rowx _ _ _ _ (.cons ⟨rfl, (rr (rr .nil))⟩ (.cons ⟨rfl, (rr (rr .nil))⟩ (.cons ⟨rfl, (rr (.cons (.own _ _ au2) .nil))⟩ .nil)))⟩ (.cons ⟨rfl, .refl _⟩ (.cons ⟨rfl, Aw 25 (BV (BK 2 AR.c v31_5') (A2 (c := AR.c) (xs := ([AR.mk (v6_4.getD v10.toNat default).Ref ((Z6g l v6_4 v10).Pads.getD v13.toNat default).Name] : List AR)) rfl kr))⟩ lr))))))) (Cv.trans (Be (⟨[(0, Z5F l), (2, tP 2 0), (4, Z5J l), (5, tP 91 0), (6, tP 6 0), (7, Z5S l), (10, tI v10), (11, tP 11 0), (13, tI v13)], [(2, Z5G), (6, Z5X l v6_4), (11, Z6h l v6_4 v10), (31, .rowx 2 3 (fun _ _ => default) 48 [(0, [.s ({ data := #[78, 49] } : ByteArray), .own 100004 2 v31_1'.length]), (1, [.s ({ data := #[78, 50] } : ByteArray), .own 100002 2 v31_3'.length]), (2, [.s ({ data := #[71, 78, 68] } : ByteArray), .own 142 2 (v31_5' ++ [AR.mk (v6_4.getD v10.toNat default).Ref ((Z6g l v6_4 v10).Pads.getD v13.toNat default).Name]).length])]), (91, .cells (AB.c (AA v5'' 5).2) 146), (142, Z6o v31_5' v6_4 v10 l v13), (100000, Z5Y v6_4), (100004, Z6i v31_1'), (100002, Z6j v31_3')]⟩) 100001 100004 (K := []) (fun k x h => by cases h) rfl rfl kr kr) (Cv.trans (Be (⟨[(0, Z5F l), (2, tP 2 0), (4, Z5J l), (5, tP 91 0), (6, tP 6 0), (7, Z5S l), (10, tI v10), (11, tP 11 0), (13, tI v13)], [(2, Z5G), (6, Z5X l v6_4), (11, Z6h l v6_4 v10), (31, .rowx 2 3 (fun _ _ => default) 48 [(0, [.s ({ data := #[78, 49] } : ByteArray), .own 100004 2 v31_1'.length]), (1, [.s ({ data := #[78, 50] } : ByteArray), .own 100005 2 v31_3'.length]), (2, [.s ({ data := #[71, 78, 68] } : ByteArray), .own 142 2 (v31_5' ++ [AR.mk (v6_4.getD v10.toNat default).Ref ((Z6g l v6_4 v10).Pads.getD v13.toNat default).Name]).length])]), (91, .cells (AB.c (AA v5'' 5).2) 146), (142, Z6o v31_5' v6_4 v10 l v13), (100000, Z5Y v6_4), (100004, Z6i v31_1'), (100005, Z6j v31_3')]⟩) 100002 100005 (K := []) (fun k x h => by cases h) rfl rfl kr kr) (Cv.trans (Be (⟨[(0, Z5F l), (2, tP 2 0), (4, Z5J l), (5, tP 91 0), (6, tP 6 0), (7, Z5S l), (10, tI v10), (11, tP 11 0), (13, tI v13)], [(2, Z5G), (6, Z5X l v6_4), (11, Z6h l v6_4 v10), (31, Z6E v31_1' v31_3' v31_5' v6_4 v10 l v13), (91, .cells (AB.c (AA v5'' 5).2) 146), (100006, Z6o v31_5' v6_4 v10 l v13), (100000, Z5Y v6_4), (100004, Z6i v31_1'), (100005, Z6j v31_3')]⟩) 142 100006 (K := []) (fun k x h => by cases h) rfl rfl kr kr) (Cv.trans (BA [0, 2, 4, 5, 6, 7, 10, 11, 13] [2, 6, 11, 31, 91, 100000, 100004, 100005, 100006] (⟨[(0, Z5F l), (2, tP 2 0), (4, Z5J l), (5, tP 91 0), (6, tP 6 0), (7, Z5S l), (10, tI v10), (11, tP 11 0), (13, tI v13)], [(2, Z5G), (6, Z5X l v6_4), (11, Z6h l v6_4 v10), (31, Z6E v31_1' v31_3' v31_5' v6_4 v10 l v13), (91, .cells (AB.c (AA v5'' 5).2) 146), (100000, Z5Y v6_4), (100004, Z6i v31_1'), (100005, Z6j v31_3'), (100006, Z6o v31_5' v6_4 v10 l v13)]⟩) kr) (A6 ?_)))))
           first | rfl | (simp only [h4, h5, h6, Z6p, Z6q, Z6r, cond_true, cond_false] <;> rfl)
        ·have g4 := oF h4
         refine Ak <| Bq <| AJ ?_
         refine Cv.trans (BA [0, 2, 4, 5, 6, 7, 10, 11, 13] [2, 6, 11, 31, 91, 100000, 100001, 100002, 100003] (⟨[(0, Z5F l), (2, tP 2 0), (4, Z5J l), (5, tP 91 0), (6, tP 6 0), (7, Z5S l), (10, tI v10), (11, tP 11 0), (13, tI v13)], [(2, Z5G), (6, Z5X l v6_4), (11, Z6h l v6_4 v10), (31, Z6B v31_1' v31_3' v31_5'), (91, .cells (AB.c (AA v5'' 5).2) 146), (100000, Z5Y v6_4), (100001, Z6i v31_1'), (100002, Z6j v31_3'), (100003, Z6k v31_5')]⟩) kr) (Cv.trans (Be (⟨[(0, Z5F l), (2, tP 2 0), (4, Z5J l), (5, tP 91 0), (6, tP 6 0), (7, Z5S l), (10, tI v10), (11, tP 11 0), (13, tI v13)], [(2, Z5G), (6, Z5X l v6_4), (11, Z6h l v6_4 v10), (31, .rowx 2 3 (fun _ _ => default) 48 [(0, [.s ({ data := #[78, 49] } : ByteArray), .own 100004 2 v31_1'.length]), (1, [.s ({ data := #[78, 50] } : ByteArray), .own 100002 2 v31_3'.length]), (2, [.s ({ data := #[71, 78, 68] } : ByteArray), .own 100003 2 v31_5'.length])]), (91, .cells (AB.c (AA v5'' 5).2) 146), (100000, Z5Y v6_4), (100004, Z6i v31_1'), (100002, Z6j v31_3'), (100003, Z6k v31_5')]⟩) 100001 100004 (K := []) (fun k x h => by cases h) rfl rfl kr kr) (Cv.trans (Be (⟨[(0, Z5F l), (2, tP 2 0), (4, Z5J l), (5, tP 91 0), (6, tP 6 0), (7, Z5S l), (10, tI v10), (11, tP 11 0), (13, tI v13)], [(2, Z5G), (6, Z5X l v6_4), (11, Z6h l v6_4 v10), (31, .rowx 2 3 (fun _ _ => default) 48 [(0, [.s ({ data := #[78, 49] } : ByteArray), .own 100004 2 v31_1'.length]), (1, [.s ({ data := #[78, 50] } : ByteArray), .own 100005 2 v31_3'.length]), (2, [.s ({ data := #[71, 78, 68] } : ByteArray), .own 100003 2 v31_5'.length])]), (91, .cells (AB.c (AA v5'' 5).2) 146), (100000, Z5Y v6_4), (100004, Z6i v31_1'), (100005, Z6j v31_3'), (100003, Z6k v31_5')]⟩) 100002 100005 (K := []) (fun k x h => by cases h) rfl rfl kr kr) (Cv.trans (Be (⟨[(0, Z5F l), (2, tP 2 0), (4, Z5J l), (5, tP 91 0), (6, tP 6 0), (7, Z5S l), (10, tI v10), (11, tP 11 0), (13, tI v13)], [(2, Z5G), (6, Z5X l v6_4), (11, Z6h l v6_4 v10), (31, .rowx 2 3 (fun _ _ => default) 48 [(0, [.s ({ data := #[78, 49] } : ByteArray), .own 100004 2 v31_1'.length]), (1, [.s ({ data := #[78, 50] } : ByteArray), .own 100005 2 v31_3'.length]), (2, [.s ({ data := #[71, 78, 68] } : ByteArray), .own 100006 2 v31_5'.length])]), (91, .cells (AB.c (AA v5'' 5).2) 146), (100000, Z5Y v6_4), (100004, Z6i v31_1'), (100005, Z6j v31_3'), (100006, Z6k v31_5')]⟩) 100003 100006 (K := []) (fun k x h => by cases h) rfl rfl kr kr) (A6 ?_))))
         first | rfl | (simp only [h4, Z6p, Z6q, Z6r, cond_true, cond_false] <;> rfl)
       refine rg ⟨[(0, Z5F l), (2, tP 2 0), (4, Z5J l), (5, tP 91 0), (6, tP 6 0), (7, Z5S l), (10, tI v10), (11, tP 11 0), (13, tI (W64 (v13 + 1)))], [(2, Z5G), (6, Z5X l v6_4), (11, Z6h l v6_4 v10), (31, .rowx 2 3 (fun _ _ => default) 48 [(0, [.s ({ data := #[78, 49] } : ByteArray), .own 100004 2 (Z6p v5'' v31_1' v6_4 v10 l v13).length]), (1, [.s ({ data := #[78, 50] } : ByteArray), .own 100005 2 (Z6q v5'' v31_3' v6_4 v10 l v13).length]), (2, [.s ({ data := #[71, 78, 68] } : ByteArray), .own 100006 2 (Z6r v5'' v31_5' v6_4 v10 l v13).length])]), (91, .cells (AB.c (AA v5'' 5).2) 146), (100000, Z5Y v6_4), (100004, Z6s v5'' v31_1' v6_4 v10 l v13), (100005, Z6t v5'' v31_3' v6_4 v10 l v13), (100006, Z6u v5'' v31_5' v6_4 v10 l v13)]⟩ ?_
       (try rw [(show W64 (v13 + 1) = v13 + 1 from BP (by omega) au9)])
       refine AJ ?_
       refine ⟨(n2, Z6p v5'' v31_1' v6_4 v10 l v13, Z6q v5'' v31_3' v6_4 v10 l v13, Z6r v5'' v31_5' v6_4 v10 l v13, (AA v5'' 5).2, v13 + 1), ⟨?_, ?_, (by rw [<- hF2]; simp only [DW, h3, cond_true, cond_false])⟩, Nat.lt_succ_self _, Cv.trans (Be (⟨[(0, Z5F l), (2, tP 2 0), (4, Z5J l), (5, tP 91 0), (6, tP 6 0), (7, Z5S l), (10, tI v10), (11, tP 11 0), (13, tI (v13 + 1))], [(2, Z5G), (6, Z5X l v6_4), (11, Z6h l v6_4 v10), (31, .rowx 2 3 (fun _ _ => default) 48 [(0, [.s ({ data := #[78, 49] } : ByteArray), .own 100001 2 (Z6p v5'' v31_1' v6_4 v10 l v13).length]), (1, [.s ({ data := #[78, 50] } : ByteArray), .own 100005 2 (Z6q v5'' v31_3' v6_4 v10 l v13).length]), (2, [.s ({ data := #[71, 78, 68] } : ByteArray), .own 100006 2 (Z6r v5'' v31_5' v6_4 v10 l v13).length])]), (91, .cells (AB.c (AA v5'' 5).2) 146), (100000, Z5Y v6_4), (100001, Z6s v5'' v31_1' v6_4 v10 l v13), (100005, Z6t v5'' v31_3' v6_4 v10 l v13), (100006, Z6u v5'' v31_5' v6_4 v10 l v13)]⟩) 100004 100001 (K := []) (fun k x h => by cases h) rfl rfl kr kr) (Cv.trans (Be (⟨[(0, Z5F l), (2, tP 2 0), (4, Z5J l), (5, tP 91 0), (6, tP 6 0), (7, Z5S l), (10, tI v10), (11, tP 11 0), (13, tI (v13 + 1))], [(2, Z5G), (6, Z5X l v6_4), (11, Z6h l v6_4 v10), (31, .rowx 2 3 (fun _ _ => default) 48 [(0, [.s ({ data := #[78, 49] } : ByteArray), .own 100001 2 (Z6p v5'' v31_1' v6_4 v10 l v13).length]), (1, [.s ({ data := #[78, 50] } : ByteArray), .own 100002 2 (Z6q v5'' v31_3' v6_4 v10 l v13).length]), (2, [.s ({ data := #[71, 78, 68] } : ByteArray), .own 100006 2 (Z6r v5'' v31_5' v6_4 v10 l v13).length])]), (91, .cells (AB.c (AA v5'' 5).2) 146), (100000, Z5Y v6_4), (100001, Z6s v5'' v31_1' v6_4 v10 l v13), (100002, Z6t v5'' v31_3' v6_4 v10 l v13), (100006, Z6u v5'' v31_5' v6_4 v10 l v13)]⟩) 100005 100002 (K := []) (fun k x h => by cases h) rfl rfl kr kr) (Cv.trans (Be (⟨[(0, Z5F l), (2, tP 2 0), (4, Z5J l), (5, tP 91 0), (6, tP 6 0), (7, Z5S l), (10, tI v10), (11, tP 11 0), (13, tI (v13 + 1))], [(2, Z5G), (6, Z5X l v6_4), (11, Z6h l v6_4 v10), (31, .rowx 2 3 (fun _ _ => default) 48 [(0, [.s ({ data := #[78, 49] } : ByteArray), .own 100001 2 (Z6p v5'' v31_1' v6_4 v10 l v13).length]), (1, [.s ({ data := #[78, 50] } : ByteArray), .own 100002 2 (Z6q v5'' v31_3' v6_4 v10 l v13).length]), (2, [.s ({ data := #[71, 78, 68] } : ByteArray), .own 100003 2 (Z6r v5'' v31_5' v6_4 v10 l v13).length])]), (91, .cells (AB.c (AA v5'' 5).2) 146), (100000, Z5Y v6_4), (100001, Z6s v5'' v31_1' v6_4 v10 l v13), (100002, Z6t v5'' v31_3' v6_4 v10 l v13), (100003, Z6u v5'' v31_5' v6_4 v10 l v13)]⟩) 100006 100003 (K := []) (fun k x h => by cases h) rfl rfl kr kr) (A6 kr)))⟩
       ·show (((Z6g l v6_4 v10).Pads.length : Int) - (v13 + 1)).toNat < n2; omega
       ·exact ⟨(by show Co (Z6p v5'' v31_1' v6_4 v10 l v13) (6 * v10 + (v13 + 1)); unfold Co at *; repeat (first | omega | exact D7 (by omega) | refine D6 ?_ ?_ | (simp; done))), (by show Co (Z6q v5'' v31_3' v6_4 v10 l v13) (6 * v10 + (v13 + 1)); unfold Co at *; repeat (first | omega | exact D7 (by omega) | refine D6 ?_ ?_ | (simp; done))), (by show Co (Z6r v5'' v31_5' v6_4 v10 l v13) (6 * v10 + (v13 + 1)); unfold Co at *; repeat (first | omega | exact D7 (by omega) | refine D6 ?_ ?_ | (simp; done))), (by show Bp ((AA v5'' 5).2); repeat (first | with_reducible assumption | exact CS (Cz hll _) | with_reducible refine BX ?_ | with_reducible refine Dv ?_ | with_reducible refine DD ?_ | with_reducible refine Cs ?_  | with_reducible refine Cc ?_ ?_)), ax0, ax0⟩
      ·have g3 := oF h3
       refine BZ <| BI ?_
       refine BI <| Ba ?_
       refine Bq <| AJ ?_
       refine rg ⟨[(0, Z5F l), (2, tP 2 0), (4, Z5J l), (5, tP 91 0), (6, tP 6 0), (7, Z5S l), (10, tI (W64 (v10 + 1)))], [(2, Z5G), (6, Z5X l v6_4), (31, Z6B v31_1' v31_3' v31_5'), (91, .cells (AB.c v5'') 146), (100000, Z5Y v6_4), (100001, Z6i v31_1'), (100002, Z6j v31_3'), (100003, Z6k v31_5')]⟩ ?_
       (try rw [(show W64 (v10 + 1) = v10 + 1 from BP (by omega) au9)])
       refine AJ ?_
       refine ⟨(n1, v31_1', v31_3', v31_5', v5'', v10 + 1), ⟨?_, ?_, (by rw [<- hF2]; simp only [DW, h3, cond_true, cond_false])⟩, Nat.lt_succ_self _, A6 kr⟩
       ·show ((W64 (1 + (AA (AA (AB.mk (AZ l 2) 0) 3).2 3).1)) - (v10 + 1)).toNat < n1; omega
       ·exact ⟨(by show Co v31_1' (6 * (v10 + 1)); unfold Co at *; repeat (first | omega | exact D7 (by omega) | refine D6 ?_ ?_ | (simp; done))), (by show Co v31_3' (6 * (v10 + 1)); unfold Co at *; repeat (first | omega | exact D7 (by omega) | refine D6 ?_ ?_ | (simp; done))), (by show Co v31_5' (6 * (v10 + 1)); unfold Co at *; repeat (first | omega | exact D7 (by omega) | refine D6 ?_ ?_ | (simp; done))), (by show Bp v5''; repeat (first | with_reducible assumption | exact CS (Cz hll _) | with_reducible refine BX ?_ | with_reducible refine Dv ?_ | with_reducible refine DD ?_ | with_reducible refine Cs ?_  | with_reducible refine Cc ?_ ?_)), ax0, ax0⟩
    ·have g2 := oF h2
     have k2 := MR g2 (by decide) (by decide) (by decide) (by decide)
     refine BZ <| BI ?_
     refine BI <| Ba ?_
     refine AJ <| AC ?_
     refine Bl (Cv.trans (Cu (⟨[(0, Z5F l), (2, tP 2 0), (4, Z5J l), (5, tP 91 0), (6, tP 6 0), (7, Z5S l), (10, tI v10), (94, Z6f v10 l)], [(2, Z5G), (6, Z6e l v6_4), (31, Z6A v31_1 v31_3 v31_5), (91, .cells (AB.c v5') 146), (100001, Z6b v31_1), (100002, Z6c v31_3), (100003, Z6d v31_5)]⟩) 100000 7 v6_4.length (AY AD.c v6_4) 59 (K := []) (fun k x h => by cases h) kr kr (.cons ⟨rfl, rfl⟩ .nil) kr) (Cv.refl _)) ?_
     refine Bl (Cv.trans (Cu (⟨[(0, Z5F l), (2, tP 2 0), (4, Z5J l), (5, tP 91 0), (6, tP 6 0), (7, Z5S l), (10, tI v10), (94, Z6f v10 l)], [(2, Z5G), (6, Z6e l v6_4), (31, .rowx 2 3 (fun _ _ => default) 48 [(0, [.s ({ data := #[78, 49] } : ByteArray), lst 2 AR.c v31_1]), (1, [.s ({ data := #[78, 50] } : ByteArray), .own 100002 2 v31_3.length]), (2, [.s ({ data := #[71, 78, 68] } : ByteArray), .own 100003 2 v31_5.length])]), (91, .cells (AB.c v5') 146), (100002, Z6c v31_3), (100003, Z6d v31_5)]⟩) 100001 2 v31_1.length (AY AR.c v31_1) 25 (K := []) (fun k x h => by cases h) kr kr (.cons ⟨rfl, rfl⟩ .nil) kr) (Cv.trans (Cu (⟨[(0, Z5F l), (2, tP 2 0), (4, Z5J l), (5, tP 91 0), (6, tP 6 0), (7, Z5S l), (10, tI v10), (94, Z6f v10 l)], [(2, Z5G), (6, Z6e l v6_4), (31, .rowx 2 3 (fun _ _ => default) 48 [(0, [.s ({ data := #[78, 49] } : ByteArray), lst 2 AR.c v31_1]), (1, [.s ({ data := #[78, 50] } : ByteArray), lst 2 AR.c v31_3]), (2, [.s ({ data := #[71, 78, 68] } : ByteArray), .own 100003 2 v31_5.length])]), (91, .cells (AB.c v5') 146), (100003, Z6d v31_5)]⟩) 100002 2 v31_3.length (AY AR.c v31_3) 25 (K := []) (fun k x h => by cases h) kr kr (.cons ⟨rfl, rfl⟩ .nil) kr) (Cv.trans (Cu (⟨[(0, Z5F l), (2, tP 2 0), (4, Z5J l), (5, tP 91 0), (6, tP 6 0), (7, Z5S l), (10, tI v10), (94, Z6f v10 l)], [(2, Z5G), (6, Z6e l v6_4), (31, .rowx 2 3 (fun _ _ => default) 48 [(0, [.s ({ data := #[78, 49] } : ByteArray), lst 2 AR.c v31_1]), (1, [.s ({ data := #[78, 50] } : ByteArray), lst 2 AR.c v31_3]), (2, [.s ({ data := #[71, 78, 68] } : ByteArray), lst 2 AR.c v31_5])]), (91, .cells (AB.c v5') 146)]⟩) 100003 2 v31_5.length (AY AR.c v31_5) 25 (K := []) (fun k x h => by cases h) kr kr (.cons ⟨rfl, rfl⟩ .nil) kr) (Cv.trans (SU (⟨[(0, Z5F l), (2, tP 2 0), (4, Z5J l), (5, tP 91 0), (6, tP 6 0), (7, Z5S l), (10, tI v10), (94, Z6f v10 l)], [(2, Z5G), (6, Z6e l v6_4), (31, .row 2 3 (A0 2 3 [.s ({ data := #[78, 49] } : ByteArray), lst 2 AR.c v31_1, .s ({ data := #[78, 50] } : ByteArray), lst 2 AR.c v31_3, .s ({ data := #[71, 78, 68] } : ByteArray), lst 2 AR.c v31_5]) 48), (91, .cells (AB.c v5') 146)]⟩) 31 2 3 (fun _ _ => default) 48 [[.s ({ data := #[78, 49] } : ByteArray), lst 2 AR.c v31_1], [.s ({ data := #[78, 50] } : ByteArray), lst 2 AR.c v31_3], [.s ({ data := #[71, 78, 68] } : ByteArray), lst 2 AR.c v31_5]] kr kr kr kr) (Cv.trans (BR (⟨[(0, Z5F l), (2, tP 2 0), (4, Z5J l), (5, tP 91 0), (6, tP 6 0), (7, Z5S l), (10, tI v10), (94, Z6f v10 l)], [(2, Z5G), (6, .cells [.i 2, .i (Z5P l).Kind, lst 7 AH.c (Z5P l).Edges, .i (Z5P l).R, lst 7 AD.c v6_4, .own 31 2 ([Ad.mk ({ data := #[78, 49] } : ByteArray) v31_1, Ad.mk ({ data := #[78, 50] } : ByteArray) v31_3, Ad.mk ({ data := #[71, 78, 68] } : ByteArray) v31_5].length), vN, vN, vN, vN, vN, vN, vN, vN, vN] 42), (31, .row 2 ([Ad.mk ({ data := #[78, 49] } : ByteArray) v31_1, Ad.mk ({ data := #[78, 50] } : ByteArray) v31_3, Ad.mk ({ data := #[71, 78, 68] } : ByteArray) v31_5].length) (AY Ad.c [Ad.mk ({ data := #[78, 49] } : ByteArray) v31_1, Ad.mk ({ data := #[78, 50] } : ByteArray) v31_3, Ad.mk ({ data := #[71, 78, 68] } : ByteArray) v31_5]) 48), (91, .cells (AB.c v5') 146)]⟩) lr (.cons ⟨rfl, .refl _⟩ (.cons ⟨rfl, .cells _ (rr (rr (rr (rr (rr (.cons (.own _ _ au2) (rr (rr (rr (rr (rr (rr (rr (rr (rr .nil)))))))))))))))⟩ (.cons ⟨rfl, Aw 48 (A2 (c := Ad.c) (xs := ([Ad.mk ({ data := #[78, 49] } : ByteArray) v31_1, Ad.mk ({ data := #[78, 50] } : ByteArray) v31_3, Ad.mk ({ data := #[71, 78, 68] } : ByteArray) v31_5] : List Ad)) rfl kr)⟩ lr)))) (Cv.trans (Cu (⟨[(0, Z5F l), (2, tP 2 0), (4, Z5J l), (5, tP 91 0), (6, tP 6 0), (7, Z5S l), (10, tI v10), (94, Z6f v10 l)], [(2, Z5G), (6, .cells [.i 2, .i (Z5P l).Kind, lst 7 AH.c (Z5P l).Edges, .i (Z5P l).R, lst 7 AD.c v6_4, lst 2 Ad.c [Ad.mk ({ data := #[78, 49] } : ByteArray) v31_1, Ad.mk ({ data := #[78, 50] } : ByteArray) v31_3, Ad.mk ({ data := #[71, 78, 68] } : ByteArray) v31_5], vN, vN, vN, vN, vN, vN, vN, vN, vN] 42), (91, .cells (AB.c v5') 146)]⟩) 31 2 ([Ad.mk ({ data := #[78, 49] } : ByteArray) v31_1, Ad.mk ({ data := #[78, 50] } : ByteArray) v31_3, Ad.mk ({ data := #[71, 78, 68] } : ByteArray) v31_5].length) (AY Ad.c [Ad.mk ({ data := #[78, 49] } : ByteArray) v31_1, Ad.mk ({ data := #[78, 50] } : ByteArray) v31_3, Ad.mk ({ data := #[71, 78, 68] } : ByteArray) v31_5]) 48 (K := []) (fun k x h => by cases h) kr kr (.cons ⟨rfl, rfl⟩ .nil) kr) (Cv.refl _))))))) ?_
     refine rc [(147, (Z6w l v6_4 v31_1 v31_3 v31_5))] [Al (Z6w l v6_4 v31_1 v31_3 v31_5).2.1, BH (.cells [.i 2, .i (Z5P l).Kind, lst 7 AH.c (Z5P l).Edges, .i (Z5P l).R, lst 7 AD.c v6_4, lst 2 Ad.c [Ad.mk ({ data := #[78, 49] } : ByteArray) v31_1, Ad.mk ({ data := #[78, 50] } : ByteArray) v31_3, Ad.mk ({ data := #[71, 78, 68] } : ByteArray) v31_5], vN, vN, vN, vN, vN, vN, vN, vN, vN] 42)] ⟨[(0, Z5F l), (2, tP 2 0), (4, Z5J l), (6, tP 6 0)], [(2, Z5G), (6, .cells [.i (Z6v l v6_4 v31_1 v31_3 v31_5).Layers, .i (Z6v l v6_4 v31_1 v31_3 v31_5).Outline.Kind, lst 7 AH.c (Z6v l v6_4 v31_1 v31_3 v31_5).Outline.Edges, .i (Z6v l v6_4 v31_1 v31_3 v31_5).Outline.R, lst 7 AD.c (Z6v l v6_4 v31_1 v31_3 v31_5).Parts, lst 2 Ad.c (Z6v l v6_4 v31_1 v31_3 v31_5).Nets, lst 6 Am.c (Z6v l v6_4 v31_1 v31_3 v31_5).Tracks, lst 8 BS.c (Z6v l v6_4 v31_1 v31_3 v31_5).Vias, lst 8 A5.c (Z6v l v6_4 v31_1 v31_3 v31_5).Pours, lst 5 BG.c (Z6v l v6_4 v31_1 v31_3 v31_5).Keeps, lst 4 BW.c (Z6v l v6_4 v31_1 v31_3 v31_5).Slots, vN, vN, vN, vN] 42)]⟩ (.cons (Ai (fun _ _ => kr) kr kr (OU (AF.mk 2 (Z5P l) v6_4 [Ad.mk ({ data := #[78, 49] } : ByteArray) v31_1, Ad.mk ({ data := #[78, 50] } : ByteArray) v31_3, Ad.mk ({ data := #[71, 78, 68] } : ByteArray) v31_5] [] [] [] [] [] [] [] [] []) [Z5H l, Z5I l] l au10 au10 au10 au10 au10 au10)) .nil) (.cons rfl (.cons rfl .nil)) <| AJ <| AC ?_
     refine rc [(149, Cf l 7), (152, (Z6y l v6_4 v31_1 v31_3 v31_5))] [Al (Cf l 7).2.1, Al (Z6y l v6_4 v31_1 v31_3 v31_5).2.1, Me [.cells [.i (Z6v l v6_4 v31_1 v31_3 v31_5).Layers, .i (Z6v l v6_4 v31_1 v31_3 v31_5).Outline.Kind, lst 7 AH.c (Z6v l v6_4 v31_1 v31_3 v31_5).Outline.Edges, .i (Z6v l v6_4 v31_1 v31_3 v31_5).Outline.R, lst 7 AD.c (Z6v l v6_4 v31_1 v31_3 v31_5).Parts, lst 2 Ad.c (Z6v l v6_4 v31_1 v31_3 v31_5).Nets, lst 6 Am.c (Z6v l v6_4 v31_1 v31_3 v31_5).Tracks, lst 8 BS.c (Z6v l v6_4 v31_1 v31_3 v31_5).Vias, lst 8 A5.c (Z6v l v6_4 v31_1 v31_3 v31_5).Pours, lst 5 BG.c (Z6v l v6_4 v31_1 v31_3 v31_5).Keeps, lst 4 BW.c (Z6v l v6_4 v31_1 v31_3 v31_5).Slots, vN, vN, vN, vN] 42, .cells [lst 1 (fun x => [.i x]) (AZ l 7), .i 0] 146]] ⟨[(2, tP 2 0), (4, Z5J l), (6, tP 6 0)], [(2, Z5G), (6, .cells (AF.c (Z6x l v6_4 v31_1 v31_3 v31_5).1) 42)]⟩ (.cons (Ey l 7 au10) (.cons (PB (fun _ _ => kr) kr rfl rfl kr kr (RO (AF.mk (Z6v l v6_4 v31_1 v31_3 v31_5).Layers (Z6v l v6_4 v31_1 v31_3 v31_5).Outline (Z6v l v6_4 v31_1 v31_3 v31_5).Parts (Z6v l v6_4 v31_1 v31_3 v31_5).Nets (Z6v l v6_4 v31_1 v31_3 v31_5).Tracks (Z6v l v6_4 v31_1 v31_3 v31_5).Vias (Z6v l v6_4 v31_1 v31_3 v31_5).Pours (Z6v l v6_4 v31_1 v31_3 v31_5).Keeps (Z6v l v6_4 v31_1 v31_3 v31_5).Slots [] [] [] []) (AB.mk (AZ l 7) 0) au5 au10 au10 au10 au10 au10 au10 au10)) .nil)) (.cons rfl (.cons rfl (.cons rfl .nil))) <| AJ <| AC ?_
     refine rn ⟨[(2, tP 2 0), (3, Z5J l)], [(2, .cells (AF.c (Z6x l v6_4 v31_1 v31_3 v31_5).1) 42)]⟩ <| Aj ?_
     exact ⟨_, Cv.refl _, .inl rfl, .tup [.agg (AF.c (Z6x l v6_4 v31_1 v31_3 v31_5).1), .one (lst 3 AG.c [Z5H l, Z5I l])], by kernel_rfl, Ao (by rw [<- hF1]; first | (simp only [C9, h2, cond_true, cond_false] <;> rfl))⟩
theorem Rj (l : (List (List Int))) (hl : (l.length : Int) <= 9223372036854775807) (hll : ∀ x ∈ l, (x.length : Int) <= 9223372036854775807) : A1 Try.prog (HP l).1 (HP l).2.1 (HP l).2.2 := Aa (fun _ _ => kr) fun _ => TN l hl hll
end
section
open Go.RowKit
abbrev nN1 : ByteArray := { data := #[78, 49] }
abbrev nN2 : ByteArray := { data := #[78, 50] }
abbrev nGND : ByteArray := { data := #[71, 78, 68] }
structure GN (B : AF) : Prop where
 lay : B.Layers = 2
 par : 1 <= (B.Parts.length : Int) /\ (B.Parts.length : Int) <= 3
 net : ∃ p q r, B.Nets = [Ad.mk nN1 p, Ad.mk nN2 q, Ad.mk nGND r]
 trk : (B.Tracks.length : Int) <= 6
 edg : ∀ t ∈ B.Tracks, (t.Shape.Edges.length : Int) <= 2
 via : (B.Vias.length : Int) <= 3
 pou : (B.Pours.length : Int) <= 3
 kee : (B.Keeps.length : Int) <= 1
 slo : (B.Slots.length : Int) <= 1
theorem Uu {α : Type} {c : Bool} {a b : AF × α} (h : GN a.1) (k : GN b.1) : GN (bif c then a else b).1 := by cases c <;> assumption
theorem Sz {b : AF} {d : AB} (h : GN b) : GN (DM b d).1 := by
 unfold DM
 obtain ⟨h1, h2, h3, h4, h5, h6, h7, h8, h9⟩ := h
 exact Uu ⟨h1, h2, h3, h4, h5, h6, h7, h8, h9⟩ ⟨h1, h2, h3, h4, h5, h6, h7, h8, h9⟩
theorem Uq {b : AF} {types : List AG} {l : List (List Int)} {x y z w : List Unit} (h1 : b.Layers = 2) (h2 : 1 <= (b.Parts.length : Int) /\ (b.Parts.length : Int) <= 3) (h3 : ∃ p q r, b.Nets = [Ad.mk nN1 p, Ad.mk nN2 q, Ad.mk nGND r]) {c : List Bj} {ru : List A4} {wa : List Bf} {ma : List CE} :
  GN (AF.mk (BM b types l).Layers (BM b types l).Outline (BM b types l).Parts (BM b types l).Nets (BM b types l).Tracks (BM b types l).Vias (BM b types l).Pours (BM b types l).Keeps (BM b types l).Slots c ru wa ma) := by
 obtain ⟨k1, k2, k3, k4, k5, k6, k7, k8, k9, k10⟩ := Fi b types l
 exact ⟨k1.trans h1, by show 1 <= ((BM b types l).Parts.length : Int) /\ ((BM b types l).Parts.length : Int) <= 3; rw [k3]; exact h2, by rw [<- k4] at h3; exact h3, k5, k6, k7, k8, k9, k10⟩
theorem Pm (l : List (List Int)) (v6_4 : List AD) (v5 : AB) (v8 : Int) (a1 a3 a5 : List AR) (d1 : AB) (v10 : Int) (K0 : List AD -> AB -> Int -> (AF × (List AG))) (K1 : List AR -> List AR -> List AR -> AB -> Int -> (AF × (List AG))) (hK : ∀ a b c d, GN (K1 a b c d (v10 + 1)).1) : ∀ (n : Nat) (x y z : List AR) (d : AB) (k : Int), 0 <= k -> (((BJ [BD (AZ l 0) ({ data := #[82] } : ByteArray), BD (AZ l 1) ({ data := #[81] } : ByteArray)] (v6_4.getD v10.toNat default).Type').1.Pads.length : Int) - k).toNat < n -> GN (DW l v6_4 v5 v8 a1 a3 a5 d1 v10 K0 K1 n x y z d k).1
 | 0, x, y, z, d, k, _, h => absurd h (Nat.not_lt_zero _)
 | n + 1, x, y, z, d, k, k0, h => by
  unfold DW
  show GN (bif decide ((k : Int) < ((BJ [BD (AZ l 0) ({ data := #[82] } : ByteArray), BD (AZ l 1) ({ data := #[81] } : ByteArray)] (v6_4.getD v10.toNat default).Type').1.Pads.length : Int)) then (_ : AF × List AG) else _).1
  by_cases hc : (k : Int) < ((BJ [BD (AZ l 0) ({ data := #[82] } : ByteArray), BD (AZ l 1) ({ data := #[81] } : ByteArray)] (v6_4.getD v10.toNat default).Type').1.Pads.length : Int)
  ·rw [decide_eq_true hc]
   exact Pm l v6_4 v5 v8 a1 a3 a5 d1 v10 K0 K1 hK n _ _ _ _ _ (by omega) (by omega)
  ·rw [decide_eq_false hc]
   exact hK _ _ _ _
theorem Pn (l : List (List Int)) (v6_4 : List AD) (v5 : AB) (v8 : Int) (K0 : List AD -> AB -> Int -> (AF × (List AG))) (hp : 1 <= (v6_4.length : Int) /\ (v6_4.length : Int) <= 3) : ∀ (n : Nat) (x y z : List AR) (d : AB) (k : Int), 0 <= k -> (W64 (1 + (AA (AA (AB.mk (AZ l 2) 0) 3).2 3).1) - k).toNat < n -> GN (C9 l v6_4 v5 v8 K0 n x y z d k).1
 | 0, x, y, z, d, k, _, h => absurd h (Nat.not_lt_zero _)
 | n + 1, x, y, z, d, k, k0, h => by
  unfold C9
  by_cases hc : k < W64 (1 + (AA (AA (AB.mk (AZ l 2) 0) 3).2 3).1)
  ·simp only [hc, decide_true, cond_true]
   exact Pm l v6_4 v5 v8 x y z d k K0 _ (fun a b c e => Pn l v6_4 v5 v8 K0 hp n a b c e (k + 1) (by omega) (by omega)) _ _ _ _ _ 0 (by omega) (Nat.lt_succ_self _)
  ·simp only [hc, decide_false, cond_false]
   exact Sz (Uq (x := []) (y := []) (z := []) (w := []) rfl hp ⟨_, _, _, rfl⟩)
theorem Po (l : List (List Int)) : ∀ (n : Nat) (v : List AD) (d : AB) (k : Int), 0 <= k -> (v.length : Int) = k -> k <= W64 (1 + (AA (AA (AB.mk (AZ l 2) 0) 3).2 3).1) -> (W64 (1 + (AA (AA (AB.mk (AZ l 2) 0) 3).2 3).1) - k).toNat < n -> GN (CY l n v d k).1
 | 0, v, d, k, _, _, _, h => absurd h (Nat.not_lt_zero _)
 | n + 1, v, d, k, k0, kv, k1, h => by
  have hmany : 1 <= W64 (1 + (AA (AA (AB.mk (AZ l 2) 0) 3).2 3).1) /\ W64 (1 + (AA (AA (AB.mk (AZ l 2) 0) 3).2 3).1) <= 3 := by
   have := Cq (AA (AB.mk (AZ l 2) 0) 3).2 3 (by decide) (by decide)
   rw [BP (by omega) (by omega)]; omega
  unfold CY
  by_cases hc : k < W64 (1 + (AA (AA (AB.mk (AZ l 2) 0) 3).2 3).1)
  ·simp only [hc, decide_true, cond_true]
   exact Po l n _ _ _ (by omega) (by simp only [List.length_append, List.length_cons, List.length_nil]; omega) (by omega) (by omega)
  ·simp only [hc, decide_false, cond_false]
   exact Pn l v d k _ (by omega) _ _ _ _ _ 0 (by omega) (Nat.lt_succ_self _)
theorem Uw (l : List (List Int)) : GN (DF l).1 := by
 have hmany : 1 <= W64 (1 + (AA (AA (AB.mk (AZ l 2) 0) 3).2 3).1) := by
  have := Cq (AA (AB.mk (AZ l 2) 0) 3).2 3 (by decide) (by decide)
  rw [BP (by omega) (by omega)]; omega
 unfold DF
 exact Po l _ _ _ 0 (by omega) rfl (by omega) (Nat.lt_succ_self _)
end
section
open Go.RowKit
theorem QB (r : An) : (Ce r).Edges.length = 4 := rfl
theorem Qp (p : AE) (r : Int) : (DB p r).Edges.length = 1 := rfl
def I9 (n : Nat) (l : List As) : Prop := l.length <= n /\ ∀ g ∈ l, H5 g
theorem Oy {n : Nat} {c : Bool} {a b : List As} (ha : I9 n a) (hb : I9 n b) : I9 n (bif c then a else b) := by cases c <;> assumption
theorem Ox {n : Nat} : I9 n [] := ⟨Nat.zero_le _, fun g hg => by cases hg⟩
theorem MP {n : Nat} {g : As} {l : List As} (hg : H5 g) (h : I9 n l) : I9 (n + 1) (g :: l) := ⟨Nat.succ_le_succ h.1, fun x hx => (List.mem_cons.1 hx).elim (fun e => e ▸ hg) (h.2 x)⟩
theorem U5 {n : Nat} {g : As} {l : List As} (hg : H5 g) (h : I9 n l) : I9 (n + 1) (l ++ [g]) := ⟨by rw [List.length_append]; exact Nat.succ_le_succ h.1, fun x hx => (List.mem_append.1 hx).elim (h.2 x) (fun e => by rw [List.mem_singleton.1 e]; exact hg)⟩
theorem Pv {k : Int} {a c : BT} : H5 (As.mk k [a, c]) := (by decide : ((2 : Nat) : Int) <= 1000000)
theorem gs_up {n m : Nat} {l : List As} (h : I9 n l) (k : n <= m) : I9 m l := ⟨Nat.le_trans h.1 k, h.2⟩
theorem Qe (l : List Int) (d : AB) : I9 3 (Z56 l d) := by
 have h1 : I9 2 (Z4S l d) := Oy (MP Pv Ox) Ox
 have h2 : I9 2 (Z50 l d) := Oy (MP Pv (MP Pv Ox)) h1
 exact Oy (U5 Pv h2) (gs_up h2 (by decide))
theorem ME (d : AB) (k : Int) : ((Z4I d k).length : Int) <= 1000000 := by
 unfold Z4I Z4D Z4G
 cases decide ((AA (AA d 2).2 3).1 = 0) with
 | true => rw [cond_true, QB]; decide
 | false =>
  rw [cond_false]
  cases decide ((AA (AA d 2).2 3).1 = 1) with
  | true => rw [cond_true, Qp]; decide
  | false => exact (by decide : ((1 : Nat) : Int) <= 1000000)
theorem LI (l : List Int) (name : ByteArray) : ∀ (n : Nat) (v : List Ap) (d : AB) (k : Int), (∀ p ∈ v, N2 p) -> (v.length : Int) <= 1000000 -> ((v.length : Int) + (W64 (2 + (AA (AB.mk l 0) 5).1) - k) <= 1000000) -> ((W64 (2 + (AA (AB.mk l 0) 5).1)) - k).toNat < n ->
  H3 (DA l name n v d k)
 | 0, v, d, k, _, _, _, h => absurd h (Nat.not_lt_zero _)
 | n + 1, v, d, k, hv, h0, h1, h2 => by
  unfold DA
  by_cases h : k < W64 (2 + (AA (AB.mk l 0) 5).1)
  ·rw [decide_eq_true h, cond_true]
   refine LI l name n _ _ (k + 1) (fun p hp => ?_) (by simp only [List.length_append, List.length_cons, List.length_nil]; omega) (by simp only [List.length_append, List.length_cons, List.length_nil]; omega) (by omega)
   rcases List.mem_append.1 hp with hp | hp
   ·exact hv p hp
   ·rw [List.mem_singleton.1 hp]
    exact ME d k
  ·rw [decide_eq_false h, cond_false]
   have hg := Qe l d
   exact ⟨h0, by have := hg.1; show ((Z56 l d).length : Int) <= 1000000; omega, hv, hg.2⟩
theorem NX (l : List Int) (name : ByteArray) : H3 (BD l name) := by
 have hn := Cq (AB.mk l 0) 5 (by decide) (by decide)
 have hw : W64 (2 + (AA (AB.mk l 0) 5).1) = 2 + (AA (AB.mk l 0) 5).1 := BP (by omega) (by omega)
 unfold BD
 exact LI l name _ [] _ 0 (fun p hp => by cases hp) (by decide) (by simp only [List.length_nil]; omega) (by omega)
theorem Pj (l : List (List Int)) (v6_4 : List AD) (v5 : AB) (v8 : Int) (a1 a3 a5 : List AR) (d1 : AB) (v10 : Int) (K0 : List AD -> AB -> Int -> (AF × (List AG))) (K1 : List AR -> List AR -> List AR -> AB -> Int -> (AF × (List AG))) (hK : ∀ a b c d, B1 (K1 a b c d (v10 + 1)).2) : ∀ (n : Nat) (x y z : List AR) (d : AB) (k : Int), 0 <= k -> (((BJ [BD (AZ l 0) ({ data := #[82] } : ByteArray), BD (AZ l 1) ({ data := #[81] } : ByteArray)] (v6_4.getD v10.toNat default).Type').1.Pads.length : Int) - k).toNat < n -> B1 (DW l v6_4 v5 v8 a1 a3 a5 d1 v10 K0 K1 n x y z d k).2
 | 0, x, y, z, d, k, _, h => absurd h (Nat.not_lt_zero _)
 | n + 1, x, y, z, d, k, k0, h => by
  unfold DW
  show B1 (bif decide ((k : Int) < ((BJ [BD (AZ l 0) ({ data := #[82] } : ByteArray), BD (AZ l 1) ({ data := #[81] } : ByteArray)] (v6_4.getD v10.toNat default).Type').1.Pads.length : Int)) then (_ : AF × List AG) else _).2
  by_cases hc : (k : Int) < ((BJ [BD (AZ l 0) ({ data := #[82] } : ByteArray), BD (AZ l 1) ({ data := #[81] } : ByteArray)] (v6_4.getD v10.toNat default).Type').1.Pads.length : Int)
  ·rw [decide_eq_true hc]
   exact Pj l v6_4 v5 v8 a1 a3 a5 d1 v10 K0 K1 hK n _ _ _ _ _ (by omega) (by omega)
  ·rw [decide_eq_false hc]
   exact hK _ _ _ _
theorem UK (a c : List Int) (x y : ByteArray) : B1 [BD a x, BD c y] := by
 refine ⟨(by decide : ((2 : Nat) : Int) <= 1000000), fun t ht => ?_⟩
 simp only [List.mem_cons, List.not_mem_nil, or_false] at ht
 rcases ht with rfl | rfl <;> exact NX _ _
theorem Pk (l : List (List Int)) (v6_4 : List AD) (v5 : AB) (v8 : Int) (K0 : List AD -> AB -> Int -> (AF × (List AG))) : ∀ (n : Nat) (x y z : List AR) (d : AB) (k : Int), 0 <= k -> (W64 (1 + (AA (AA (AB.mk (AZ l 2) 0) 3).2 3).1) - k).toNat < n -> B1 (C9 l v6_4 v5 v8 K0 n x y z d k).2
 | 0, x, y, z, d, k, _, h => absurd h (Nat.not_lt_zero _)
 | n + 1, x, y, z, d, k, k0, h => by
  unfold C9
  by_cases hc : k < W64 (1 + (AA (AA (AB.mk (AZ l 2) 0) 3).2 3).1)
  ·simp only [hc, decide_true, cond_true]
   exact Pj l v6_4 v5 v8 x y z d k K0 _ (fun a b c e => Pk l v6_4 v5 v8 K0 n a b c e (k + 1) (by omega) (by omega)) _ _ _ _ _ 0 (by omega) (Nat.lt_succ_self _)
  ·simp only [hc, decide_false, cond_false]
   exact UK _ _ _ _
theorem Pl (l : List (List Int)) : ∀ (n : Nat) (v : List AD) (d : AB) (k : Int), 0 <= k -> (W64 (1 + (AA (AA (AB.mk (AZ l 2) 0) 3).2 3).1) - k).toNat < n -> B1 (CY l n v d k).2
 | 0, v, d, k, _, h => absurd h (Nat.not_lt_zero _)
 | n + 1, v, d, k, k0, h => by
  unfold CY
  by_cases hc : k < W64 (1 + (AA (AA (AB.mk (AZ l 2) 0) 3).2 3).1)
  ·simp only [hc, decide_true, cond_true]
   exact Pl l n _ _ _ (by omega) (by omega)
  ·simp only [hc, decide_false, cond_false]
   exact Pk l v d k _ _ _ _ _ _ 0 (by omega) (Nat.lt_succ_self _)
theorem On (l : List (List Int)) : B1 (DF l).2 := by
 unfold DF
 exact Pl l _ _ _ 0 (by omega) (Nat.lt_succ_self _)
end
section
open Go.RowKit
def Z6F (l : (List (List Int))) : AF := (DF (l.take (min (l.length : Int) 8 : Int).toNat)).1
def AV (l : (List (List Int))) : (AF × (List AG)) := (Z6F l, (DF (l.take (min (l.length : Int) 8 : Int).toNat)).2)
def HK (l : (List (List Int))) : FuncId × List Av × Ef := (8, [.one (lst 1 (fun x => [lst 1 (fun x => [.i x]) x]) l)], .val [] (.tup [.agg (AF.c (AV l).1), .one (lst 3 AG.c (AV l).2)]))
theorem TB (l : (List (List Int))) (hl : (l.length : Int) <= 9223372036854775807) (hll : ∀ x ∈ l, (x.length : Int) <= 9223372036854775807) : Bo Try.prog 8 (HK l).2.1 (.tup [.agg (AF.c (AV l).1), .one (lst 3 AG.c (AV l).2)]) := by
 refine AX Try.func8 rfl kr kr fun W0 M0 => ?_
 refine AC <| rn ⟨[(0, .av (oL l)), (2, tP 2 0)], [(2, .cells [.i 0, .i 0, vN, .i 0, vN, vN, vN, vN, vN, vN, vN, vN, vN, vN, vN] 42)]⟩ <| AC ?_
 refine rc [(9, ceI [.one (.list false 1 ((min (l.length : Int) 8 : Int).toNat - (0 : Int).toNat) (fun i_ j_ => (AY (fun x => [lst 1 (fun x => [.i x]) x]) l) (i_ + (0 : Int).toNat) j_))] (HP (l.take (min (l.length : Int) 8 : Int).toNat)))] [0 <= (0 : Int) /\ (0 : Int) <= (min (l.length : Int) 8 : Int) /\ (min (l.length : Int) 8 : Int) <= ((l.length : Nat) : Int), Al (ceI [.one (.list false 1 ((min (l.length : Int) 8 : Int).toNat - (0 : Int).toNat) (fun i_ j_ => (AY (fun x => [lst 1 (fun x => [.i x]) x]) l) (i_ + (0 : Int).toNat) j_))] (HP (l.take (min (l.length : Int) 8 : Int).toNat))).2.1] ⟨[(2, tP 2 0), (3, tO (lst 3 AG.c (DF (l.take (min (l.length : Int) 8 : Int).toNat)).2))], [(2, .cells (AF.c (Z6F l)) 42)]⟩ (.cons (Cg (Rj (l.take (min (l.length : Int) 8 : Int).toNat) (by first | (exact fun x hx => hll x (List.mem_of_mem_take hx)) | (simp only [List.length_take]; omega) | with_reducible assumption | omega | decide | (simp only [List.length_cons, List.length_nil, List.length_append]; omega) | assumption) (by first | (exact fun x hx => hll x (List.mem_of_mem_take hx)) | (simp only [List.length_take]; omega) | with_reducible assumption | omega | decide | (simp only [List.length_cons, List.length_nil, List.length_append]; omega) | assumption)) (.cons (.one (Bt false (G9 (b := min (l.length : Int) 8) (BK 1 (fun x => [lst 1 (fun x => [.i x]) x]) l) (by have hc := (show 0 <= (0 : Int) /\ (0 : Int) <= (min (l.length : Int) 8 : Int) /\ (min (l.length : Int) 8 : Int) <= ((l.length : Nat) : Int) from au0); exact hc.2.1) (by have hc := (show 0 <= (0 : Int) /\ (0 : Int) <= (min (l.length : Int) 8 : Int) /\ (min (l.length : Int) 8 : Int) <= ((l.length : Nat) : Int) from au0); exact hc.2.2)))) .nil)) .nil) (.cons au0 (.cons rfl .nil)) <| AJ <| Aj ?_
 exact ⟨_, Cv.refl _, .inl rfl, .tup [.agg (AF.c (Z6F l)), .one (lst 3 AG.c (DF (l.take (min (l.length : Int) 8 : Int).toNat)).2)], by kernel_rfl, Ao (by rfl)⟩
theorem Rd (l : (List (List Int))) (hl : (l.length : Int) <= 9223372036854775807) (hll : ∀ x ∈ l, (x.length : Int) <= 9223372036854775807) : A1 Try.prog (HK l).1 (HK l).2.1 (HK l).2.2 := Aa (fun _ _ => kr) fun _ => TB l hl hll
theorem EN (l : List (List Int)) : B1 (AV l).2 := On _
theorem NW (l : List (List Int)) : GN (AV l).1 := Uw _
end
section
open Go.RowKit
theorem T4 (t : Int) : A64 t 3 = t % 4 := by
 unfold A64
 have h3 : (BitVec.ofInt 64 3).toNat = 2 ^ 2 - 1 := by decide
 rw [BitVec.toNat_and, h3, Nat.and_two_pow_sub_one_eq_mod, BitVec.toNat_ofInt, IntKind.wrap_i64]
 omega
theorem OA (t : Int) : CI t = t % 4 := by
 unfold CI
 rcases Int.lt_or_le t 0 with h | h
 ·have b1 := Int.emod_nonneg (-t) (show (4 : Int) ≠ 0 by omega)
  rw [show t.tmod 4 = -((-t) % 4) by rw [<- Int.tmod_eq_emod_of_nonneg (by omega), Int.neg_tmod, Int.neg_neg]]
  rw [BP (by omega) (by omega), Int.tmod_eq_emod_of_nonneg (by omega)]
  omega
 ·rw [Int.tmod_eq_emod_of_nonneg h, BP (by omega) (by omega), Int.tmod_eq_emod_of_nonneg (by omega)]
  omega
theorem O8 {α : Type} [Inhabited α] {l : List α} {k : Nat} (h : k < l.length) : l.drop k = l.getD k default :: l.drop (k + 1) := by
 rw [List.drop_eq_getElem_cons h, List.getD_eq_getElem?_getD, List.getElem?_eq_getElem h]
 rfl
theorem NQ (s : AQ) (m : AO) : ∀ (n k : Nat) (l : List AH), k <= s.Edges.length -> s.Edges.length - k < n -> l = (s.Edges.take k).map (fun e => CJ e m) ++ s.Edges.drop k -> Em s m n l (k : Int) = ⟨s.Kind, s.Edges.map (fun e => CJ e m), s.R⟩
 | 0, k, l, hk, hn, _ => by omega
 | n + 1, k, l, hk, hn, hl => by
  unfold Em
  by_cases hlt : k < s.Edges.length
  ·rw [decide_eq_true (show (k : Int) < ((s.Edges.length : Nat) : Int) by omega)]
   simp only [cond_true, Int.toNat_natCast]
   rw [show ((k : Int) + 1) = ((k + 1 : Nat) : Int) by omega]
   refine NQ s m n (k + 1) _ (by omega) (by omega) ?_
   subst hl
   have hlen : ((s.Edges.take k).map (fun e => CJ e m)).length = k := by simp; omega
   have hd : s.Edges.drop k = s.Edges[k] :: s.Edges.drop (k + 1) := List.drop_eq_getElem_cons hlt
   rw [hd]
   have h1 : ((s.Edges.take k).map (fun e => CJ e m) ++ s.Edges[k] :: s.Edges.drop (k + 1)).getD k default = s.Edges[k] := by
    rw [List.getD_eq_getElem?_getD, List.getElem?_append_right (by omega), hlen, Nat.sub_self]; rfl
   rw [h1, List.set_append_right _ _ (by omega), hlen, Nat.sub_self, List.set_cons_zero, List.take_succ_eq_append_getElem hlt, List.map_append, List.append_assoc]
   rfl
  ·rw [decide_eq_false (show ¬ (k : Int) < ((s.Edges.length : Nat) : Int) by omega)]
   subst hl
   rw [List.drop_of_length_le (by omega), List.take_of_length_le (by omega), List.append_nil]
   rfl
theorem NR (s : AQ) (m : AO) : CX s m = ⟨s.Kind, s.Edges.map (fun e => CJ e m), s.R⟩ := by
 unfold CX
 have := NQ s m ((((s.Edges.length : Nat) : Int) - 0).toNat + 1) 0 s.Edges (by omega) (by omega) (by simp)
 exact this
theorem Qc (s : AQ) (m : AO) : (CX s m).Edges.length = s.Edges.length := by rw [NR]; simp
theorem Cy (m : AO) (p : AE) : AW m p = Ab m p := by
 have ht : CB m = m.Turn % 4 := T4 m.Turn
 unfold Ab Z09 Ct C2 AW
 rw [OA]
 generalize (bif m.Mirror then (W64 (0 - p.X)) else p.X) = x at *
 have h4 : m.Turn % 4 = 0 \/ m.Turn % 4 = 1 \/ m.Turn % 4 = 2 \/ m.Turn % 4 = 3 := by omega
 rcases h4 with h | h | h | h <;> rw [h] at ht ⊢ <;> rw [ht]
 ·show B6 m p 1 ⟨x, p.Y⟩ 0 = _
  simp only [B6, ht, Int.reduceLT, decide_false, cond_false, FG, B7, Int.reduceEq, if_true]
 ·show B6 m p 2 ⟨x, p.Y⟩ 0 = _
  simp only [B6, ht, Int.reduceLT, Int.reduceAdd, decide_true, cond_true, decide_false, cond_false, FG, B7, Int.reduceEq, if_true, if_false]
 ·show B6 m p 3 ⟨x, p.Y⟩ 0 = _
  simp only [B6, ht, Int.reduceLT, Int.reduceAdd, decide_true, cond_true, decide_false, cond_false, FG, B7, Int.reduceEq, if_true, if_false]
 ·show B6 m p 4 ⟨x, p.Y⟩ 0 = _
  have e : ∀ u v : Int, W64 (W64 (0 - W64 (0 - u)) + v) = W64 (u + v) := fun u v => by simp only [C1]; omega
  simp only [B6, ht, Int.reduceLT, Int.reduceAdd, decide_true, cond_true, decide_false, cond_false, FG, B7, Int.reduceEq, if_false, e]
theorem Rt (e : AH) (m : AO) : CJ e m = Fd e m := by
 obtain ⟨k, a, b, c⟩ := e
 unfold CJ Fd
 simp only
 by_cases h1 : k = 1
 ·subst h1
  rw [if_pos rfl]
  unfold Kq CP
  rw [Cy, Cy]
  cases m.Mirror <;> rfl
 ·rw [if_neg h1]
  by_cases h2 : k = 2
  ·subst h2
   rw [if_pos rfl]
   unfold Ko CP
   rw [Cy, Cy, Cy]
   cases m.Mirror <;> rfl
  ·rw [if_neg h2]
   by_cases h3 : k = 3
   ·subst h3
    rw [if_pos rfl]
    unfold Kn CP
    rw [Cy, Cy, Cy]
    cases m.Mirror <;> rfl
   ·rw [if_neg h3]
    unfold Km CP
    simp only
    rw [Cy, Cy, Cy, decide_eq_false h2, decide_eq_false h3]
    cases m.Mirror <;> rfl
theorem NS (s : AQ) (m : AO) : ∀ (n k : Nat) (l : List AH), k <= s.Edges.length -> s.Edges.length - k < n -> EC s m n l (k : Int) = ⟨s.Kind, l ++ (s.Edges.drop k).map (fun e => CJ e m), s.R⟩
 | 0, k, l, hk, hn => by omega
 | n + 1, k, l, hk, hn => by
  unfold EC
  by_cases hlt : k < s.Edges.length
  ·rw [decide_eq_true (show (k : Int) < ((s.Edges.length : Nat) : Int) by omega)]
   simp only [cond_true]
   rw [show ((k : Int) + 1) = ((k + 1 : Nat) : Int) by omega, NS s m n (k + 1) _ (by omega) (by omega), O8 hlt]
   unfold Z0C
   rw [Int.toNat_natCast, <- Rt]
   simp
  ·rw [decide_eq_false (show ¬ (k : Int) < ((s.Edges.length : Nat) : Int) by omega)]
   rw [List.drop_of_length_le (by omega)]
   simp
theorem Ru (s : AQ) (m : AO) : DE s m = CX s m := by
 rw [NR]
 unfold DE
 have := NS s m ((((s.Edges.length : Nat) : Int) - 0).toNat + 1) 0 [] (by omega) (by omega)
 exact this
theorem Ja (a c : AR) : Au a c = true ↔ a = c := by
 constructor
 ·intro h
  unfold Au at h
  obtain ⟨a1, a2⟩ := a
  obtain ⟨c1, c2⟩ := c
  simp only [Bool.and_eq_true] at h
  rw [Sg h.1, Sg h.2]
 ·rintro rfl
  unfold Au eqS
  simp
def KG (v : List (AR × ByteArray)) (q : AR) : ByteArray := match v.find? (fun e => Au e.1 q) with
 | some e => e.2
 | none => ⟨#[]⟩
theorem Tf (v : List (AR × ByteArray)) (q : AR) : (bif Cw Au v q then (v.getD (CG Au v q) default).2 else ⟨#[]⟩) = KG v q := by
 unfold Cw CG KG
 induction v with
 | nil => rfl
 | cons e v ih =>
  rw [List.any_cons, List.findIdx_cons, List.find?_cons]
  cases h : Au e.1 q with
  | true => rfl
  | false => exact ih
theorem Rv (v : List (AR × ByteArray)) (k q : AR) (x : ByteArray) : KG (E6 Au v k x) q = bif Au k q then x else KG v q := by
 have hn : E6 Au [] k x = [(k, x)] := rfl
 have hc : ∀ e (w : List (AR × ByteArray)), E6 Au (e :: w) k x = bif Au e.1 k then (k, x) :: w else e :: E6 Au w k x := fun e w => by
  unfold E6 Cw CG
  rw [List.any_cons, List.findIdx_cons]
  cases h : Au e.1 k with
  | true => rfl
  | false =>
   simp only [Bool.false_or, cond_false]
   cases w.any (fun e => Au e.1 k) <;> rfl
 induction v with
 | nil =>
  rw [hn]
  unfold KG
  rw [List.find?_cons]
  cases Au k q <;> rfl
 | cons e v ih =>
  rw [hc]
  cases h1 : Au e.1 k with
  | true =>
   have e1 := (Ja e.1 k).1 h1
   rw [cond_true]
   unfold KG
   rw [List.find?_cons, List.find?_cons, e1]
   cases Au k q <;> rfl
  | false =>
   rw [cond_false]
   unfold KG at ih ⊢
   rw [List.find?_cons, List.find?_cons]
   cases h2 : Au e.1 q with
   | true =>
    have e2 := (Ja e.1 q).1 h2
    cases h3 : Au k q with
    | true =>
     rw [(Ja k q).1 h3, <- e2, (Ja e.1 e.1).2 rfl] at h1
     cases h1
    | false => rfl
   | false => exact ih
theorem NY (n : Ad) (q : AR) : ∀ (ps : List AR) (v : List (AR × ByteArray)), KG (ps.foldl (fun v p => E6 Au v p n.Name) v) q = bif ps.any (fun p => Au p q) then n.Name else KG v q
 | [], v => rfl
 | p :: ps, v => by
  rw [List.foldl_cons, NY n q ps, Rv, List.any_cons]
  cases h1 : Au p q with
  | true =>
   cases ps.any (fun p => Au p q) <;> rfl
  | false => rw [cond_false, Bool.false_or]
theorem Qg (b : AF) (q : AR) : KG (Hb b) q = match b.Nets.find? (fun n => n.Pins.any fun p => Au p q) with | some n => n.Name | none => ⟨#[]⟩ := by
 unfold Hb
 rw [List.foldl_reverse]
 generalize b.Nets = l
 induction l with
 | nil => rfl
 | cons n l ih =>
  rw [List.foldr_cons, List.find?_cons]
  unfold Rs
  rw [NY]
  cases n.Pins.any (fun p => Au p q) with
  | true => rfl
  | false => exact ih
theorem Us (b : AF) (q : AR) (k : Nat) (K0 : Int -> ByteArray) (m : Nat) (hm : (b.Nets.getD k default).Pins.length < m) : Dq b q k K0 m 0 = bif (b.Nets.getD k default).Pins.any (fun p => Au p q) then (b.Nets.getD k default).Name else K0 ((k : Int) + 1) := by
 have h := Je (fun p => Au p q) (fun _ => (b.Nets.getD k default).Name) (K0 ((k : Int) + 1)) (b.Nets.getD k default).Pins (Dq b q k K0) (fun m v => by
  rw [Dq]
  unfold Z0y Z0x Au eqS
  rw [Int.toNat_natCast, Int.toNat_natCast, Bool.and_true]) (b.Nets.getD k default).Pins.length 0 m rfl (Nat.zero_le _) hm
 rw [List.drop_zero] at h
 refine h.trans ?_
 cases hf : (b.Nets.getD k default).Pins.find? (fun p => Au p q) with
 | some x =>
  have : (b.Nets.getD k default).Pins.any (fun p => Au p q) = true := List.any_eq_true.2 ⟨x, List.mem_of_find?_eq_some hf, List.find?_some (p := fun p => Au p q) hf⟩
  rw [this]; rfl
 | none =>
  have : (b.Nets.getD k default).Pins.any (fun p => Au p q) = false := List.any_eq_false.2 fun x hx => List.find?_eq_none.1 hf x hx
  rw [this]; rfl
theorem Ut (b : AF) (q : AR) : EB b q = KG (Hb b) q := by
 rw [Qg]
 have h := Je (fun n : Ad => n.Pins.any fun p => Au p q) (fun n => n.Name) (⟨#[]⟩ : ByteArray) b.Nets (Dr b q) (fun m v => by
  rw [Dr]
  have := Us b q v (Dr b q m) ((((b.Nets.getD ((v : Nat) : Int).toNat default).Pins.length : Int) - 0).toNat + 1) (by rw [Int.toNat_natCast]; omega)
  rw [this]) b.Nets.length 0 (((((b.Nets.length : Int))) - 0).toNat + 1) rfl (Nat.zero_le _) (by omega)
 rw [List.drop_zero] at h
 unfold EB
 refine h.trans ?_
 cases b.Nets.find? (fun n => n.Pins.any fun p => Au p q) <;> rfl
theorem Tk (b : AF) (x : AD × Ap) : Ig b x.1 x.2 = FX b (Hb b) x := by
 unfold Ig FX
 rw [Ut, <- Tf, Ru]
 rfl
theorem SA {types : List AG} {name : ByteArray} (h : (B8 types name).2 = false) : (B8 types name).1.Pads = [] := by
 rw [Fq] at *
 unfold MQ at *
 cases hf : types.find? (fun t => E5 t name) with
 | none => rfl
 | some t => rw [hf] at h; cases h
theorem KP {α γ : Type} (f : α -> List γ) : ∀ (xs : List α) (acc : List γ), xs.foldl (fun acc x => acc ++ f x) acc = acc ++ xs.flatMap f
 | [], acc => by simp
 | x :: xs, acc => by rw [List.foldl_cons, KP f xs, List.flatMap_cons, List.append_assoc]
theorem Kl (b : AF) (types : List AG) : ES b types = B3 b types := by
 rw [Kk]
 have h := MS (BF b) (fun acc p => acc ++ (EX types p).map (FX b (Hb b))) (Cj b types) (fun acc _ => acc) (fun m acc v => by
  rw [Cj]
  generalize hp : (BF b).getD v default = p
  have hw : Z0S types b v = (B8 types p.Type').1 := by unfold Z0S; rw [Int.toNat_natCast, hp, GO]
  have h1 := MS (B8 types p.Type').1.Pads (fun acc q => acc ++ [FX b (Hb b) (p, q)]) (Dj b types acc v (Cj b types m)) (fun acc _ => Cj b types m acc ((v : Int) + 1)) (fun m2 acc2 i => by
   rw [Dj]
   unfold Z0W Z0V
   rw [hw, Int.toNat_natCast, Int.toNat_natCast, hp, GO, <- Tk]
   cases hk : (B8 types p.Type').2 with
   | true => rfl
   | false =>
    rw [SA hk, decide_eq_false (by simp only [List.length_nil]; omega)]
    rfl) (B8 types p.Type').1.Pads.length 0 ((((Z0S types b v).Pads.length : Int) - 0).toNat + 1) acc rfl (Nat.zero_le _) (by rw [hw]; omega)
  rw [List.drop_zero, Iu] at h1
  have e : (EX types p).map (FX b (Hb b)) = (B8 types p.Type').1.Pads.map fun q => FX b (Hb b) (p, q) := by unfold EX; rw [List.map_map]; rfl
  rw [e]
  have h2 : Dj b types acc v (Cj b types m) ((((Z0S types b v).Pads.length : Int) - 0).toNat + 1) acc 0 = Cj b types m (acc ++ (B8 types p.Type').1.Pads.map fun q => FX b (Hb b) (p, q)) ((v : Int) + 1) := h1
  rw [<- h2]) (BF b).length 0 (((((BF b).length : Int)) - 0).toNat + 1) [] rfl (Nat.zero_le _) (by omega)
 rw [List.drop_zero, KP, List.nil_append, J4] at h
 unfold AP
 rw [List.map_flatMap]
 rw [<- h]
 unfold ES
 rw [J4]
 rfl
theorem Px (t : AG) (pad : ByteArray) : D4 t pad = DX t pad := by
 have e : Cd t pad = EW t.Pads pad := by rw [G4, N5]
 unfold D4 DX Z0m Z0w
 rw [e]
theorem Tn (t : AG) (pad : ByteArray) (h : t.Pads = []) : (DX t pad).2 = false := by
 unfold DX
 rw [G4, h]
 rfl
theorem at_eq (b : AF) (types : List AG) (p : AR) : Du b types p = FAt b types p := by
 have h := Je (fun x : AD => Hk x p) (fun x => bif !((D4 (B8 types x.Type').1 p.Pad).2) then ((AE.mk 0 0, 0, false) : AE × Int × Bool) else (AW (Bs x) (D4 (B8 types x.Type').1 p.Pad).1.At, CL b x, true)) (AE.mk 0 0, 0, false) b.Parts (EU b types p) (fun m v => by
  rw [EU]
  unfold Z0I Z0L Z0K Z0O Z0N Z0M Z0J
  rw [Int.toNat_natCast]
  generalize b.Parts.getD v default = x
  rw [GO, <- Px, <- Cy]
  unfold Hk
  have hb : (bif !(B8 types x.Type').2 then true else !(D4 (B8 types x.Type').1 p.Pad).2) = !(D4 (B8 types x.Type').1 p.Pad).2 := by
   cases hk : (B8 types x.Type').2 with
   | true => rfl
   | false => rw [Px, Tn _ _ (SA hk)]; rfl
  rw [hb]
  cases (x.Ref.toList == p.Ref.toList) <;> rfl) b.Parts.length 0 (((((b.Parts.length : Int))) - 0).toNat + 1) rfl (Nat.zero_le _) (by omega)
 rw [List.drop_zero] at h
 unfold Du
 refine h.trans ?_
 unfold FAt Z0r Z0q Z0p
 rw [N4]
 cases hc : decide ((ixI (fun x => Hk x p) b.Parts : Int) < 0) with
 | true =>
  rw [Nc (oT hc)]
  rfl
 | false =>
  obtain ⟨_, h2⟩ := Nb (oF hc)
  rw [h2]
  rfl
theorem PX {types : List AG} (h : B1 types) (b : AF) (k : Nat) : (((B3 b types).getD k default).Shape.Edges.length : Int) <= 1000000 := by
 refine GY (p := fun s : Ar => (s.Shape.Edges.length : Int) <= 1000000) (by decide) (fun x hx => ?_) k
 rw [Kk] at hx
 obtain ⟨r, hr, rfl⟩ := List.mem_map.1 hx
 show ((CX r.2.Shape (Bs r.1)).Edges.length : Int) <= 1000000
 rw [Qc]
 unfold AP at hr
 obtain ⟨p, _, hp⟩ := List.mem_flatMap.1 hr
 unfold EX at hp
 obtain ⟨q, hq, rfl⟩ := List.mem_map.1 hp
 show (q.Shape.Edges.length : Int) <= 1000000
 rw [Fq] at hq
 unfold MQ at hq
 cases hf : types.find? (fun t => E5 t p.Type') with
 | none => rw [hf] at hq; cases hq
 | some t => rw [hf] at hq; exact (h.2 t (List.mem_of_find?_eq_some hf)).2.2.1 q hq
end
section
open Go.RowKit
def I8 (v : List Ad) : Prop := ∀ n ∈ v, (n.Pins.length : Int) <= 1000000
theorem KC : I8 [] := fun n hn => by cases hn
theorem KD {v : List Ad} {a : ByteArray} {p : List AR} (h : I8 v) : I8 (v ++ [Ad.mk a (p.take (min (p.length : Int) 6).toNat)]) := fun n hn => by
 rcases List.mem_append.1 hn with hn | hn
 ·exact h n hn
 ·rw [List.mem_singleton.1 hn]
  simp only [List.length_take]
  omega
theorem FH (parts : List AD) (l : List (List Int)) : ((parts.take (min (parts.length : Int) 6).toNat) ++ (AV l).1.Parts).length < 20 := by
 have := (NW l).par
 rw [List.length_append, List.length_take]
 omega
theorem OO (parts : List AD) (l : List (List Int)) : (((parts.take (min (parts.length : Int) 6).toNat) ++ (AV l).1.Parts).length : Int) <= 1000000 := by
 have := FH parts l
 omega
theorem QL {b : AF} {types : List AG} (hb : b.Parts.length < 20) (h : B1 types) : ((B3 b types).length : Int) <= 1000000000 := by
 have := LD hb h
 rw [Q2]
 omega
def Z6G (l : (List (List Int))) : Tv := .av (.one (lst 3 AG.c (AV l).2))
def Z6H (layers : Int) (parts : (List AD)) (l : (List (List Int))) : Blk := .cells [.i layers, .i 0, vN, .i 0, .own 39 7 ((parts.take (min (parts.length : Int) 6 : Int).toNat) ++ (AV l).1.Parts).length, vN, vN, vN, vN, vN, vN, vN, vN, vN, vN] 42
def Z6I (parts : (List AD)) (l : (List (List Int))) : Blk := .row 7 ((parts.take (min (parts.length : Int) 6 : Int).toNat) ++ (AV l).1.Parts).length (AY AD.c ((parts.take (min (parts.length : Int) 6 : Int).toNat) ++ (AV l).1.Parts)) 59
def Z6J (parts : (List AD)) (l : (List (List Int))) : Tv := tI ((((parts.take (min (parts.length : Int) 6 : Int).toNat) ++ (AV l).1.Parts).length : Nat) : Int)
def Z6K (parts : (List AD)) (l : (List (List Int))) : Tv := .av (.one (lst 7 AD.c ((parts.take (min (parts.length : Int) 6 : Int).toNat) ++ (AV l).1.Parts)))
def Z6L (parts : (List AD)) (l : (List (List Int))) (v78 : Int) : AD := ((parts.take (min (parts.length : Int) 6 : Int).toNat) ++ (AV l).1.Parts).getD v78.toNat default
def Z6M : Blk := .row 2 ([] : List Ad).length (AY Ad.c ([] : List Ad)) 48
def Z6N (layers : Int) (parts : (List AD)) (l : (List (List Int))) : Blk := .cells [.i layers, .i 0, vN, .i 0, .own 39 7 ((parts.take (min (parts.length : Int) 6 : Int).toNat) ++ (AV l).1.Parts).length, .own 100000 2 ([] : List Ad).length, vN, vN, vN, vN, vN, vN, vN, vN, vN] 42
def Z6O (layers : Int) (parts : (List AD)) (l : (List (List Int))) (v12_5 : List Ad) : Blk := .cells [.i layers, .i 0, vN, .i 0, .own 39 7 ((parts.take (min (parts.length : Int) 6 : Int).toNat) ++ (AV l).1.Parts).length, .own 100000 2 v12_5.length, vN, vN, vN, vN, vN, vN, vN, vN, vN] 42
def Z6P (v12_5 : List Ad) : Blk := .row 2 v12_5.length (AY Ad.c v12_5) 48
def Z6Q (layers : Int) (parts : (List AD)) (l : (List (List Int))) (v12_5 : List Ad) (nets : (List Ad)) (v13 : Int) : Blk := .cells [.i layers, .i 0, vN, .i 0, .own 39 7 ((parts.take (min (parts.length : Int) 6 : Int).toNat) ++ (AV l).1.Parts).length, .own 73 2 (v12_5 ++ [Ad.mk (nets.getD v13.toNat default).Name ((nets.getD v13.toNat default).Pins.take (min ((nets.getD v13.toNat default).Pins.length : Int) 6 : Int).toNat)]).length, vN, vN, vN, vN, vN, vN, vN, vN, vN] 42
def Z6R (v12_5 : List Ad) (nets : (List Ad)) (v13 : Int) : Blk := .row 2 (v12_5 ++ [Ad.mk (nets.getD v13.toNat default).Name ((nets.getD v13.toNat default).Pins.take (min ((nets.getD v13.toNat default).Pins.length : Int) 6 : Int).toNat)]).length (AY Ad.c (v12_5 ++ [Ad.mk (nets.getD v13.toNat default).Name ((nets.getD v13.toNat default).Pins.take (min ((nets.getD v13.toNat default).Pins.length : Int) 6 : Int).toNat)])) 48
def Z6S (layers : Int) (parts : (List AD)) (l : (List (List Int))) (v12_5 : List Ad) : Blk := .cells [.i layers, .i 0, vN, .i 0, lst 7 AD.c ((parts.take (min (parts.length : Int) 6 : Int).toNat) ++ (AV l).1.Parts), lst 2 Ad.c v12_5, vN, vN, vN, vN, vN, vN, vN, vN, vN] 42
def Z6T (layers : Int) (parts : (List AD)) (l : (List (List Int))) (v12_5 : List Ad) : Bool := bif Az then Fp (B3 (AF.mk layers (AQ.mk 0 [] 0) ((parts.take (min (parts.length : Int) 6 : Int).toNat) ++ (AV l).1.Parts) v12_5 [] [] [] [] [] [] [] [] []) (AV l).2) (ES (AF.mk layers (AQ.mk 0 [] 0) ((parts.take (min (parts.length : Int) 6 : Int).toNat) ++ (AV l).1.Parts) v12_5 [] [] [] [] [] [] [] [] []) (AV l).2) else false
def Z6U (layers : Int) (parts : (List AD)) (l : (List (List Int))) (v12_5 : List Ad) (v78 : Int) : AE := (FAt (AF.mk layers (AQ.mk 0 [] 0) ((parts.take (min (parts.length : Int) 6 : Int).toNat) ++ (AV l).1.Parts) v12_5 [] [] [] [] [] [] [] [] []) (AV l).2 (AR.mk (Z6L parts l v78).Ref ({ data := #[80, 49] } : ByteArray))).1
def Z6V (layers : Int) (parts : (List AD)) (l : (List (List Int))) (v12_5 : List Ad) (v78 : Int) : Bool := (FAt (AF.mk layers (AQ.mk 0 [] 0) ((parts.take (min (parts.length : Int) 6 : Int).toNat) ++ (AV l).1.Parts) v12_5 [] [] [] [] [] [] [] [] []) (AV l).2 (AR.mk (Z6L parts l v78).Ref ({ data := #[80, 49] } : ByteArray))).2.2
def Z6W (layers : Int) (parts : (List AD)) (l : (List (List Int))) (v12_5 : List Ad) (v78 : Int) : Tv := tI (FAt (AF.mk layers (AQ.mk 0 [] 0) ((parts.take (min (parts.length : Int) 6 : Int).toNat) ++ (AV l).1.Parts) v12_5 [] [] [] [] [] [] [] [] []) (AV l).2 (AR.mk (Z6L parts l v78).Ref ({ data := #[80, 49] } : ByteArray))).2.1
def Z6X (layers : Int) (parts : (List AD)) (l : (List (List Int))) (v12_5 : List Ad) (v78 : Int) : AE := (Du (AF.mk layers (AQ.mk 0 [] 0) ((parts.take (min (parts.length : Int) 6 : Int).toNat) ++ (AV l).1.Parts) v12_5 [] [] [] [] [] [] [] [] []) (AV l).2 (AR.mk (Z6L parts l v78).Ref ({ data := #[80, 49] } : ByteArray))).1
def Z6Y (layers : Int) (parts : (List AD)) (l : (List (List Int))) (v12_5 : List Ad) (v78 : Int) : Bool := (Du (AF.mk layers (AQ.mk 0 [] 0) ((parts.take (min (parts.length : Int) 6 : Int).toNat) ++ (AV l).1.Parts) v12_5 [] [] [] [] [] [] [] [] []) (AV l).2 (AR.mk (Z6L parts l v78).Ref ({ data := #[80, 49] } : ByteArray))).2.2
def C4 (l : (List (List Int))) (parts : (List AD)) (nets : (List Ad)) (layers : Int) (v12_5 : List Ad) (v13 : Int) (K0 : List Ad -> Int -> Bool) : Nat -> Int -> Bool
 | 0, _ => default
 | n1 + 1, v78 => bif decide ((v78 : Int) < ((((parts.take (min (parts.length : Int) 6 : Int).toNat) ++ (AV l).1.Parts).length : Nat) : Int)) then (bif bif bif !(decide ((Z6U layers parts l v12_5 v78).X = (Z6X layers parts l v12_5 v78).X) && (decide ((Z6U layers parts l v12_5 v78).Y = (Z6X layers parts l v12_5 v78).Y) && true)) then true else !decide (((FAt (AF.mk layers (AQ.mk 0 [] 0) ((parts.take (min (parts.length : Int) 6 : Int).toNat) ++ (AV l).1.Parts) v12_5 [] [] [] [] [] [] [] [] []) (AV l).2 (AR.mk (Z6L parts l v78).Ref ({ data := #[80, 49] } : ByteArray))).2.1 : Int) = (Du (AF.mk layers (AQ.mk 0 [] 0) ((parts.take (min (parts.length : Int) 6 : Int).toNat) ++ (AV l).1.Parts) v12_5 [] [] [] [] [] [] [] [] []) (AV l).2 (AR.mk (Z6L parts l v78).Ref ({ data := #[80, 49] } : ByteArray))).2.1) then true else !((Z6V layers parts l v12_5 v78) == (Z6Y layers parts l v12_5 v78)) then false else ((C4 l parts nets layers v12_5 v13 K0 n1) (v78 + 1))) else (Z6T layers parts l v12_5)
def Cb (l : (List (List Int))) (parts : (List AD)) (nets : (List Ad)) (layers : Int) : Nat -> List Ad -> Int -> Bool
 | 0, _, _ => default
 | n0 + 1, v12_5, v13 => bif bif decide ((v13 : Int) < (nets.length : Int)) then decide ((v13 : Int) < 6) else false then ((Cb l parts nets layers n0) (v12_5 ++ [Ad.mk (nets.getD v13.toNat default).Name ((nets.getD v13.toNat default).Pins.take (min ((nets.getD v13.toNat default).Pins.length : Int) 6 : Int).toNat)]) (v13 + 1)) else (C4 l parts nets layers v12_5 v13 (Cb l parts nets layers n0) ((((((parts.take (min (parts.length : Int) 6 : Int).toNat) ++ (AV l).1.Parts).length : Nat) : Int) - 0).toNat + 1) 0)
def El (l : (List (List Int))) (parts : (List AD)) (nets : (List Ad)) (layers : Int) : Bool := Cb l parts nets layers (((6 : Int) - 0).toNat + 1) ([] : List Ad) 0
def Qw (l : (List (List Int))) (parts : (List AD)) (nets : (List Ad)) (layers : Int) : FuncId × List Av × Ef := (6, [.one (lst 1 (fun x => [lst 1 (fun x => [.i x]) x]) l), .one (lst 7 AD.c parts), .one (lst 2 Ad.c nets), .one (.i layers)], .val [] (.av (.one (.b (El l parts nets layers)))))
theorem au12 {p : Prop} (h : p := by first | (with_reducible exact EN l) | (with_reducible exact FH _ _) | (with_reducible exact OO _ _) | ((intro n_ hn_; exact hi0_3 n_ hn_)) | ((with_reducible show (v12_5.length : Int) ≤ 1000000; omega)) | (with_reducible exact LD (FH _ _) (EN l)) | (with_reducible exact QL (FH _ _) (EN l)) | (with_reducible exact PX (EN l) _) | ((rw [Kl]; with_reducible exact PX (EN l) _)) | with_reducible assumption | omega | decide | (simp only [List.length_cons, List.length_nil, List.length_append]; omega) | assumption) : p := h
theorem QP (l : (List (List Int))) (parts : (List AD)) (nets : (List Ad)) (layers : Int) (hl : (l.length : Int) <= 9223372036854775807) (hll : ∀ x ∈ l, (x.length : Int) <= 9223372036854775807) (hp : (parts.length : Int) <= 9223372036854775807) (hn : (nets.length : Int) <= 9223372036854775807) (hq : ∀ n ∈ nets, (n.Pins.length : Int) <= 9223372036854775807) : Bo Try.prog 6 (Qw l parts nets layers).2.1 (tO (.b (El l parts nets layers))) := by
 refine AX Try.func6 rfl kr kr fun W0 M0 => ?_
 have hM := NW l
 have hP := hM.par
 refine AC <| rn ⟨[(0, .av (oL l)), (1, tO (lst 7 AD.c parts)), (2, tO (lst 2 Ad.c nets)), (3, tI layers)], []⟩ <| AC ?_
 refine rc [(23, FL)] [Al FL.2.1] ⟨[(0, .av (oL l)), (1, tO (lst 7 AD.c parts)), (2, tO (lst 2 Ad.c nets)), (3, tI layers), (9, tB Az)], []⟩ (.cons Og .nil) (.cons rfl .nil) <| AJ <| AC ?_
 refine rc [(26, HK l)] [Al (HK l).2.1] ⟨[(1, tO (lst 7 AD.c parts)), (2, tO (lst 2 Ad.c nets)), (3, tI layers), (9, tB Az), (10, tP 10 0), (11, Z6G l)], [(10, .cells (AF.c (AV l).1) 42)]⟩ (.cons (Rd l au12 au12) .nil) (.cons rfl .nil) <| AJ <| AC ?_
 refine dw [30] [] [0 <= (0 : Int) /\ (0 : Int) <= (min (parts.length : Int) 6 : Int) /\ (min (parts.length : Int) 6 : Int) <= ((parts.length : Nat) : Int), 0 = 0, 0 + ((min (parts.length : Int) 6 : Int).toNat - (0 : Int).toNat) <= maxLen, (0 + ((min (parts.length : Int) 6 : Int).toNat - (0 : Int).toNat)) * 72 <= 140737488355328, 0 + ((min (parts.length : Int) 6 : Int).toNat - (0 : Int).toNat) = 0 + ((min (parts.length : Int) 6 : Int).toNat - (0 : Int).toNat), (0 + ((min (parts.length : Int) 6 : Int).toNat - (0 : Int).toNat)) + (AV l).1.Parts.length <= maxLen, ((0 + ((min (parts.length : Int) 6 : Int).toNat - (0 : Int).toNat)) + (AV l).1.Parts.length) * 72 <= 140737488355328] ⟨[(2, tO (lst 2 Ad.c nets)), (9, tB Az), (11, Z6G l), (12, tP 12 0)], [(12, .cells [.i layers, .i 0, vN, .i 0, .own 39 7 ((0 + ((min (parts.length : Int) 6 : Int).toNat - (0 : Int).toNat)) + (AV l).1.Parts.length), vN, vN, vN, vN, vN, vN, vN, vN, vN, vN] 42), (39, .row 7 ((0 + ((min (parts.length : Int) 6 : Int).toNat - (0 : Int).toNat)) + (AV l).1.Parts.length) (fun i_ j_ => if i_ < (0 + ((min (parts.length : Int) 6 : Int).toNat - (0 : Int).toNat)) then (fun i_ j_ => if i_ < 0 then (A0 7 0 []) i_ j_ else (fun i_ j_ => (AY AD.c parts) (i_ + (0 : Int).toNat) j_) (i_ - 0) j_) i_ j_ else (AY AD.c (AV l).1.Parts) (i_ - (0 + ((min (parts.length : Int) 6 : Int).toNat - (0 : Int).toNat))) j_) 59)]⟩ .nil (.cons au0 (.cons rfl (.cons au3 (.cons au3 (.cons rfl (.cons au3 (.cons au3 .nil))))))) <| AJ ?_
 refine Bl (Cv.trans (BR (⟨[(2, tO (lst 2 Ad.c nets)), (9, tB Az), (11, Z6G l), (12, tP 12 0)], [(12, Z6H layers parts l), (39, Z6I parts l)]⟩) lr (.cons ⟨rfl, .cells _ (rr (rr (rr (rr (.cons (.own _ _ au2) (rr (rr (rr (rr (rr (rr (rr (rr (rr (rr .nil)))))))))))))))⟩ (.cons ⟨rfl, Aw 59 (BV (BV (A2 (c := AD.c) (xs := (([] : List AD) : List AD)) rfl kr) (G9 (b := min (parts.length : Int) 6) (BK 7 AD.c parts) (by have hc := (show 0 <= (0 : Int) /\ (0 : Int) <= (min (parts.length : Int) 6 : Int) /\ (min (parts.length : Int) 6 : Int) <= ((parts.length : Nat) : Int) from au0); exact hc.2.1) (by have hc := (show 0 <= (0 : Int) /\ (0 : Int) <= (min (parts.length : Int) 6 : Int) /\ (min (parts.length : Int) 6 : Int) <= ((parts.length : Nat) : Int) from au0); exact hc.2.2))) (BK 7 AD.c (AV l).1.Parts))⟩ .nil))) (Cv.refl _)) <| AC <| AC ?_
 refine rn ⟨[(2, tO (lst 2 Ad.c nets)), (9, tB Az), (11, Z6G l), (12, tP 12 0), (13, tI 0)], [(12, Z6H layers parts l), (39, Z6I parts l)]⟩ <| Af ?_
 refine Bl (Cv.trans (CH (⟨[(2, tO (lst 2 Ad.c nets)), (9, tB Az), (11, Z6G l), (12, tP 12 0), (13, tI 0)], [(100000, .row 2 0 (fun _ _ => default) 48), (12, .cells [.i layers, .i 0, vN, .i 0, .own 39 7 ((parts.take (min (parts.length : Int) 6 : Int).toNat) ++ (AV l).1.Parts).length, .own 100000 2 0, vN, vN, vN, vN, vN, vN, vN, vN, vN] 42), (39, Z6I parts l)]⟩) 100000 2 (fun _ _ => default) 48 [] [(12, [5])] (K := []) (fun k x h => by cases h) rfl kr kr) (Cv.trans (BR (⟨[(2, tO (lst 2 Ad.c nets)), (9, tB Az), (11, Z6G l), (12, tP 12 0), (13, tI 0)], [(100000, Z6M), (12, Z6N layers parts l), (39, Z6I parts l)]⟩) lr (.cons ⟨rfl, Aw 48 (CF 2 (fun _ _ => default) Ad.c)⟩ (.cons ⟨rfl, .cells _ (rr (rr (rr (rr (rr (.cons (.own _ _ au2) (rr (rr (rr (rr (rr (rr (rr (rr (rr .nil)))))))))))))))⟩ lr))) (Cv.trans (BA [2, 9, 11, 12, 13] [12, 39, 100000] (⟨[(2, tO (lst 2 Ad.c nets)), (9, tB Az), (11, Z6G l), (12, tP 12 0), (13, tI 0)], [(12, Z6N layers parts l), (39, Z6I parts l), (100000, Z6M)]⟩) kr) (Cv.refl _)))) ?_
 refine BL (ι := Nat × List Ad × Int) (fun x => ⟨[(2, tO (lst 2 Ad.c nets)), (9, tB Az), (11, Z6G l), (12, tP 12 0), (13, tI x.2.2)], [(12, .cells [.i layers, .i 0, vN, .i 0, .own 39 7 ((parts.take (min (parts.length : Int) 6 : Int).toNat) ++ (AV l).1.Parts).length, .own 100000 2 x.2.1.length, vN, vN, vN, vN, vN, vN, vN, vN, vN] 42), (39, Z6I parts l), (100000, .row 2 x.2.1.length (AY Ad.c x.2.1) 48)]⟩) (fun x => ((6 : Int) - x.2.2).toNat < x.1 /\ (0 <= x.2.2 /\ x.2.2 <= 6 /\ (x.2.1.length : Int) = x.2.2 /\ I8 x.2.1 /\ 0 <= x.2.2) /\ Cb l parts nets layers x.1 x.2.1 x.2.2 = El l parts nets layers) (fun x => x.1) ?_ (((6 : Int) - 0).toNat + 1, ([] : List Ad), 0) ⟨Nat.lt_succ_self _, ⟨ax0, ax0, ax0, (by show I8 ([] : List Ad); first | exact KC | exact KD (by assumption) | assumption), ax0⟩, (by simp only [El, cond_true, cond_false])⟩
 rintro ⟨n0, v12_5, v13⟩ ⟨hn, hinv, hF⟩
 have hm0 := hn; have hinv0 := hinv; have hF0 := hF; try dsimp only at hm0 hinv0 hF0
 clear hn hinv hF
 cases n0 with
 | zero => exact absurd hm0 (Nat.not_lt_zero _)
 | succ n0 =>
  have hi0_3 := hinv0.2.2.2.1
  refine AC <| AC ?_
  refine rc [] [((decide ((v13 : Int) < (nets.length : Int))) = true) -> ((decide ((v13 : Int) < (nets.length : Int))) = true), (decide ((v13 : Int) < (nets.length : Int))) = true -> ((decide ((v13 : Int) < (nets.length : Int))) = true)] ⟨[(2, tO (lst 2 Ad.c nets)), (9, tB Az), (11, Z6G l), (12, tP 12 0), (13, tI v13), (48, tB (bif decide ((v13 : Int) < (nets.length : Int)) then decide ((v13 : Int) < 6) else false))], [(12, Z6O layers parts l v12_5), (39, Z6I parts l), (100000, Z6P v12_5)]⟩ .nil (.cons id (.cons id .nil)) <| AJ ?_
  refine Ae _ rfl (fun h1 => ?_) (fun h1 => ?_)
  ·have g1 := IY h1
   refine Ak <| AJ ?_
   refine AC <| Af ?_
   refine dw [] [] [0 <= (v13 : Int) /\ (v13 : Int) < ((nets.length : Nat) : Int), 0 <= (v13 : Int) /\ (v13 : Int) < ((nets.length : Nat) : Int), 0 <= (v13 : Int) /\ (v13 : Int) < ((nets.length : Nat) : Int), 0 <= (0 : Int) /\ (0 : Int) <= (min ((nets.getD v13.toNat default).Pins.length : Int) 6 : Int) /\ (min ((nets.getD v13.toNat default).Pins.length : Int) 6 : Int) <= (((nets.getD v13.toNat default).Pins.length : Nat) : Int), v12_5.length = v12_5.length, v12_5.length + 1 <= maxLen, (v12_5.length + 1) * 40 <= 140737488355328] ⟨[(2, tO (lst 2 Ad.c nets)), (9, tB Az), (11, Z6G l), (12, tP 12 0), (13, tI v13)], [(12, .cells [.i layers, .i 0, vN, .i 0, .own 39 7 ((parts.take (min (parts.length : Int) 6 : Int).toNat) ++ (AV l).1.Parts).length, .own 73 2 (v12_5.length + 1), vN, vN, vN, vN, vN, vN, vN, vN, vN] 42), (39, Z6I parts l), (73, .row 2 (v12_5.length + 1) (fun i_ j_ => if i_ < v12_5.length then (AY Ad.c v12_5) i_ j_ else (A0 2 1 [.s (nets.getD v13.toNat default).Name, .list false 2 ((min ((nets.getD v13.toNat default).Pins.length : Int) 6 : Int).toNat - (0 : Int).toNat) (fun i_ j_ => (AY AR.c (nets.getD v13.toNat default).Pins) (i_ + (0 : Int).toNat) j_)]) (i_ - v12_5.length) j_) 48)]⟩ .nil (.cons au0 (.cons au0 (.cons au0 (.cons au0 (.cons rfl (.cons au3 (.cons au3 .nil))))))) <| Bq <| AJ ?_
   refine Bl (Cv.trans (BR (⟨[(2, tO (lst 2 Ad.c nets)), (9, tB Az), (11, Z6G l), (12, tP 12 0), (13, tI v13)], [(12, Z6Q layers parts l v12_5 nets v13), (39, Z6I parts l), (73, Z6R v12_5 nets v13)]⟩) lr (.cons ⟨rfl, .cells _ (rr (rr (rr (rr (rr (.cons (.own _ _ au2) (rr (rr (rr (rr (rr (rr (rr (rr (rr .nil)))))))))))))))⟩ (.cons ⟨rfl, .refl _⟩ (.cons ⟨rfl, Aw 48 (BV (BK 2 Ad.c v12_5) (Dl (c := Ad.c) (xs := ([Ad.mk (nets.getD v13.toNat default).Name ((nets.getD v13.toNat default).Pins.take (min ((nets.getD v13.toNat default).Pins.length : Int) 6 : Int).toNat)] : List Ad)) (y := [[.s (nets.getD v13.toNat default).Name, .list false 2 ((min ((nets.getD v13.toNat default).Pins.length : Int) 6 : Int).toNat - (0 : Int).toNat) (fun i_ j_ => (AY AR.c (nets.getD v13.toNat default).Pins) (i_ + (0 : Int).toNat) j_)]]) (z := [[.s (nets.getD v13.toNat default).Name, lst 2 AR.c ((nets.getD v13.toNat default).Pins.take (min ((nets.getD v13.toNat default).Pins.length : Int) 6 : Int).toNat)]]) rfl kr kr (.cons (rr (.cons (Bt false (G9 (b := min ((nets.getD v13.toNat default).Pins.length : Int) 6) (BK 2 AR.c (nets.getD v13.toNat default).Pins) (by have hc := (show 0 <= (0 : Int) /\ (0 : Int) <= (min ((nets.getD v13.toNat default).Pins.length : Int) 6 : Int) /\ (min ((nets.getD v13.toNat default).Pins.length : Int) 6 : Int) <= (((nets.getD v13.toNat default).Pins.length : Nat) : Int) from au0); exact hc.2.1) (by have hc := (show 0 <= (0 : Int) /\ (0 : Int) <= (min ((nets.getD v13.toNat default).Pins.length : Int) 6 : Int) /\ (min ((nets.getD v13.toNat default).Pins.length : Int) 6 : Int) <= (((nets.getD v13.toNat default).Pins.length : Nat) : Int) from au0); exact hc.2.2))) .nil)) .nil)))⟩ .nil)))) (Cv.refl _)) ?_
   refine rg ⟨[(2, tO (lst 2 Ad.c nets)), (9, tB Az), (11, Z6G l), (12, tP 12 0), (13, tI (W64 (v13 + 1)))], [(12, Z6Q layers parts l v12_5 nets v13), (39, Z6I parts l), (73, Z6R v12_5 nets v13)]⟩ ?_
   (try rw [(show W64 (v13 + 1) = v13 + 1 from BP (by omega) (by omega))])
   refine AJ ?_
   refine ⟨(n0, v12_5 ++ [Ad.mk (nets.getD v13.toNat default).Name ((nets.getD v13.toNat default).Pins.take (min ((nets.getD v13.toNat default).Pins.length : Int) 6 : Int).toNat)], v13 + 1), ⟨?_, ?_, (by rw [<- hF0]; simp only [Cb, h1, cond_true, cond_false])⟩, Nat.lt_succ_self _, Cv.trans (Be (⟨[(2, tO (lst 2 Ad.c nets)), (9, tB Az), (11, Z6G l), (12, tP 12 0), (13, tI (v13 + 1))], [(12, .cells [.i layers, .i 0, vN, .i 0, .own 39 7 ((parts.take (min (parts.length : Int) 6 : Int).toNat) ++ (AV l).1.Parts).length, .own 100000 2 (v12_5 ++ [Ad.mk (nets.getD v13.toNat default).Name ((nets.getD v13.toNat default).Pins.take (min ((nets.getD v13.toNat default).Pins.length : Int) 6 : Int).toNat)]).length, vN, vN, vN, vN, vN, vN, vN, vN, vN] 42), (39, Z6I parts l), (100000, Z6R v12_5 nets v13)]⟩) 73 100000 (K := []) (fun k x h => by cases h) rfl rfl kr kr) (A6 kr)⟩
   ·show ((6 : Int) - (v13 + 1)).toNat < n0; omega
   ·exact ⟨ax0, ax0, ax0, (by show I8 (v12_5 ++ [Ad.mk (nets.getD v13.toNat default).Name ((nets.getD v13.toNat default).Pins.take (min ((nets.getD v13.toNat default).Pins.length : Int) 6 : Int).toNat)]); first | exact KC | exact KD (by assumption) | assumption), ax0⟩
  ·refine BZ <| BI ?_
   refine BI <| Ba ?_
   refine AJ <| AC <| AC ?_
   refine rn ⟨[(9, tB Az), (11, Z6G l), (12, tP 12 0), (76, tO (.own 39 7 ((parts.take (min (parts.length : Int) 6 : Int).toNat) ++ (AV l).1.Parts).length)), (77, Z6J parts l), (78, tI 0)], [(12, Z6O layers parts l v12_5), (39, Z6I parts l), (100000, Z6P v12_5)]⟩ <| Af ?_
   refine Bl (Cv.trans (Cu (⟨[(9, tB Az), (11, Z6G l), (12, tP 12 0), (76, Z6K parts l), (77, Z6J parts l), (78, tI 0)], [(12, .cells [.i layers, .i 0, vN, .i 0, lst 7 AD.c ((parts.take (min (parts.length : Int) 6 : Int).toNat) ++ (AV l).1.Parts), .own 100000 2 v12_5.length, vN, vN, vN, vN, vN, vN, vN, vN, vN] 42), (100000, Z6P v12_5)]⟩) 39 7 ((parts.take (min (parts.length : Int) 6 : Int).toNat) ++ (AV l).1.Parts).length (AY AD.c ((parts.take (min (parts.length : Int) 6 : Int).toNat) ++ (AV l).1.Parts)) 59 (K := []) (fun k x h => by cases h) kr kr (.cons ⟨rfl, rfl⟩ (.cons ⟨rfl, rfl⟩ .nil)) kr) (Cv.trans (Cu (⟨[(9, tB Az), (11, Z6G l), (12, tP 12 0), (76, Z6K parts l), (77, Z6J parts l), (78, tI 0)], [(12, Z6S layers parts l v12_5)]⟩) 100000 2 v12_5.length (AY Ad.c v12_5) 48 (K := []) (fun k x h => by cases h) kr kr (.cons ⟨rfl, rfl⟩ .nil) kr) (Cv.refl _))) ?_
   refine BL (ι := Nat × Int) (fun x => ⟨[(9, tB Az), (11, Z6G l), (12, tP 12 0), (76, Z6K parts l), (77, Z6J parts l), (78, tI x.2)], [(12, Z6S layers parts l v12_5)]⟩) (fun x => (((((parts.take (min (parts.length : Int) 6 : Int).toNat) ++ (AV l).1.Parts).length : Nat) : Int) - x.2).toNat < x.1 /\ (0 <= x.2 /\ (x.2 <= ((((parts.take (min (parts.length : Int) 6 : Int).toNat) ++ (AV l).1.Parts).length : Nat) : Int) \/ x.2 = 0)) /\ C4 l parts nets layers v12_5 v13 (Cb l parts nets layers n0) x.1 x.2 = El l parts nets layers) (fun x => x.1) ?_ ((((((parts.take (min (parts.length : Int) 6 : Int).toNat) ++ (AV l).1.Parts).length : Nat) : Int) - 0).toNat + 1, 0) ⟨Nat.lt_succ_self _, ⟨ax0, ax0⟩, (by rw [<- hF0]; simp only [Cb, h1, cond_true, cond_false])⟩
   rintro ⟨n1, v78⟩ ⟨hn, hinv, hF⟩
   have hm1 := hn; have hinv1 := hinv; have hF1 := hF; try dsimp only at hm1 hinv1 hF1
   clear hn hinv hF
   cases n1 with
   | zero => exact absurd hm1 (Nat.not_lt_zero _)
   | succ n1 =>
    refine AC <| rn ⟨[(9, tB Az), (11, Z6G l), (12, tP 12 0), (76, Z6K parts l), (77, Z6J parts l), (78, tI v78), (79, tB (decide ((v78 : Int) < ((((parts.take (min (parts.length : Int) 6 : Int).toNat) ++ (AV l).1.Parts).length : Nat) : Int))))], [(12, Z6S layers parts l v12_5)]⟩ <| AC ?_
    refine Ae (decide ((v78 : Int) < ((((parts.take (min (parts.length : Int) 6 : Int).toNat) ++ (AV l).1.Parts).length : Nat) : Int))) kr (fun h2 => ?_) (fun h2 => ?_)
    ·have g2 := oT h2
     refine Ak <| AJ ?_
     refine AC <| Af <| AC ?_
     refine rc [] [0 <= (v78 : Int) /\ (v78 : Int) < ((((parts.take (min (parts.length : Int) 6 : Int).toNat) ++ (AV l).1.Parts).length : Nat) : Int)] ⟨[(9, tB Az), (11, Z6G l), (12, tP 12 0), (15, tP 15 0), (76, Z6K parts l), (77, Z6J parts l), (78, tI v78)], [(12, Z6S layers parts l v12_5), (15, .cells (AD.c (Z6L parts l v78)) 59)]⟩ .nil (.cons au0 .nil) <| AJ <| AC ?_
     refine rn ⟨[(9, tB Az), (11, Z6G l), (12, tP 12 0), (16, tP 16 0), (76, Z6K parts l), (77, Z6J parts l), (78, tI v78)], [(12, Z6S layers parts l v12_5), (16, .cells [.s (Z6L parts l v78).Ref, .s ({ data := #[80, 49] } : ByteArray)] 25)]⟩ <| AC ?_
     refine rc [(89, ceI [.agg [.i layers, .i 0, vN, .i 0, lst 7 AD.c ((parts.take (min (parts.length : Int) 6 : Int).toNat) ++ (AV l).1.Parts), lst 2 Ad.c v12_5, vN, vN, vN, vN, vN, vN, vN, vN, vN], .one (lst 3 AG.c (AV l).2), .agg [.s (Z6L parts l v78).Ref, .s ({ data := #[80, 49] } : ByteArray)]] (cAt (AF.mk layers (AQ.mk 0 [] 0) ((parts.take (min (parts.length : Int) 6 : Int).toNat) ++ (AV l).1.Parts) v12_5 [] [] [] [] [] [] [] [] []) (AV l).2 (AR.mk (Z6L parts l v78).Ref ({ data := #[80, 49] } : ByteArray))))] [Al (ceI [.agg [.i layers, .i 0, vN, .i 0, lst 7 AD.c ((parts.take (min (parts.length : Int) 6 : Int).toNat) ++ (AV l).1.Parts), lst 2 Ad.c v12_5, vN, vN, vN, vN, vN, vN, vN, vN, vN], .one (lst 3 AG.c (AV l).2), .agg [.s (Z6L parts l v78).Ref, .s ({ data := #[80, 49] } : ByteArray)]] (cAt (AF.mk layers (AQ.mk 0 [] 0) ((parts.take (min (parts.length : Int) 6 : Int).toNat) ++ (AV l).1.Parts) v12_5 [] [] [] [] [] [] [] [] []) (AV l).2 (AR.mk (Z6L parts l v78).Ref ({ data := #[80, 49] } : ByteArray)))).2.1] ⟨[(9, tB Az), (11, Z6G l), (12, tP 12 0), (16, tP 16 0), (17, tP 17 0), (18, Z6W layers parts l v12_5 v78), (19, tB (Z6V layers parts l v12_5 v78)), (76, Z6K parts l), (77, Z6J parts l), (78, tI v78)], [(12, Z6S layers parts l v12_5), (16, .cells [.s (Z6L parts l v78).Ref, .s ({ data := #[80, 49] } : ByteArray)] 25), (17, .cells (AE.c (Z6U layers parts l v12_5 v78)) 52)]⟩ (.cons (Cg (okAt (AF.mk layers (AQ.mk 0 [] 0) ((parts.take (min (parts.length : Int) 6 : Int).toNat) ++ (AV l).1.Parts) v12_5 [] [] [] [] [] [] [] [] []) (AV l).2 (AR.mk (Z6L parts l v78).Ref ({ data := #[80, 49] } : ByteArray)) au12 au12) (.cons (.agg (rr (rr (.cons (A8 7 AH.c) (rr (rr (rr (.cons (A8 6 Am.c) (.cons (A8 8 BS.c) (.cons (A8 8 A5.c) (.cons (A8 5 BG.c) (.cons (A8 4 BW.c) (.cons (A8 2 Bj.c) (.cons (.any _) (.cons (A8 3 Bf.c) (.cons (A8 3 CE.c) .nil)))))))))))))))) (.cons (AvE.refl _) (.cons (AvE.refl _) .nil)))) .nil) (.cons rfl .nil) <| AJ <| AC ?_
     refine rc [(97, ceI [.agg [.i layers, .i 0, vN, .i 0, lst 7 AD.c ((parts.take (min (parts.length : Int) 6 : Int).toNat) ++ (AV l).1.Parts), lst 2 Ad.c v12_5, vN, vN, vN, vN, vN, vN, vN, vN, vN], .one (lst 3 AG.c (AV l).2), .agg [.s (Z6L parts l v78).Ref, .s ({ data := #[80, 49] } : ByteArray)]] (Lm (AF.mk layers (AQ.mk 0 [] 0) ((parts.take (min (parts.length : Int) 6 : Int).toNat) ++ (AV l).1.Parts) v12_5 [] [] [] [] [] [] [] [] []) (AV l).2 (AR.mk (Z6L parts l v78).Ref ({ data := #[80, 49] } : ByteArray))))] [Al (ceI [.agg [.i layers, .i 0, vN, .i 0, lst 7 AD.c ((parts.take (min (parts.length : Int) 6 : Int).toNat) ++ (AV l).1.Parts), lst 2 Ad.c v12_5, vN, vN, vN, vN, vN, vN, vN, vN, vN], .one (lst 3 AG.c (AV l).2), .agg [.s (Z6L parts l v78).Ref, .s ({ data := #[80, 49] } : ByteArray)]] (Lm (AF.mk layers (AQ.mk 0 [] 0) ((parts.take (min (parts.length : Int) 6 : Int).toNat) ++ (AV l).1.Parts) v12_5 [] [] [] [] [] [] [] [] []) (AV l).2 (AR.mk (Z6L parts l v78).Ref ({ data := #[80, 49] } : ByteArray)))).2.1] ⟨[(9, tB Az), (11, Z6G l), (12, tP 12 0), (17, tP 17 0), (18, Z6W layers parts l v12_5 v78), (19, tB (Z6V layers parts l v12_5 v78)), (20, tP 20 0), (21, tI (Du (AF.mk layers (AQ.mk 0 [] 0) ((parts.take (min (parts.length : Int) 6 : Int).toNat) ++ (AV l).1.Parts) v12_5 [] [] [] [] [] [] [] [] []) (AV l).2 (AR.mk (Z6L parts l v78).Ref ({ data := #[80, 49] } : ByteArray))).2.1), (22, tB (Z6Y layers parts l v12_5 v78)), (76, Z6K parts l), (77, Z6J parts l), (78, tI v78)], [(12, Z6S layers parts l v12_5), (17, .cells (AE.c (Z6U layers parts l v12_5 v78)) 52), (20, .cells (AE.c (Z6X layers parts l v12_5 v78)) 52)]⟩ (.cons (Cg (Up (AF.mk layers (AQ.mk 0 [] 0) ((parts.take (min (parts.length : Int) 6 : Int).toNat) ++ (AV l).1.Parts) v12_5 [] [] [] [] [] [] [] [] []) (AV l).2 (AR.mk (Z6L parts l v78).Ref ({ data := #[80, 49] } : ByteArray)) au12 au12) (.cons (.agg (rr (rr (.cons (A8 7 AH.c) (rr (rr (rr (.cons (A8 6 Am.c) (.cons (A8 8 BS.c) (.cons (A8 8 A5.c) (.cons (A8 5 BG.c) (.cons (A8 4 BW.c) (.cons (A8 2 Bj.c) (.cons (.any _) (.cons (A8 3 Bf.c) (.cons (A8 3 CE.c) .nil)))))))))))))))) (.cons (AvE.refl _) (.cons (AvE.refl _) .nil)))) .nil) (.cons rfl .nil) <| AJ <| AC ?_
     refine rc [] [((!(decide ((Z6U layers parts l v12_5 v78).X = (Z6X layers parts l v12_5 v78).X) && (decide ((Z6U layers parts l v12_5 v78).Y = (Z6X layers parts l v12_5 v78).Y) && true))) = false) -> ((!(decide ((Z6U layers parts l v12_5 v78).X = (Z6X layers parts l v12_5 v78).X) && (decide ((Z6U layers parts l v12_5 v78).Y = (Z6X layers parts l v12_5 v78).Y) && true))) = false), ((!(decide ((Z6U layers parts l v12_5 v78).X = (Z6X layers parts l v12_5 v78).X) && (decide ((Z6U layers parts l v12_5 v78).Y = (Z6X layers parts l v12_5 v78).Y) && true))) = false) -> ((!(decide ((Z6U layers parts l v12_5 v78).X = (Z6X layers parts l v12_5 v78).X) && (decide ((Z6U layers parts l v12_5 v78).Y = (Z6X layers parts l v12_5 v78).Y) && true))) = false), (!(decide ((Z6U layers parts l v12_5 v78).X = (Z6X layers parts l v12_5 v78).X) && (decide ((Z6U layers parts l v12_5 v78).Y = (Z6X layers parts l v12_5 v78).Y) && true))) = false -> ((!(decide ((Z6U layers parts l v12_5 v78).X = (Z6X layers parts l v12_5 v78).X) && (decide ((Z6U layers parts l v12_5 v78).Y = (Z6X layers parts l v12_5 v78).Y) && true))) = false), ((bif !(decide ((Z6U layers parts l v12_5 v78).X = (Z6X layers parts l v12_5 v78).X) && (decide ((Z6U layers parts l v12_5 v78).Y = (Z6X layers parts l v12_5 v78).Y) && true)) then true else !decide (((FAt (AF.mk layers (AQ.mk 0 [] 0) ((parts.take (min (parts.length : Int) 6 : Int).toNat) ++ (AV l).1.Parts) v12_5 [] [] [] [] [] [] [] [] []) (AV l).2 (AR.mk (Z6L parts l v78).Ref ({ data := #[80, 49] } : ByteArray))).2.1 : Int) = (Du (AF.mk layers (AQ.mk 0 [] 0) ((parts.take (min (parts.length : Int) 6 : Int).toNat) ++ (AV l).1.Parts) v12_5 [] [] [] [] [] [] [] [] []) (AV l).2 (AR.mk (Z6L parts l v78).Ref ({ data := #[80, 49] } : ByteArray))).2.1)) = false) -> ((bif !(decide ((Z6U layers parts l v12_5 v78).X = (Z6X layers parts l v12_5 v78).X) && (decide ((Z6U layers parts l v12_5 v78).Y = (Z6X layers parts l v12_5 v78).Y) && true)) then true else !decide (((FAt (AF.mk layers (AQ.mk 0 [] 0) ((parts.take (min (parts.length : Int) 6 : Int).toNat) ++ (AV l).1.Parts) v12_5 [] [] [] [] [] [] [] [] []) (AV l).2 (AR.mk (Z6L parts l v78).Ref ({ data := #[80, 49] } : ByteArray))).2.1 : Int) = (Du (AF.mk layers (AQ.mk 0 [] 0) ((parts.take (min (parts.length : Int) 6 : Int).toNat) ++ (AV l).1.Parts) v12_5 [] [] [] [] [] [] [] [] []) (AV l).2 (AR.mk (Z6L parts l v78).Ref ({ data := #[80, 49] } : ByteArray))).2.1)) = false), ((bif !(decide ((Z6U layers parts l v12_5 v78).X = (Z6X layers parts l v12_5 v78).X) && (decide ((Z6U layers parts l v12_5 v78).Y = (Z6X layers parts l v12_5 v78).Y) && true)) then true else !decide (((FAt (AF.mk layers (AQ.mk 0 [] 0) ((parts.take (min (parts.length : Int) 6 : Int).toNat) ++ (AV l).1.Parts) v12_5 [] [] [] [] [] [] [] [] []) (AV l).2 (AR.mk (Z6L parts l v78).Ref ({ data := #[80, 49] } : ByteArray))).2.1 : Int) = (Du (AF.mk layers (AQ.mk 0 [] 0) ((parts.take (min (parts.length : Int) 6 : Int).toNat) ++ (AV l).1.Parts) v12_5 [] [] [] [] [] [] [] [] []) (AV l).2 (AR.mk (Z6L parts l v78).Ref ({ data := #[80, 49] } : ByteArray))).2.1)) = false) -> ((bif !(decide ((Z6U layers parts l v12_5 v78).X = (Z6X layers parts l v12_5 v78).X) && (decide ((Z6U layers parts l v12_5 v78).Y = (Z6X layers parts l v12_5 v78).Y) && true)) then true else !decide (((FAt (AF.mk layers (AQ.mk 0 [] 0) ((parts.take (min (parts.length : Int) 6 : Int).toNat) ++ (AV l).1.Parts) v12_5 [] [] [] [] [] [] [] [] []) (AV l).2 (AR.mk (Z6L parts l v78).Ref ({ data := #[80, 49] } : ByteArray))).2.1 : Int) = (Du (AF.mk layers (AQ.mk 0 [] 0) ((parts.take (min (parts.length : Int) 6 : Int).toNat) ++ (AV l).1.Parts) v12_5 [] [] [] [] [] [] [] [] []) (AV l).2 (AR.mk (Z6L parts l v78).Ref ({ data := #[80, 49] } : ByteArray))).2.1)) = false), (bif !(decide ((Z6U layers parts l v12_5 v78).X = (Z6X layers parts l v12_5 v78).X) && (decide ((Z6U layers parts l v12_5 v78).Y = (Z6X layers parts l v12_5 v78).Y) && true)) then true else !decide (((FAt (AF.mk layers (AQ.mk 0 [] 0) ((parts.take (min (parts.length : Int) 6 : Int).toNat) ++ (AV l).1.Parts) v12_5 [] [] [] [] [] [] [] [] []) (AV l).2 (AR.mk (Z6L parts l v78).Ref ({ data := #[80, 49] } : ByteArray))).2.1 : Int) = (Du (AF.mk layers (AQ.mk 0 [] 0) ((parts.take (min (parts.length : Int) 6 : Int).toNat) ++ (AV l).1.Parts) v12_5 [] [] [] [] [] [] [] [] []) (AV l).2 (AR.mk (Z6L parts l v78).Ref ({ data := #[80, 49] } : ByteArray))).2.1)) = false -> ((bif !(decide ((Z6U layers parts l v12_5 v78).X = (Z6X layers parts l v12_5 v78).X) && (decide ((Z6U layers parts l v12_5 v78).Y = (Z6X layers parts l v12_5 v78).Y) && true)) then true else !decide (((FAt (AF.mk layers (AQ.mk 0 [] 0) ((parts.take (min (parts.length : Int) 6 : Int).toNat) ++ (AV l).1.Parts) v12_5 [] [] [] [] [] [] [] [] []) (AV l).2 (AR.mk (Z6L parts l v78).Ref ({ data := #[80, 49] } : ByteArray))).2.1 : Int) = (Du (AF.mk layers (AQ.mk 0 [] 0) ((parts.take (min (parts.length : Int) 6 : Int).toNat) ++ (AV l).1.Parts) v12_5 [] [] [] [] [] [] [] [] []) (AV l).2 (AR.mk (Z6L parts l v78).Ref ({ data := #[80, 49] } : ByteArray))).2.1)) = false)] ⟨[(9, tB Az), (11, Z6G l), (12, tP 12 0), (76, Z6K parts l), (77, Z6J parts l), (78, tI v78), (113, tB (bif bif !(decide ((Z6U layers parts l v12_5 v78).X = (Z6X layers parts l v12_5 v78).X) && (decide ((Z6U layers parts l v12_5 v78).Y = (Z6X layers parts l v12_5 v78).Y) && true)) then true else !decide (((FAt (AF.mk layers (AQ.mk 0 [] 0) ((parts.take (min (parts.length : Int) 6 : Int).toNat) ++ (AV l).1.Parts) v12_5 [] [] [] [] [] [] [] [] []) (AV l).2 (AR.mk (Z6L parts l v78).Ref ({ data := #[80, 49] } : ByteArray))).2.1 : Int) = (Du (AF.mk layers (AQ.mk 0 [] 0) ((parts.take (min (parts.length : Int) 6 : Int).toNat) ++ (AV l).1.Parts) v12_5 [] [] [] [] [] [] [] [] []) (AV l).2 (AR.mk (Z6L parts l v78).Ref ({ data := #[80, 49] } : ByteArray))).2.1) then true else !((Z6V layers parts l v12_5 v78) == (Z6Y layers parts l v12_5 v78))))], [(12, Z6S layers parts l v12_5)]⟩ .nil (.cons id (.cons id (.cons id (.cons id (.cons id (.cons id .nil)))))) <| AJ ?_
     refine Ae (bif bif !(decide ((Z6U layers parts l v12_5 v78).X = (Z6X layers parts l v12_5 v78).X) && (decide ((Z6U layers parts l v12_5 v78).Y = (Z6X layers parts l v12_5 v78).Y) && true)) then true else !decide (((FAt (AF.mk layers (AQ.mk 0 [] 0) ((parts.take (min (parts.length : Int) 6 : Int).toNat) ++ (AV l).1.Parts) v12_5 [] [] [] [] [] [] [] [] []) (AV l).2 (AR.mk (Z6L parts l v78).Ref ({ data := #[80, 49] } : ByteArray))).2.1 : Int) = (Du (AF.mk layers (AQ.mk 0 [] 0) ((parts.take (min (parts.length : Int) 6 : Int).toNat) ++ (AV l).1.Parts) v12_5 [] [] [] [] [] [] [] [] []) (AV l).2 (AR.mk (Z6L parts l v78).Ref ({ data := #[80, 49] } : ByteArray))).2.1) then true else !((Z6V layers parts l v12_5 v78) == (Z6Y layers parts l v12_5 v78))) kr (fun h3 => ?_) (fun h3 => ?_)
     ·refine AC <| rn ⟨[(8, tB false)], []⟩ ?_
      refine Aj <| CD ?_
      refine BO <| BO ?_
      refine CD <| BO ?_
      exact ⟨_, Cv.refl _, .inl rfl, tO (.b false), by kernel_rfl, Ao (by rw [<- hF1]; first | (simp only [C4, h2, h3, cond_true, cond_false] <;> rfl))⟩
     ·refine Ak <| Bq <| AJ ?_
      refine rg ⟨[(9, tB Az), (11, Z6G l), (12, tP 12 0), (76, Z6K parts l), (77, Z6J parts l), (78, tI (W64 (v78 + 1)))], [(12, Z6S layers parts l v12_5)]⟩ ?_
      (try rw [(show W64 (v78 + 1) = v78 + 1 from BP (by have := FH parts l; omega) (by have := FH parts l; omega))])
      refine AJ ?_
      refine ⟨(n1, v78 + 1), ⟨?_, ?_, (by rw [<- hF1]; simp only [C4, h2, h3, cond_true, cond_false])⟩, Nat.lt_succ_self _, A6 kr⟩
      ·show (((((parts.take (min (parts.length : Int) 6 : Int).toNat) ++ (AV l).1.Parts).length : Nat) : Int) - (v78 + 1)).toNat < n1; omega
      ·exact ⟨ax0, ax0⟩
    ·have g2 := oF h2
     refine BZ <| BI ?_
     refine BI <| Ba ?_
     refine AJ <| AC ?_
     refine dw [] [(119, ceI [.agg [.i layers, .i 0, vN, .i 0, lst 7 AD.c ((parts.take (min (parts.length : Int) 6 : Int).toNat) ++ (AV l).1.Parts), lst 2 Ad.c v12_5, vN, vN, vN, vN, vN, vN, vN, vN, vN], .one (lst 3 AG.c (AV l).2)] (H0 (AF.mk layers (AQ.mk 0 [] 0) ((parts.take (min (parts.length : Int) 6 : Int).toNat) ++ (AV l).1.Parts) v12_5 [] [] [] [] [] [] [] [] []) (AV l).2)), (122, ceI [.agg [.i layers, .i 0, vN, .i 0, lst 7 AD.c ((parts.take (min (parts.length : Int) 6 : Int).toNat) ++ (AV l).1.Parts), lst 2 Ad.c v12_5, vN, vN, vN, vN, vN, vN, vN, vN, vN], .one (lst 3 AG.c (AV l).2)] (HN (AF.mk layers (AQ.mk 0 [] 0) ((parts.take (min (parts.length : Int) 6 : Int).toNat) ++ (AV l).1.Parts) v12_5 [] [] [] [] [] [] [] [] []) (AV l).2)), (123, HM (B3 (AF.mk layers (AQ.mk 0 [] 0) ((parts.take (min (parts.length : Int) 6 : Int).toNat) ++ (AV l).1.Parts) v12_5 [] [] [] [] [] [] [] [] []) (AV l).2) (ES (AF.mk layers (AQ.mk 0 [] 0) ((parts.take (min (parts.length : Int) 6 : Int).toNat) ++ (AV l).1.Parts) v12_5 [] [] [] [] [] [] [] [] []) (AV l).2))] [(Az = true) -> (Az = true), (Az = true) -> (Az = true), (Az = true) -> (Al (ceI [.agg [.i layers, .i 0, vN, .i 0, lst 7 AD.c ((parts.take (min (parts.length : Int) 6 : Int).toNat) ++ (AV l).1.Parts), lst 2 Ad.c v12_5, vN, vN, vN, vN, vN, vN, vN, vN, vN], .one (lst 3 AG.c (AV l).2)] (H0 (AF.mk layers (AQ.mk 0 [] 0) ((parts.take (min (parts.length : Int) 6 : Int).toNat) ++ (AV l).1.Parts) v12_5 [] [] [] [] [] [] [] [] []) (AV l).2)).2.1), (Az = true) -> (Az = true), (Az = true) -> (Az = true), (Az = true) -> (Al (ceI [.agg [.i layers, .i 0, vN, .i 0, lst 7 AD.c ((parts.take (min (parts.length : Int) 6 : Int).toNat) ++ (AV l).1.Parts), lst 2 Ad.c v12_5, vN, vN, vN, vN, vN, vN, vN, vN, vN], .one (lst 3 AG.c (AV l).2)] (HN (AF.mk layers (AQ.mk 0 [] 0) ((parts.take (min (parts.length : Int) 6 : Int).toNat) ++ (AV l).1.Parts) v12_5 [] [] [] [] [] [] [] [] []) (AV l).2)).2.1), (Az = true) -> (Az = true), (Az = true) -> (Az = true), (Az = true) -> (Al (HM (B3 (AF.mk layers (AQ.mk 0 [] 0) ((parts.take (min (parts.length : Int) 6 : Int).toNat) ++ (AV l).1.Parts) v12_5 [] [] [] [] [] [] [] [] []) (AV l).2) (ES (AF.mk layers (AQ.mk 0 [] 0) ((parts.take (min (parts.length : Int) 6 : Int).toNat) ++ (AV l).1.Parts) v12_5 [] [] [] [] [] [] [] [] []) (AV l).2)).2.1), Az = true -> (Az = true)] ⟨[(8, tB (Z6T layers parts l v12_5))], []⟩ (.cons (Cg (Pa (AF.mk layers (AQ.mk 0 [] 0) ((parts.take (min (parts.length : Int) 6 : Int).toNat) ++ (AV l).1.Parts) v12_5 [] [] [] [] [] [] [] [] []) (AV l).2 au12 au12 au12 au12 au12) (.cons (.agg (rr (rr (.cons (A8 7 AH.c) (rr (rr (rr (.cons (A8 6 Am.c) (.cons (A8 8 BS.c) (.cons (A8 8 A5.c) (.cons (A8 5 BG.c) (.cons (A8 4 BW.c) (.cons (A8 2 Bj.c) (.cons (.any _) (.cons (A8 3 Bf.c) (.cons (A8 3 CE.c) .nil)))))))))))))))) (.cons (AvE.refl _) .nil))) (.cons (Cg (Rh (AF.mk layers (AQ.mk 0 [] 0) ((parts.take (min (parts.length : Int) 6 : Int).toNat) ++ (AV l).1.Parts) v12_5 [] [] [] [] [] [] [] [] []) (AV l).2 au12 au12 au12 au12) (.cons (.agg (rr (rr (.cons (A8 7 AH.c) (rr (rr (rr (.cons (A8 6 Am.c) (.cons (A8 8 BS.c) (.cons (A8 8 A5.c) (.cons (A8 5 BG.c) (.cons (A8 4 BW.c) (.cons (A8 2 Bj.c) (.cons (.any _) (.cons (A8 3 Bf.c) (.cons (A8 3 CE.c) .nil)))))))))))))))) (.cons (AvE.refl _) .nil))) (.cons (Rg (B3 (AF.mk layers (AQ.mk 0 [] 0) ((parts.take (min (parts.length : Int) 6 : Int).toNat) ++ (AV l).1.Parts) v12_5 [] [] [] [] [] [] [] [] []) (AV l).2) (ES (AF.mk layers (AQ.mk 0 [] 0) ((parts.take (min (parts.length : Int) 6 : Int).toNat) ++ (AV l).1.Parts) v12_5 [] [] [] [] [] [] [] [] []) (AV l).2) au12 au12 au12) .nil))) (.cons id (.cons id (.cons (fun _ => rfl) (.cons id (.cons id (.cons (fun _ => rfl) (.cons id (.cons id (.cons (fun _ => rfl) (.cons id .nil)))))))))) <| AJ <| Aj ?_
     exact ⟨_, Cv.refl _, .inl rfl, tO (.b (Z6T layers parts l v12_5)), by kernel_rfl, Ao (by rw [<- hF1]; first | (simp only [C4, h2, cond_true, cond_false] <;> rfl))⟩
end
section
open Go.RowKit
theorem OJ (a : AQ) : G6 a a = true := by
 have key : ∀ n k : Nat, a.Edges.length - k < n -> EJ a a n (k : Int) = true := by
  intro n
  induction n with
  | zero => intro k h; omega
  | succ n ih =>
   intro k h
   rw [EJ]
   by_cases hc : (k : Int) < (a.Edges.length : Int)
   ·rw [decide_eq_true hc, cond_true]
    have := ih (k + 1) (by omega)
    rw [show ((k + 1 : Nat) : Int) = (k : Int) + 1 by omega] at this
    simp only [decide_true, Bool.and_true, Bool.not_true, cond_false]
    exact this
   ·rw [decide_eq_false hc, cond_false]
 unfold G6
 simp only [decide_true, Bool.not_true, cond_false]
 exact key _ 0 (by omega)
theorem Mv (a : List Ar) : Fp a a = true := by
 have key : ∀ n k : Nat, a.length - k < n -> Di a a n (k : Int) = true := by
  intro n
  induction n with
  | zero => intro k h; omega
  | succ n ih =>
   intro k h
   rw [Di]
   by_cases hc : (k : Int) < (a.length : Int)
   ·rw [decide_eq_true hc, cond_true]
    have := ih (k + 1) (by omega)
    rw [show ((k + 1 : Nat) : Int) = (k : Int) + 1 by omega] at this
    unfold Z0Z
    simp only [OJ, decide_true, Bool.not_true, cond_false, beq_self_eq_true]
    exact this
   ·rw [decide_eq_false hc, cond_false]
 unfold Fp
 simp only [decide_true, Bool.not_true, cond_false]
 exact key _ 0 (by omega)
theorem UQ (l : List (List Int)) (parts : List AD) (nets : List Ad) (layers : Int) (v : List Ad) (k : Int) (K0 : List Ad -> Int -> Bool) : ∀ (n i : Nat), ((parts.take (min (parts.length : Int) 6).toNat) ++ (AV l).1.Parts).length - i < n -> C4 l parts nets layers v k K0 n (i : Int) = true := by
 intro n
 induction n with
 | zero => intro i h; omega
 | succ n ih =>
  intro i h
  rw [C4]
  by_cases hc : (i : Int) < ((((parts.take (min (parts.length : Int) 6).toNat) ++ (AV l).1.Parts).length : Nat) : Int)
  ·rw [decide_eq_true hc, cond_true]
   have := ih (i + 1) (by omega)
   rw [show ((i + 1 : Nat) : Int) = (i : Int) + 1 by omega] at this
   unfold Z6U Z6V Z6X Z6Y
   simp only [at_eq, decide_true, Bool.and_true, Bool.not_true, cond_false, beq_self_eq_true]
   exact this
  ·rw [decide_eq_false hc, cond_false]
   unfold Z6T
   rw [UO, cond_true, Kl]
   exact Mv _
theorem UR (l : List (List Int)) (parts : List AD) (nets : List Ad) (layers : Int) : ∀ (n : Nat) (v : List Ad) (k : Int), ((6 : Int) - k).toNat < n -> Cb l parts nets layers n v k = true := by
 intro n
 induction n with
 | zero => intro v k h; omega
 | succ n ih =>
  intro v k h
  rw [Cb]
  have hl := UQ l parts nets layers v k (Cb l parts nets layers n) ((((((parts.take (min (parts.length : Int) 6 : Int).toNat) ++ (AV l).1.Parts).length : Nat) : Int) - 0).toNat + 1) 0 (by omega)
  by_cases hc : k < (nets.length : Int)
  ·rw [decide_eq_true hc, cond_true]
   by_cases h6 : k < 6
   ·rw [decide_eq_true h6, cond_true]
    exact ih _ _ (by omega)
   ·rw [decide_eq_false h6, cond_false]
    exact hl
  ·rw [decide_eq_false hc, cond_false, cond_false]
   exact hl
theorem Kt (l : List (List Int)) (parts : List AD) (nets : List Ad) (layers : Int) : El l parts nets layers = true := by
 unfold El
 exact UR l parts nets layers _ _ _ (by omega)
end
section
open Go.ChangeShapes Go.WideShapes Go.ChangeAt Go.RowKit
theorem JV (os : Os) (started : os.Started) (H : Type) (enc : TypeId × Value -> H) :
  ReturnsInHanded {} Try.checked os 6 .any (Rows.placeRawSpec.pre6 enc Try.prog Try.f6 Rows.placeRawRow.domain false) (Rows.placeRawSpec.post enc Try.prog Try.f6 false true false false) := by
 refine returnsInHanded_of_change (C := Try.checked) own started kr Try.func6
  (ChangeSpec.witness6 (enc := enc) (C := Try.checked) false ⟨#[], #[.slice none 0 0, .slice none 0 0, .slice none 0 0, .int .i64 0], []⟩ 8 kr kr kr kr) ?_
 intro W base args ds gs before hval0 hW hcnd _
 have hval : ∀ (j : Nat) t v, Try.f6.params[j]? = some t -> args[j]? = some v -> Value.okWide Try.prog W .any base t v := hval0
 have hW' := hW
 obtain ⟨p, q, hA0, hV, rfl, hfz, hnd⟩ := hW
 have hA : DataW.TrodAll enc Try.prog W 0 (fun _ => true) true Try.f6.params.toList args.toList ds p := hA0
 rw [Try.params6] at hA hval
 obtain ⟨v0, vs0, d0, ds0, p0, q0, hargs, rfl, rfl, h0, r0⟩ := trodAll_cons hA
 obtain ⟨v1, vs1, d1, ds1, p1, q1, rfl, rfl, rfl, h1, r1⟩ := trodAll_cons r0
 obtain ⟨v2, vs2, d2, ds2, p2, q2, rfl, rfl, rfl, h2, r2⟩ := trodAll_cons r1
 obtain ⟨v3, vs3, d3, ds3, p3, q3, rfl, rfl, rfl, h3, r3⟩ := trodAll_cons r2
 obtain ⟨rfl, rfl, rfl⟩ := trodAll_nil r3
 obtain rfl : args = #[v0, v1, v2, v3] := by cases args; simp_all
 obtain ⟨l, kl, x0⟩ := ID opT22 (.inl ⟨_, Try.underlying22⟩) (hval 0 22 v0 rfl rfl) h0
 obtain ⟨parts, kparts, x1⟩ := ID opT30 (.inl ⟨_, Try.underlying30⟩) (hval 1 30 v1 rfl rfl) h1
 obtain ⟨nets, knets, x2⟩ := ID opT31 (.inl ⟨_, Try.underlying31⟩) (hval 2 31 v2 rfl rfl) h2
 obtain ⟨layers, klayers, x3⟩ := ID (FJ Try.underlying3) (.inr (.inl ⟨_, Try.underlying3⟩)) (hval 3 3 v3 rfl rfl) h3
 clear hA0 hval0
 refine (Na (QP l parts nets layers (Gn kl.1) (fun x hx => Gn (kl.2 x hx).1) (Gn kparts.1) (Gn knets.1) (fun n hn => Gn (knets.2 n hn).2.1.1)) (Kt l parts nets layers) (.cons x0 (.cons x1 (.cons x2 (.cons x3 .nil))))).mono fun e W' ⟨he, hb⟩ => ?_
 subst he
 exact ⟨_, rfl, Ry hW' rfl rfl Ti (by rw [Try.params6]; exact List.forall_mem_cons.2 ⟨⟨by kernel_rfl, oT (by kernel_rfl)⟩, List.forall_mem_cons.2 ⟨⟨by kernel_rfl, oT (by kernel_rfl)⟩, List.forall_mem_cons.2 ⟨⟨by kernel_rfl, oT (by kernel_rfl)⟩, List.forall_mem_cons.2 ⟨⟨by kernel_rfl, oT (by kernel_rfl)⟩, List.forall_mem_nil _⟩⟩⟩⟩) rfl Try.underlying4 hb⟩
theorem placeRaw_holds : Rows.PlaceRawSaid :=
 OpenClaim.holds_of_wide 6 Try.f6 rfl rfl rfl rfl rfl rfl rfl ⟨rfl, rfl, rfl, rfl, rfl⟩ rfl rfl rfl rfl rfl kr Try.func6 kr
  (oT (by kernel_rfl)) (by unfold Func.isWrapper; first | (rw [if_pos (by decide +kernel)]; kernel_rfl) | (rw [if_neg (by decide +kernel)]; exact ⟨rfl, rfl⟩))
  (fun os started H enc _ => JV os started H enc)
#print axioms placeRaw_holds
end
end Go.Proofs.Ytdbampcfmjbgmaa
