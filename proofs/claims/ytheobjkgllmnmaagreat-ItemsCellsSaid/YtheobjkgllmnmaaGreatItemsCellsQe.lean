/-
  No statement is proved in this text. It holds a part of what the proof of ItemsCells needs.
-/
import Derived.Test.YtheobjkgllmnmaaGreatItemsCellsQd
namespace Go.Proofs.YtheobjkgllmnmaaGreat
set_option maxRecDepth 100000
set_option linter.unusedVariables false
set_option linter.unusedSimpArgs false
section
open Go.RowKit
def FasT (t : TTrack) : TTrack := t
def casT (t : TTrack) : FuncId × List Av × Ef := (108, [.agg (TTrack.c t)], .val [] (.av (.agg (TTrack.c (FasT t)))))
theorem pasT (t : TTrack) : Pure Tryz.prog 108 (casT t).2.1 (.av (.agg (TTrack.c (FasT t)))) := by
 refine pure_of_awF Tryz.func108 rfl kr kr fun W0 M0 => ?_
 refine aw_seq ?_
 refine aw_region eqok [] [] [] [1, 2] [1, 2] [] ⟨[(1, tP 1 0), (2, tP 2 0)], [(1, .cells (TTrack.c t) 131), (2, .cells [.i 0, .s (⟨#[]⟩), .i 0, .i 0, vN, .i 0] 150)]⟩ .nil kr .nil <| ath_n <| aw_seq ?_
 refine aw_region eqok [] [] [] [2] [2] [] ⟨[(2, tP 2 0)], [(2, .cells (TTrack.c t) 150)]⟩ .nil kr .nil <| ath_n <| aw_ret ?_
 exact ⟨_, Cv.refl _, .inl rfl, .av (.agg (TTrack.c t)), by kernel_rfl, tve_eq (by rfl)⟩
theorem okasT (t : TTrack) : CallOk Tryz.prog (casT t).1 (casT t).2.1 (casT t).2.2 := callOk_pure (fun _ _ => kr) fun _ => pasT t
def FidT (t : TTrack) : Int := t.Id
def cidT (t : TTrack) : FuncId × List Av × Ef := (109, [.agg (TTrack.c t)], .val [] (.av (.one (.i (FidT t)))))
theorem pidT (t : TTrack) : Pure Tryz.prog 109 (cidT t).2.1 (.av (.one (.i (FidT t)))) := by
 refine pure_of_awF Tryz.func109 rfl kr kr fun W0 M0 => ?_
 refine aw_seq ?_
 refine aw_region eqok [] [] [] [1] [1] [] ⟨[(1, tP 1 0)], [(1, .cells (TTrack.c t) 150)]⟩ .nil kr .nil <| ath_n <| aw_seq ?_
 refine aw_region eqok [] [] [] [2] [] [] ⟨[(2, tI t.Id)], []⟩ .nil kr .nil <| ath_n <| aw_ret ?_
 exact ⟨_, Cv.refl _, .inl rfl, .av (.one (.i t.Id)), by kernel_rfl, tve_eq (by rfl)⟩
theorem okidT (t : TTrack) : CallOk Tryz.prog (cidT t).1 (cidT t).2.1 (cidT t).2.2 := callOk_pure (fun _ _ => kr) fun _ => pidT t
def FcmpT (a : TTrack) (b_ : TTrack) : Int := FCompare (FidT a) (FidT b_)
theorem pcmpT  (a : TTrack) (b_ : TTrack) : Pure Tryz.prog 154 [.agg (TTrack.c a), .agg (TTrack.c b_), .one (.eptr 1 1 (fun _ j_ => ([.clo 109 0 (fun _ => default)] : List Cl).getD j_ default) 0 0)] (.av (.one (.i (FcmpT a b_)))) := by
 refine pure_of_awF Tryz.func154 rfl kr kr fun W0 M0 => ?_
 refine aw_seq ?_
 refine aw_region eqok [] [] [] [2, 3, 4] [3, 4] [] ⟨[(2, .av (.one (.eptr 1 1 (fun _ j_ => ([.clo 109 0 (fun _ => default)] : List Cl).getD j_ default) 0 0))), (3, tP 3 0), (4, tP 4 0)], [(3, .cells (TTrack.c a) 150), (4, .cells (TTrack.c b_) 150)]⟩ .nil kr .nil <| ath_n <| aw_seq ?_
 refine aw_draw mixed eqok [] [] [(8, cidT a), (11, cidT b_), (12, cCompare (FidT a) (FidT b_))] [5] [] [Same (cidT a).2.1, Same (cidT b_).2.1, Same (cCompare (FidT a) (FidT b_)).2.1] ⟨[(5, tI (FCompare (FidT a) (FidT b_)))], []⟩ (.cons (okidT a) (.cons (okidT b_) (.cons (okCompare (FidT a) (FidT b_)) .nil))) kr kr (.cons rfl (.cons rfl (.cons rfl .nil))) <| ath_n <| aw_ret ?_
 exact ⟨_, Cv.refl _, .inl rfl, .av (.one (.i (FCompare (FidT a) (FidT b_)))), by kernel_rfl, tve_eq (by rfl)⟩
def Z0l (data' : List TTrack) (j : Int) : FuncId × List Av × Ef := (154, [.agg (TTrack.c (data'.getD j.toNat default)), .agg (TTrack.c (data'.getD ((W64 (j - 1)).toNat) default)), .one (.eptr 1 1 (fun _ j_ => ([.clo 109 0 (fun _ => default)] : List Cl).getD j_ default) 0 0)], .val [] (tI (FcmpT (data'.getD j.toNat default) (data'.getD ((W64 (j - 1)).toNat) default))))
def FInsT_l1 (l : (List TTrack)) (n : Int) (data : List TTrack) (i : Int) (K0 : List TTrack -> Int -> (List TTrack)) : Nat -> List TTrack -> Int -> (List TTrack)
 | 0, _, _ => default
 | n1 + 1, data', j => bif bif decide ((0 : Int) < j) then decide (((FcmpT (data'.getD j.toNat default) (data'.getD ((j - 1).toNat) default)) : Int) < 0) else false then ((FInsT_l1 l n data i K0 n1) ((data'.set j.toNat (data'.getD ((j - 1).toNat) default)).set ((j - 1).toNat) (data'.getD j.toNat default)) (j - 1)) else (K0 data' (i + 1))
def FInsT_l0 (l : (List TTrack)) (n : Int) : Nat -> List TTrack -> Int -> (List TTrack)
 | 0, _, _ => default
 | n0 + 1, data, i => bif decide ((i : Int) < n) then (FInsT_l1 l n data i (FInsT_l0 l n n0) (i.toNat + 1) data i) else (data)
def FInsT (l : (List TTrack)) (n : Int) : (List TTrack) := FInsT_l0 l n ((n - 1).toNat + 1) l 1
theorem pInsT (l : (List TTrack)) (n : Int) (hn : n = (l.length : Int)) (hl : l.length < 20) : WrR Tryz.prog 181 1000 [.one (.own 1000 6 l.length), .one (.i 0), .one (.i n), .one (.clo 154 1 (listF [.eptr 1 1 (fun _ j_ => ([.clo 109 0 (fun _ => default)] : List Cl).getD j_ default) 0 0]))] 6 l.length (rowF TTrack.c l) 150 (.tup []) (rowF TTrack.c (FInsT l n)) := by
 refine wrR_of_awF Tryz.func181 rfl kr kr kr fun W0 M0 X hX => ?_
 refine aw_seq ?_
 refine aw_region eqok [] [] [] [0, 1, 2, 3, 8] [1000] [] ⟨[(0, .av (.one (.own 1000 6 l.length))), (1, tI 0), (2, tI n), (3, .av (.one (.clo 154 1 (listF [.eptr 1 1 (fun _ j_ => ([.clo 109 0 (fun _ => default)] : List Cl).getD j_ default) 0 0])))), (8, tI 1)], [(1000, .row 6 l.length (rowF TTrack.c l) 150)]⟩ .nil kr .nil <| ath_n <| aw_block ?_
 refine aw_loopC (ι := Nat × List TTrack × Int) (fun x => ⟨[(0, .av (.one (.own 1000 6 x.2.1.length))), (1, tI 0), (2, tI n), (3, .av (.one (.clo 154 1 (listF [.eptr 1 1 (fun _ j_ => ([.clo 109 0 (fun _ => default)] : List Cl).getD j_ default) 0 0])))), (8, tI x.2.2)], [(1000, .row 6 x.2.1.length (rowF TTrack.c x.2.1) 150)]⟩) (fun x => (n - x.2.2).toNat < x.1 /\ (1 <= x.2.2 /\ x.2.1.length = l.length /\ 1 <= x.2.2 /\ (x.2.2 <= n \/ x.2.2 = 1)) /\ FInsT_l0 l n x.1 x.2.1 x.2.2 = FInsT l n) (fun x => x.1) ?_ ((n - 1).toNat + 1, l, 1) ⟨Nat.lt_succ_self _, ⟨(by show 1 <= 1; first | trivial | omega | exact at0 | exact at1 | exact at2 | (simp; omega) | simp), (by show l.length = l.length; first | trivial | omega | exact at0 | exact at1 | exact at2 | (simp; omega) | simp), (by show 1 <= 1; first | trivial | omega | exact at0 | exact at1 | exact at2 | (simp; omega) | simp), (by show (1 <= n \/ 1 = 1); first | trivial | omega | exact at0 | exact at1 | exact at2 | (simp; omega) | simp)⟩, (by simp only [FInsT, cond_true, cond_false])⟩
 rintro ⟨n0, data, i⟩ ⟨hn, hinv, hF⟩
 have hm0 : (n - i).toNat < n0 := hn; have hinv0 : 1 <= i /\ data.length = l.length /\ 1 <= i /\ (i <= n \/ i = 1) := hinv; have hF0 : FInsT_l0 l n n0 data i = FInsT l n := hF; clear hn hinv hF
 cases n0 with
 | zero => exact absurd hm0 (Nat.not_lt_zero _)
 | succ n0 =>
  refine aw_seq <| aw_seq ?_
  refine aw_region eqok [] [] [] [0, 1, 2, 3, 8, 14] [1000] [] ⟨[(0, .av (.one (.own 1000 6 data.length))), (1, tI 0), (2, tI n), (3, .av (.one (.clo 154 1 (listF [.eptr 1 1 (fun _ j_ => ([.clo 109 0 (fun _ => default)] : List Cl).getD j_ default) 0 0])))), (8, tI i), (14, tB (decide ((i : Int) < n)))], [(1000, .row 6 data.length (rowF TTrack.c data) 150)]⟩ .nil kr .nil <| ath_n ?_
  refine aw_cond (decide ((i : Int) < n)) kr (fun h1 => ?_) (fun h1 => ?_)
  ·have g1 := of_decide_eq_true h1
   refine aw_skip <| ath_n ?_
   refine aw_seq <| aw_block <| aw_seq ?_
   refine aw_region eqok [] [] [] [0, 1, 2, 3, 8, 9] [1000] [] ⟨[(0, .av (.one (.own 1000 6 data.length))), (1, tI 0), (2, tI n), (3, .av (.one (.clo 154 1 (listF [.eptr 1 1 (fun _ j_ => ([.clo 109 0 (fun _ => default)] : List Cl).getD j_ default) 0 0])))), (8, tI i), (9, tI i)], [(1000, .row 6 data.length (rowF TTrack.c data) 150)]⟩ .nil kr .nil <| ath_n <| aw_block ?_
   refine aw_loopC (ι := Nat × List TTrack × Int) (fun x => ⟨[(0, .av (.one (.own 1000 6 x.2.1.length))), (1, tI 0), (2, tI n), (3, .av (.one (.clo 154 1 (listF [.eptr 1 1 (fun _ j_ => ([.clo 109 0 (fun _ => default)] : List Cl).getD j_ default) 0 0])))), (8, tI i), (9, tI x.2.2)], [(1000, .row 6 x.2.1.length (rowF TTrack.c x.2.1) 150)]⟩) (fun x => x.2.2.toNat < x.1 /\ (0 <= x.2.2 /\ x.2.1.length = l.length /\ x.2.2 < n) /\ FInsT_l1 l n data i (FInsT_l0 l n n0) x.1 x.2.1 x.2.2 = FInsT l n) (fun x => x.1) ?_ (i.toNat + 1, data, i) ⟨Nat.lt_succ_self _, ⟨(by show 0 <= i; first | trivial | omega | exact at0 | exact at1 | exact at2 | (simp; omega) | simp), (by show data.length = l.length; first | trivial | omega | exact at0 | exact at1 | exact at2 | (simp; omega) | simp), (by show i < n; first | trivial | omega | exact at0 | exact at1 | exact at2 | (simp; omega) | simp)⟩, (by rw [<- hF0]; simp only [FInsT_l0, h1, cond_true, cond_false])⟩
   rintro ⟨n1, data', j⟩ ⟨hn, hinv, hF⟩
   have hm1 : j.toNat < n1 := hn; have hinv1 : 0 <= j /\ data'.length = l.length /\ j < n := hinv; have hF1 : FInsT_l1 l n data i (FInsT_l0 l n n0) n1 data' j = FInsT l n := hF; clear hn hinv hF
   cases n1 with
   | zero => exact absurd hm1 (Nat.not_lt_zero _)
   | succ n1 =>
    refine aw_seq <| aw_seq ?_
    refine aw_draw mixed eqok [] [] [(32, (Z0l data' j))] [0, 1, 2, 3, 8, 9, 34] [1000] [((decide ((0 : Int) < j)) = true) -> ((decide ((0 : Int) < j)) = true), ((decide ((0 : Int) < j)) = true) -> ((decide ((0 : Int) < j)) = true), ((decide ((0 : Int) < j)) = true) -> (0 <= (j : Int) /\ (j : Int) < ((data'.length : Nat) : Int)), ((decide ((0 : Int) < j)) = true) -> ((decide ((0 : Int) < j)) = true), ((decide ((0 : Int) < j)) = true) -> (j.toNat < data'.length), ((decide ((0 : Int) < j)) = true) -> ((decide ((0 : Int) < j)) = true), ((decide ((0 : Int) < j)) = true) -> ((decide ((0 : Int) < j)) = true), ((decide ((0 : Int) < j)) = true) -> ((decide ((0 : Int) < j)) = true), ((decide ((0 : Int) < j)) = true) -> (0 <= (W64 (j - 1) : Int) /\ (W64 (j - 1) : Int) < ((data'.length : Nat) : Int)), ((decide ((0 : Int) < j)) = true) -> ((decide ((0 : Int) < j)) = true), ((decide ((0 : Int) < j)) = true) -> ((W64 (j - 1)).toNat < data'.length), ((decide ((0 : Int) < j)) = true) -> ((decide ((0 : Int) < j)) = true), ((decide ((0 : Int) < j)) = true) -> ((decide ((0 : Int) < j)) = true), ((decide ((0 : Int) < j)) = true) -> ((decide ((0 : Int) < j)) = true), ((decide ((0 : Int) < j)) = true) -> (Same (Z0l data' j).2.1), ((decide ((0 : Int) < j)) = true) -> ((decide ((0 : Int) < j)) = true), (decide ((0 : Int) < j)) = true -> ((decide ((0 : Int) < j)) = true)] ⟨[(0, .av (.one (.own 1000 6 data'.length))), (1, tI 0), (2, tI n), (3, .av (.one (.clo 154 1 (listF [.eptr 1 1 (fun _ j_ => ([.clo 109 0 (fun _ => default)] : List Cl).getD j_ default) 0 0])))), (8, tI i), (9, tI j), (34, tB (bif decide ((0 : Int) < j) then decide (((FcmpT (data'.getD j.toNat default) (data'.getD ((W64 (j - 1)).toNat) default)) : Int) < 0) else false))], [(1000, .row 6 data'.length (rowF TTrack.c data') 150)]⟩ (.cons (callOk_pure (fun _ _ => kr) fun _ => pcmpT (data'.getD j.toNat default) (data'.getD ((W64 (j - 1)).toNat) default)) .nil) kr kr (.cons id (.cons id (.cons (fun hG => by first | exact au0 | (simp only [decide_eq_true_eq, decide_eq_false_iff_not, Bool.not_eq_true, Bool.and_eq_true] at hG <;> omega) | (simp at hG <;> omega) | (simp only [decide_eq_true_eq, decide_eq_false_iff_not] at hG; simp only [W64_def]; omega)) (.cons id (.cons (fun hG => by first | exact au0 | (simp only [decide_eq_true_eq, decide_eq_false_iff_not, Bool.not_eq_true, Bool.and_eq_true] at hG <;> omega) | (simp at hG <;> omega) | (simp only [decide_eq_true_eq, decide_eq_false_iff_not] at hG; simp only [W64_def]; omega)) (.cons id (.cons id (.cons id (.cons (fun hG => by first | exact au0 | (simp only [decide_eq_true_eq, decide_eq_false_iff_not, Bool.not_eq_true, Bool.and_eq_true] at hG <;> omega) | (simp at hG <;> omega) | (simp only [decide_eq_true_eq, decide_eq_false_iff_not] at hG; simp only [W64_def]; omega)) (.cons id (.cons (fun hG => by first | exact au0 | (simp only [decide_eq_true_eq, decide_eq_false_iff_not, Bool.not_eq_true, Bool.and_eq_true] at hG <;> omega) | (simp at hG <;> omega) | (simp only [decide_eq_true_eq, decide_eq_false_iff_not] at hG; simp only [W64_def]; omega)) (.cons id (.cons id (.cons id (.cons (fun _ => rfl) (.cons id (.cons id .nil))))))))))))))))) ?_
    (try rw [(show W64 (j - 1) = j - 1 from W64_id (by omega) (by omega))])
    refine ath_n ?_
    refine aw_cond (bif decide ((0 : Int) < j) then decide (((FcmpT (data'.getD j.toNat default) (data'.getD ((j - 1).toNat) default)) : Int) < 0) else false) kr (fun h2 => ?_) (fun h2 => ?_)
    ·have g2 := and_dec h2
     refine aw_skip <| ath_n ?_
     refine aw_seq <| aw_block ?_
     refine aw_draw mixed eqok [] [] [] [0, 1, 2, 3, 8, 9] [1000] [0 <= (W64 (j - 1) : Int) /\ (W64 (j - 1) : Int) < ((data'.length : Nat) : Int), (W64 (j - 1)).toNat < data'.length, 0 <= (j : Int) /\ (j : Int) < ((data'.length : Nat) : Int), j.toNat < data'.length, 0 <= (j : Int) /\ (j : Int) < ((data'.length : Nat) : Int), j.toNat < data'.length, 0 <= (W64 (j - 1) : Int) /\ (W64 (j - 1) : Int) < ((data'.length : Nat) : Int), (W64 (j - 1)).toNat < data'.length] ⟨[(0, .av (.one (.own 1000 6 data'.length))), (1, tI 0), (2, tI n), (3, .av (.one (.clo 154 1 (listF [.eptr 1 1 (fun _ j_ => ([.clo 109 0 (fun _ => default)] : List Cl).getD j_ default) 0 0])))), (8, tI i), (9, tI j)], [(1000, .row 6 data'.length (fun i_ j_ => if i_ = (W64 (j - 1)).toNat /\ 0 <= j_ /\ j_ < 0 + 6 then ([.i ((data'.getD j.toNat default).Id), .s ((data'.getD j.toNat default).Net), .i ((data'.getD j.toNat default).Layer), .i (((data'.getD j.toNat default).Shape).Kind), lst 7 TEdge.c (((data'.getD j.toNat default).Shape).Edges), .i (((data'.getD j.toNat default).Shape).R)] : List Cl).getD (j_ - 0) default else (fun i_ j_ => if i_ = j.toNat /\ 0 <= j_ /\ j_ < 0 + 6 then ([.i ((data'.getD ((W64 (j - 1)).toNat) default).Id), .s ((data'.getD ((W64 (j - 1)).toNat) default).Net), .i ((data'.getD ((W64 (j - 1)).toNat) default).Layer), .i (((data'.getD ((W64 (j - 1)).toNat) default).Shape).Kind), lst 7 TEdge.c (((data'.getD ((W64 (j - 1)).toNat) default).Shape).Edges), .i (((data'.getD ((W64 (j - 1)).toNat) default).Shape).R)] : List Cl).getD (j_ - 0) default else (rowF TTrack.c data') i_ j_) i_ j_) 150)]⟩ .nil kr kr (.cons au0 (.cons au0 (.cons au0 (.cons au0 (.cons au0 (.cons au0 (.cons au0 (.cons au0 .nil)))))))) ?_
     (try rw [(show W64 (j - 1) = j - 1 from W64_id (by omega) (by omega))])
     refine abl_n <| ath_n ?_
     refine aw_cv (Cv.trans (cv_ce (⟨[(0, .av (.one (.own 1000 6 (((data'.set j.toNat (data'.getD ((j - 1).toNat) default)).set ((j - 1).toNat) (data'.getD j.toNat default)).length)))), (1, tI 0), (2, tI n), (3, .av (.one (.clo 154 1 (listF [.eptr 1 1 (fun _ j_ => ([.clo 109 0 (fun _ => default)] : List Cl).getD j_ default) 0 0])))), (8, tI i), (9, tI j)], [(1000, .row 6 (((data'.set j.toNat (data'.getD ((j - 1).toNat) default)).set ((j - 1).toNat) (data'.getD j.toNat default)).length) (rowF TTrack.c ((data'.set j.toNat (data'.getD ((j - 1).toNat) default)).set ((j - 1).toNat) (data'.getD j.toNat default))) 150)]⟩) (.cons ⟨rfl, .av (.one (.own _ _ au3))⟩ lr) (.cons ⟨rfl, bke_told 150 (told_set (l := [.i ((data'.getD j.toNat default).Id), .s ((data'.getD j.toNat default).Net), .i ((data'.getD j.toNat default).Layer), .i (((data'.getD j.toNat default).Shape).Kind), lst 7 TEdge.c (((data'.getD j.toNat default).Shape).Edges), .i (((data'.getD j.toNat default).Shape).R)]) (off := 0) (q := 6) (k := (j - 1).toNat) (told_set (l := [.i ((data'.getD ((j - 1).toNat) default).Id), .s ((data'.getD ((j - 1).toNat) default).Net), .i ((data'.getD ((j - 1).toNat) default).Layer), .i (((data'.getD ((j - 1).toNat) default).Shape).Kind), lst 7 TEdge.c (((data'.getD ((j - 1).toNat) default).Shape).Edges), .i (((data'.getD ((j - 1).toNat) default).Shape).R)]) (off := 0) (q := 6) (k := j.toNat) (told_rfl 6 TTrack.c data') au0 (data'.getD ((j - 1).toNat) default) (tab_get kr)) au0 (data'.getD j.toNat default) (tab_get kr))⟩ .nil)) (Cv.refl _)) ?_
     refine aw_region eqok [] [] [] [0, 1, 2, 3, 8, 9] [1000] [] ⟨[(0, .av (.one (.own 1000 6 (((data'.set j.toNat (data'.getD ((j - 1).toNat) default)).set ((j - 1).toNat) (data'.getD j.toNat default)).length)))), (1, tI 0), (2, tI n), (3, .av (.one (.clo 154 1 (listF [.eptr 1 1 (fun _ j_ => ([.clo 109 0 (fun _ => default)] : List Cl).getD j_ default) 0 0])))), (8, tI i), (9, tI (W64 (j - 1)))], [(1000, .row 6 (((data'.set j.toNat (data'.getD ((j - 1).toNat) default)).set ((j - 1).toNat) (data'.getD j.toNat default)).length) (rowF TTrack.c ((data'.set j.toNat (data'.getD ((j - 1).toNat) default)).set ((j - 1).toNat) (data'.getD j.toNat default))) 150)]⟩ .nil kr .nil ?_
     (try rw [(show W64 (j - 1) = j - 1 from W64_id (by omega) (by omega))])
     refine ath_n ?_
     refine ⟨(n1, (data'.set j.toNat (data'.getD ((j - 1).toNat) default)).set ((j - 1).toNat) (data'.getD j.toNat default), j - 1), ⟨?_, ?_, (by rw [<- hF1]; simp only [FInsT_l1, h2, cond_true, cond_false])⟩, Nat.lt_succ_self _, cv_eq kr⟩
     ·show (j - 1).toNat < n1; omega
     ·exact ⟨(by show 0 <= (j - 1); first | trivial | omega | exact at0 | exact at1 | exact at2 | (simp; omega) | simp), (by show ((data'.set j.toNat (data'.getD ((j - 1).toNat) default)).set ((j - 1).toNat) (data'.getD j.toNat default)).length = l.length; first | trivial | omega | exact at0 | exact at1 | exact at2 | (simp; omega) | simp), (by show (j - 1) < n; first | trivial | omega | exact at0 | exact at1 | exact at2 | (simp; omega) | simp)⟩
    ·refine aw_exit <| ath_e ?_
     refine ath_e <| abl_hit ?_
     refine abl_n <| ath_n ?_
     refine aw_region eqok [] [] [] [0, 1, 2, 3, 8] [1000] [] ⟨[(0, .av (.one (.own 1000 6 data'.length))), (1, tI 0), (2, tI n), (3, .av (.one (.clo 154 1 (listF [.eptr 1 1 (fun _ j_ => ([.clo 109 0 (fun _ => default)] : List Cl).getD j_ default) 0 0])))), (8, tI (W64 (i + 1)))], [(1000, .row 6 data'.length (rowF TTrack.c data') 150)]⟩ .nil kr .nil ?_
     (try rw [(show W64 (i + 1) = i + 1 from W64_id (by omega) (by omega))])
     refine ath_n ?_
     refine ⟨(n0, data', i + 1), ⟨?_, ?_, (by rw [<- hF1]; simp only [FInsT_l1, h2, cond_true, cond_false])⟩, Nat.lt_succ_self _, cv_eq kr⟩
     ·show (n - (i + 1)).toNat < n0; omega
     ·exact ⟨(by show 1 <= (i + 1); first | trivial | omega | exact at0 | exact at1 | exact at2 | (simp; omega) | simp), (by show data'.length = l.length; first | trivial | omega | exact at0 | exact at1 | exact at2 | (simp; omega) | simp), (by show 1 <= (i + 1); first | trivial | omega | exact at0 | exact at1 | exact at2 | (simp; omega) | simp), (by show ((i + 1) <= n \/ (i + 1) = 1); first | trivial | omega | exact at0 | exact at1 | exact at2 | (simp; omega) | simp)⟩
  ·have g1 := of_decide_eq_false h1
   refine aw_exit <| ath_e ?_
   refine ath_e <| abl_hit ?_
   exact ⟨_, Cv.refl _, .inr rfl, .tup [], by kernel_rfl, tve_eq rfl, .row 6 data.length (rowF TTrack.c data) 150, by kernel_rfl, bke_rowlen (c := TTrack.c) (xs := data) (by rw [<- hF0]; first | (simp only [FInsT_l0, h1, cond_true, cond_false] <;> rfl)) au11⟩
theorem FInsT_eq (l : List TTrack) (n : Int) (hn : n = (l.length : Int)) : FInsT l n = isortB (fun x y => decide (FcmpT x y < 0)) l := by
 unfold FInsT
 cases l with
 | nil => subst hn; rfl
 | cons a l =>
  have h := ins_l0 (fun x y => decide (FcmpT x y < 0)) (a :: l) (FInsT_l0 (a :: l) n) id (fun m d i hi => by
   rw [FInsT_l0, decide_eq_false (by omega), cond_false]; rfl) (fun m i out rest x hi ho => by
   rw [FInsT_l0, decide_eq_true (by omega), cond_true]
   have h1 := ins_l1 (fun x y => decide (FcmpT x y < 0)) (FInsT_l1 (a :: l) n (out ++ x :: rest) i (FInsT_l0 (a :: l) n m)) (fun d => FInsT_l0 (a :: l) n m d ((i : Int) + 1)) (fun m d j => by
    rw [FInsT_l1, Int.toNat_natCast, show ((j : Int) - 1).toNat = j - 1 by omega]) out rest x i ((i : Int).toNat + 1) (by omega) (by omega)
   subst ho
   rw [List.take_length, List.drop_length, List.nil_append] at h1
   rw [h1]
   unfold insR
   rw [List.append_assoc]; rfl) ((a :: l).length - 1) ((n - 1).toNat + 1) 1 rfl (by simp) (by omega)
  exact h
theorem FInsT_len (l : List TTrack) (n : Int) (hn : n = (l.length : Int)) (hl : l.length < 20) : (FInsT l n).length = l.length := by rw [FInsT_eq l n hn, isortB_len]
def Z0m (l : (List TTrack)) (n : Int) : FuncId × List Av × Ef := (181, ([.one (.own 1000 6 l.length), .one (.i 0), .one (.i n), .one (.clo 154 1 (listF [.eptr 1 1 (fun _ j_ => ([.clo 109 0 (fun _ => default)] : List Cl).getD j_ default) 0 0]))] : List Av).map (renR 1000 1000), wrI 1000 (.row 6 l.length (rowF TTrack.c l) 150) (.tup []) (.row 6 l.length (rowF TTrack.c (FInsT l n)) 150))
def FStaT (l : (List TTrack)) (n : Int) : (List TTrack) := FInsT l n
theorem pStaT (l : (List TTrack)) (n : Int) (hn : n = (l.length : Int)) (hl : l.length < 20) : WrR Tryz.prog 168 1000 [.one (.own 1000 6 l.length), .one (.i n), .one (.clo 154 1 (listF [.eptr 1 1 (fun _ j_ => ([.clo 109 0 (fun _ => default)] : List Cl).getD j_ default) 0 0]))] 6 l.length (rowF TTrack.c l) 150 (.tup []) (rowF TTrack.c (FStaT l n)) := by
 refine wrR_of_awF Tryz.func168 rfl kr kr kr fun W0 M0 X hX => ?_
 refine aw_seq ?_
 refine aw_region eqok [] [] [] [0, 1, 2, 6] [1000] [] ⟨[(0, .av (.one (.own 1000 6 l.length))), (1, tI n), (2, .av (.one (.clo 154 1 (listF [.eptr 1 1 (fun _ j_ => ([.clo 109 0 (fun _ => default)] : List Cl).getD j_ default) 0 0])))), (6, tI 20)], [(1000, .row 6 l.length (rowF TTrack.c l) 150)]⟩ .nil kr .nil <| ath_n <| aw_seq ?_
 refine aw_region eqok [] [] [] [0, 1, 2, 6, 7, 8] [1000] [] ⟨[(0, .av (.one (.own 1000 6 l.length))), (1, tI n), (2, .av (.one (.clo 154 1 (listF [.eptr 1 1 (fun _ j_ => ([.clo 109 0 (fun _ => default)] : List Cl).getD j_ default) 0 0])))), (6, tI 20), (7, tI 0), (8, tI 20)], [(1000, .row 6 l.length (rowF TTrack.c l) 150)]⟩ .nil kr .nil <| ath_n ?_
 refine aw_seq <| aw_block ?_
 refine aw_unroll 1 ?_
 refine aw_round <| aw_seq <| aw_seq ?_
 refine aw_region eqok [] [] [] [0, 1, 2, 6, 7, 8, 13] [1000] [] ⟨[(0, .av (.one (.own 1000 6 l.length))), (1, tI n), (2, .av (.one (.clo 154 1 (listF [.eptr 1 1 (fun _ j_ => ([.clo 109 0 (fun _ => default)] : List Cl).getD j_ default) 0 0])))), (6, tI 20), (7, tI 0), (8, tI 20), (13, tB (decide ((20 : Int) <= n)))], [(1000, .row 6 l.length (rowF TTrack.c l) 150)]⟩ .nil kr .nil <| ath_n ?_
 have h1 : (decide ((20 : Int) <= n)) = false := decide_eq_false (by omega)
 have g1 := of_decide_eq_false h1
 refine aw_cond (decide ((20 : Int) <= n)) kr (fun h => absurd (h1.symm.trans h) (by decide)) (fun _ => ?_)
 refine aw_exit <| ath_e ?_
 refine ath_e <| abl_hit ?_
 refine ath_n <| aw_seq ?_
 refine aw_region eqok [] [] [(27, (Z0m l n))] [0, 1, 2, 6] [1000] [Same (Z0m l n).2.1, SameB (.row 6 l.length (rowF TTrack.c l) 150)] ⟨[(0, .av (.one (.own 1000 6 l.length))), (1, tI n), (2, .av (.one (.clo 154 1 (listF [.eptr 1 1 (fun _ j_ => ([.clo 109 0 (fun _ => default)] : List Cl).getD j_ default) 0 0])))), (6, tI 20)], [(1000, .row 6 l.length (rowF TTrack.c (FInsT l n)) 150)]⟩ (.cons (callOk_wrR (fun _ _ => kr) kr (pInsT l n au2 au2)) .nil) kr (.cons rfl (.cons rfl .nil)) <| ath_n ?_
 refine aw_cv (Cv.trans (cv_ce (⟨[(0, .av (.one (.own 1000 6 ((FInsT l n).length)))), (1, tI n), (2, .av (.one (.clo 154 1 (listF [.eptr 1 1 (fun _ j_ => ([.clo 109 0 (fun _ => default)] : List Cl).getD j_ default) 0 0])))), (6, tI 20)], [(1000, .row 6 ((FInsT l n).length) (rowF TTrack.c (FInsT l n)) 150)]⟩) (.cons ⟨rfl, .av (.one (.own _ _ (FInsT_len l n au2 au2).symm))⟩ lr) (.cons ⟨rfl, bke_told 150 (⟨(FInsT_len l n au2 au2).symm, fun _ _ _ _ => .refl _⟩)⟩ .nil)) (Cv.refl _)) <| aw_block ?_
 refine aw_unroll 1 ?_
 refine aw_round <| aw_seq <| aw_seq ?_
 refine aw_region eqok [] [] [] [0, 1, 2, 6, 30] [1000] [] ⟨[(0, .av (.one (.own 1000 6 ((FInsT l n).length)))), (1, tI n), (2, .av (.one (.clo 154 1 (listF [.eptr 1 1 (fun _ j_ => ([.clo 109 0 (fun _ => default)] : List Cl).getD j_ default) 0 0])))), (6, tI 20), (30, tB (decide ((20 : Int) < n)))], [(1000, .row 6 ((FInsT l n).length) (rowF TTrack.c (FInsT l n)) 150)]⟩ .nil kr .nil <| ath_n ?_
 have h2 : (decide ((20 : Int) < n)) = false := decide_eq_false (by omega)
 have g2 := of_decide_eq_false h2
 refine aw_cond (decide ((20 : Int) < n)) kr (fun h => absurd (h2.symm.trans h) (by decide)) (fun _ => ?_)
 refine aw_exit <| ath_e ?_
 refine ath_e <| abl_hit ?_
 exact ⟨_, Cv.refl _, .inr rfl, .tup [], by kernel_rfl, tve_eq rfl, .row 6 ((FInsT l n).length) (rowF TTrack.c (FInsT l n)) 150, by kernel_rfl, bke_rowlen (c := TTrack.c) (xs := FInsT l n) (by first | (simp only [FStaT, h1, h2, cond_true, cond_false] <;> rfl)) (FInsT_len l n hn hl)⟩
theorem FStaT_len (l : List TTrack) (n : Int) (hn : n = (l.length : Int)) (hl : l.length < 20) : (FStaT l n).length = l.length := FInsT_len l n hn hl
def Z0n (l : (List TTrack)) : FuncId × List Av × Ef := (168, ([.one (.own 1000 6 l.length), .one (.i (((l.length : Nat) : Int))), .one (.clo 154 1 (listF [.eptr 1 1 (fun _ j_ => ([.clo 109 0 (fun _ => default)] : List Cl).getD j_ default) 0 0]))] : List Av).map (renR 1000 1000), wrI 1000 (.row 6 l.length (rowF TTrack.c l) 150) (.tup []) (.row 6 l.length (rowF TTrack.c (FStaT l (((l.length : Nat) : Int)))) 150))
def FSrtT (l : (List TTrack)) : (List TTrack) := FStaT l (((l.length : Nat) : Int))
theorem pSrtT (l : (List TTrack)) (hl : l.length < 20) : WrR Tryz.prog 153 1000 [.one (.own 1000 6 l.length), .one (.clo 154 1 (listF [.eptr 1 1 (fun _ j_ => ([.clo 109 0 (fun _ => default)] : List Cl).getD j_ default) 0 0]))] 6 l.length (rowF TTrack.c l) 150 (.tup []) (rowF TTrack.c (FSrtT l)) := by
 refine wrR_of_awF Tryz.func153 rfl kr kr kr fun W0 M0 X hX => ?_
 refine aw_region eqok [] [] [(8, (Z0n l))] [] [1000] [Same (Z0n l).2.1, SameB (.row 6 l.length (rowF TTrack.c l) 150)] ⟨[], [(1000, .row 6 l.length (rowF TTrack.c (FStaT l (((l.length : Nat) : Int)))) 150)]⟩ (.cons (callOk_wrR (fun _ _ => kr) kr (pStaT l (((l.length : Nat) : Int)) au2 au2)) .nil) kr (.cons rfl (.cons rfl .nil)) ?_
 exact ⟨_, Cv.trans (cv_ce (⟨[], [(1000, .row 6 ((FStaT l (((l.length : Nat) : Int))).length) (rowF TTrack.c (FStaT l (((l.length : Nat) : Int)))) 150)]⟩) .nil (.cons ⟨rfl, bke_told 150 (⟨(FStaT_len l (((l.length : Nat) : Int)) au2 au2).symm, fun _ _ _ _ => .refl _⟩)⟩ .nil)) (Cv.refl _), .inr rfl, .tup [], by kernel_rfl, tve_eq rfl, .row 6 ((FStaT l (((l.length : Nat) : Int))).length) (rowF TTrack.c (FStaT l (((l.length : Nat) : Int)))) 150, by kernel_rfl, bke_rowlen (c := TTrack.c) (xs := FStaT l (((l.length : Nat) : Int))) (by rfl) (FStaT_len l _ rfl hl)⟩
theorem FSrtT_len (l : List TTrack) (hl : l.length < 20) : (FSrtT l).length = l.length := FStaT_len l _ rfl hl
theorem FSrtT_eq (l : List TTrack) : FSrtT l = isortB (fun x y => decide (FcmpT x y < 0)) l := FInsT_eq l _ rfl
def Z0o (out : List TTrack) : FuncId × List Av × Ef := (153, ([.one (.own 1000 6 out.length), .one (.clo 154 1 (listF [.eptr 1 1 (fun _ j_ => ([.clo 109 0 (fun _ => default)] : List Cl).getD j_ default) 0 0]))] : List Av).map (renR 1000 100000), wrI 100000 (.row 6 out.length (rowF TTrack.c out) 150) (.tup []) (.row 6 out.length (rowF TTrack.c (FSrtT out)) 150))
def FsortedT_l0 (l : (List TTrack)) : Nat -> List TTrack -> Int -> (List TTrack)
 | 0, _, _ => default
 | n0 + 1, out, v12 => bif decide ((v12 : Int) < ((l.length : Int))) then ((FsortedT_l0 l n0) (out ++ [FasT (l.getD v12.toNat default)]) (v12 + 1)) else (FSrtT out)
def FsortedT (l : (List TTrack)) : (List TTrack) := FsortedT_l0 l (((((l.length : Int))) - 0).toNat + 1) (([] : List TTrack)) 0
theorem qsortedT (l : (List TTrack)) (hl : l.length < 20) : Fr Tryz.prog 107 [.one (lst 6 TTrack.c l), .one (.clo 108 0 (fun _ => default)), .one (.clo 109 0 (fun _ => default))] (.row 6 (FsortedT l).length (rowF TTrack.c (FsortedT l)) 150) (fun d => .av (.one (.own d 6 (FsortedT l).length))) := by
 refine fr_of_awF Tryz.func107 rfl kr (ownV_one _ _) fun W0 M0 => ?_
 refine aw_seq ?_
 refine aw_region eqok [] [] [] [0, 1, 5] [5] [] ⟨[(0, .av (.one (lst 6 TTrack.c l))), (1, .av (.one (.clo 108 0 (fun _ => default)))), (5, tP 5 0)], [(5, .cells [.clo 109 0 (fun _ => default)] 220)]⟩ .nil kr .nil <| ath_n <| aw_seq ?_
 refine aw_region eqok [] [] [] [0, 1, 5, 7] [5] [] ⟨[(0, .av (.one (lst 6 TTrack.c l))), (1, .av (.one (.clo 108 0 (fun _ => default)))), (5, tP 5 0), (7, .av (.one (vN)))], [(5, .cells [.clo 109 0 (fun _ => default)] 220)]⟩ .nil kr .nil <| ath_n ?_
 refine aw_seq <| aw_seq ?_
 refine aw_region eqok [] [] [] [1, 5, 7, 10, 11, 12] [5] [] ⟨[(1, .av (.one (.clo 108 0 (fun _ => default)))), (5, tP 5 0), (7, .av (.one (vN))), (10, .av (.one (lst 6 TTrack.c l))), (11, tI ((l.length : Int))), (12, tI 0)], [(5, .cells [.clo 109 0 (fun _ => default)] 220)]⟩ .nil kr .nil <| ath_n <| aw_block ?_
 refine aw_cv (Cv.trans (cv_ghost (⟨[(1, .av (.one (.clo 108 0 (fun _ => default)))), (5, tP 5 0), (7, .av (.one (.own 100000 6 0))), (10, .av (.one (lst 6 TTrack.c l))), (11, tI ((l.length : Int))), (12, tI 0)], [(100000, .row 6 0 (fun _ _ => default) 150), (5, .cells [.clo 109 0 (fun _ => default)] 220)]⟩) 100000 6 (fun _ _ => default) 150 [(7, [0])] [] (K := []) (fun k x h => by cases h) rfl kr kr) (Cv.trans (cv_ce (⟨[(1, .av (.one (.clo 108 0 (fun _ => default)))), (5, tP 5 0), (7, .av (.one (.own 100000 6 ((([] : List TTrack)).length)))), (10, .av (.one (lst 6 TTrack.c l))), (11, tI ((l.length : Int))), (12, tI 0)], [(100000, .row 6 ((([] : List TTrack)).length) (rowF TTrack.c (([] : List TTrack))) 150), (5, .cells [.clo 109 0 (fun _ => default)] 220)]⟩) (.cons ⟨rfl, .refl _⟩ (.cons ⟨rfl, .refl _⟩ (.cons ⟨rfl, .av (.one (.own _ _ au3))⟩ lr))) (.cons ⟨rfl, bke_told 150 (told_nil 6 (fun _ _ => default) TTrack.c)⟩ lr)) (Cv.trans (cv_keep [1, 5, 7, 10, 11, 12] [5, 100000] (⟨[(1, .av (.one (.clo 108 0 (fun _ => default)))), (5, tP 5 0), (7, .av (.one (.own 100000 6 ((([] : List TTrack)).length)))), (10, .av (.one (lst 6 TTrack.c l))), (11, tI ((l.length : Int))), (12, tI 0)], [(5, .cells [.clo 109 0 (fun _ => default)] 220), (100000, .row 6 ((([] : List TTrack)).length) (rowF TTrack.c (([] : List TTrack))) 150)]⟩) kr) (Cv.refl _)))) ?_
 refine aw_loopC (ι := Nat × List TTrack × Int) (fun x => ⟨[(1, .av (.one (.clo 108 0 (fun _ => default)))), (5, tP 5 0), (7, .av (.one (.own 100000 6 x.2.1.length))), (10, .av (.one (lst 6 TTrack.c l))), (11, tI ((l.length : Int))), (12, tI x.2.2)], [(5, .cells [.clo 109 0 (fun _ => default)] 220), (100000, .row 6 x.2.1.length (rowF TTrack.c x.2.1) 150)]⟩) (fun x => ((((l.length : Int))) - x.2.2).toNat < x.1 /\ (0 <= x.2.2 /\ (x.2.2 <= ((l.length : Int)) \/ x.2.2 = 0) /\ (x.2.1.length : Int) <= 0 + 1 * (x.2.2 - 0)) /\ FsortedT_l0 l x.1 x.2.1 x.2.2 = FsortedT l) (fun x => x.1) ?_ (((((l.length : Int))) - 0).toNat + 1, ([] : List TTrack), 0) ⟨Nat.lt_succ_self _, ⟨(by show 0 <= 0; first | trivial | omega | exact at0 | exact at1 | exact at2 | (simp; omega) | simp), (by show (0 <= ((l.length : Int)) \/ 0 = 0); first | trivial | omega | exact at0 | exact at1 | exact at2 | (simp; omega) | simp), (by show ((([] : List TTrack)).length : Int) <= 0 + 1 * (0 - 0); first | trivial | omega | exact at0 | exact at1 | exact at2 | (simp; omega) | simp)⟩, (by simp only [FsortedT, cond_true, cond_false])⟩
 rintro ⟨n0, out, v12⟩ ⟨hn, hinv, hF⟩
 have hm0 : ((((l.length : Int))) - v12).toNat < n0 := hn; have hinv0 : 0 <= v12 /\ (v12 <= ((l.length : Int)) \/ v12 = 0) /\ (out.length : Int) <= 0 + 1 * (v12 - 0) := hinv; have hF0 : FsortedT_l0 l n0 out v12 = FsortedT l := hF; clear hn hinv hF
 cases n0 with
 | zero => exact absurd hm0 (Nat.not_lt_zero _)
 | succ n0 =>
  refine aw_seq ?_
  refine aw_region eqok [] [] [] [1, 5, 7, 10, 11, 12, 13] [5, 100000] [] ⟨[(1, .av (.one (.clo 108 0 (fun _ => default)))), (5, tP 5 0), (7, .av (.one (.own 100000 6 out.length))), (10, .av (.one (lst 6 TTrack.c l))), (11, tI ((l.length : Int))), (12, tI v12), (13, tB (decide ((v12 : Int) < ((l.length : Int)))))], [(5, .cells [.clo 109 0 (fun _ => default)] 220), (100000, .row 6 out.length (rowF TTrack.c out) 150)]⟩ .nil kr .nil <| ath_n <| aw_seq ?_
  refine aw_cond (decide ((v12 : Int) < ((l.length : Int)))) kr (fun h1 => ?_) (fun h1 => ?_)
  ·have g1 := of_decide_eq_true h1
   refine aw_skip <| ath_n ?_
   refine aw_seq <| aw_block <| aw_seq ?_
   refine aw_region eqok [] [] [] [1, 5, 7, 9, 10, 11, 12] [5, 9, 100000] [0 <= (v12 : Int) /\ (v12 : Int) < ((l.length : Nat) : Int)] ⟨[(1, .av (.one (.clo 108 0 (fun _ => default)))), (5, tP 5 0), (7, .av (.one (.own 100000 6 out.length))), (9, tP 9 0), (10, .av (.one (lst 6 TTrack.c l))), (11, tI ((l.length : Int))), (12, tI v12)], [(5, .cells [.clo 109 0 (fun _ => default)] 220), (9, .cells (TTrack.c (l.getD v12.toNat default)) 131), (100000, .row 6 out.length (rowF TTrack.c out) 150)]⟩ .nil kr (.cons au0 .nil) <| ath_n ?_
   refine aw_region eqok [] [] [(19, casT (l.getD v12.toNat default))] [1, 5, 7, 10, 11, 12] [5, 21] [Same (casT (l.getD v12.toNat default)).2.1, out.length = out.length, out.length + 1 <= maxLen, (out.length + 1) * 72 <= 140737488355328] ⟨[(1, .av (.one (.clo 108 0 (fun _ => default)))), (5, tP 5 0), (7, .av (.one (.own 21 6 (out.length + 1)))), (10, .av (.one (lst 6 TTrack.c l))), (11, tI ((l.length : Int))), (12, tI v12)], [(5, .cells [.clo 109 0 (fun _ => default)] 220), (21, .row 6 (out.length + 1) (fun i_ j_ => if i_ < out.length then (rowF TTrack.c out) i_ j_ else (colsC 6 1 [.i ((FasT (l.getD v12.toNat default)).Id), .s ((FasT (l.getD v12.toNat default)).Net), .i ((FasT (l.getD v12.toNat default)).Layer), .i (((FasT (l.getD v12.toNat default)).Shape).Kind), lst 7 TEdge.c (((FasT (l.getD v12.toNat default)).Shape).Edges), .i (((FasT (l.getD v12.toNat default)).Shape).R)]) (i_ - out.length) j_) 150)]⟩ (.cons (okasT (l.getD v12.toNat default)) .nil) kr (.cons rfl (.cons rfl (.cons au4 (.cons au4 .nil)))) <| abl_n <| ath_n ?_
   refine aw_cv (Cv.trans (cv_ce (⟨[(1, .av (.one (.clo 108 0 (fun _ => default)))), (5, tP 5 0), (7, .av (.one (.own 21 6 ((out ++ [FasT (l.getD v12.toNat default)]).length)))), (10, .av (.one (lst 6 TTrack.c l))), (11, tI ((l.length : Int))), (12, tI v12)], [(5, .cells [.clo 109 0 (fun _ => default)] 220), (21, .row 6 ((out ++ [FasT (l.getD v12.toNat default)]).length) (rowF TTrack.c (out ++ [FasT (l.getD v12.toNat default)])) 150)]⟩) (.cons ⟨rfl, .refl _⟩ (.cons ⟨rfl, .refl _⟩ (.cons ⟨rfl, .av (.one (.own _ _ au3))⟩ lr))) (.cons ⟨rfl, .refl _⟩ (.cons ⟨rfl, bke_told 150 (told_app (told_rfl 6 TTrack.c out) (told_lit (c := TTrack.c) (xs := ([FasT (l.getD v12.toNat default)] : List TTrack)) rfl kr))⟩ .nil))) (Cv.refl _)) ?_
   refine aw_region eqok [] [] [] [1, 5, 7, 10, 11, 12] [5, 21] [] ⟨[(1, .av (.one (.clo 108 0 (fun _ => default)))), (5, tP 5 0), (7, .av (.one (.own 21 6 ((out ++ [FasT (l.getD v12.toNat default)]).length)))), (10, .av (.one (lst 6 TTrack.c l))), (11, tI ((l.length : Int))), (12, tI (W64 (v12 + 1)))], [(5, .cells [.clo 109 0 (fun _ => default)] 220), (21, .row 6 ((out ++ [FasT (l.getD v12.toNat default)]).length) (rowF TTrack.c (out ++ [FasT (l.getD v12.toNat default)])) 150)]⟩ .nil kr .nil ?_
   (try rw [(show W64 (v12 + 1) = v12 + 1 from W64_id (by omega) au5)])
   refine ath_n ?_
   refine ⟨(n0, out ++ [FasT (l.getD v12.toNat default)], v12 + 1), ⟨?_, ?_, (by rw [<- hF0]; simp only [FsortedT_l0, h1, cond_true, cond_false])⟩, Nat.lt_succ_self _, Cv.trans (cv_ren (⟨[(1, .av (.one (.clo 108 0 (fun _ => default)))), (5, tP 5 0), (7, .av (.one (.own 100000 6 ((out ++ [FasT (l.getD v12.toNat default)]).length)))), (10, .av (.one (lst 6 TTrack.c l))), (11, tI ((l.length : Int))), (12, tI (v12 + 1))], [(5, .cells [.clo 109 0 (fun _ => default)] 220), (100000, .row 6 ((out ++ [FasT (l.getD v12.toNat default)]).length) (rowF TTrack.c (out ++ [FasT (l.getD v12.toNat default)])) 150)]⟩) 21 100000 (K := []) (fun k x h => by cases h) rfl rfl kr kr) (cv_eq kr)⟩
   ·show ((((l.length : Int))) - (v12 + 1)).toNat < n0; omega
   ·exact ⟨(by show 0 <= (v12 + 1); first | trivial | omega | exact at0 | exact at1 | exact at2 | (simp; omega) | simp), (by show ((v12 + 1) <= ((l.length : Int)) \/ (v12 + 1) = 0); first | trivial | omega | exact at0 | exact at1 | exact at2 | (simp; omega) | simp), (by show ((out ++ [FasT (l.getD v12.toNat default)]).length : Int) <= 0 + 1 * ((v12 + 1) - 0); first | trivial | omega | exact at0 | exact at1 | exact at2 | (simp; omega) | simp)⟩
  ·have g1 := of_decide_eq_false h1
   refine aw_exit <| ath_e ?_
   refine ath_e <| abl_hit ?_
   refine ath_n <| aw_seq ?_
   refine aw_cv (Cv.trans (cv_fix (⟨[(1, .av (.one (.clo 108 0 (fun _ => default)))), (5, .av (.one (.eptr 1 1 (fun _ j_ => ([.clo 109 0 (fun _ => default)] : List Cl).getD j_ default) 0 0))), (7, .av (.one (.own 100000 6 out.length))), (10, .av (.one (lst 6 TTrack.c l))), (11, tI ((l.length : Int))), (12, tI v12), (13, tB (decide ((v12 : Int) < ((l.length : Int)))))], [(100000, .row 6 out.length (rowF TTrack.c out) 150)]⟩) 5 [.clo 109 0 (fun _ => default)] 220 (K := []) (fun k x h => by cases h) kr kr kr kr) (Cv.refl _)) ?_
   refine aw_region eqok [] [] [(25, (Z0o out))] [7] [100000] [Same (Z0o out).2.1, SameB (.row 6 out.length (rowF TTrack.c out) 150)] ⟨[(7, .av (.one (.own 100000 6 out.length)))], [(100000, .row 6 out.length (rowF TTrack.c (FSrtT out)) 150)]⟩ (.cons (callOk_wrR (fun _ _ => kr) kr (pSrtT out au2)) .nil) kr (.cons rfl (.cons rfl .nil)) <| ath_n ?_
   refine aw_cv (Cv.trans (cv_ce (⟨[(7, .av (.one (.own 100000 6 ((FSrtT out).length))))], [(100000, .row 6 ((FSrtT out).length) (rowF TTrack.c (FSrtT out)) 150)]⟩) (.cons ⟨rfl, .av (.one (.own _ _ (FSrtT_len out au2).symm))⟩ .nil) (.cons ⟨rfl, bke_told 150 (⟨(FSrtT_len out au2).symm, fun _ _ _ _ => .refl _⟩)⟩ .nil)) (Cv.refl _)) <| aw_seq ?_
   refine aw_region eqok [] [] [] [6] [100000] [] ⟨[(6, .av (.one (.own 100000 6 ((FSrtT out).length))))], [(100000, .row 6 ((FSrtT out).length) (rowF TTrack.c (FSrtT out)) 150)]⟩ .nil kr .nil <| ath_n <| aw_ret ?_
   exact ⟨_, Cv.refl _, .inl rfl, .av (.one (.own 100000 6 ((FSrtT out).length))), by kernel_rfl, frE (c := TTrack.c) (xs := FSrtT out) (by rw [<- hF0]; first | (simp only [FsortedT_l0, h1, cond_true, cond_false] <;> rfl)) kr⟩
def Z0p (b : TBoard) : FuncId × List Av × Ef := (107, [.one (lst 6 TTrack.c b.Tracks), .one (.clo 108 0 (fun _ => default)), .one (.clo 109 0 (fun _ => default))], .new [] (.row 6 (FsortedT b.Tracks).length (rowF TTrack.c (FsortedT b.Tracks)) 150) (fun d => .av (.one (.own d 6 (FsortedT b.Tracks).length))))
def Ftracks (b : TBoard) : (List TTrack) := FsortedT b.Tracks
theorem qtracks (b : TBoard) (hl : b.Tracks.length < 20) : Fr Tryz.prog 52 [.agg (TBoard.c b)] (.row 6 (Ftracks b).length (rowF TTrack.c (Ftracks b)) 150) (fun d => .av (.one (.own d 6 (Ftracks b).length))) := by
 refine fr_of_awF Tryz.func52 rfl kr (ownV_one _ _) fun W0 M0 => ?_
 refine aw_seq ?_
 refine aw_region eqok [] [] [] [1] [1] [] ⟨[(1, tP 1 0)], [(1, .cells (TBoard.c b) 41)]⟩ .nil kr .nil <| ath_n <| aw_seq ?_
 refine aw_region eqok [] [] [(5, (Z0p b))] [2] [5] [Same (Z0p b).2.1] ⟨[(2, .av (.one (.own 5 6 ((FsortedT b.Tracks).length))))], [(5, .row 6 ((FsortedT b.Tracks).length) (rowF TTrack.c (FsortedT b.Tracks)) 150)]⟩ (.cons (callOk_fr (fun _ _ => kr) (qsortedT b.Tracks au2)) .nil) kr (.cons rfl .nil) <| ath_n <| aw_ret ?_
 exact ⟨_, Cv.refl _, .inl rfl, .av (.one (.own 5 6 ((FsortedT b.Tracks).length))), by kernel_rfl, frE (c := TTrack.c) (xs := FsortedT b.Tracks) (by rfl) kr⟩
def ctracks (b : TBoard) : FuncId × List Av × Ef := (52, [.agg (TBoard.c b)], .new [] (.row 6 (Ftracks b).length (rowF TTrack.c (Ftracks b)) 150) (fun d => .av (.one (.own d 6 (Ftracks b).length))))
theorem oktracks (b : TBoard) (hl : b.Tracks.length < 20) : CallOk Tryz.prog (ctracks b).1 (ctracks b).2.1 (ctracks b).2.2 := callOk_fr (fun _ _ => kr) (qtracks b hl)
theorem FsortedT_eq (l : List TTrack) : FsortedT l = isortB (fun x y => decide (FcmpT x y < 0)) l := by
 unfold FsortedT
 have h := cp_l l (FsortedT_l0 l) (fun acc _ => FSrtT acc) (fun m acc v => by
  rw [FsortedT_l0, Int.toNat_natCast]
  rfl) l.length 0 ((((l.length : Int)) - 0).toNat + 1) [] rfl (Nat.zero_le _) (by omega)
 rw [List.drop_zero, List.nil_append] at h
 exact h.trans (FSrtT_eq l)
theorem Ftracks_eq (b : TBoard) : Ftracks b = isortB (fun x y => decide (FcmpT x y < 0)) b.Tracks := FsortedT_eq _
theorem Ftracks_mem {b : TBoard} {x : TTrack} : x ∈ Ftracks b ↔ x ∈ b.Tracks := by rw [Ftracks_eq]; exact isortB_mem _ _ _
theorem Ftracks_len (b : TBoard) : (Ftracks b).length = b.Tracks.length := by rw [Ftracks_eq]; exact isortB_len _ _
def FasV (t : TVia) : TVia := t
def casV (t : TVia) : FuncId × List Av × Ef := (111, [.agg (TVia.c t)], .val [] (.av (.agg (TVia.c (FasV t)))))
theorem pasV (t : TVia) : Pure Tryz.prog 111 (casV t).2.1 (.av (.agg (TVia.c (FasV t)))) := by
 refine pure_of_awF Tryz.func111 rfl kr kr fun W0 M0 => ?_
 refine aw_seq ?_
 refine aw_region eqok [] [] [] [1, 2] [1, 2] [] ⟨[(1, tP 1 0), (2, tP 2 0)], [(1, .cells (TVia.c t) 133), (2, .cells [.i 0, .s (⟨#[]⟩), .i 0, .i 0, .i 0, .i 0, .i 0, .i 0] 154)]⟩ .nil kr .nil <| ath_n <| aw_seq ?_
 refine aw_region eqok [] [] [] [2] [2] [] ⟨[(2, tP 2 0)], [(2, .cells (TVia.c t) 154)]⟩ .nil kr .nil <| ath_n <| aw_ret ?_
 exact ⟨_, Cv.refl _, .inl rfl, .av (.agg (TVia.c t)), by kernel_rfl, tve_eq (by rfl)⟩
theorem okasV (t : TVia) : CallOk Tryz.prog (casV t).1 (casV t).2.1 (casV t).2.2 := callOk_pure (fun _ _ => kr) fun _ => pasV t
def FidV (t : TVia) : Int := t.Id
def cidV (t : TVia) : FuncId × List Av × Ef := (112, [.agg (TVia.c t)], .val [] (.av (.one (.i (FidV t)))))
theorem pidV (t : TVia) : Pure Tryz.prog 112 (cidV t).2.1 (.av (.one (.i (FidV t)))) := by
 refine pure_of_awF Tryz.func112 rfl kr kr fun W0 M0 => ?_
 refine aw_seq ?_
 refine aw_region eqok [] [] [] [1] [1] [] ⟨[(1, tP 1 0)], [(1, .cells (TVia.c t) 154)]⟩ .nil kr .nil <| ath_n <| aw_seq ?_
 refine aw_region eqok [] [] [] [2] [] [] ⟨[(2, tI t.Id)], []⟩ .nil kr .nil <| ath_n <| aw_ret ?_
 exact ⟨_, Cv.refl _, .inl rfl, .av (.one (.i t.Id)), by kernel_rfl, tve_eq (by rfl)⟩
theorem okidV (t : TVia) : CallOk Tryz.prog (cidV t).1 (cidV t).2.1 (cidV t).2.2 := callOk_pure (fun _ _ => kr) fun _ => pidV t
def FcmpV (a : TVia) (b_ : TVia) : Int := FCompare (FidV a) (FidV b_)
theorem pcmpV  (a : TVia) (b_ : TVia) : Pure Tryz.prog 156 [.agg (TVia.c a), .agg (TVia.c b_), .one (.eptr 1 1 (fun _ j_ => ([.clo 112 0 (fun _ => default)] : List Cl).getD j_ default) 0 0)] (.av (.one (.i (FcmpV a b_)))) := by
 refine pure_of_awF Tryz.func156 rfl kr kr fun W0 M0 => ?_
 refine aw_seq ?_
 refine aw_region eqok [] [] [] [2, 3, 4] [3, 4] [] ⟨[(2, .av (.one (.eptr 1 1 (fun _ j_ => ([.clo 112 0 (fun _ => default)] : List Cl).getD j_ default) 0 0))), (3, tP 3 0), (4, tP 4 0)], [(3, .cells (TVia.c a) 154), (4, .cells (TVia.c b_) 154)]⟩ .nil kr .nil <| ath_n <| aw_seq ?_
 refine aw_draw mixed eqok [] [] [(8, cidV a), (11, cidV b_), (12, cCompare (FidV a) (FidV b_))] [5] [] [Same (cidV a).2.1, Same (cidV b_).2.1, Same (cCompare (FidV a) (FidV b_)).2.1] ⟨[(5, tI (FCompare (FidV a) (FidV b_)))], []⟩ (.cons (okidV a) (.cons (okidV b_) (.cons (okCompare (FidV a) (FidV b_)) .nil))) kr kr (.cons rfl (.cons rfl (.cons rfl .nil))) <| ath_n <| aw_ret ?_
 exact ⟨_, Cv.refl _, .inl rfl, .av (.one (.i (FCompare (FidV a) (FidV b_)))), by kernel_rfl, tve_eq (by rfl)⟩
def Z0q (data' : List TVia) (j : Int) : FuncId × List Av × Ef := (156, [.agg (TVia.c (data'.getD j.toNat default)), .agg (TVia.c (data'.getD ((W64 (j - 1)).toNat) default)), .one (.eptr 1 1 (fun _ j_ => ([.clo 112 0 (fun _ => default)] : List Cl).getD j_ default) 0 0)], .val [] (tI (FcmpV (data'.getD j.toNat default) (data'.getD ((W64 (j - 1)).toNat) default))))
def FInsV_l1 (l : (List TVia)) (n : Int) (data : List TVia) (i : Int) (K0 : List TVia -> Int -> (List TVia)) : Nat -> List TVia -> Int -> (List TVia)
 | 0, _, _ => default
 | n1 + 1, data', j => bif bif decide ((0 : Int) < j) then decide (((FcmpV (data'.getD j.toNat default) (data'.getD ((j - 1).toNat) default)) : Int) < 0) else false then ((FInsV_l1 l n data i K0 n1) ((data'.set j.toNat (data'.getD ((j - 1).toNat) default)).set ((j - 1).toNat) (data'.getD j.toNat default)) (j - 1)) else (K0 data' (i + 1))
def FInsV_l0 (l : (List TVia)) (n : Int) : Nat -> List TVia -> Int -> (List TVia)
 | 0, _, _ => default
 | n0 + 1, data, i => bif decide ((i : Int) < n) then (FInsV_l1 l n data i (FInsV_l0 l n n0) (i.toNat + 1) data i) else (data)
def FInsV (l : (List TVia)) (n : Int) : (List TVia) := FInsV_l0 l n ((n - 1).toNat + 1) l 1
theorem pInsV (l : (List TVia)) (n : Int) (hn : n = (l.length : Int)) (hl : l.length < 20) : WrR Tryz.prog 183 1000 [.one (.own 1000 8 l.length), .one (.i 0), .one (.i n), .one (.clo 156 1 (listF [.eptr 1 1 (fun _ j_ => ([.clo 112 0 (fun _ => default)] : List Cl).getD j_ default) 0 0]))] 8 l.length (rowF TVia.c l) 154 (.tup []) (rowF TVia.c (FInsV l n)) := by
 refine wrR_of_awF Tryz.func183 rfl kr kr kr fun W0 M0 X hX => ?_
 refine aw_seq ?_
 refine aw_region eqok [] [] [] [0, 1, 2, 3, 8] [1000] [] ⟨[(0, .av (.one (.own 1000 8 l.length))), (1, tI 0), (2, tI n), (3, .av (.one (.clo 156 1 (listF [.eptr 1 1 (fun _ j_ => ([.clo 112 0 (fun _ => default)] : List Cl).getD j_ default) 0 0])))), (8, tI 1)], [(1000, .row 8 l.length (rowF TVia.c l) 154)]⟩ .nil kr .nil <| ath_n <| aw_block ?_
 refine aw_loopC (ι := Nat × List TVia × Int) (fun x => ⟨[(0, .av (.one (.own 1000 8 x.2.1.length))), (1, tI 0), (2, tI n), (3, .av (.one (.clo 156 1 (listF [.eptr 1 1 (fun _ j_ => ([.clo 112 0 (fun _ => default)] : List Cl).getD j_ default) 0 0])))), (8, tI x.2.2)], [(1000, .row 8 x.2.1.length (rowF TVia.c x.2.1) 154)]⟩) (fun x => (n - x.2.2).toNat < x.1 /\ (1 <= x.2.2 /\ x.2.1.length = l.length /\ 1 <= x.2.2 /\ (x.2.2 <= n \/ x.2.2 = 1)) /\ FInsV_l0 l n x.1 x.2.1 x.2.2 = FInsV l n) (fun x => x.1) ?_ ((n - 1).toNat + 1, l, 1) ⟨Nat.lt_succ_self _, ⟨(by show 1 <= 1; first | trivial | omega | exact at0 | exact at1 | exact at2 | (simp; omega) | simp), (by show l.length = l.length; first | trivial | omega | exact at0 | exact at1 | exact at2 | (simp; omega) | simp), (by show 1 <= 1; first | trivial | omega | exact at0 | exact at1 | exact at2 | (simp; omega) | simp), (by show (1 <= n \/ 1 = 1); first | trivial | omega | exact at0 | exact at1 | exact at2 | (simp; omega) | simp)⟩, (by simp only [FInsV, cond_true, cond_false])⟩
 rintro ⟨n0, data, i⟩ ⟨hn, hinv, hF⟩
 have hm0 : (n - i).toNat < n0 := hn; have hinv0 : 1 <= i /\ data.length = l.length /\ 1 <= i /\ (i <= n \/ i = 1) := hinv; have hF0 : FInsV_l0 l n n0 data i = FInsV l n := hF; clear hn hinv hF
 cases n0 with
 | zero => exact absurd hm0 (Nat.not_lt_zero _)
 | succ n0 =>
  refine aw_seq <| aw_seq ?_
  refine aw_region eqok [] [] [] [0, 1, 2, 3, 8, 14] [1000] [] ⟨[(0, .av (.one (.own 1000 8 data.length))), (1, tI 0), (2, tI n), (3, .av (.one (.clo 156 1 (listF [.eptr 1 1 (fun _ j_ => ([.clo 112 0 (fun _ => default)] : List Cl).getD j_ default) 0 0])))), (8, tI i), (14, tB (decide ((i : Int) < n)))], [(1000, .row 8 data.length (rowF TVia.c data) 154)]⟩ .nil kr .nil <| ath_n ?_
  refine aw_cond (decide ((i : Int) < n)) kr (fun h1 => ?_) (fun h1 => ?_)
  ·have g1 := of_decide_eq_true h1
   refine aw_skip <| ath_n ?_
   refine aw_seq <| aw_block <| aw_seq ?_
   refine aw_region eqok [] [] [] [0, 1, 2, 3, 8, 9] [1000] [] ⟨[(0, .av (.one (.own 1000 8 data.length))), (1, tI 0), (2, tI n), (3, .av (.one (.clo 156 1 (listF [.eptr 1 1 (fun _ j_ => ([.clo 112 0 (fun _ => default)] : List Cl).getD j_ default) 0 0])))), (8, tI i), (9, tI i)], [(1000, .row 8 data.length (rowF TVia.c data) 154)]⟩ .nil kr .nil <| ath_n <| aw_block ?_
   refine aw_loopC (ι := Nat × List TVia × Int) (fun x => ⟨[(0, .av (.one (.own 1000 8 x.2.1.length))), (1, tI 0), (2, tI n), (3, .av (.one (.clo 156 1 (listF [.eptr 1 1 (fun _ j_ => ([.clo 112 0 (fun _ => default)] : List Cl).getD j_ default) 0 0])))), (8, tI i), (9, tI x.2.2)], [(1000, .row 8 x.2.1.length (rowF TVia.c x.2.1) 154)]⟩) (fun x => x.2.2.toNat < x.1 /\ (0 <= x.2.2 /\ x.2.1.length = l.length /\ x.2.2 < n) /\ FInsV_l1 l n data i (FInsV_l0 l n n0) x.1 x.2.1 x.2.2 = FInsV l n) (fun x => x.1) ?_ (i.toNat + 1, data, i) ⟨Nat.lt_succ_self _, ⟨(by show 0 <= i; first | trivial | omega | exact at0 | exact at1 | exact at2 | (simp; omega) | simp), (by show data.length = l.length; first | trivial | omega | exact at0 | exact at1 | exact at2 | (simp; omega) | simp), (by show i < n; first | trivial | omega | exact at0 | exact at1 | exact at2 | (simp; omega) | simp)⟩, (by rw [<- hF0]; simp only [FInsV_l0, h1, cond_true, cond_false])⟩
   rintro ⟨n1, data', j⟩ ⟨hn, hinv, hF⟩
   have hm1 : j.toNat < n1 := hn; have hinv1 : 0 <= j /\ data'.length = l.length /\ j < n := hinv; have hF1 : FInsV_l1 l n data i (FInsV_l0 l n n0) n1 data' j = FInsV l n := hF; clear hn hinv hF
   cases n1 with
   | zero => exact absurd hm1 (Nat.not_lt_zero _)
   | succ n1 =>
    refine aw_seq <| aw_seq ?_
    refine aw_draw mixed eqok [] [] [(32, (Z0q data' j))] [0, 1, 2, 3, 8, 9, 34] [1000] [((decide ((0 : Int) < j)) = true) -> ((decide ((0 : Int) < j)) = true), ((decide ((0 : Int) < j)) = true) -> ((decide ((0 : Int) < j)) = true), ((decide ((0 : Int) < j)) = true) -> (0 <= (j : Int) /\ (j : Int) < ((data'.length : Nat) : Int)), ((decide ((0 : Int) < j)) = true) -> ((decide ((0 : Int) < j)) = true), ((decide ((0 : Int) < j)) = true) -> (j.toNat < data'.length), ((decide ((0 : Int) < j)) = true) -> ((decide ((0 : Int) < j)) = true), ((decide ((0 : Int) < j)) = true) -> ((decide ((0 : Int) < j)) = true), ((decide ((0 : Int) < j)) = true) -> ((decide ((0 : Int) < j)) = true), ((decide ((0 : Int) < j)) = true) -> (0 <= (W64 (j - 1) : Int) /\ (W64 (j - 1) : Int) < ((data'.length : Nat) : Int)), ((decide ((0 : Int) < j)) = true) -> ((decide ((0 : Int) < j)) = true), ((decide ((0 : Int) < j)) = true) -> ((W64 (j - 1)).toNat < data'.length), ((decide ((0 : Int) < j)) = true) -> ((decide ((0 : Int) < j)) = true), ((decide ((0 : Int) < j)) = true) -> ((decide ((0 : Int) < j)) = true), ((decide ((0 : Int) < j)) = true) -> ((decide ((0 : Int) < j)) = true), ((decide ((0 : Int) < j)) = true) -> (Same (Z0q data' j).2.1), ((decide ((0 : Int) < j)) = true) -> ((decide ((0 : Int) < j)) = true), (decide ((0 : Int) < j)) = true -> ((decide ((0 : Int) < j)) = true)] ⟨[(0, .av (.one (.own 1000 8 data'.length))), (1, tI 0), (2, tI n), (3, .av (.one (.clo 156 1 (listF [.eptr 1 1 (fun _ j_ => ([.clo 112 0 (fun _ => default)] : List Cl).getD j_ default) 0 0])))), (8, tI i), (9, tI j), (34, tB (bif decide ((0 : Int) < j) then decide (((FcmpV (data'.getD j.toNat default) (data'.getD ((W64 (j - 1)).toNat) default)) : Int) < 0) else false))], [(1000, .row 8 data'.length (rowF TVia.c data') 154)]⟩ (.cons (callOk_pure (fun _ _ => kr) fun _ => pcmpV (data'.getD j.toNat default) (data'.getD ((W64 (j - 1)).toNat) default)) .nil) kr kr (.cons id (.cons id (.cons (fun hG => by first | exact au0 | (simp only [decide_eq_true_eq, decide_eq_false_iff_not, Bool.not_eq_true, Bool.and_eq_true] at hG <;> omega) | (simp at hG <;> omega) | (simp only [decide_eq_true_eq, decide_eq_false_iff_not] at hG; simp only [W64_def]; omega)) (.cons id (.cons (fun hG => by first | exact au0 | (simp only [decide_eq_true_eq, decide_eq_false_iff_not, Bool.not_eq_true, Bool.and_eq_true] at hG <;> omega) | (simp at hG <;> omega) | (simp only [decide_eq_true_eq, decide_eq_false_iff_not] at hG; simp only [W64_def]; omega)) (.cons id (.cons id (.cons id (.cons (fun hG => by first | exact au0 | (simp only [decide_eq_true_eq, decide_eq_false_iff_not, Bool.not_eq_true, Bool.and_eq_true] at hG <;> omega) | (simp at hG <;> omega) | (simp only [decide_eq_true_eq, decide_eq_false_iff_not] at hG; simp only [W64_def]; omega)) (.cons id (.cons (fun hG => by first | exact au0 | (simp only [decide_eq_true_eq, decide_eq_false_iff_not, Bool.not_eq_true, Bool.and_eq_true] at hG <;> omega) | (simp at hG <;> omega) | (simp only [decide_eq_true_eq, decide_eq_false_iff_not] at hG; simp only [W64_def]; omega)) (.cons id (.cons id (.cons id (.cons (fun _ => rfl) (.cons id (.cons id .nil))))))))))))))))) ?_
    (try rw [(show W64 (j - 1) = j - 1 from W64_id (by omega) (by omega))])
    refine ath_n ?_
    refine aw_cond (bif decide ((0 : Int) < j) then decide (((FcmpV (data'.getD j.toNat default) (data'.getD ((j - 1).toNat) default)) : Int) < 0) else false) kr (fun h2 => ?_) (fun h2 => ?_)
    ·have g2 := and_dec h2
     refine aw_skip <| ath_n ?_
     refine aw_seq <| aw_block ?_
     refine aw_draw mixed eqok [] [] [] [0, 1, 2, 3, 8, 9] [1000] [0 <= (W64 (j - 1) : Int) /\ (W64 (j - 1) : Int) < ((data'.length : Nat) : Int), (W64 (j - 1)).toNat < data'.length, 0 <= (j : Int) /\ (j : Int) < ((data'.length : Nat) : Int), j.toNat < data'.length, 0 <= (j : Int) /\ (j : Int) < ((data'.length : Nat) : Int), j.toNat < data'.length, 0 <= (W64 (j - 1) : Int) /\ (W64 (j - 1) : Int) < ((data'.length : Nat) : Int), (W64 (j - 1)).toNat < data'.length] ⟨[(0, .av (.one (.own 1000 8 data'.length))), (1, tI 0), (2, tI n), (3, .av (.one (.clo 156 1 (listF [.eptr 1 1 (fun _ j_ => ([.clo 112 0 (fun _ => default)] : List Cl).getD j_ default) 0 0])))), (8, tI i), (9, tI j)], [(1000, .row 8 data'.length (fun i_ j_ => if i_ = (W64 (j - 1)).toNat /\ 0 <= j_ /\ j_ < 0 + 8 then ([.i ((data'.getD j.toNat default).Id), .s ((data'.getD j.toNat default).Net), .i (((data'.getD j.toNat default).At).X), .i (((data'.getD j.toNat default).At).Y), .i ((data'.getD j.toNat default).R), .i ((data'.getD j.toNat default).Drill), .i ((data'.getD j.toNat default).From), .i ((data'.getD j.toNat default).To)] : List Cl).getD (j_ - 0) default else (fun i_ j_ => if i_ = j.toNat /\ 0 <= j_ /\ j_ < 0 + 8 then ([.i ((data'.getD ((W64 (j - 1)).toNat) default).Id), .s ((data'.getD ((W64 (j - 1)).toNat) default).Net), .i (((data'.getD ((W64 (j - 1)).toNat) default).At).X), .i (((data'.getD ((W64 (j - 1)).toNat) default).At).Y), .i ((data'.getD ((W64 (j - 1)).toNat) default).R), .i ((data'.getD ((W64 (j - 1)).toNat) default).Drill), .i ((data'.getD ((W64 (j - 1)).toNat) default).From), .i ((data'.getD ((W64 (j - 1)).toNat) default).To)] : List Cl).getD (j_ - 0) default else (rowF TVia.c data') i_ j_) i_ j_) 154)]⟩ .nil kr kr (.cons au0 (.cons au0 (.cons au0 (.cons au0 (.cons au0 (.cons au0 (.cons au0 (.cons au0 .nil)))))))) ?_
     (try rw [(show W64 (j - 1) = j - 1 from W64_id (by omega) (by omega))])
     refine abl_n <| ath_n ?_
     refine aw_cv (Cv.trans (cv_ce (⟨[(0, .av (.one (.own 1000 8 (((data'.set j.toNat (data'.getD ((j - 1).toNat) default)).set ((j - 1).toNat) (data'.getD j.toNat default)).length)))), (1, tI 0), (2, tI n), (3, .av (.one (.clo 156 1 (listF [.eptr 1 1 (fun _ j_ => ([.clo 112 0 (fun _ => default)] : List Cl).getD j_ default) 0 0])))), (8, tI i), (9, tI j)], [(1000, .row 8 (((data'.set j.toNat (data'.getD ((j - 1).toNat) default)).set ((j - 1).toNat) (data'.getD j.toNat default)).length) (rowF TVia.c ((data'.set j.toNat (data'.getD ((j - 1).toNat) default)).set ((j - 1).toNat) (data'.getD j.toNat default))) 154)]⟩) (.cons ⟨rfl, .av (.one (.own _ _ au3))⟩ lr) (.cons ⟨rfl, bke_told 154 (told_set (l := [.i ((data'.getD j.toNat default).Id), .s ((data'.getD j.toNat default).Net), .i (((data'.getD j.toNat default).At).X), .i (((data'.getD j.toNat default).At).Y), .i ((data'.getD j.toNat default).R), .i ((data'.getD j.toNat default).Drill), .i ((data'.getD j.toNat default).From), .i ((data'.getD j.toNat default).To)]) (off := 0) (q := 8) (k := (j - 1).toNat) (told_set (l := [.i ((data'.getD ((j - 1).toNat) default).Id), .s ((data'.getD ((j - 1).toNat) default).Net), .i (((data'.getD ((j - 1).toNat) default).At).X), .i (((data'.getD ((j - 1).toNat) default).At).Y), .i ((data'.getD ((j - 1).toNat) default).R), .i ((data'.getD ((j - 1).toNat) default).Drill), .i ((data'.getD ((j - 1).toNat) default).From), .i ((data'.getD ((j - 1).toNat) default).To)]) (off := 0) (q := 8) (k := j.toNat) (told_rfl 8 TVia.c data') au0 (data'.getD ((j - 1).toNat) default) (tab_get kr)) au0 (data'.getD j.toNat default) (tab_get kr))⟩ .nil)) (Cv.refl _)) ?_
     refine aw_region eqok [] [] [] [0, 1, 2, 3, 8, 9] [1000] [] ⟨[(0, .av (.one (.own 1000 8 (((data'.set j.toNat (data'.getD ((j - 1).toNat) default)).set ((j - 1).toNat) (data'.getD j.toNat default)).length)))), (1, tI 0), (2, tI n), (3, .av (.one (.clo 156 1 (listF [.eptr 1 1 (fun _ j_ => ([.clo 112 0 (fun _ => default)] : List Cl).getD j_ default) 0 0])))), (8, tI i), (9, tI (W64 (j - 1)))], [(1000, .row 8 (((data'.set j.toNat (data'.getD ((j - 1).toNat) default)).set ((j - 1).toNat) (data'.getD j.toNat default)).length) (rowF TVia.c ((data'.set j.toNat (data'.getD ((j - 1).toNat) default)).set ((j - 1).toNat) (data'.getD j.toNat default))) 154)]⟩ .nil kr .nil ?_
     (try rw [(show W64 (j - 1) = j - 1 from W64_id (by omega) (by omega))])
     refine ath_n ?_
     refine ⟨(n1, (data'.set j.toNat (data'.getD ((j - 1).toNat) default)).set ((j - 1).toNat) (data'.getD j.toNat default), j - 1), ⟨?_, ?_, (by rw [<- hF1]; simp only [FInsV_l1, h2, cond_true, cond_false])⟩, Nat.lt_succ_self _, cv_eq kr⟩
     ·show (j - 1).toNat < n1; omega
     ·exact ⟨(by show 0 <= (j - 1); first | trivial | omega | exact at0 | exact at1 | exact at2 | (simp; omega) | simp), (by show ((data'.set j.toNat (data'.getD ((j - 1).toNat) default)).set ((j - 1).toNat) (data'.getD j.toNat default)).length = l.length; first | trivial | omega | exact at0 | exact at1 | exact at2 | (simp; omega) | simp), (by show (j - 1) < n; first | trivial | omega | exact at0 | exact at1 | exact at2 | (simp; omega) | simp)⟩
    ·refine aw_exit <| ath_e ?_
     refine ath_e <| abl_hit ?_
     refine abl_n <| ath_n ?_
     refine aw_region eqok [] [] [] [0, 1, 2, 3, 8] [1000] [] ⟨[(0, .av (.one (.own 1000 8 data'.length))), (1, tI 0), (2, tI n), (3, .av (.one (.clo 156 1 (listF [.eptr 1 1 (fun _ j_ => ([.clo 112 0 (fun _ => default)] : List Cl).getD j_ default) 0 0])))), (8, tI (W64 (i + 1)))], [(1000, .row 8 data'.length (rowF TVia.c data') 154)]⟩ .nil kr .nil ?_
     (try rw [(show W64 (i + 1) = i + 1 from W64_id (by omega) (by omega))])
     refine ath_n ?_
     refine ⟨(n0, data', i + 1), ⟨?_, ?_, (by rw [<- hF1]; simp only [FInsV_l1, h2, cond_true, cond_false])⟩, Nat.lt_succ_self _, cv_eq kr⟩
     ·show (n - (i + 1)).toNat < n0; omega
     ·exact ⟨(by show 1 <= (i + 1); first | trivial | omega | exact at0 | exact at1 | exact at2 | (simp; omega) | simp), (by show data'.length = l.length; first | trivial | omega | exact at0 | exact at1 | exact at2 | (simp; omega) | simp), (by show 1 <= (i + 1); first | trivial | omega | exact at0 | exact at1 | exact at2 | (simp; omega) | simp), (by show ((i + 1) <= n \/ (i + 1) = 1); first | trivial | omega | exact at0 | exact at1 | exact at2 | (simp; omega) | simp)⟩
  ·have g1 := of_decide_eq_false h1
   refine aw_exit <| ath_e ?_
   refine ath_e <| abl_hit ?_
   exact ⟨_, Cv.refl _, .inr rfl, .tup [], by kernel_rfl, tve_eq rfl, .row 8 data.length (rowF TVia.c data) 154, by kernel_rfl, bke_rowlen (c := TVia.c) (xs := data) (by rw [<- hF0]; first | (simp only [FInsV_l0, h1, cond_true, cond_false] <;> rfl)) au11⟩
theorem FInsV_eq (l : List TVia) (n : Int) (hn : n = (l.length : Int)) : FInsV l n = isortB (fun x y => decide (FcmpV x y < 0)) l := by
 unfold FInsV
 cases l with
 | nil => subst hn; rfl
 | cons a l =>
  have h := ins_l0 (fun x y => decide (FcmpV x y < 0)) (a :: l) (FInsV_l0 (a :: l) n) id (fun m d i hi => by
   rw [FInsV_l0, decide_eq_false (by omega), cond_false]; rfl) (fun m i out rest x hi ho => by
   rw [FInsV_l0, decide_eq_true (by omega), cond_true]
   have h1 := ins_l1 (fun x y => decide (FcmpV x y < 0)) (FInsV_l1 (a :: l) n (out ++ x :: rest) i (FInsV_l0 (a :: l) n m)) (fun d => FInsV_l0 (a :: l) n m d ((i : Int) + 1)) (fun m d j => by
    rw [FInsV_l1, Int.toNat_natCast, show ((j : Int) - 1).toNat = j - 1 by omega]) out rest x i ((i : Int).toNat + 1) (by omega) (by omega)
   subst ho
   rw [List.take_length, List.drop_length, List.nil_append] at h1
   rw [h1]
   unfold insR
   rw [List.append_assoc]; rfl) ((a :: l).length - 1) ((n - 1).toNat + 1) 1 rfl (by simp) (by omega)
  exact h
theorem FInsV_len (l : List TVia) (n : Int) (hn : n = (l.length : Int)) (hl : l.length < 20) : (FInsV l n).length = l.length := by rw [FInsV_eq l n hn, isortB_len]
def Z0r (l : (List TVia)) (n : Int) : FuncId × List Av × Ef := (183, ([.one (.own 1000 8 l.length), .one (.i 0), .one (.i n), .one (.clo 156 1 (listF [.eptr 1 1 (fun _ j_ => ([.clo 112 0 (fun _ => default)] : List Cl).getD j_ default) 0 0]))] : List Av).map (renR 1000 1000), wrI 1000 (.row 8 l.length (rowF TVia.c l) 154) (.tup []) (.row 8 l.length (rowF TVia.c (FInsV l n)) 154))
def FStaV (l : (List TVia)) (n : Int) : (List TVia) := FInsV l n
theorem pStaV (l : (List TVia)) (n : Int) (hn : n = (l.length : Int)) (hl : l.length < 20) : WrR Tryz.prog 169 1000 [.one (.own 1000 8 l.length), .one (.i n), .one (.clo 156 1 (listF [.eptr 1 1 (fun _ j_ => ([.clo 112 0 (fun _ => default)] : List Cl).getD j_ default) 0 0]))] 8 l.length (rowF TVia.c l) 154 (.tup []) (rowF TVia.c (FStaV l n)) := by
 refine wrR_of_awF Tryz.func169 rfl kr kr kr fun W0 M0 X hX => ?_
 refine aw_seq ?_
 refine aw_region eqok [] [] [] [0, 1, 2, 6] [1000] [] ⟨[(0, .av (.one (.own 1000 8 l.length))), (1, tI n), (2, .av (.one (.clo 156 1 (listF [.eptr 1 1 (fun _ j_ => ([.clo 112 0 (fun _ => default)] : List Cl).getD j_ default) 0 0])))), (6, tI 20)], [(1000, .row 8 l.length (rowF TVia.c l) 154)]⟩ .nil kr .nil <| ath_n <| aw_seq ?_
 refine aw_region eqok [] [] [] [0, 1, 2, 6, 7, 8] [1000] [] ⟨[(0, .av (.one (.own 1000 8 l.length))), (1, tI n), (2, .av (.one (.clo 156 1 (listF [.eptr 1 1 (fun _ j_ => ([.clo 112 0 (fun _ => default)] : List Cl).getD j_ default) 0 0])))), (6, tI 20), (7, tI 0), (8, tI 20)], [(1000, .row 8 l.length (rowF TVia.c l) 154)]⟩ .nil kr .nil <| ath_n ?_
 refine aw_seq <| aw_block ?_
 refine aw_unroll 1 ?_
 refine aw_round <| aw_seq <| aw_seq ?_
 refine aw_region eqok [] [] [] [0, 1, 2, 6, 7, 8, 13] [1000] [] ⟨[(0, .av (.one (.own 1000 8 l.length))), (1, tI n), (2, .av (.one (.clo 156 1 (listF [.eptr 1 1 (fun _ j_ => ([.clo 112 0 (fun _ => default)] : List Cl).getD j_ default) 0 0])))), (6, tI 20), (7, tI 0), (8, tI 20), (13, tB (decide ((20 : Int) <= n)))], [(1000, .row 8 l.length (rowF TVia.c l) 154)]⟩ .nil kr .nil <| ath_n ?_
 have h1 : (decide ((20 : Int) <= n)) = false := decide_eq_false (by omega)
 have g1 := of_decide_eq_false h1
 refine aw_cond (decide ((20 : Int) <= n)) kr (fun h => absurd (h1.symm.trans h) (by decide)) (fun _ => ?_)
 refine aw_exit <| ath_e ?_
 refine ath_e <| abl_hit ?_
 refine ath_n <| aw_seq ?_
 refine aw_region eqok [] [] [(27, (Z0r l n))] [0, 1, 2, 6] [1000] [Same (Z0r l n).2.1, SameB (.row 8 l.length (rowF TVia.c l) 154)] ⟨[(0, .av (.one (.own 1000 8 l.length))), (1, tI n), (2, .av (.one (.clo 156 1 (listF [.eptr 1 1 (fun _ j_ => ([.clo 112 0 (fun _ => default)] : List Cl).getD j_ default) 0 0])))), (6, tI 20)], [(1000, .row 8 l.length (rowF TVia.c (FInsV l n)) 154)]⟩ (.cons (callOk_wrR (fun _ _ => kr) kr (pInsV l n au2 au2)) .nil) kr (.cons rfl (.cons rfl .nil)) <| ath_n ?_
 refine aw_cv (Cv.trans (cv_ce (⟨[(0, .av (.one (.own 1000 8 ((FInsV l n).length)))), (1, tI n), (2, .av (.one (.clo 156 1 (listF [.eptr 1 1 (fun _ j_ => ([.clo 112 0 (fun _ => default)] : List Cl).getD j_ default) 0 0])))), (6, tI 20)], [(1000, .row 8 ((FInsV l n).length) (rowF TVia.c (FInsV l n)) 154)]⟩) (.cons ⟨rfl, .av (.one (.own _ _ (FInsV_len l n au2 au2).symm))⟩ lr) (.cons ⟨rfl, bke_told 154 (⟨(FInsV_len l n au2 au2).symm, fun _ _ _ _ => .refl _⟩)⟩ .nil)) (Cv.refl _)) <| aw_block ?_
 refine aw_unroll 1 ?_
 refine aw_round <| aw_seq <| aw_seq ?_
 refine aw_region eqok [] [] [] [0, 1, 2, 6, 30] [1000] [] ⟨[(0, .av (.one (.own 1000 8 ((FInsV l n).length)))), (1, tI n), (2, .av (.one (.clo 156 1 (listF [.eptr 1 1 (fun _ j_ => ([.clo 112 0 (fun _ => default)] : List Cl).getD j_ default) 0 0])))), (6, tI 20), (30, tB (decide ((20 : Int) < n)))], [(1000, .row 8 ((FInsV l n).length) (rowF TVia.c (FInsV l n)) 154)]⟩ .nil kr .nil <| ath_n ?_
 have h2 : (decide ((20 : Int) < n)) = false := decide_eq_false (by omega)
 have g2 := of_decide_eq_false h2
 refine aw_cond (decide ((20 : Int) < n)) kr (fun h => absurd (h2.symm.trans h) (by decide)) (fun _ => ?_)
 refine aw_exit <| ath_e ?_
 refine ath_e <| abl_hit ?_
 exact ⟨_, Cv.refl _, .inr rfl, .tup [], by kernel_rfl, tve_eq rfl, .row 8 ((FInsV l n).length) (rowF TVia.c (FInsV l n)) 154, by kernel_rfl, bke_rowlen (c := TVia.c) (xs := FInsV l n) (by first | (simp only [FStaV, h1, h2, cond_true, cond_false] <;> rfl)) (FInsV_len l n hn hl)⟩
theorem FStaV_len (l : List TVia) (n : Int) (hn : n = (l.length : Int)) (hl : l.length < 20) : (FStaV l n).length = l.length := FInsV_len l n hn hl
def Z0s (l : (List TVia)) : FuncId × List Av × Ef := (169, ([.one (.own 1000 8 l.length), .one (.i (((l.length : Nat) : Int))), .one (.clo 156 1 (listF [.eptr 1 1 (fun _ j_ => ([.clo 112 0 (fun _ => default)] : List Cl).getD j_ default) 0 0]))] : List Av).map (renR 1000 1000), wrI 1000 (.row 8 l.length (rowF TVia.c l) 154) (.tup []) (.row 8 l.length (rowF TVia.c (FStaV l (((l.length : Nat) : Int)))) 154))
def FSrtV (l : (List TVia)) : (List TVia) := FStaV l (((l.length : Nat) : Int))
theorem pSrtV (l : (List TVia)) (hl : l.length < 20) : WrR Tryz.prog 155 1000 [.one (.own 1000 8 l.length), .one (.clo 156 1 (listF [.eptr 1 1 (fun _ j_ => ([.clo 112 0 (fun _ => default)] : List Cl).getD j_ default) 0 0]))] 8 l.length (rowF TVia.c l) 154 (.tup []) (rowF TVia.c (FSrtV l)) := by
 refine wrR_of_awF Tryz.func155 rfl kr kr kr fun W0 M0 X hX => ?_
 refine aw_region eqok [] [] [(8, (Z0s l))] [] [1000] [Same (Z0s l).2.1, SameB (.row 8 l.length (rowF TVia.c l) 154)] ⟨[], [(1000, .row 8 l.length (rowF TVia.c (FStaV l (((l.length : Nat) : Int)))) 154)]⟩ (.cons (callOk_wrR (fun _ _ => kr) kr (pStaV l (((l.length : Nat) : Int)) au2 au2)) .nil) kr (.cons rfl (.cons rfl .nil)) ?_
 exact ⟨_, Cv.trans (cv_ce (⟨[], [(1000, .row 8 ((FStaV l (((l.length : Nat) : Int))).length) (rowF TVia.c (FStaV l (((l.length : Nat) : Int)))) 154)]⟩) .nil (.cons ⟨rfl, bke_told 154 (⟨(FStaV_len l (((l.length : Nat) : Int)) au2 au2).symm, fun _ _ _ _ => .refl _⟩)⟩ .nil)) (Cv.refl _), .inr rfl, .tup [], by kernel_rfl, tve_eq rfl, .row 8 ((FStaV l (((l.length : Nat) : Int))).length) (rowF TVia.c (FStaV l (((l.length : Nat) : Int)))) 154, by kernel_rfl, bke_rowlen (c := TVia.c) (xs := FStaV l (((l.length : Nat) : Int))) (by rfl) (FStaV_len l _ rfl hl)⟩
theorem FSrtV_len (l : List TVia) (hl : l.length < 20) : (FSrtV l).length = l.length := FStaV_len l _ rfl hl
theorem FSrtV_eq (l : List TVia) : FSrtV l = isortB (fun x y => decide (FcmpV x y < 0)) l := FInsV_eq l _ rfl
def Z0t (out : List TVia) : FuncId × List Av × Ef := (155, ([.one (.own 1000 8 out.length), .one (.clo 156 1 (listF [.eptr 1 1 (fun _ j_ => ([.clo 112 0 (fun _ => default)] : List Cl).getD j_ default) 0 0]))] : List Av).map (renR 1000 100000), wrI 100000 (.row 8 out.length (rowF TVia.c out) 154) (.tup []) (.row 8 out.length (rowF TVia.c (FSrtV out)) 154))
def FsortedV_l0 (l : (List TVia)) : Nat -> List TVia -> Int -> (List TVia)
 | 0, _, _ => default
 | n0 + 1, out, v12 => bif decide ((v12 : Int) < ((l.length : Int))) then ((FsortedV_l0 l n0) (out ++ [FasV (l.getD v12.toNat default)]) (v12 + 1)) else (FSrtV out)
def FsortedV (l : (List TVia)) : (List TVia) := FsortedV_l0 l (((((l.length : Int))) - 0).toNat + 1) (([] : List TVia)) 0
theorem qsortedV (l : (List TVia)) (hl : l.length < 20) : Fr Tryz.prog 110 [.one (lst 8 TVia.c l), .one (.clo 111 0 (fun _ => default)), .one (.clo 112 0 (fun _ => default))] (.row 8 (FsortedV l).length (rowF TVia.c (FsortedV l)) 154) (fun d => .av (.one (.own d 8 (FsortedV l).length))) := by
 refine fr_of_awF Tryz.func110 rfl kr (ownV_one _ _) fun W0 M0 => ?_
 refine aw_seq ?_
 refine aw_region eqok [] [] [] [0, 1, 5] [5] [] ⟨[(0, .av (.one (lst 8 TVia.c l))), (1, .av (.one (.clo 111 0 (fun _ => default)))), (5, tP 5 0)], [(5, .cells [.clo 112 0 (fun _ => default)] 224)]⟩ .nil kr .nil <| ath_n <| aw_seq ?_
 refine aw_region eqok [] [] [] [0, 1, 5, 7] [5] [] ⟨[(0, .av (.one (lst 8 TVia.c l))), (1, .av (.one (.clo 111 0 (fun _ => default)))), (5, tP 5 0), (7, .av (.one (vN)))], [(5, .cells [.clo 112 0 (fun _ => default)] 224)]⟩ .nil kr .nil <| ath_n ?_
 refine aw_seq <| aw_seq ?_
 refine aw_region eqok [] [] [] [1, 5, 7, 10, 11, 12] [5] [] ⟨[(1, .av (.one (.clo 111 0 (fun _ => default)))), (5, tP 5 0), (7, .av (.one (vN))), (10, .av (.one (lst 8 TVia.c l))), (11, tI ((l.length : Int))), (12, tI 0)], [(5, .cells [.clo 112 0 (fun _ => default)] 224)]⟩ .nil kr .nil <| ath_n <| aw_block ?_
 refine aw_cv (Cv.trans (cv_ghost (⟨[(1, .av (.one (.clo 111 0 (fun _ => default)))), (5, tP 5 0), (7, .av (.one (.own 100000 8 0))), (10, .av (.one (lst 8 TVia.c l))), (11, tI ((l.length : Int))), (12, tI 0)], [(100000, .row 8 0 (fun _ _ => default) 154), (5, .cells [.clo 112 0 (fun _ => default)] 224)]⟩) 100000 8 (fun _ _ => default) 154 [(7, [0])] [] (K := []) (fun k x h => by cases h) rfl kr kr) (Cv.trans (cv_ce (⟨[(1, .av (.one (.clo 111 0 (fun _ => default)))), (5, tP 5 0), (7, .av (.one (.own 100000 8 ((([] : List TVia)).length)))), (10, .av (.one (lst 8 TVia.c l))), (11, tI ((l.length : Int))), (12, tI 0)], [(100000, .row 8 ((([] : List TVia)).length) (rowF TVia.c (([] : List TVia))) 154), (5, .cells [.clo 112 0 (fun _ => default)] 224)]⟩) (.cons ⟨rfl, .refl _⟩ (.cons ⟨rfl, .refl _⟩ (.cons ⟨rfl, .av (.one (.own _ _ au3))⟩ lr))) (.cons ⟨rfl, bke_told 154 (told_nil 8 (fun _ _ => default) TVia.c)⟩ lr)) (Cv.trans (cv_keep [1, 5, 7, 10, 11, 12] [5, 100000] (⟨[(1, .av (.one (.clo 111 0 (fun _ => default)))), (5, tP 5 0), (7, .av (.one (.own 100000 8 ((([] : List TVia)).length)))), (10, .av (.one (lst 8 TVia.c l))), (11, tI ((l.length : Int))), (12, tI 0)], [(5, .cells [.clo 112 0 (fun _ => default)] 224), (100000, .row 8 ((([] : List TVia)).length) (rowF TVia.c (([] : List TVia))) 154)]⟩) kr) (Cv.refl _)))) ?_
 refine aw_loopC (ι := Nat × List TVia × Int) (fun x => ⟨[(1, .av (.one (.clo 111 0 (fun _ => default)))), (5, tP 5 0), (7, .av (.one (.own 100000 8 x.2.1.length))), (10, .av (.one (lst 8 TVia.c l))), (11, tI ((l.length : Int))), (12, tI x.2.2)], [(5, .cells [.clo 112 0 (fun _ => default)] 224), (100000, .row 8 x.2.1.length (rowF TVia.c x.2.1) 154)]⟩) (fun x => ((((l.length : Int))) - x.2.2).toNat < x.1 /\ (0 <= x.2.2 /\ (x.2.2 <= ((l.length : Int)) \/ x.2.2 = 0) /\ (x.2.1.length : Int) <= 0 + 1 * (x.2.2 - 0)) /\ FsortedV_l0 l x.1 x.2.1 x.2.2 = FsortedV l) (fun x => x.1) ?_ (((((l.length : Int))) - 0).toNat + 1, ([] : List TVia), 0) ⟨Nat.lt_succ_self _, ⟨(by show 0 <= 0; first | trivial | omega | exact at0 | exact at1 | exact at2 | (simp; omega) | simp), (by show (0 <= ((l.length : Int)) \/ 0 = 0); first | trivial | omega | exact at0 | exact at1 | exact at2 | (simp; omega) | simp), (by show ((([] : List TVia)).length : Int) <= 0 + 1 * (0 - 0); first | trivial | omega | exact at0 | exact at1 | exact at2 | (simp; omega) | simp)⟩, (by simp only [FsortedV, cond_true, cond_false])⟩
 rintro ⟨n0, out, v12⟩ ⟨hn, hinv, hF⟩
 have hm0 : ((((l.length : Int))) - v12).toNat < n0 := hn; have hinv0 : 0 <= v12 /\ (v12 <= ((l.length : Int)) \/ v12 = 0) /\ (out.length : Int) <= 0 + 1 * (v12 - 0) := hinv; have hF0 : FsortedV_l0 l n0 out v12 = FsortedV l := hF; clear hn hinv hF
 cases n0 with
 | zero => exact absurd hm0 (Nat.not_lt_zero _)
 | succ n0 =>
  refine aw_seq ?_
  refine aw_region eqok [] [] [] [1, 5, 7, 10, 11, 12, 13] [5, 100000] [] ⟨[(1, .av (.one (.clo 111 0 (fun _ => default)))), (5, tP 5 0), (7, .av (.one (.own 100000 8 out.length))), (10, .av (.one (lst 8 TVia.c l))), (11, tI ((l.length : Int))), (12, tI v12), (13, tB (decide ((v12 : Int) < ((l.length : Int)))))], [(5, .cells [.clo 112 0 (fun _ => default)] 224), (100000, .row 8 out.length (rowF TVia.c out) 154)]⟩ .nil kr .nil <| ath_n <| aw_seq ?_
  refine aw_cond (decide ((v12 : Int) < ((l.length : Int)))) kr (fun h1 => ?_) (fun h1 => ?_)
  ·have g1 := of_decide_eq_true h1
   refine aw_skip <| ath_n ?_
   refine aw_seq <| aw_block <| aw_seq ?_
   refine aw_region eqok [] [] [] [1, 5, 7, 9, 10, 11, 12] [5, 9, 100000] [0 <= (v12 : Int) /\ (v12 : Int) < ((l.length : Nat) : Int)] ⟨[(1, .av (.one (.clo 111 0 (fun _ => default)))), (5, tP 5 0), (7, .av (.one (.own 100000 8 out.length))), (9, tP 9 0), (10, .av (.one (lst 8 TVia.c l))), (11, tI ((l.length : Int))), (12, tI v12)], [(5, .cells [.clo 112 0 (fun _ => default)] 224), (9, .cells (TVia.c (l.getD v12.toNat default)) 133), (100000, .row 8 out.length (rowF TVia.c out) 154)]⟩ .nil kr (.cons au0 .nil) <| ath_n ?_
   refine aw_region eqok [] [] [(19, casV (l.getD v12.toNat default))] [1, 5, 7, 10, 11, 12] [5, 21] [Same (casV (l.getD v12.toNat default)).2.1, out.length = out.length, out.length + 1 <= maxLen, (out.length + 1) * 72 <= 140737488355328] ⟨[(1, .av (.one (.clo 111 0 (fun _ => default)))), (5, tP 5 0), (7, .av (.one (.own 21 8 (out.length + 1)))), (10, .av (.one (lst 8 TVia.c l))), (11, tI ((l.length : Int))), (12, tI v12)], [(5, .cells [.clo 112 0 (fun _ => default)] 224), (21, .row 8 (out.length + 1) (fun i_ j_ => if i_ < out.length then (rowF TVia.c out) i_ j_ else (colsC 8 1 [.i ((FasV (l.getD v12.toNat default)).Id), .s ((FasV (l.getD v12.toNat default)).Net), .i (((FasV (l.getD v12.toNat default)).At).X), .i (((FasV (l.getD v12.toNat default)).At).Y), .i ((FasV (l.getD v12.toNat default)).R), .i ((FasV (l.getD v12.toNat default)).Drill), .i ((FasV (l.getD v12.toNat default)).From), .i ((FasV (l.getD v12.toNat default)).To)]) (i_ - out.length) j_) 154)]⟩ (.cons (okasV (l.getD v12.toNat default)) .nil) kr (.cons rfl (.cons rfl (.cons au4 (.cons au4 .nil)))) <| abl_n <| ath_n ?_
   refine aw_cv (Cv.trans (cv_ce (⟨[(1, .av (.one (.clo 111 0 (fun _ => default)))), (5, tP 5 0), (7, .av (.one (.own 21 8 ((out ++ [FasV (l.getD v12.toNat default)]).length)))), (10, .av (.one (lst 8 TVia.c l))), (11, tI ((l.length : Int))), (12, tI v12)], [(5, .cells [.clo 112 0 (fun _ => default)] 224), (21, .row 8 ((out ++ [FasV (l.getD v12.toNat default)]).length) (rowF TVia.c (out ++ [FasV (l.getD v12.toNat default)])) 154)]⟩) (.cons ⟨rfl, .refl _⟩ (.cons ⟨rfl, .refl _⟩ (.cons ⟨rfl, .av (.one (.own _ _ au3))⟩ lr))) (.cons ⟨rfl, .refl _⟩ (.cons ⟨rfl, bke_told 154 (told_app (told_rfl 8 TVia.c out) (told_lit (c := TVia.c) (xs := ([FasV (l.getD v12.toNat default)] : List TVia)) rfl kr))⟩ .nil))) (Cv.refl _)) ?_
   refine aw_region eqok [] [] [] [1, 5, 7, 10, 11, 12] [5, 21] [] ⟨[(1, .av (.one (.clo 111 0 (fun _ => default)))), (5, tP 5 0), (7, .av (.one (.own 21 8 ((out ++ [FasV (l.getD v12.toNat default)]).length)))), (10, .av (.one (lst 8 TVia.c l))), (11, tI ((l.length : Int))), (12, tI (W64 (v12 + 1)))], [(5, .cells [.clo 112 0 (fun _ => default)] 224), (21, .row 8 ((out ++ [FasV (l.getD v12.toNat default)]).length) (rowF TVia.c (out ++ [FasV (l.getD v12.toNat default)])) 154)]⟩ .nil kr .nil ?_
   (try rw [(show W64 (v12 + 1) = v12 + 1 from W64_id (by omega) au5)])
   refine ath_n ?_
   refine ⟨(n0, out ++ [FasV (l.getD v12.toNat default)], v12 + 1), ⟨?_, ?_, (by rw [<- hF0]; simp only [FsortedV_l0, h1, cond_true, cond_false])⟩, Nat.lt_succ_self _, Cv.trans (cv_ren (⟨[(1, .av (.one (.clo 111 0 (fun _ => default)))), (5, tP 5 0), (7, .av (.one (.own 100000 8 ((out ++ [FasV (l.getD v12.toNat default)]).length)))), (10, .av (.one (lst 8 TVia.c l))), (11, tI ((l.length : Int))), (12, tI (v12 + 1))], [(5, .cells [.clo 112 0 (fun _ => default)] 224), (100000, .row 8 ((out ++ [FasV (l.getD v12.toNat default)]).length) (rowF TVia.c (out ++ [FasV (l.getD v12.toNat default)])) 154)]⟩) 21 100000 (K := []) (fun k x h => by cases h) rfl rfl kr kr) (cv_eq kr)⟩
   ·show ((((l.length : Int))) - (v12 + 1)).toNat < n0; omega
   ·exact ⟨(by show 0 <= (v12 + 1); first | trivial | omega | exact at0 | exact at1 | exact at2 | (simp; omega) | simp), (by show ((v12 + 1) <= ((l.length : Int)) \/ (v12 + 1) = 0); first | trivial | omega | exact at0 | exact at1 | exact at2 | (simp; omega) | simp), (by show ((out ++ [FasV (l.getD v12.toNat default)]).length : Int) <= 0 + 1 * ((v12 + 1) - 0); first | trivial | omega | exact at0 | exact at1 | exact at2 | (simp; omega) | simp)⟩
  ·have g1 := of_decide_eq_false h1
   refine aw_exit <| ath_e ?_
   refine ath_e <| abl_hit ?_
   refine ath_n <| aw_seq ?_
   refine aw_cv (Cv.trans (cv_fix (⟨[(1, .av (.one (.clo 111 0 (fun _ => default)))), (5, .av (.one (.eptr 1 1 (fun _ j_ => ([.clo 112 0 (fun _ => default)] : List Cl).getD j_ default) 0 0))), (7, .av (.one (.own 100000 8 out.length))), (10, .av (.one (lst 8 TVia.c l))), (11, tI ((l.length : Int))), (12, tI v12), (13, tB (decide ((v12 : Int) < ((l.length : Int)))))], [(100000, .row 8 out.length (rowF TVia.c out) 154)]⟩) 5 [.clo 112 0 (fun _ => default)] 224 (K := []) (fun k x h => by cases h) kr kr kr kr) (Cv.refl _)) ?_
   refine aw_region eqok [] [] [(25, (Z0t out))] [7] [100000] [Same (Z0t out).2.1, SameB (.row 8 out.length (rowF TVia.c out) 154)] ⟨[(7, .av (.one (.own 100000 8 out.length)))], [(100000, .row 8 out.length (rowF TVia.c (FSrtV out)) 154)]⟩ (.cons (callOk_wrR (fun _ _ => kr) kr (pSrtV out au2)) .nil) kr (.cons rfl (.cons rfl .nil)) <| ath_n ?_
   refine aw_cv (Cv.trans (cv_ce (⟨[(7, .av (.one (.own 100000 8 ((FSrtV out).length))))], [(100000, .row 8 ((FSrtV out).length) (rowF TVia.c (FSrtV out)) 154)]⟩) (.cons ⟨rfl, .av (.one (.own _ _ (FSrtV_len out au2).symm))⟩ .nil) (.cons ⟨rfl, bke_told 154 (⟨(FSrtV_len out au2).symm, fun _ _ _ _ => .refl _⟩)⟩ .nil)) (Cv.refl _)) <| aw_seq ?_
   refine aw_region eqok [] [] [] [6] [100000] [] ⟨[(6, .av (.one (.own 100000 8 ((FSrtV out).length))))], [(100000, .row 8 ((FSrtV out).length) (rowF TVia.c (FSrtV out)) 154)]⟩ .nil kr .nil <| ath_n <| aw_ret ?_
   exact ⟨_, Cv.refl _, .inl rfl, .av (.one (.own 100000 8 ((FSrtV out).length))), by kernel_rfl, frE (c := TVia.c) (xs := FSrtV out) (by rw [<- hF0]; first | (simp only [FsortedV_l0, h1, cond_true, cond_false] <;> rfl)) kr⟩
def Z0u (b : TBoard) : FuncId × List Av × Ef := (110, [.one (lst 8 TVia.c b.Vias), .one (.clo 111 0 (fun _ => default)), .one (.clo 112 0 (fun _ => default))], .new [] (.row 8 (FsortedV b.Vias).length (rowF TVia.c (FsortedV b.Vias)) 154) (fun d => .av (.one (.own d 8 (FsortedV b.Vias).length))))
def Fvias (b : TBoard) : (List TVia) := FsortedV b.Vias
theorem qvias (b : TBoard) (hl : b.Vias.length < 20) : Fr Tryz.prog 54 [.agg (TBoard.c b)] (.row 8 (Fvias b).length (rowF TVia.c (Fvias b)) 154) (fun d => .av (.one (.own d 8 (Fvias b).length))) := by
 refine fr_of_awF Tryz.func54 rfl kr (ownV_one _ _) fun W0 M0 => ?_
 refine aw_seq ?_
 refine aw_region eqok [] [] [] [1] [1] [] ⟨[(1, tP 1 0)], [(1, .cells (TBoard.c b) 41)]⟩ .nil kr .nil <| ath_n <| aw_seq ?_
 refine aw_region eqok [] [] [(5, (Z0u b))] [2] [5] [Same (Z0u b).2.1] ⟨[(2, .av (.one (.own 5 8 ((FsortedV b.Vias).length))))], [(5, .row 8 ((FsortedV b.Vias).length) (rowF TVia.c (FsortedV b.Vias)) 154)]⟩ (.cons (callOk_fr (fun _ _ => kr) (qsortedV b.Vias au2)) .nil) kr (.cons rfl .nil) <| ath_n <| aw_ret ?_
 exact ⟨_, Cv.refl _, .inl rfl, .av (.one (.own 5 8 ((FsortedV b.Vias).length))), by kernel_rfl, frE (c := TVia.c) (xs := FsortedV b.Vias) (by rfl) kr⟩
def cvias (b : TBoard) : FuncId × List Av × Ef := (54, [.agg (TBoard.c b)], .new [] (.row 8 (Fvias b).length (rowF TVia.c (Fvias b)) 154) (fun d => .av (.one (.own d 8 (Fvias b).length))))
theorem okvias (b : TBoard) (hl : b.Vias.length < 20) : CallOk Tryz.prog (cvias b).1 (cvias b).2.1 (cvias b).2.2 := callOk_fr (fun _ _ => kr) (qvias b hl)
theorem FsortedV_eq (l : List TVia) : FsortedV l = isortB (fun x y => decide (FcmpV x y < 0)) l := by
 unfold FsortedV
 have h := cp_l l (FsortedV_l0 l) (fun acc _ => FSrtV acc) (fun m acc v => by
  rw [FsortedV_l0, Int.toNat_natCast]
  rfl) l.length 0 ((((l.length : Int)) - 0).toNat + 1) [] rfl (Nat.zero_le _) (by omega)
 rw [List.drop_zero, List.nil_append] at h
 exact h.trans (FSrtV_eq l)
theorem Fvias_eq (b : TBoard) : Fvias b = isortB (fun x y => decide (FcmpV x y < 0)) b.Vias := FsortedV_eq _
theorem Fvias_len (b : TBoard) : (Fvias b).length = b.Vias.length := by rw [Fvias_eq]; exact isortB_len _ _
def FasQ (t : TPlaced) : TPlaced := t
def casQ (t : TPlaced) : FuncId × List Av × Ef := (116, [.agg (TPlaced.c t)], .val [] (.av (.agg (TPlaced.c (FasQ t)))))
theorem pasQ (t : TPlaced) : Pure Tryz.prog 116 (casQ t).2.1 (.av (.agg (TPlaced.c (FasQ t)))) := by
 refine pure_of_awF Tryz.func116 rfl kr kr fun W0 M0 => ?_
 refine aw_seq ?_
 refine aw_region eqok [] [] [] [1, 2] [1, 2] [] ⟨[(1, tP 1 0), (2, tP 2 0)], [(1, .cells (TPlaced.c t) 78), (2, .cells [.i 0, .s (⟨#[]⟩), .s (⟨#[]⟩), .i 0, .i 0, .i 0, .b false] 160)]⟩ .nil kr .nil <| ath_n <| aw_seq ?_
 refine aw_region eqok [] [] [] [2] [2] [] ⟨[(2, tP 2 0)], [(2, .cells (TPlaced.c t) 160)]⟩ .nil kr .nil <| ath_n <| aw_ret ?_
 exact ⟨_, Cv.refl _, .inl rfl, .av (.agg (TPlaced.c t)), by kernel_rfl, tve_eq (by rfl)⟩
theorem okasQ (t : TPlaced) : CallOk Tryz.prog (casQ t).1 (casQ t).2.1 (casQ t).2.2 := callOk_pure (fun _ _ => kr) fun _ => pasQ t
def FidQ (t : TPlaced) : Int := t.Id
def cidQ (t : TPlaced) : FuncId × List Av × Ef := (117, [.agg (TPlaced.c t)], .val [] (.av (.one (.i (FidQ t)))))
theorem pidQ (t : TPlaced) : Pure Tryz.prog 117 (cidQ t).2.1 (.av (.one (.i (FidQ t)))) := by
 refine pure_of_awF Tryz.func117 rfl kr kr fun W0 M0 => ?_
 refine aw_seq ?_
 refine aw_region eqok [] [] [] [1] [1] [] ⟨[(1, tP 1 0)], [(1, .cells (TPlaced.c t) 160)]⟩ .nil kr .nil <| ath_n <| aw_seq ?_
 refine aw_region eqok [] [] [] [2] [] [] ⟨[(2, tI t.Id)], []⟩ .nil kr .nil <| ath_n <| aw_ret ?_
 exact ⟨_, Cv.refl _, .inl rfl, .av (.one (.i t.Id)), by kernel_rfl, tve_eq (by rfl)⟩
theorem okidQ (t : TPlaced) : CallOk Tryz.prog (cidQ t).1 (cidQ t).2.1 (cidQ t).2.2 := callOk_pure (fun _ _ => kr) fun _ => pidQ t
def FcmpQ (a : TPlaced) (b_ : TPlaced) : Int := FCompare (FidQ a) (FidQ b_)
theorem pcmpQ  (a : TPlaced) (b_ : TPlaced) : Pure Tryz.prog 160 [.agg (TPlaced.c a), .agg (TPlaced.c b_), .one (.eptr 1 1 (fun _ j_ => ([.clo 117 0 (fun _ => default)] : List Cl).getD j_ default) 0 0)] (.av (.one (.i (FcmpQ a b_)))) := by
 refine pure_of_awF Tryz.func160 rfl kr kr fun W0 M0 => ?_
 refine aw_seq ?_
 refine aw_region eqok [] [] [] [2, 3, 4] [3, 4] [] ⟨[(2, .av (.one (.eptr 1 1 (fun _ j_ => ([.clo 117 0 (fun _ => default)] : List Cl).getD j_ default) 0 0))), (3, tP 3 0), (4, tP 4 0)], [(3, .cells (TPlaced.c a) 160), (4, .cells (TPlaced.c b_) 160)]⟩ .nil kr .nil <| ath_n <| aw_seq ?_
 refine aw_draw mixed eqok [] [] [(8, cidQ a), (11, cidQ b_), (12, cCompare (FidQ a) (FidQ b_))] [5] [] [Same (cidQ a).2.1, Same (cidQ b_).2.1, Same (cCompare (FidQ a) (FidQ b_)).2.1] ⟨[(5, tI (FCompare (FidQ a) (FidQ b_)))], []⟩ (.cons (okidQ a) (.cons (okidQ b_) (.cons (okCompare (FidQ a) (FidQ b_)) .nil))) kr kr (.cons rfl (.cons rfl (.cons rfl .nil))) <| ath_n <| aw_ret ?_
 exact ⟨_, Cv.refl _, .inl rfl, .av (.one (.i (FCompare (FidQ a) (FidQ b_)))), by kernel_rfl, tve_eq (by rfl)⟩
def Z0v (data' : List TPlaced) (j : Int) : FuncId × List Av × Ef := (160, [.agg (TPlaced.c (data'.getD j.toNat default)), .agg (TPlaced.c (data'.getD ((W64 (j - 1)).toNat) default)), .one (.eptr 1 1 (fun _ j_ => ([.clo 117 0 (fun _ => default)] : List Cl).getD j_ default) 0 0)], .val [] (tI (FcmpQ (data'.getD j.toNat default) (data'.getD ((W64 (j - 1)).toNat) default))))
def FInsQ_l1 (l : (List TPlaced)) (n : Int) (data : List TPlaced) (i : Int) (K0 : List TPlaced -> Int -> (List TPlaced)) : Nat -> List TPlaced -> Int -> (List TPlaced)
 | 0, _, _ => default
 | n1 + 1, data', j => bif bif decide ((0 : Int) < j) then decide (((FcmpQ (data'.getD j.toNat default) (data'.getD ((j - 1).toNat) default)) : Int) < 0) else false then ((FInsQ_l1 l n data i K0 n1) ((data'.set j.toNat (data'.getD ((j - 1).toNat) default)).set ((j - 1).toNat) (data'.getD j.toNat default)) (j - 1)) else (K0 data' (i + 1))
def FInsQ_l0 (l : (List TPlaced)) (n : Int) : Nat -> List TPlaced -> Int -> (List TPlaced)
 | 0, _, _ => default
 | n0 + 1, data, i => bif decide ((i : Int) < n) then (FInsQ_l1 l n data i (FInsQ_l0 l n n0) (i.toNat + 1) data i) else (data)
def FInsQ (l : (List TPlaced)) (n : Int) : (List TPlaced) := FInsQ_l0 l n ((n - 1).toNat + 1) l 1
theorem pInsQ (l : (List TPlaced)) (n : Int) (hn : n = (l.length : Int)) (hl : l.length < 20) : WrR Tryz.prog 185 1000 [.one (.own 1000 7 l.length), .one (.i 0), .one (.i n), .one (.clo 160 1 (listF [.eptr 1 1 (fun _ j_ => ([.clo 117 0 (fun _ => default)] : List Cl).getD j_ default) 0 0]))] 7 l.length (rowF TPlaced.c l) 160 (.tup []) (rowF TPlaced.c (FInsQ l n)) := by
 refine wrR_of_awF Tryz.func185 rfl kr kr kr fun W0 M0 X hX => ?_
 refine aw_seq ?_
 refine aw_region eqok [] [] [] [0, 1, 2, 3, 8] [1000] [] ⟨[(0, .av (.one (.own 1000 7 l.length))), (1, tI 0), (2, tI n), (3, .av (.one (.clo 160 1 (listF [.eptr 1 1 (fun _ j_ => ([.clo 117 0 (fun _ => default)] : List Cl).getD j_ default) 0 0])))), (8, tI 1)], [(1000, .row 7 l.length (rowF TPlaced.c l) 160)]⟩ .nil kr .nil <| ath_n <| aw_block ?_
 refine aw_loopC (ι := Nat × List TPlaced × Int) (fun x => ⟨[(0, .av (.one (.own 1000 7 x.2.1.length))), (1, tI 0), (2, tI n), (3, .av (.one (.clo 160 1 (listF [.eptr 1 1 (fun _ j_ => ([.clo 117 0 (fun _ => default)] : List Cl).getD j_ default) 0 0])))), (8, tI x.2.2)], [(1000, .row 7 x.2.1.length (rowF TPlaced.c x.2.1) 160)]⟩) (fun x => (n - x.2.2).toNat < x.1 /\ (1 <= x.2.2 /\ x.2.1.length = l.length /\ 1 <= x.2.2 /\ (x.2.2 <= n \/ x.2.2 = 1)) /\ FInsQ_l0 l n x.1 x.2.1 x.2.2 = FInsQ l n) (fun x => x.1) ?_ ((n - 1).toNat + 1, l, 1) ⟨Nat.lt_succ_self _, ⟨(by show 1 <= 1; first | trivial | omega | exact at0 | exact at1 | exact at2 | (simp; omega) | simp), (by show l.length = l.length; first | trivial | omega | exact at0 | exact at1 | exact at2 | (simp; omega) | simp), (by show 1 <= 1; first | trivial | omega | exact at0 | exact at1 | exact at2 | (simp; omega) | simp), (by show (1 <= n \/ 1 = 1); first | trivial | omega | exact at0 | exact at1 | exact at2 | (simp; omega) | simp)⟩, (by simp only [FInsQ, cond_true, cond_false])⟩
 rintro ⟨n0, data, i⟩ ⟨hn, hinv, hF⟩
 have hm0 : (n - i).toNat < n0 := hn; have hinv0 : 1 <= i /\ data.length = l.length /\ 1 <= i /\ (i <= n \/ i = 1) := hinv; have hF0 : FInsQ_l0 l n n0 data i = FInsQ l n := hF; clear hn hinv hF
 cases n0 with
 | zero => exact absurd hm0 (Nat.not_lt_zero _)
 | succ n0 =>
  refine aw_seq <| aw_seq ?_
  refine aw_region eqok [] [] [] [0, 1, 2, 3, 8, 14] [1000] [] ⟨[(0, .av (.one (.own 1000 7 data.length))), (1, tI 0), (2, tI n), (3, .av (.one (.clo 160 1 (listF [.eptr 1 1 (fun _ j_ => ([.clo 117 0 (fun _ => default)] : List Cl).getD j_ default) 0 0])))), (8, tI i), (14, tB (decide ((i : Int) < n)))], [(1000, .row 7 data.length (rowF TPlaced.c data) 160)]⟩ .nil kr .nil <| ath_n ?_
  refine aw_cond (decide ((i : Int) < n)) kr (fun h1 => ?_) (fun h1 => ?_)
  ·have g1 := of_decide_eq_true h1
   refine aw_skip <| ath_n ?_
   refine aw_seq <| aw_block <| aw_seq ?_
   refine aw_region eqok [] [] [] [0, 1, 2, 3, 8, 9] [1000] [] ⟨[(0, .av (.one (.own 1000 7 data.length))), (1, tI 0), (2, tI n), (3, .av (.one (.clo 160 1 (listF [.eptr 1 1 (fun _ j_ => ([.clo 117 0 (fun _ => default)] : List Cl).getD j_ default) 0 0])))), (8, tI i), (9, tI i)], [(1000, .row 7 data.length (rowF TPlaced.c data) 160)]⟩ .nil kr .nil <| ath_n <| aw_block ?_
   refine aw_loopC (ι := Nat × List TPlaced × Int) (fun x => ⟨[(0, .av (.one (.own 1000 7 x.2.1.length))), (1, tI 0), (2, tI n), (3, .av (.one (.clo 160 1 (listF [.eptr 1 1 (fun _ j_ => ([.clo 117 0 (fun _ => default)] : List Cl).getD j_ default) 0 0])))), (8, tI i), (9, tI x.2.2)], [(1000, .row 7 x.2.1.length (rowF TPlaced.c x.2.1) 160)]⟩) (fun x => x.2.2.toNat < x.1 /\ (0 <= x.2.2 /\ x.2.1.length = l.length /\ x.2.2 < n) /\ FInsQ_l1 l n data i (FInsQ_l0 l n n0) x.1 x.2.1 x.2.2 = FInsQ l n) (fun x => x.1) ?_ (i.toNat + 1, data, i) ⟨Nat.lt_succ_self _, ⟨(by show 0 <= i; first | trivial | omega | exact at0 | exact at1 | exact at2 | (simp; omega) | simp), (by show data.length = l.length; first | trivial | omega | exact at0 | exact at1 | exact at2 | (simp; omega) | simp), (by show i < n; first | trivial | omega | exact at0 | exact at1 | exact at2 | (simp; omega) | simp)⟩, (by rw [<- hF0]; simp only [FInsQ_l0, h1, cond_true, cond_false])⟩
   rintro ⟨n1, data', j⟩ ⟨hn, hinv, hF⟩
   have hm1 : j.toNat < n1 := hn; have hinv1 : 0 <= j /\ data'.length = l.length /\ j < n := hinv; have hF1 : FInsQ_l1 l n data i (FInsQ_l0 l n n0) n1 data' j = FInsQ l n := hF; clear hn hinv hF
   cases n1 with
   | zero => exact absurd hm1 (Nat.not_lt_zero _)
   | succ n1 =>
    refine aw_seq <| aw_seq ?_
    refine aw_draw mixed eqok [] [] [(32, (Z0v data' j))] [0, 1, 2, 3, 8, 9, 34] [1000] [((decide ((0 : Int) < j)) = true) -> ((decide ((0 : Int) < j)) = true), ((decide ((0 : Int) < j)) = true) -> ((decide ((0 : Int) < j)) = true), ((decide ((0 : Int) < j)) = true) -> (0 <= (j : Int) /\ (j : Int) < ((data'.length : Nat) : Int)), ((decide ((0 : Int) < j)) = true) -> ((decide ((0 : Int) < j)) = true), ((decide ((0 : Int) < j)) = true) -> (j.toNat < data'.length), ((decide ((0 : Int) < j)) = true) -> ((decide ((0 : Int) < j)) = true), ((decide ((0 : Int) < j)) = true) -> ((decide ((0 : Int) < j)) = true), ((decide ((0 : Int) < j)) = true) -> ((decide ((0 : Int) < j)) = true), ((decide ((0 : Int) < j)) = true) -> (0 <= (W64 (j - 1) : Int) /\ (W64 (j - 1) : Int) < ((data'.length : Nat) : Int)), ((decide ((0 : Int) < j)) = true) -> ((decide ((0 : Int) < j)) = true), ((decide ((0 : Int) < j)) = true) -> ((W64 (j - 1)).toNat < data'.length), ((decide ((0 : Int) < j)) = true) -> ((decide ((0 : Int) < j)) = true), ((decide ((0 : Int) < j)) = true) -> ((decide ((0 : Int) < j)) = true), ((decide ((0 : Int) < j)) = true) -> ((decide ((0 : Int) < j)) = true), ((decide ((0 : Int) < j)) = true) -> (Same (Z0v data' j).2.1), ((decide ((0 : Int) < j)) = true) -> ((decide ((0 : Int) < j)) = true), (decide ((0 : Int) < j)) = true -> ((decide ((0 : Int) < j)) = true)] ⟨[(0, .av (.one (.own 1000 7 data'.length))), (1, tI 0), (2, tI n), (3, .av (.one (.clo 160 1 (listF [.eptr 1 1 (fun _ j_ => ([.clo 117 0 (fun _ => default)] : List Cl).getD j_ default) 0 0])))), (8, tI i), (9, tI j), (34, tB (bif decide ((0 : Int) < j) then decide (((FcmpQ (data'.getD j.toNat default) (data'.getD ((W64 (j - 1)).toNat) default)) : Int) < 0) else false))], [(1000, .row 7 data'.length (rowF TPlaced.c data') 160)]⟩ (.cons (callOk_pure (fun _ _ => kr) fun _ => pcmpQ (data'.getD j.toNat default) (data'.getD ((W64 (j - 1)).toNat) default)) .nil) kr kr (.cons id (.cons id (.cons (fun hG => by first | exact au0 | (simp only [decide_eq_true_eq, decide_eq_false_iff_not, Bool.not_eq_true, Bool.and_eq_true] at hG <;> omega) | (simp at hG <;> omega) | (simp only [decide_eq_true_eq, decide_eq_false_iff_not] at hG; simp only [W64_def]; omega)) (.cons id (.cons (fun hG => by first | exact au0 | (simp only [decide_eq_true_eq, decide_eq_false_iff_not, Bool.not_eq_true, Bool.and_eq_true] at hG <;> omega) | (simp at hG <;> omega) | (simp only [decide_eq_true_eq, decide_eq_false_iff_not] at hG; simp only [W64_def]; omega)) (.cons id (.cons id (.cons id (.cons (fun hG => by first | exact au0 | (simp only [decide_eq_true_eq, decide_eq_false_iff_not, Bool.not_eq_true, Bool.and_eq_true] at hG <;> omega) | (simp at hG <;> omega) | (simp only [decide_eq_true_eq, decide_eq_false_iff_not] at hG; simp only [W64_def]; omega)) (.cons id (.cons (fun hG => by first | exact au0 | (simp only [decide_eq_true_eq, decide_eq_false_iff_not, Bool.not_eq_true, Bool.and_eq_true] at hG <;> omega) | (simp at hG <;> omega) | (simp only [decide_eq_true_eq, decide_eq_false_iff_not] at hG; simp only [W64_def]; omega)) (.cons id (.cons id (.cons id (.cons (fun _ => rfl) (.cons id (.cons id .nil))))))))))))))))) ?_
    (try rw [(show W64 (j - 1) = j - 1 from W64_id (by omega) (by omega))])
    refine ath_n ?_
    refine aw_cond (bif decide ((0 : Int) < j) then decide (((FcmpQ (data'.getD j.toNat default) (data'.getD ((j - 1).toNat) default)) : Int) < 0) else false) kr (fun h2 => ?_) (fun h2 => ?_)
    ·have g2 := and_dec h2
     refine aw_skip <| ath_n ?_
     refine aw_seq <| aw_block ?_
     refine aw_draw mixed eqok [] [] [] [0, 1, 2, 3, 8, 9] [1000] [0 <= (W64 (j - 1) : Int) /\ (W64 (j - 1) : Int) < ((data'.length : Nat) : Int), (W64 (j - 1)).toNat < data'.length, 0 <= (j : Int) /\ (j : Int) < ((data'.length : Nat) : Int), j.toNat < data'.length, 0 <= (j : Int) /\ (j : Int) < ((data'.length : Nat) : Int), j.toNat < data'.length, 0 <= (W64 (j - 1) : Int) /\ (W64 (j - 1) : Int) < ((data'.length : Nat) : Int), (W64 (j - 1)).toNat < data'.length] ⟨[(0, .av (.one (.own 1000 7 data'.length))), (1, tI 0), (2, tI n), (3, .av (.one (.clo 160 1 (listF [.eptr 1 1 (fun _ j_ => ([.clo 117 0 (fun _ => default)] : List Cl).getD j_ default) 0 0])))), (8, tI i), (9, tI j)], [(1000, .row 7 data'.length (fun i_ j_ => if i_ = (W64 (j - 1)).toNat /\ 0 <= j_ /\ j_ < 0 + 7 then ([.i ((data'.getD j.toNat default).Id), .s ((data'.getD j.toNat default).Ref), .s ((data'.getD j.toNat default).Type'), .i (((data'.getD j.toNat default).At).X), .i (((data'.getD j.toNat default).At).Y), .i ((data'.getD j.toNat default).Turn), .b ((data'.getD j.toNat default).Under)] : List Cl).getD (j_ - 0) default else (fun i_ j_ => if i_ = j.toNat /\ 0 <= j_ /\ j_ < 0 + 7 then ([.i ((data'.getD ((W64 (j - 1)).toNat) default).Id), .s ((data'.getD ((W64 (j - 1)).toNat) default).Ref), .s ((data'.getD ((W64 (j - 1)).toNat) default).Type'), .i (((data'.getD ((W64 (j - 1)).toNat) default).At).X), .i (((data'.getD ((W64 (j - 1)).toNat) default).At).Y), .i ((data'.getD ((W64 (j - 1)).toNat) default).Turn), .b ((data'.getD ((W64 (j - 1)).toNat) default).Under)] : List Cl).getD (j_ - 0) default else (rowF TPlaced.c data') i_ j_) i_ j_) 160)]⟩ .nil kr kr (.cons au0 (.cons au0 (.cons au0 (.cons au0 (.cons au0 (.cons au0 (.cons au0 (.cons au0 .nil)))))))) ?_
     (try rw [(show W64 (j - 1) = j - 1 from W64_id (by omega) (by omega))])
     refine abl_n <| ath_n ?_
     refine aw_cv (Cv.trans (cv_ce (⟨[(0, .av (.one (.own 1000 7 (((data'.set j.toNat (data'.getD ((j - 1).toNat) default)).set ((j - 1).toNat) (data'.getD j.toNat default)).length)))), (1, tI 0), (2, tI n), (3, .av (.one (.clo 160 1 (listF [.eptr 1 1 (fun _ j_ => ([.clo 117 0 (fun _ => default)] : List Cl).getD j_ default) 0 0])))), (8, tI i), (9, tI j)], [(1000, .row 7 (((data'.set j.toNat (data'.getD ((j - 1).toNat) default)).set ((j - 1).toNat) (data'.getD j.toNat default)).length) (rowF TPlaced.c ((data'.set j.toNat (data'.getD ((j - 1).toNat) default)).set ((j - 1).toNat) (data'.getD j.toNat default))) 160)]⟩) (.cons ⟨rfl, .av (.one (.own _ _ au3))⟩ lr) (.cons ⟨rfl, bke_told 160 (told_set (l := [.i ((data'.getD j.toNat default).Id), .s ((data'.getD j.toNat default).Ref), .s ((data'.getD j.toNat default).Type'), .i (((data'.getD j.toNat default).At).X), .i (((data'.getD j.toNat default).At).Y), .i ((data'.getD j.toNat default).Turn), .b ((data'.getD j.toNat default).Under)]) (off := 0) (q := 7) (k := (j - 1).toNat) (told_set (l := [.i ((data'.getD ((j - 1).toNat) default).Id), .s ((data'.getD ((j - 1).toNat) default).Ref), .s ((data'.getD ((j - 1).toNat) default).Type'), .i (((data'.getD ((j - 1).toNat) default).At).X), .i (((data'.getD ((j - 1).toNat) default).At).Y), .i ((data'.getD ((j - 1).toNat) default).Turn), .b ((data'.getD ((j - 1).toNat) default).Under)]) (off := 0) (q := 7) (k := j.toNat) (told_rfl 7 TPlaced.c data') au0 (data'.getD ((j - 1).toNat) default) (tab_get kr)) au0 (data'.getD j.toNat default) (tab_get kr))⟩ .nil)) (Cv.refl _)) ?_
     refine aw_region eqok [] [] [] [0, 1, 2, 3, 8, 9] [1000] [] ⟨[(0, .av (.one (.own 1000 7 (((data'.set j.toNat (data'.getD ((j - 1).toNat) default)).set ((j - 1).toNat) (data'.getD j.toNat default)).length)))), (1, tI 0), (2, tI n), (3, .av (.one (.clo 160 1 (listF [.eptr 1 1 (fun _ j_ => ([.clo 117 0 (fun _ => default)] : List Cl).getD j_ default) 0 0])))), (8, tI i), (9, tI (W64 (j - 1)))], [(1000, .row 7 (((data'.set j.toNat (data'.getD ((j - 1).toNat) default)).set ((j - 1).toNat) (data'.getD j.toNat default)).length) (rowF TPlaced.c ((data'.set j.toNat (data'.getD ((j - 1).toNat) default)).set ((j - 1).toNat) (data'.getD j.toNat default))) 160)]⟩ .nil kr .nil ?_
     (try rw [(show W64 (j - 1) = j - 1 from W64_id (by omega) (by omega))])
     refine ath_n ?_
     refine ⟨(n1, (data'.set j.toNat (data'.getD ((j - 1).toNat) default)).set ((j - 1).toNat) (data'.getD j.toNat default), j - 1), ⟨?_, ?_, (by rw [<- hF1]; simp only [FInsQ_l1, h2, cond_true, cond_false])⟩, Nat.lt_succ_self _, cv_eq kr⟩
     ·show (j - 1).toNat < n1; omega
     ·exact ⟨(by show 0 <= (j - 1); first | trivial | omega | exact at0 | exact at1 | exact at2 | (simp; omega) | simp), (by show ((data'.set j.toNat (data'.getD ((j - 1).toNat) default)).set ((j - 1).toNat) (data'.getD j.toNat default)).length = l.length; first | trivial | omega | exact at0 | exact at1 | exact at2 | (simp; omega) | simp), (by show (j - 1) < n; first | trivial | omega | exact at0 | exact at1 | exact at2 | (simp; omega) | simp)⟩
    ·refine aw_exit <| ath_e ?_
     refine ath_e <| abl_hit ?_
     refine abl_n <| ath_n ?_
     refine aw_region eqok [] [] [] [0, 1, 2, 3, 8] [1000] [] ⟨[(0, .av (.one (.own 1000 7 data'.length))), (1, tI 0), (2, tI n), (3, .av (.one (.clo 160 1 (listF [.eptr 1 1 (fun _ j_ => ([.clo 117 0 (fun _ => default)] : List Cl).getD j_ default) 0 0])))), (8, tI (W64 (i + 1)))], [(1000, .row 7 data'.length (rowF TPlaced.c data') 160)]⟩ .nil kr .nil ?_
     (try rw [(show W64 (i + 1) = i + 1 from W64_id (by omega) (by omega))])
     refine ath_n ?_
     refine ⟨(n0, data', i + 1), ⟨?_, ?_, (by rw [<- hF1]; simp only [FInsQ_l1, h2, cond_true, cond_false])⟩, Nat.lt_succ_self _, cv_eq kr⟩
     ·show (n - (i + 1)).toNat < n0; omega
     ·exact ⟨(by show 1 <= (i + 1); first | trivial | omega | exact at0 | exact at1 | exact at2 | (simp; omega) | simp), (by show data'.length = l.length; first | trivial | omega | exact at0 | exact at1 | exact at2 | (simp; omega) | simp), (by show 1 <= (i + 1); first | trivial | omega | exact at0 | exact at1 | exact at2 | (simp; omega) | simp), (by show ((i + 1) <= n \/ (i + 1) = 1); first | trivial | omega | exact at0 | exact at1 | exact at2 | (simp; omega) | simp)⟩
  ·have g1 := of_decide_eq_false h1
   refine aw_exit <| ath_e ?_
   refine ath_e <| abl_hit ?_
   exact ⟨_, Cv.refl _, .inr rfl, .tup [], by kernel_rfl, tve_eq rfl, .row 7 data.length (rowF TPlaced.c data) 160, by kernel_rfl, bke_rowlen (c := TPlaced.c) (xs := data) (by rw [<- hF0]; first | (simp only [FInsQ_l0, h1, cond_true, cond_false] <;> rfl)) au11⟩
theorem FInsQ_eq (l : List TPlaced) (n : Int) (hn : n = (l.length : Int)) : FInsQ l n = isortB (fun x y => decide (FcmpQ x y < 0)) l := by
 unfold FInsQ
 cases l with
 | nil => subst hn; rfl
 | cons a l =>
  have h := ins_l0 (fun x y => decide (FcmpQ x y < 0)) (a :: l) (FInsQ_l0 (a :: l) n) id (fun m d i hi => by
   rw [FInsQ_l0, decide_eq_false (by omega), cond_false]; rfl) (fun m i out rest x hi ho => by
   rw [FInsQ_l0, decide_eq_true (by omega), cond_true]
   have h1 := ins_l1 (fun x y => decide (FcmpQ x y < 0)) (FInsQ_l1 (a :: l) n (out ++ x :: rest) i (FInsQ_l0 (a :: l) n m)) (fun d => FInsQ_l0 (a :: l) n m d ((i : Int) + 1)) (fun m d j => by
    rw [FInsQ_l1, Int.toNat_natCast, show ((j : Int) - 1).toNat = j - 1 by omega]) out rest x i ((i : Int).toNat + 1) (by omega) (by omega)
   subst ho
   rw [List.take_length, List.drop_length, List.nil_append] at h1
   rw [h1]
   unfold insR
   rw [List.append_assoc]; rfl) ((a :: l).length - 1) ((n - 1).toNat + 1) 1 rfl (by simp) (by omega)
  exact h
theorem FInsQ_len (l : List TPlaced) (n : Int) (hn : n = (l.length : Int)) (hl : l.length < 20) : (FInsQ l n).length = l.length := by rw [FInsQ_eq l n hn, isortB_len]
def Z0w (l : (List TPlaced)) (n : Int) : FuncId × List Av × Ef := (185, ([.one (.own 1000 7 l.length), .one (.i 0), .one (.i n), .one (.clo 160 1 (listF [.eptr 1 1 (fun _ j_ => ([.clo 117 0 (fun _ => default)] : List Cl).getD j_ default) 0 0]))] : List Av).map (renR 1000 1000), wrI 1000 (.row 7 l.length (rowF TPlaced.c l) 160) (.tup []) (.row 7 l.length (rowF TPlaced.c (FInsQ l n)) 160))
def FStaQ (l : (List TPlaced)) (n : Int) : (List TPlaced) := FInsQ l n
theorem pStaQ (l : (List TPlaced)) (n : Int) (hn : n = (l.length : Int)) (hl : l.length < 20) : WrR Tryz.prog 170 1000 [.one (.own 1000 7 l.length), .one (.i n), .one (.clo 160 1 (listF [.eptr 1 1 (fun _ j_ => ([.clo 117 0 (fun _ => default)] : List Cl).getD j_ default) 0 0]))] 7 l.length (rowF TPlaced.c l) 160 (.tup []) (rowF TPlaced.c (FStaQ l n)) := by
 refine wrR_of_awF Tryz.func170 rfl kr kr kr fun W0 M0 X hX => ?_
 refine aw_seq ?_
 refine aw_region eqok [] [] [] [0, 1, 2, 6] [1000] [] ⟨[(0, .av (.one (.own 1000 7 l.length))), (1, tI n), (2, .av (.one (.clo 160 1 (listF [.eptr 1 1 (fun _ j_ => ([.clo 117 0 (fun _ => default)] : List Cl).getD j_ default) 0 0])))), (6, tI 20)], [(1000, .row 7 l.length (rowF TPlaced.c l) 160)]⟩ .nil kr .nil <| ath_n <| aw_seq ?_
 refine aw_region eqok [] [] [] [0, 1, 2, 6, 7, 8] [1000] [] ⟨[(0, .av (.one (.own 1000 7 l.length))), (1, tI n), (2, .av (.one (.clo 160 1 (listF [.eptr 1 1 (fun _ j_ => ([.clo 117 0 (fun _ => default)] : List Cl).getD j_ default) 0 0])))), (6, tI 20), (7, tI 0), (8, tI 20)], [(1000, .row 7 l.length (rowF TPlaced.c l) 160)]⟩ .nil kr .nil <| ath_n ?_
 refine aw_seq <| aw_block ?_
 refine aw_unroll 1 ?_
 refine aw_round <| aw_seq <| aw_seq ?_
 refine aw_region eqok [] [] [] [0, 1, 2, 6, 7, 8, 13] [1000] [] ⟨[(0, .av (.one (.own 1000 7 l.length))), (1, tI n), (2, .av (.one (.clo 160 1 (listF [.eptr 1 1 (fun _ j_ => ([.clo 117 0 (fun _ => default)] : List Cl).getD j_ default) 0 0])))), (6, tI 20), (7, tI 0), (8, tI 20), (13, tB (decide ((20 : Int) <= n)))], [(1000, .row 7 l.length (rowF TPlaced.c l) 160)]⟩ .nil kr .nil <| ath_n ?_
 have h1 : (decide ((20 : Int) <= n)) = false := decide_eq_false (by omega)
 have g1 := of_decide_eq_false h1
 refine aw_cond (decide ((20 : Int) <= n)) kr (fun h => absurd (h1.symm.trans h) (by decide)) (fun _ => ?_)
 refine aw_exit <| ath_e ?_
 refine ath_e <| abl_hit ?_
 refine ath_n <| aw_seq ?_
 refine aw_region eqok [] [] [(27, (Z0w l n))] [0, 1, 2, 6] [1000] [Same (Z0w l n).2.1, SameB (.row 7 l.length (rowF TPlaced.c l) 160)] ⟨[(0, .av (.one (.own 1000 7 l.length))), (1, tI n), (2, .av (.one (.clo 160 1 (listF [.eptr 1 1 (fun _ j_ => ([.clo 117 0 (fun _ => default)] : List Cl).getD j_ default) 0 0])))), (6, tI 20)], [(1000, .row 7 l.length (rowF TPlaced.c (FInsQ l n)) 160)]⟩ (.cons (callOk_wrR (fun _ _ => kr) kr (pInsQ l n au2 au2)) .nil) kr (.cons rfl (.cons rfl .nil)) <| ath_n ?_
 refine aw_cv (Cv.trans (cv_ce (⟨[(0, .av (.one (.own 1000 7 ((FInsQ l n).length)))), (1, tI n), (2, .av (.one (.clo 160 1 (listF [.eptr 1 1 (fun _ j_ => ([.clo 117 0 (fun _ => default)] : List Cl).getD j_ default) 0 0])))), (6, tI 20)], [(1000, .row 7 ((FInsQ l n).length) (rowF TPlaced.c (FInsQ l n)) 160)]⟩) (.cons ⟨rfl, .av (.one (.own _ _ (FInsQ_len l n au2 au2).symm))⟩ lr) (.cons ⟨rfl, bke_told 160 (⟨(FInsQ_len l n au2 au2).symm, fun _ _ _ _ => .refl _⟩)⟩ .nil)) (Cv.refl _)) <| aw_block ?_
 refine aw_unroll 1 ?_
 refine aw_round <| aw_seq <| aw_seq ?_
 refine aw_region eqok [] [] [] [0, 1, 2, 6, 30] [1000] [] ⟨[(0, .av (.one (.own 1000 7 ((FInsQ l n).length)))), (1, tI n), (2, .av (.one (.clo 160 1 (listF [.eptr 1 1 (fun _ j_ => ([.clo 117 0 (fun _ => default)] : List Cl).getD j_ default) 0 0])))), (6, tI 20), (30, tB (decide ((20 : Int) < n)))], [(1000, .row 7 ((FInsQ l n).length) (rowF TPlaced.c (FInsQ l n)) 160)]⟩ .nil kr .nil <| ath_n ?_
 have h2 : (decide ((20 : Int) < n)) = false := decide_eq_false (by omega)
 have g2 := of_decide_eq_false h2
 refine aw_cond (decide ((20 : Int) < n)) kr (fun h => absurd (h2.symm.trans h) (by decide)) (fun _ => ?_)
 refine aw_exit <| ath_e ?_
 refine ath_e <| abl_hit ?_
 exact ⟨_, Cv.refl _, .inr rfl, .tup [], by kernel_rfl, tve_eq rfl, .row 7 ((FInsQ l n).length) (rowF TPlaced.c (FInsQ l n)) 160, by kernel_rfl, bke_rowlen (c := TPlaced.c) (xs := FInsQ l n) (by first | (simp only [FStaQ, h1, h2, cond_true, cond_false] <;> rfl)) (FInsQ_len l n hn hl)⟩
theorem FStaQ_len (l : List TPlaced) (n : Int) (hn : n = (l.length : Int)) (hl : l.length < 20) : (FStaQ l n).length = l.length := FInsQ_len l n hn hl
def Z0x (l : (List TPlaced)) : FuncId × List Av × Ef := (170, ([.one (.own 1000 7 l.length), .one (.i (((l.length : Nat) : Int))), .one (.clo 160 1 (listF [.eptr 1 1 (fun _ j_ => ([.clo 117 0 (fun _ => default)] : List Cl).getD j_ default) 0 0]))] : List Av).map (renR 1000 1000), wrI 1000 (.row 7 l.length (rowF TPlaced.c l) 160) (.tup []) (.row 7 l.length (rowF TPlaced.c (FStaQ l (((l.length : Nat) : Int)))) 160))
def FSrtQ (l : (List TPlaced)) : (List TPlaced) := FStaQ l (((l.length : Nat) : Int))
theorem pSrtQ (l : (List TPlaced)) (hl : l.length < 20) : WrR Tryz.prog 159 1000 [.one (.own 1000 7 l.length), .one (.clo 160 1 (listF [.eptr 1 1 (fun _ j_ => ([.clo 117 0 (fun _ => default)] : List Cl).getD j_ default) 0 0]))] 7 l.length (rowF TPlaced.c l) 160 (.tup []) (rowF TPlaced.c (FSrtQ l)) := by
 refine wrR_of_awF Tryz.func159 rfl kr kr kr fun W0 M0 X hX => ?_
 refine aw_region eqok [] [] [(8, (Z0x l))] [] [1000] [Same (Z0x l).2.1, SameB (.row 7 l.length (rowF TPlaced.c l) 160)] ⟨[], [(1000, .row 7 l.length (rowF TPlaced.c (FStaQ l (((l.length : Nat) : Int)))) 160)]⟩ (.cons (callOk_wrR (fun _ _ => kr) kr (pStaQ l (((l.length : Nat) : Int)) au2 au2)) .nil) kr (.cons rfl (.cons rfl .nil)) ?_
 exact ⟨_, Cv.trans (cv_ce (⟨[], [(1000, .row 7 ((FStaQ l (((l.length : Nat) : Int))).length) (rowF TPlaced.c (FStaQ l (((l.length : Nat) : Int)))) 160)]⟩) .nil (.cons ⟨rfl, bke_told 160 (⟨(FStaQ_len l (((l.length : Nat) : Int)) au2 au2).symm, fun _ _ _ _ => .refl _⟩)⟩ .nil)) (Cv.refl _), .inr rfl, .tup [], by kernel_rfl, tve_eq rfl, .row 7 ((FStaQ l (((l.length : Nat) : Int))).length) (rowF TPlaced.c (FStaQ l (((l.length : Nat) : Int)))) 160, by kernel_rfl, bke_rowlen (c := TPlaced.c) (xs := FStaQ l (((l.length : Nat) : Int))) (by rfl) (FStaQ_len l _ rfl hl)⟩
theorem FSrtQ_len (l : List TPlaced) (hl : l.length < 20) : (FSrtQ l).length = l.length := FStaQ_len l _ rfl hl
theorem FSrtQ_eq (l : List TPlaced) : FSrtQ l = isortB (fun x y => decide (FcmpQ x y < 0)) l := FInsQ_eq l _ rfl
def Z0y (out : List TPlaced) : FuncId × List Av × Ef := (159, ([.one (.own 1000 7 out.length), .one (.clo 160 1 (listF [.eptr 1 1 (fun _ j_ => ([.clo 117 0 (fun _ => default)] : List Cl).getD j_ default) 0 0]))] : List Av).map (renR 1000 100000), wrI 100000 (.row 7 out.length (rowF TPlaced.c out) 160) (.tup []) (.row 7 out.length (rowF TPlaced.c (FSrtQ out)) 160))
def FsortedQ_l0 (l : (List TPlaced)) : Nat -> List TPlaced -> Int -> (List TPlaced)
 | 0, _, _ => default
 | n0 + 1, out, v12 => bif decide ((v12 : Int) < ((l.length : Int))) then ((FsortedQ_l0 l n0) (out ++ [FasQ (l.getD v12.toNat default)]) (v12 + 1)) else (FSrtQ out)
def FsortedQ (l : (List TPlaced)) : (List TPlaced) := FsortedQ_l0 l (((((l.length : Int))) - 0).toNat + 1) (([] : List TPlaced)) 0
theorem qsortedQ (l : (List TPlaced)) (hl : l.length < 20) : Fr Tryz.prog 115 [.one (lst 7 TPlaced.c l), .one (.clo 116 0 (fun _ => default)), .one (.clo 117 0 (fun _ => default))] (.row 7 (FsortedQ l).length (rowF TPlaced.c (FsortedQ l)) 160) (fun d => .av (.one (.own d 7 (FsortedQ l).length))) := by
 refine fr_of_awF Tryz.func115 rfl kr (ownV_one _ _) fun W0 M0 => ?_
 refine aw_seq ?_
 refine aw_region eqok [] [] [] [0, 1, 5] [5] [] ⟨[(0, .av (.one (lst 7 TPlaced.c l))), (1, .av (.one (.clo 116 0 (fun _ => default)))), (5, tP 5 0)], [(5, .cells [.clo 117 0 (fun _ => default)] 228)]⟩ .nil kr .nil <| ath_n <| aw_seq ?_
 refine aw_region eqok [] [] [] [0, 1, 5, 7] [5] [] ⟨[(0, .av (.one (lst 7 TPlaced.c l))), (1, .av (.one (.clo 116 0 (fun _ => default)))), (5, tP 5 0), (7, .av (.one (vN)))], [(5, .cells [.clo 117 0 (fun _ => default)] 228)]⟩ .nil kr .nil <| ath_n ?_
 refine aw_seq <| aw_seq ?_
 refine aw_region eqok [] [] [] [1, 5, 7, 10, 11, 12] [5] [] ⟨[(1, .av (.one (.clo 116 0 (fun _ => default)))), (5, tP 5 0), (7, .av (.one (vN))), (10, .av (.one (lst 7 TPlaced.c l))), (11, tI ((l.length : Int))), (12, tI 0)], [(5, .cells [.clo 117 0 (fun _ => default)] 228)]⟩ .nil kr .nil <| ath_n <| aw_block ?_
 refine aw_cv (Cv.trans (cv_ghost (⟨[(1, .av (.one (.clo 116 0 (fun _ => default)))), (5, tP 5 0), (7, .av (.one (.own 100000 7 0))), (10, .av (.one (lst 7 TPlaced.c l))), (11, tI ((l.length : Int))), (12, tI 0)], [(100000, .row 7 0 (fun _ _ => default) 160), (5, .cells [.clo 117 0 (fun _ => default)] 228)]⟩) 100000 7 (fun _ _ => default) 160 [(7, [0])] [] (K := []) (fun k x h => by cases h) rfl kr kr) (Cv.trans (cv_ce (⟨[(1, .av (.one (.clo 116 0 (fun _ => default)))), (5, tP 5 0), (7, .av (.one (.own 100000 7 ((([] : List TPlaced)).length)))), (10, .av (.one (lst 7 TPlaced.c l))), (11, tI ((l.length : Int))), (12, tI 0)], [(100000, .row 7 ((([] : List TPlaced)).length) (rowF TPlaced.c (([] : List TPlaced))) 160), (5, .cells [.clo 117 0 (fun _ => default)] 228)]⟩) (.cons ⟨rfl, .refl _⟩ (.cons ⟨rfl, .refl _⟩ (.cons ⟨rfl, .av (.one (.own _ _ au3))⟩ lr))) (.cons ⟨rfl, bke_told 160 (told_nil 7 (fun _ _ => default) TPlaced.c)⟩ lr)) (Cv.trans (cv_keep [1, 5, 7, 10, 11, 12] [5, 100000] (⟨[(1, .av (.one (.clo 116 0 (fun _ => default)))), (5, tP 5 0), (7, .av (.one (.own 100000 7 ((([] : List TPlaced)).length)))), (10, .av (.one (lst 7 TPlaced.c l))), (11, tI ((l.length : Int))), (12, tI 0)], [(5, .cells [.clo 117 0 (fun _ => default)] 228), (100000, .row 7 ((([] : List TPlaced)).length) (rowF TPlaced.c (([] : List TPlaced))) 160)]⟩) kr) (Cv.refl _)))) ?_
 refine aw_loopC (ι := Nat × List TPlaced × Int) (fun x => ⟨[(1, .av (.one (.clo 116 0 (fun _ => default)))), (5, tP 5 0), (7, .av (.one (.own 100000 7 x.2.1.length))), (10, .av (.one (lst 7 TPlaced.c l))), (11, tI ((l.length : Int))), (12, tI x.2.2)], [(5, .cells [.clo 117 0 (fun _ => default)] 228), (100000, .row 7 x.2.1.length (rowF TPlaced.c x.2.1) 160)]⟩) (fun x => ((((l.length : Int))) - x.2.2).toNat < x.1 /\ (0 <= x.2.2 /\ (x.2.2 <= ((l.length : Int)) \/ x.2.2 = 0) /\ (x.2.1.length : Int) <= 0 + 1 * (x.2.2 - 0)) /\ FsortedQ_l0 l x.1 x.2.1 x.2.2 = FsortedQ l) (fun x => x.1) ?_ (((((l.length : Int))) - 0).toNat + 1, ([] : List TPlaced), 0) ⟨Nat.lt_succ_self _, ⟨(by show 0 <= 0; first | trivial | omega | exact at0 | exact at1 | exact at2 | (simp; omega) | simp), (by show (0 <= ((l.length : Int)) \/ 0 = 0); first | trivial | omega | exact at0 | exact at1 | exact at2 | (simp; omega) | simp), (by show ((([] : List TPlaced)).length : Int) <= 0 + 1 * (0 - 0); first | trivial | omega | exact at0 | exact at1 | exact at2 | (simp; omega) | simp)⟩, (by simp only [FsortedQ, cond_true, cond_false])⟩
 rintro ⟨n0, out, v12⟩ ⟨hn, hinv, hF⟩
 have hm0 : ((((l.length : Int))) - v12).toNat < n0 := hn; have hinv0 : 0 <= v12 /\ (v12 <= ((l.length : Int)) \/ v12 = 0) /\ (out.length : Int) <= 0 + 1 * (v12 - 0) := hinv; have hF0 : FsortedQ_l0 l n0 out v12 = FsortedQ l := hF; clear hn hinv hF
 cases n0 with
 | zero => exact absurd hm0 (Nat.not_lt_zero _)
 | succ n0 =>
  refine aw_seq ?_
  refine aw_region eqok [] [] [] [1, 5, 7, 10, 11, 12, 13] [5, 100000] [] ⟨[(1, .av (.one (.clo 116 0 (fun _ => default)))), (5, tP 5 0), (7, .av (.one (.own 100000 7 out.length))), (10, .av (.one (lst 7 TPlaced.c l))), (11, tI ((l.length : Int))), (12, tI v12), (13, tB (decide ((v12 : Int) < ((l.length : Int)))))], [(5, .cells [.clo 117 0 (fun _ => default)] 228), (100000, .row 7 out.length (rowF TPlaced.c out) 160)]⟩ .nil kr .nil <| ath_n <| aw_seq ?_
  refine aw_cond (decide ((v12 : Int) < ((l.length : Int)))) kr (fun h1 => ?_) (fun h1 => ?_)
  ·have g1 := of_decide_eq_true h1
   refine aw_skip <| ath_n ?_
   refine aw_seq <| aw_block <| aw_seq ?_
   refine aw_region eqok [] [] [] [1, 5, 7, 9, 10, 11, 12] [5, 9, 100000] [0 <= (v12 : Int) /\ (v12 : Int) < ((l.length : Nat) : Int)] ⟨[(1, .av (.one (.clo 116 0 (fun _ => default)))), (5, tP 5 0), (7, .av (.one (.own 100000 7 out.length))), (9, tP 9 0), (10, .av (.one (lst 7 TPlaced.c l))), (11, tI ((l.length : Int))), (12, tI v12)], [(5, .cells [.clo 117 0 (fun _ => default)] 228), (9, .cells (TPlaced.c (l.getD v12.toNat default)) 78), (100000, .row 7 out.length (rowF TPlaced.c out) 160)]⟩ .nil kr (.cons au0 .nil) <| ath_n ?_
   refine aw_region eqok [] [] [(19, casQ (l.getD v12.toNat default))] [1, 5, 7, 10, 11, 12] [5, 21] [Same (casQ (l.getD v12.toNat default)).2.1, out.length = out.length, out.length + 1 <= maxLen, (out.length + 1) * 72 <= 140737488355328] ⟨[(1, .av (.one (.clo 116 0 (fun _ => default)))), (5, tP 5 0), (7, .av (.one (.own 21 7 (out.length + 1)))), (10, .av (.one (lst 7 TPlaced.c l))), (11, tI ((l.length : Int))), (12, tI v12)], [(5, .cells [.clo 117 0 (fun _ => default)] 228), (21, .row 7 (out.length + 1) (fun i_ j_ => if i_ < out.length then (rowF TPlaced.c out) i_ j_ else (colsC 7 1 [.i ((FasQ (l.getD v12.toNat default)).Id), .s ((FasQ (l.getD v12.toNat default)).Ref), .s ((FasQ (l.getD v12.toNat default)).Type'), .i (((FasQ (l.getD v12.toNat default)).At).X), .i (((FasQ (l.getD v12.toNat default)).At).Y), .i ((FasQ (l.getD v12.toNat default)).Turn), .b ((FasQ (l.getD v12.toNat default)).Under)]) (i_ - out.length) j_) 160)]⟩ (.cons (okasQ (l.getD v12.toNat default)) .nil) kr (.cons rfl (.cons rfl (.cons au4 (.cons au4 .nil)))) <| abl_n <| ath_n ?_
   refine aw_cv (Cv.trans (cv_ce (⟨[(1, .av (.one (.clo 116 0 (fun _ => default)))), (5, tP 5 0), (7, .av (.one (.own 21 7 ((out ++ [FasQ (l.getD v12.toNat default)]).length)))), (10, .av (.one (lst 7 TPlaced.c l))), (11, tI ((l.length : Int))), (12, tI v12)], [(5, .cells [.clo 117 0 (fun _ => default)] 228), (21, .row 7 ((out ++ [FasQ (l.getD v12.toNat default)]).length) (rowF TPlaced.c (out ++ [FasQ (l.getD v12.toNat default)])) 160)]⟩) (.cons ⟨rfl, .refl _⟩ (.cons ⟨rfl, .refl _⟩ (.cons ⟨rfl, .av (.one (.own _ _ au3))⟩ lr))) (.cons ⟨rfl, .refl _⟩ (.cons ⟨rfl, bke_told 160 (told_app (told_rfl 7 TPlaced.c out) (told_lit (c := TPlaced.c) (xs := ([FasQ (l.getD v12.toNat default)] : List TPlaced)) rfl kr))⟩ .nil))) (Cv.refl _)) ?_
   refine aw_region eqok [] [] [] [1, 5, 7, 10, 11, 12] [5, 21] [] ⟨[(1, .av (.one (.clo 116 0 (fun _ => default)))), (5, tP 5 0), (7, .av (.one (.own 21 7 ((out ++ [FasQ (l.getD v12.toNat default)]).length)))), (10, .av (.one (lst 7 TPlaced.c l))), (11, tI ((l.length : Int))), (12, tI (W64 (v12 + 1)))], [(5, .cells [.clo 117 0 (fun _ => default)] 228), (21, .row 7 ((out ++ [FasQ (l.getD v12.toNat default)]).length) (rowF TPlaced.c (out ++ [FasQ (l.getD v12.toNat default)])) 160)]⟩ .nil kr .nil ?_
   (try rw [(show W64 (v12 + 1) = v12 + 1 from W64_id (by omega) au5)])
   refine ath_n ?_
   refine ⟨(n0, out ++ [FasQ (l.getD v12.toNat default)], v12 + 1), ⟨?_, ?_, (by rw [<- hF0]; simp only [FsortedQ_l0, h1, cond_true, cond_false])⟩, Nat.lt_succ_self _, Cv.trans (cv_ren (⟨[(1, .av (.one (.clo 116 0 (fun _ => default)))), (5, tP 5 0), (7, .av (.one (.own 100000 7 ((out ++ [FasQ (l.getD v12.toNat default)]).length)))), (10, .av (.one (lst 7 TPlaced.c l))), (11, tI ((l.length : Int))), (12, tI (v12 + 1))], [(5, .cells [.clo 117 0 (fun _ => default)] 228), (100000, .row 7 ((out ++ [FasQ (l.getD v12.toNat default)]).length) (rowF TPlaced.c (out ++ [FasQ (l.getD v12.toNat default)])) 160)]⟩) 21 100000 (K := []) (fun k x h => by cases h) rfl rfl kr kr) (cv_eq kr)⟩
   ·show ((((l.length : Int))) - (v12 + 1)).toNat < n0; omega
   ·exact ⟨(by show 0 <= (v12 + 1); first | trivial | omega | exact at0 | exact at1 | exact at2 | (simp; omega) | simp), (by show ((v12 + 1) <= ((l.length : Int)) \/ (v12 + 1) = 0); first | trivial | omega | exact at0 | exact at1 | exact at2 | (simp; omega) | simp), (by show ((out ++ [FasQ (l.getD v12.toNat default)]).length : Int) <= 0 + 1 * ((v12 + 1) - 0); first | trivial | omega | exact at0 | exact at1 | exact at2 | (simp; omega) | simp)⟩
  ·have g1 := of_decide_eq_false h1
   refine aw_exit <| ath_e ?_
   refine ath_e <| abl_hit ?_
   refine ath_n <| aw_seq ?_
   refine aw_cv (Cv.trans (cv_fix (⟨[(1, .av (.one (.clo 116 0 (fun _ => default)))), (5, .av (.one (.eptr 1 1 (fun _ j_ => ([.clo 117 0 (fun _ => default)] : List Cl).getD j_ default) 0 0))), (7, .av (.one (.own 100000 7 out.length))), (10, .av (.one (lst 7 TPlaced.c l))), (11, tI ((l.length : Int))), (12, tI v12), (13, tB (decide ((v12 : Int) < ((l.length : Int)))))], [(100000, .row 7 out.length (rowF TPlaced.c out) 160)]⟩) 5 [.clo 117 0 (fun _ => default)] 228 (K := []) (fun k x h => by cases h) kr kr kr kr) (Cv.refl _)) ?_
   refine aw_region eqok [] [] [(25, (Z0y out))] [7] [100000] [Same (Z0y out).2.1, SameB (.row 7 out.length (rowF TPlaced.c out) 160)] ⟨[(7, .av (.one (.own 100000 7 out.length)))], [(100000, .row 7 out.length (rowF TPlaced.c (FSrtQ out)) 160)]⟩ (.cons (callOk_wrR (fun _ _ => kr) kr (pSrtQ out au2)) .nil) kr (.cons rfl (.cons rfl .nil)) <| ath_n ?_
   refine aw_cv (Cv.trans (cv_ce (⟨[(7, .av (.one (.own 100000 7 ((FSrtQ out).length))))], [(100000, .row 7 ((FSrtQ out).length) (rowF TPlaced.c (FSrtQ out)) 160)]⟩) (.cons ⟨rfl, .av (.one (.own _ _ (FSrtQ_len out au2).symm))⟩ .nil) (.cons ⟨rfl, bke_told 160 (⟨(FSrtQ_len out au2).symm, fun _ _ _ _ => .refl _⟩)⟩ .nil)) (Cv.refl _)) <| aw_seq ?_
   refine aw_region eqok [] [] [] [6] [100000] [] ⟨[(6, .av (.one (.own 100000 7 ((FSrtQ out).length))))], [(100000, .row 7 ((FSrtQ out).length) (rowF TPlaced.c (FSrtQ out)) 160)]⟩ .nil kr .nil <| ath_n <| aw_ret ?_
   exact ⟨_, Cv.refl _, .inl rfl, .av (.one (.own 100000 7 ((FSrtQ out).length))), by kernel_rfl, frE (c := TPlaced.c) (xs := FSrtQ out) (by rw [<- hF0]; first | (simp only [FsortedQ_l0, h1, cond_true, cond_false] <;> rfl)) kr⟩
def Z0z (b : TBoard) : FuncId × List Av × Ef := (115, [.one (lst 7 TPlaced.c b.Parts), .one (.clo 116 0 (fun _ => default)), .one (.clo 117 0 (fun _ => default))], .new [] (.row 7 (FsortedQ b.Parts).length (rowF TPlaced.c (FsortedQ b.Parts)) 160) (fun d => .av (.one (.own d 7 (FsortedQ b.Parts).length))))
def Fparts (b : TBoard) : (List TPlaced) := FsortedQ b.Parts
theorem qparts (b : TBoard) (hl : b.Parts.length < 20) : Fr Tryz.prog 61 [.agg (TBoard.c b)] (.row 7 (Fparts b).length (rowF TPlaced.c (Fparts b)) 160) (fun d => .av (.one (.own d 7 (Fparts b).length))) := by
 refine fr_of_awF Tryz.func61 rfl kr (ownV_one _ _) fun W0 M0 => ?_
 refine aw_seq ?_
 refine aw_region eqok [] [] [] [1] [1] [] ⟨[(1, tP 1 0)], [(1, .cells (TBoard.c b) 41)]⟩ .nil kr .nil <| ath_n <| aw_seq ?_
 refine aw_region eqok [] [] [(5, (Z0z b))] [2] [5] [Same (Z0z b).2.1] ⟨[(2, .av (.one (.own 5 7 ((FsortedQ b.Parts).length))))], [(5, .row 7 ((FsortedQ b.Parts).length) (rowF TPlaced.c (FsortedQ b.Parts)) 160)]⟩ (.cons (callOk_fr (fun _ _ => kr) (qsortedQ b.Parts au2)) .nil) kr (.cons rfl .nil) <| ath_n <| aw_ret ?_
 exact ⟨_, Cv.refl _, .inl rfl, .av (.one (.own 5 7 ((FsortedQ b.Parts).length))), by kernel_rfl, frE (c := TPlaced.c) (xs := FsortedQ b.Parts) (by rfl) kr⟩
def cparts (b : TBoard) : FuncId × List Av × Ef := (61, [.agg (TBoard.c b)], .new [] (.row 7 (Fparts b).length (rowF TPlaced.c (Fparts b)) 160) (fun d => .av (.one (.own d 7 (Fparts b).length))))
theorem okparts (b : TBoard) (hl : b.Parts.length < 20) : CallOk Tryz.prog (cparts b).1 (cparts b).2.1 (cparts b).2.2 := callOk_fr (fun _ _ => kr) (qparts b hl)
theorem FsortedQ_eq (l : List TPlaced) : FsortedQ l = isortB (fun x y => decide (FcmpQ x y < 0)) l := by
 unfold FsortedQ
 have h := cp_l l (FsortedQ_l0 l) (fun acc _ => FSrtQ acc) (fun m acc v => by
  rw [FsortedQ_l0, Int.toNat_natCast]
  rfl) l.length 0 ((((l.length : Int)) - 0).toNat + 1) [] rfl (Nat.zero_le _) (by omega)
 rw [List.drop_zero, List.nil_append] at h
 exact h.trans (FSrtQ_eq l)
theorem Fparts_eq (b : TBoard) : Fparts b = isortB (fun x y => decide (FcmpQ x y < 0)) b.Parts := FsortedQ_eq _
theorem Fparts_len (b : TBoard) : (Fparts b).length = b.Parts.length := by rw [Fparts_eq]; exact isortB_len _ _
def FasS (t : TSlot) : TSlot := t
def casS (t : TSlot) : FuncId × List Av × Ef := (121, [.agg (TSlot.c t)], .val [] (.av (.agg (TSlot.c (FasS t)))))
theorem pasS (t : TSlot) : Pure Tryz.prog 121 (casS t).2.1 (.av (.agg (TSlot.c (FasS t)))) := by
 refine pure_of_awF Tryz.func121 rfl kr kr fun W0 M0 => ?_
 refine aw_seq ?_
 refine aw_region eqok [] [] [] [1, 2] [1, 2] [] ⟨[(1, tP 1 0), (2, tP 2 0)], [(1, .cells (TSlot.c t) 112), (2, .cells [.i 0, .i 0, vN, .i 0] 165)]⟩ .nil kr .nil <| ath_n <| aw_seq ?_
 refine aw_region eqok [] [] [] [2] [2] [] ⟨[(2, tP 2 0)], [(2, .cells (TSlot.c t) 165)]⟩ .nil kr .nil <| ath_n <| aw_ret ?_
 exact ⟨_, Cv.refl _, .inl rfl, .av (.agg (TSlot.c t)), by kernel_rfl, tve_eq (by rfl)⟩
theorem okasS (t : TSlot) : CallOk Tryz.prog (casS t).1 (casS t).2.1 (casS t).2.2 := callOk_pure (fun _ _ => kr) fun _ => pasS t
def FidS (t : TSlot) : Int := t.Id
def cidS (t : TSlot) : FuncId × List Av × Ef := (122, [.agg (TSlot.c t)], .val [] (.av (.one (.i (FidS t)))))
theorem pidS (t : TSlot) : Pure Tryz.prog 122 (cidS t).2.1 (.av (.one (.i (FidS t)))) := by
 refine pure_of_awF Tryz.func122 rfl kr kr fun W0 M0 => ?_
 refine aw_seq ?_
 refine aw_region eqok [] [] [] [1] [1] [] ⟨[(1, tP 1 0)], [(1, .cells (TSlot.c t) 165)]⟩ .nil kr .nil <| ath_n <| aw_seq ?_
 refine aw_region eqok [] [] [] [2] [] [] ⟨[(2, tI t.Id)], []⟩ .nil kr .nil <| ath_n <| aw_ret ?_
 exact ⟨_, Cv.refl _, .inl rfl, .av (.one (.i t.Id)), by kernel_rfl, tve_eq (by rfl)⟩
theorem okidS (t : TSlot) : CallOk Tryz.prog (cidS t).1 (cidS t).2.1 (cidS t).2.2 := callOk_pure (fun _ _ => kr) fun _ => pidS t
def FcmpS (a : TSlot) (b_ : TSlot) : Int := FCompare (FidS a) (FidS b_)
theorem pcmpS  (a : TSlot) (b_ : TSlot) : Pure Tryz.prog 162 [.agg (TSlot.c a), .agg (TSlot.c b_), .one (.eptr 1 1 (fun _ j_ => ([.clo 122 0 (fun _ => default)] : List Cl).getD j_ default) 0 0)] (.av (.one (.i (FcmpS a b_)))) := by
 refine pure_of_awF Tryz.func162 rfl kr kr fun W0 M0 => ?_
 refine aw_seq ?_
 refine aw_region eqok [] [] [] [2, 3, 4] [3, 4] [] ⟨[(2, .av (.one (.eptr 1 1 (fun _ j_ => ([.clo 122 0 (fun _ => default)] : List Cl).getD j_ default) 0 0))), (3, tP 3 0), (4, tP 4 0)], [(3, .cells (TSlot.c a) 165), (4, .cells (TSlot.c b_) 165)]⟩ .nil kr .nil <| ath_n <| aw_seq ?_
 refine aw_draw mixed eqok [] [] [(8, cidS a), (11, cidS b_), (12, cCompare (FidS a) (FidS b_))] [5] [] [Same (cidS a).2.1, Same (cidS b_).2.1, Same (cCompare (FidS a) (FidS b_)).2.1] ⟨[(5, tI (FCompare (FidS a) (FidS b_)))], []⟩ (.cons (okidS a) (.cons (okidS b_) (.cons (okCompare (FidS a) (FidS b_)) .nil))) kr kr (.cons rfl (.cons rfl (.cons rfl .nil))) <| ath_n <| aw_ret ?_
 exact ⟨_, Cv.refl _, .inl rfl, .av (.one (.i (FCompare (FidS a) (FidS b_)))), by kernel_rfl, tve_eq (by rfl)⟩
def Z0A (data' : List TSlot) (j : Int) : FuncId × List Av × Ef := (162, [.agg (TSlot.c (data'.getD j.toNat default)), .agg (TSlot.c (data'.getD ((W64 (j - 1)).toNat) default)), .one (.eptr 1 1 (fun _ j_ => ([.clo 122 0 (fun _ => default)] : List Cl).getD j_ default) 0 0)], .val [] (tI (FcmpS (data'.getD j.toNat default) (data'.getD ((W64 (j - 1)).toNat) default))))
def FInsS_l1 (l : (List TSlot)) (n : Int) (data : List TSlot) (i : Int) (K0 : List TSlot -> Int -> (List TSlot)) : Nat -> List TSlot -> Int -> (List TSlot)
 | 0, _, _ => default
 | n1 + 1, data', j => bif bif decide ((0 : Int) < j) then decide (((FcmpS (data'.getD j.toNat default) (data'.getD ((j - 1).toNat) default)) : Int) < 0) else false then ((FInsS_l1 l n data i K0 n1) ((data'.set j.toNat (data'.getD ((j - 1).toNat) default)).set ((j - 1).toNat) (data'.getD j.toNat default)) (j - 1)) else (K0 data' (i + 1))
def FInsS_l0 (l : (List TSlot)) (n : Int) : Nat -> List TSlot -> Int -> (List TSlot)
 | 0, _, _ => default
 | n0 + 1, data, i => bif decide ((i : Int) < n) then (FInsS_l1 l n data i (FInsS_l0 l n n0) (i.toNat + 1) data i) else (data)
def FInsS (l : (List TSlot)) (n : Int) : (List TSlot) := FInsS_l0 l n ((n - 1).toNat + 1) l 1
theorem pInsS (l : (List TSlot)) (n : Int) (hn : n = (l.length : Int)) (hl : l.length < 20) : WrR Tryz.prog 187 1000 [.one (.own 1000 4 l.length), .one (.i 0), .one (.i n), .one (.clo 162 1 (listF [.eptr 1 1 (fun _ j_ => ([.clo 122 0 (fun _ => default)] : List Cl).getD j_ default) 0 0]))] 4 l.length (rowF TSlot.c l) 165 (.tup []) (rowF TSlot.c (FInsS l n)) := by
 refine wrR_of_awF Tryz.func187 rfl kr kr kr fun W0 M0 X hX => ?_
 refine aw_seq ?_
 refine aw_region eqok [] [] [] [0, 1, 2, 3, 8] [1000] [] ⟨[(0, .av (.one (.own 1000 4 l.length))), (1, tI 0), (2, tI n), (3, .av (.one (.clo 162 1 (listF [.eptr 1 1 (fun _ j_ => ([.clo 122 0 (fun _ => default)] : List Cl).getD j_ default) 0 0])))), (8, tI 1)], [(1000, .row 4 l.length (rowF TSlot.c l) 165)]⟩ .nil kr .nil <| ath_n <| aw_block ?_
 refine aw_loopC (ι := Nat × List TSlot × Int) (fun x => ⟨[(0, .av (.one (.own 1000 4 x.2.1.length))), (1, tI 0), (2, tI n), (3, .av (.one (.clo 162 1 (listF [.eptr 1 1 (fun _ j_ => ([.clo 122 0 (fun _ => default)] : List Cl).getD j_ default) 0 0])))), (8, tI x.2.2)], [(1000, .row 4 x.2.1.length (rowF TSlot.c x.2.1) 165)]⟩) (fun x => (n - x.2.2).toNat < x.1 /\ (1 <= x.2.2 /\ x.2.1.length = l.length /\ 1 <= x.2.2 /\ (x.2.2 <= n \/ x.2.2 = 1)) /\ FInsS_l0 l n x.1 x.2.1 x.2.2 = FInsS l n) (fun x => x.1) ?_ ((n - 1).toNat + 1, l, 1) ⟨Nat.lt_succ_self _, ⟨(by show 1 <= 1; first | trivial | omega | exact at0 | exact at1 | exact at2 | (simp; omega) | simp), (by show l.length = l.length; first | trivial | omega | exact at0 | exact at1 | exact at2 | (simp; omega) | simp), (by show 1 <= 1; first | trivial | omega | exact at0 | exact at1 | exact at2 | (simp; omega) | simp), (by show (1 <= n \/ 1 = 1); first | trivial | omega | exact at0 | exact at1 | exact at2 | (simp; omega) | simp)⟩, (by simp only [FInsS, cond_true, cond_false])⟩
 rintro ⟨n0, data, i⟩ ⟨hn, hinv, hF⟩
 have hm0 : (n - i).toNat < n0 := hn; have hinv0 : 1 <= i /\ data.length = l.length /\ 1 <= i /\ (i <= n \/ i = 1) := hinv; have hF0 : FInsS_l0 l n n0 data i = FInsS l n := hF; clear hn hinv hF
 cases n0 with
 | zero => exact absurd hm0 (Nat.not_lt_zero _)
 | succ n0 =>
  refine aw_seq <| aw_seq ?_
  refine aw_region eqok [] [] [] [0, 1, 2, 3, 8, 14] [1000] [] ⟨[(0, .av (.one (.own 1000 4 data.length))), (1, tI 0), (2, tI n), (3, .av (.one (.clo 162 1 (listF [.eptr 1 1 (fun _ j_ => ([.clo 122 0 (fun _ => default)] : List Cl).getD j_ default) 0 0])))), (8, tI i), (14, tB (decide ((i : Int) < n)))], [(1000, .row 4 data.length (rowF TSlot.c data) 165)]⟩ .nil kr .nil <| ath_n ?_
  refine aw_cond (decide ((i : Int) < n)) kr (fun h1 => ?_) (fun h1 => ?_)
  ·have g1 := of_decide_eq_true h1
   refine aw_skip <| ath_n ?_
   refine aw_seq <| aw_block <| aw_seq ?_
   refine aw_region eqok [] [] [] [0, 1, 2, 3, 8, 9] [1000] [] ⟨[(0, .av (.one (.own 1000 4 data.length))), (1, tI 0), (2, tI n), (3, .av (.one (.clo 162 1 (listF [.eptr 1 1 (fun _ j_ => ([.clo 122 0 (fun _ => default)] : List Cl).getD j_ default) 0 0])))), (8, tI i), (9, tI i)], [(1000, .row 4 data.length (rowF TSlot.c data) 165)]⟩ .nil kr .nil <| ath_n <| aw_block ?_
   refine aw_loopC (ι := Nat × List TSlot × Int) (fun x => ⟨[(0, .av (.one (.own 1000 4 x.2.1.length))), (1, tI 0), (2, tI n), (3, .av (.one (.clo 162 1 (listF [.eptr 1 1 (fun _ j_ => ([.clo 122 0 (fun _ => default)] : List Cl).getD j_ default) 0 0])))), (8, tI i), (9, tI x.2.2)], [(1000, .row 4 x.2.1.length (rowF TSlot.c x.2.1) 165)]⟩) (fun x => x.2.2.toNat < x.1 /\ (0 <= x.2.2 /\ x.2.1.length = l.length /\ x.2.2 < n) /\ FInsS_l1 l n data i (FInsS_l0 l n n0) x.1 x.2.1 x.2.2 = FInsS l n) (fun x => x.1) ?_ (i.toNat + 1, data, i) ⟨Nat.lt_succ_self _, ⟨(by show 0 <= i; first | trivial | omega | exact at0 | exact at1 | exact at2 | (simp; omega) | simp), (by show data.length = l.length; first | trivial | omega | exact at0 | exact at1 | exact at2 | (simp; omega) | simp), (by show i < n; first | trivial | omega | exact at0 | exact at1 | exact at2 | (simp; omega) | simp)⟩, (by rw [<- hF0]; simp only [FInsS_l0, h1, cond_true, cond_false])⟩
   rintro ⟨n1, data', j⟩ ⟨hn, hinv, hF⟩
   have hm1 : j.toNat < n1 := hn; have hinv1 : 0 <= j /\ data'.length = l.length /\ j < n := hinv; have hF1 : FInsS_l1 l n data i (FInsS_l0 l n n0) n1 data' j = FInsS l n := hF; clear hn hinv hF
   cases n1 with
   | zero => exact absurd hm1 (Nat.not_lt_zero _)
   | succ n1 =>
    refine aw_seq <| aw_seq ?_
    refine aw_draw mixed eqok [] [] [(32, (Z0A data' j))] [0, 1, 2, 3, 8, 9, 34] [1000] [((decide ((0 : Int) < j)) = true) -> ((decide ((0 : Int) < j)) = true), ((decide ((0 : Int) < j)) = true) -> ((decide ((0 : Int) < j)) = true), ((decide ((0 : Int) < j)) = true) -> (0 <= (j : Int) /\ (j : Int) < ((data'.length : Nat) : Int)), ((decide ((0 : Int) < j)) = true) -> ((decide ((0 : Int) < j)) = true), ((decide ((0 : Int) < j)) = true) -> (j.toNat < data'.length), ((decide ((0 : Int) < j)) = true) -> ((decide ((0 : Int) < j)) = true), ((decide ((0 : Int) < j)) = true) -> ((decide ((0 : Int) < j)) = true), ((decide ((0 : Int) < j)) = true) -> ((decide ((0 : Int) < j)) = true), ((decide ((0 : Int) < j)) = true) -> (0 <= (W64 (j - 1) : Int) /\ (W64 (j - 1) : Int) < ((data'.length : Nat) : Int)), ((decide ((0 : Int) < j)) = true) -> ((decide ((0 : Int) < j)) = true), ((decide ((0 : Int) < j)) = true) -> ((W64 (j - 1)).toNat < data'.length), ((decide ((0 : Int) < j)) = true) -> ((decide ((0 : Int) < j)) = true), ((decide ((0 : Int) < j)) = true) -> ((decide ((0 : Int) < j)) = true), ((decide ((0 : Int) < j)) = true) -> ((decide ((0 : Int) < j)) = true), ((decide ((0 : Int) < j)) = true) -> (Same (Z0A data' j).2.1), ((decide ((0 : Int) < j)) = true) -> ((decide ((0 : Int) < j)) = true), (decide ((0 : Int) < j)) = true -> ((decide ((0 : Int) < j)) = true)] ⟨[(0, .av (.one (.own 1000 4 data'.length))), (1, tI 0), (2, tI n), (3, .av (.one (.clo 162 1 (listF [.eptr 1 1 (fun _ j_ => ([.clo 122 0 (fun _ => default)] : List Cl).getD j_ default) 0 0])))), (8, tI i), (9, tI j), (34, tB (bif decide ((0 : Int) < j) then decide (((FcmpS (data'.getD j.toNat default) (data'.getD ((W64 (j - 1)).toNat) default)) : Int) < 0) else false))], [(1000, .row 4 data'.length (rowF TSlot.c data') 165)]⟩ (.cons (callOk_pure (fun _ _ => kr) fun _ => pcmpS (data'.getD j.toNat default) (data'.getD ((W64 (j - 1)).toNat) default)) .nil) kr kr (.cons id (.cons id (.cons (fun hG => by first | exact au0 | (simp only [decide_eq_true_eq, decide_eq_false_iff_not, Bool.not_eq_true, Bool.and_eq_true] at hG <;> omega) | (simp at hG <;> omega) | (simp only [decide_eq_true_eq, decide_eq_false_iff_not] at hG; simp only [W64_def]; omega)) (.cons id (.cons (fun hG => by first | exact au0 | (simp only [decide_eq_true_eq, decide_eq_false_iff_not, Bool.not_eq_true, Bool.and_eq_true] at hG <;> omega) | (simp at hG <;> omega) | (simp only [decide_eq_true_eq, decide_eq_false_iff_not] at hG; simp only [W64_def]; omega)) (.cons id (.cons id (.cons id (.cons (fun hG => by first | exact au0 | (simp only [decide_eq_true_eq, decide_eq_false_iff_not, Bool.not_eq_true, Bool.and_eq_true] at hG <;> omega) | (simp at hG <;> omega) | (simp only [decide_eq_true_eq, decide_eq_false_iff_not] at hG; simp only [W64_def]; omega)) (.cons id (.cons (fun hG => by first | exact au0 | (simp only [decide_eq_true_eq, decide_eq_false_iff_not, Bool.not_eq_true, Bool.and_eq_true] at hG <;> omega) | (simp at hG <;> omega) | (simp only [decide_eq_true_eq, decide_eq_false_iff_not] at hG; simp only [W64_def]; omega)) (.cons id (.cons id (.cons id (.cons (fun _ => rfl) (.cons id (.cons id .nil))))))))))))))))) ?_
    (try rw [(show W64 (j - 1) = j - 1 from W64_id (by omega) (by omega))])
    refine ath_n ?_
    refine aw_cond (bif decide ((0 : Int) < j) then decide (((FcmpS (data'.getD j.toNat default) (data'.getD ((j - 1).toNat) default)) : Int) < 0) else false) kr (fun h2 => ?_) (fun h2 => ?_)
    ·have g2 := and_dec h2
     refine aw_skip <| ath_n ?_
     refine aw_seq <| aw_block ?_
     refine aw_draw mixed eqok [] [] [] [0, 1, 2, 3, 8, 9] [1000] [0 <= (W64 (j - 1) : Int) /\ (W64 (j - 1) : Int) < ((data'.length : Nat) : Int), (W64 (j - 1)).toNat < data'.length, 0 <= (j : Int) /\ (j : Int) < ((data'.length : Nat) : Int), j.toNat < data'.length, 0 <= (j : Int) /\ (j : Int) < ((data'.length : Nat) : Int), j.toNat < data'.length, 0 <= (W64 (j - 1) : Int) /\ (W64 (j - 1) : Int) < ((data'.length : Nat) : Int), (W64 (j - 1)).toNat < data'.length] ⟨[(0, .av (.one (.own 1000 4 data'.length))), (1, tI 0), (2, tI n), (3, .av (.one (.clo 162 1 (listF [.eptr 1 1 (fun _ j_ => ([.clo 122 0 (fun _ => default)] : List Cl).getD j_ default) 0 0])))), (8, tI i), (9, tI j)], [(1000, .row 4 data'.length (fun i_ j_ => if i_ = (W64 (j - 1)).toNat /\ 0 <= j_ /\ j_ < 0 + 4 then ([.i ((data'.getD j.toNat default).Id), .i (((data'.getD j.toNat default).Shape).Kind), lst 7 TEdge.c (((data'.getD j.toNat default).Shape).Edges), .i (((data'.getD j.toNat default).Shape).R)] : List Cl).getD (j_ - 0) default else (fun i_ j_ => if i_ = j.toNat /\ 0 <= j_ /\ j_ < 0 + 4 then ([.i ((data'.getD ((W64 (j - 1)).toNat) default).Id), .i (((data'.getD ((W64 (j - 1)).toNat) default).Shape).Kind), lst 7 TEdge.c (((data'.getD ((W64 (j - 1)).toNat) default).Shape).Edges), .i (((data'.getD ((W64 (j - 1)).toNat) default).Shape).R)] : List Cl).getD (j_ - 0) default else (rowF TSlot.c data') i_ j_) i_ j_) 165)]⟩ .nil kr kr (.cons au0 (.cons au0 (.cons au0 (.cons au0 (.cons au0 (.cons au0 (.cons au0 (.cons au0 .nil)))))))) ?_
     (try rw [(show W64 (j - 1) = j - 1 from W64_id (by omega) (by omega))])
     refine abl_n <| ath_n ?_
     refine aw_cv (Cv.trans (cv_ce (⟨[(0, .av (.one (.own 1000 4 (((data'.set j.toNat (data'.getD ((j - 1).toNat) default)).set ((j - 1).toNat) (data'.getD j.toNat default)).length)))), (1, tI 0), (2, tI n), (3, .av (.one (.clo 162 1 (listF [.eptr 1 1 (fun _ j_ => ([.clo 122 0 (fun _ => default)] : List Cl).getD j_ default) 0 0])))), (8, tI i), (9, tI j)], [(1000, .row 4 (((data'.set j.toNat (data'.getD ((j - 1).toNat) default)).set ((j - 1).toNat) (data'.getD j.toNat default)).length) (rowF TSlot.c ((data'.set j.toNat (data'.getD ((j - 1).toNat) default)).set ((j - 1).toNat) (data'.getD j.toNat default))) 165)]⟩) (.cons ⟨rfl, .av (.one (.own _ _ au3))⟩ lr) (.cons ⟨rfl, bke_told 165 (told_set (l := [.i ((data'.getD j.toNat default).Id), .i (((data'.getD j.toNat default).Shape).Kind), lst 7 TEdge.c (((data'.getD j.toNat default).Shape).Edges), .i (((data'.getD j.toNat default).Shape).R)]) (off := 0) (q := 4) (k := (j - 1).toNat) (told_set (l := [.i ((data'.getD ((j - 1).toNat) default).Id), .i (((data'.getD ((j - 1).toNat) default).Shape).Kind), lst 7 TEdge.c (((data'.getD ((j - 1).toNat) default).Shape).Edges), .i (((data'.getD ((j - 1).toNat) default).Shape).R)]) (off := 0) (q := 4) (k := j.toNat) (told_rfl 4 TSlot.c data') au0 (data'.getD ((j - 1).toNat) default) (tab_get kr)) au0 (data'.getD j.toNat default) (tab_get kr))⟩ .nil)) (Cv.refl _)) ?_
     refine aw_region eqok [] [] [] [0, 1, 2, 3, 8, 9] [1000] [] ⟨[(0, .av (.one (.own 1000 4 (((data'.set j.toNat (data'.getD ((j - 1).toNat) default)).set ((j - 1).toNat) (data'.getD j.toNat default)).length)))), (1, tI 0), (2, tI n), (3, .av (.one (.clo 162 1 (listF [.eptr 1 1 (fun _ j_ => ([.clo 122 0 (fun _ => default)] : List Cl).getD j_ default) 0 0])))), (8, tI i), (9, tI (W64 (j - 1)))], [(1000, .row 4 (((data'.set j.toNat (data'.getD ((j - 1).toNat) default)).set ((j - 1).toNat) (data'.getD j.toNat default)).length) (rowF TSlot.c ((data'.set j.toNat (data'.getD ((j - 1).toNat) default)).set ((j - 1).toNat) (data'.getD j.toNat default))) 165)]⟩ .nil kr .nil ?_
     (try rw [(show W64 (j - 1) = j - 1 from W64_id (by omega) (by omega))])
     refine ath_n ?_
     refine ⟨(n1, (data'.set j.toNat (data'.getD ((j - 1).toNat) default)).set ((j - 1).toNat) (data'.getD j.toNat default), j - 1), ⟨?_, ?_, (by rw [<- hF1]; simp only [FInsS_l1, h2, cond_true, cond_false])⟩, Nat.lt_succ_self _, cv_eq kr⟩
     ·show (j - 1).toNat < n1; omega
     ·exact ⟨(by show 0 <= (j - 1); first | trivial | omega | exact at0 | exact at1 | exact at2 | (simp; omega) | simp), (by show ((data'.set j.toNat (data'.getD ((j - 1).toNat) default)).set ((j - 1).toNat) (data'.getD j.toNat default)).length = l.length; first | trivial | omega | exact at0 | exact at1 | exact at2 | (simp; omega) | simp), (by show (j - 1) < n; first | trivial | omega | exact at0 | exact at1 | exact at2 | (simp; omega) | simp)⟩
    ·refine aw_exit <| ath_e ?_
     refine ath_e <| abl_hit ?_
     refine abl_n <| ath_n ?_
     refine aw_region eqok [] [] [] [0, 1, 2, 3, 8] [1000] [] ⟨[(0, .av (.one (.own 1000 4 data'.length))), (1, tI 0), (2, tI n), (3, .av (.one (.clo 162 1 (listF [.eptr 1 1 (fun _ j_ => ([.clo 122 0 (fun _ => default)] : List Cl).getD j_ default) 0 0])))), (8, tI (W64 (i + 1)))], [(1000, .row 4 data'.length (rowF TSlot.c data') 165)]⟩ .nil kr .nil ?_
     (try rw [(show W64 (i + 1) = i + 1 from W64_id (by omega) (by omega))])
     refine ath_n ?_
     refine ⟨(n0, data', i + 1), ⟨?_, ?_, (by rw [<- hF1]; simp only [FInsS_l1, h2, cond_true, cond_false])⟩, Nat.lt_succ_self _, cv_eq kr⟩
     ·show (n - (i + 1)).toNat < n0; omega
     ·exact ⟨(by show 1 <= (i + 1); first | trivial | omega | exact at0 | exact at1 | exact at2 | (simp; omega) | simp), (by show data'.length = l.length; first | trivial | omega | exact at0 | exact at1 | exact at2 | (simp; omega) | simp), (by show 1 <= (i + 1); first | trivial | omega | exact at0 | exact at1 | exact at2 | (simp; omega) | simp), (by show ((i + 1) <= n \/ (i + 1) = 1); first | trivial | omega | exact at0 | exact at1 | exact at2 | (simp; omega) | simp)⟩
  ·have g1 := of_decide_eq_false h1
   refine aw_exit <| ath_e ?_
   refine ath_e <| abl_hit ?_
   exact ⟨_, Cv.refl _, .inr rfl, .tup [], by kernel_rfl, tve_eq rfl, .row 4 data.length (rowF TSlot.c data) 165, by kernel_rfl, bke_rowlen (c := TSlot.c) (xs := data) (by rw [<- hF0]; first | (simp only [FInsS_l0, h1, cond_true, cond_false] <;> rfl)) au11⟩
theorem FInsS_eq (l : List TSlot) (n : Int) (hn : n = (l.length : Int)) : FInsS l n = isortB (fun x y => decide (FcmpS x y < 0)) l := by
 unfold FInsS
 cases l with
 | nil => subst hn; rfl
 | cons a l =>
  have h := ins_l0 (fun x y => decide (FcmpS x y < 0)) (a :: l) (FInsS_l0 (a :: l) n) id (fun m d i hi => by
   rw [FInsS_l0, decide_eq_false (by omega), cond_false]; rfl) (fun m i out rest x hi ho => by
   rw [FInsS_l0, decide_eq_true (by omega), cond_true]
   have h1 := ins_l1 (fun x y => decide (FcmpS x y < 0)) (FInsS_l1 (a :: l) n (out ++ x :: rest) i (FInsS_l0 (a :: l) n m)) (fun d => FInsS_l0 (a :: l) n m d ((i : Int) + 1)) (fun m d j => by
    rw [FInsS_l1, Int.toNat_natCast, show ((j : Int) - 1).toNat = j - 1 by omega]) out rest x i ((i : Int).toNat + 1) (by omega) (by omega)
   subst ho
   rw [List.take_length, List.drop_length, List.nil_append] at h1
   rw [h1]
   unfold insR
   rw [List.append_assoc]; rfl) ((a :: l).length - 1) ((n - 1).toNat + 1) 1 rfl (by simp) (by omega)
  exact h
theorem FInsS_len (l : List TSlot) (n : Int) (hn : n = (l.length : Int)) (hl : l.length < 20) : (FInsS l n).length = l.length := by rw [FInsS_eq l n hn, isortB_len]
def Z0B (l : (List TSlot)) (n : Int) : FuncId × List Av × Ef := (187, ([.one (.own 1000 4 l.length), .one (.i 0), .one (.i n), .one (.clo 162 1 (listF [.eptr 1 1 (fun _ j_ => ([.clo 122 0 (fun _ => default)] : List Cl).getD j_ default) 0 0]))] : List Av).map (renR 1000 1000), wrI 1000 (.row 4 l.length (rowF TSlot.c l) 165) (.tup []) (.row 4 l.length (rowF TSlot.c (FInsS l n)) 165))
def FStaS (l : (List TSlot)) (n : Int) : (List TSlot) := FInsS l n
theorem pStaS (l : (List TSlot)) (n : Int) (hn : n = (l.length : Int)) (hl : l.length < 20) : WrR Tryz.prog 171 1000 [.one (.own 1000 4 l.length), .one (.i n), .one (.clo 162 1 (listF [.eptr 1 1 (fun _ j_ => ([.clo 122 0 (fun _ => default)] : List Cl).getD j_ default) 0 0]))] 4 l.length (rowF TSlot.c l) 165 (.tup []) (rowF TSlot.c (FStaS l n)) := by
 refine wrR_of_awF Tryz.func171 rfl kr kr kr fun W0 M0 X hX => ?_
 refine aw_seq ?_
 refine aw_region eqok [] [] [] [0, 1, 2, 6] [1000] [] ⟨[(0, .av (.one (.own 1000 4 l.length))), (1, tI n), (2, .av (.one (.clo 162 1 (listF [.eptr 1 1 (fun _ j_ => ([.clo 122 0 (fun _ => default)] : List Cl).getD j_ default) 0 0])))), (6, tI 20)], [(1000, .row 4 l.length (rowF TSlot.c l) 165)]⟩ .nil kr .nil <| ath_n <| aw_seq ?_
 refine aw_region eqok [] [] [] [0, 1, 2, 6, 7, 8] [1000] [] ⟨[(0, .av (.one (.own 1000 4 l.length))), (1, tI n), (2, .av (.one (.clo 162 1 (listF [.eptr 1 1 (fun _ j_ => ([.clo 122 0 (fun _ => default)] : List Cl).getD j_ default) 0 0])))), (6, tI 20), (7, tI 0), (8, tI 20)], [(1000, .row 4 l.length (rowF TSlot.c l) 165)]⟩ .nil kr .nil <| ath_n ?_
 refine aw_seq <| aw_block ?_
 refine aw_unroll 1 ?_
 refine aw_round <| aw_seq <| aw_seq ?_
 refine aw_region eqok [] [] [] [0, 1, 2, 6, 7, 8, 13] [1000] [] ⟨[(0, .av (.one (.own 1000 4 l.length))), (1, tI n), (2, .av (.one (.clo 162 1 (listF [.eptr 1 1 (fun _ j_ => ([.clo 122 0 (fun _ => default)] : List Cl).getD j_ default) 0 0])))), (6, tI 20), (7, tI 0), (8, tI 20), (13, tB (decide ((20 : Int) <= n)))], [(1000, .row 4 l.length (rowF TSlot.c l) 165)]⟩ .nil kr .nil <| ath_n ?_
 have h1 : (decide ((20 : Int) <= n)) = false := decide_eq_false (by omega)
 have g1 := of_decide_eq_false h1
 refine aw_cond (decide ((20 : Int) <= n)) kr (fun h => absurd (h1.symm.trans h) (by decide)) (fun _ => ?_)
 refine aw_exit <| ath_e ?_
 refine ath_e <| abl_hit ?_
 refine ath_n <| aw_seq ?_
 refine aw_region eqok [] [] [(27, (Z0B l n))] [0, 1, 2, 6] [1000] [Same (Z0B l n).2.1, SameB (.row 4 l.length (rowF TSlot.c l) 165)] ⟨[(0, .av (.one (.own 1000 4 l.length))), (1, tI n), (2, .av (.one (.clo 162 1 (listF [.eptr 1 1 (fun _ j_ => ([.clo 122 0 (fun _ => default)] : List Cl).getD j_ default) 0 0])))), (6, tI 20)], [(1000, .row 4 l.length (rowF TSlot.c (FInsS l n)) 165)]⟩ (.cons (callOk_wrR (fun _ _ => kr) kr (pInsS l n au2 au2)) .nil) kr (.cons rfl (.cons rfl .nil)) <| ath_n ?_
 refine aw_cv (Cv.trans (cv_ce (⟨[(0, .av (.one (.own 1000 4 ((FInsS l n).length)))), (1, tI n), (2, .av (.one (.clo 162 1 (listF [.eptr 1 1 (fun _ j_ => ([.clo 122 0 (fun _ => default)] : List Cl).getD j_ default) 0 0])))), (6, tI 20)], [(1000, .row 4 ((FInsS l n).length) (rowF TSlot.c (FInsS l n)) 165)]⟩) (.cons ⟨rfl, .av (.one (.own _ _ (FInsS_len l n au2 au2).symm))⟩ lr) (.cons ⟨rfl, bke_told 165 (⟨(FInsS_len l n au2 au2).symm, fun _ _ _ _ => .refl _⟩)⟩ .nil)) (Cv.refl _)) <| aw_block ?_
 refine aw_unroll 1 ?_
 refine aw_round <| aw_seq <| aw_seq ?_
 refine aw_region eqok [] [] [] [0, 1, 2, 6, 30] [1000] [] ⟨[(0, .av (.one (.own 1000 4 ((FInsS l n).length)))), (1, tI n), (2, .av (.one (.clo 162 1 (listF [.eptr 1 1 (fun _ j_ => ([.clo 122 0 (fun _ => default)] : List Cl).getD j_ default) 0 0])))), (6, tI 20), (30, tB (decide ((20 : Int) < n)))], [(1000, .row 4 ((FInsS l n).length) (rowF TSlot.c (FInsS l n)) 165)]⟩ .nil kr .nil <| ath_n ?_
 have h2 : (decide ((20 : Int) < n)) = false := decide_eq_false (by omega)
 have g2 := of_decide_eq_false h2
 refine aw_cond (decide ((20 : Int) < n)) kr (fun h => absurd (h2.symm.trans h) (by decide)) (fun _ => ?_)
 refine aw_exit <| ath_e ?_
 refine ath_e <| abl_hit ?_
 exact ⟨_, Cv.refl _, .inr rfl, .tup [], by kernel_rfl, tve_eq rfl, .row 4 ((FInsS l n).length) (rowF TSlot.c (FInsS l n)) 165, by kernel_rfl, bke_rowlen (c := TSlot.c) (xs := FInsS l n) (by first | (simp only [FStaS, h1, h2, cond_true, cond_false] <;> rfl)) (FInsS_len l n hn hl)⟩
theorem FStaS_len (l : List TSlot) (n : Int) (hn : n = (l.length : Int)) (hl : l.length < 20) : (FStaS l n).length = l.length := FInsS_len l n hn hl
def Z0C (l : (List TSlot)) : FuncId × List Av × Ef := (171, ([.one (.own 1000 4 l.length), .one (.i (((l.length : Nat) : Int))), .one (.clo 162 1 (listF [.eptr 1 1 (fun _ j_ => ([.clo 122 0 (fun _ => default)] : List Cl).getD j_ default) 0 0]))] : List Av).map (renR 1000 1000), wrI 1000 (.row 4 l.length (rowF TSlot.c l) 165) (.tup []) (.row 4 l.length (rowF TSlot.c (FStaS l (((l.length : Nat) : Int)))) 165))
def FSrtS (l : (List TSlot)) : (List TSlot) := FStaS l (((l.length : Nat) : Int))
theorem pSrtS (l : (List TSlot)) (hl : l.length < 20) : WrR Tryz.prog 161 1000 [.one (.own 1000 4 l.length), .one (.clo 162 1 (listF [.eptr 1 1 (fun _ j_ => ([.clo 122 0 (fun _ => default)] : List Cl).getD j_ default) 0 0]))] 4 l.length (rowF TSlot.c l) 165 (.tup []) (rowF TSlot.c (FSrtS l)) := by
 refine wrR_of_awF Tryz.func161 rfl kr kr kr fun W0 M0 X hX => ?_
 refine aw_region eqok [] [] [(8, (Z0C l))] [] [1000] [Same (Z0C l).2.1, SameB (.row 4 l.length (rowF TSlot.c l) 165)] ⟨[], [(1000, .row 4 l.length (rowF TSlot.c (FStaS l (((l.length : Nat) : Int)))) 165)]⟩ (.cons (callOk_wrR (fun _ _ => kr) kr (pStaS l (((l.length : Nat) : Int)) au2 au2)) .nil) kr (.cons rfl (.cons rfl .nil)) ?_
 exact ⟨_, Cv.trans (cv_ce (⟨[], [(1000, .row 4 ((FStaS l (((l.length : Nat) : Int))).length) (rowF TSlot.c (FStaS l (((l.length : Nat) : Int)))) 165)]⟩) .nil (.cons ⟨rfl, bke_told 165 (⟨(FStaS_len l (((l.length : Nat) : Int)) au2 au2).symm, fun _ _ _ _ => .refl _⟩)⟩ .nil)) (Cv.refl _), .inr rfl, .tup [], by kernel_rfl, tve_eq rfl, .row 4 ((FStaS l (((l.length : Nat) : Int))).length) (rowF TSlot.c (FStaS l (((l.length : Nat) : Int)))) 165, by kernel_rfl, bke_rowlen (c := TSlot.c) (xs := FStaS l (((l.length : Nat) : Int))) (by rfl) (FStaS_len l _ rfl hl)⟩
theorem FSrtS_len (l : List TSlot) (hl : l.length < 20) : (FSrtS l).length = l.length := FStaS_len l _ rfl hl
theorem FSrtS_eq (l : List TSlot) : FSrtS l = isortB (fun x y => decide (FcmpS x y < 0)) l := FInsS_eq l _ rfl
def Z0D (out : List TSlot) : FuncId × List Av × Ef := (161, ([.one (.own 1000 4 out.length), .one (.clo 162 1 (listF [.eptr 1 1 (fun _ j_ => ([.clo 122 0 (fun _ => default)] : List Cl).getD j_ default) 0 0]))] : List Av).map (renR 1000 100000), wrI 100000 (.row 4 out.length (rowF TSlot.c out) 165) (.tup []) (.row 4 out.length (rowF TSlot.c (FSrtS out)) 165))
def FsortedS_l0 (l : (List TSlot)) : Nat -> List TSlot -> Int -> (List TSlot)
 | 0, _, _ => default
 | n0 + 1, out, v12 => bif decide ((v12 : Int) < ((l.length : Int))) then ((FsortedS_l0 l n0) (out ++ [FasS (l.getD v12.toNat default)]) (v12 + 1)) else (FSrtS out)
def FsortedS (l : (List TSlot)) : (List TSlot) := FsortedS_l0 l (((((l.length : Int))) - 0).toNat + 1) (([] : List TSlot)) 0
theorem qsortedS (l : (List TSlot)) (hl : l.length < 20) : Fr Tryz.prog 120 [.one (lst 4 TSlot.c l), .one (.clo 121 0 (fun _ => default)), .one (.clo 122 0 (fun _ => default))] (.row 4 (FsortedS l).length (rowF TSlot.c (FsortedS l)) 165) (fun d => .av (.one (.own d 4 (FsortedS l).length))) := by
 refine fr_of_awF Tryz.func120 rfl kr (ownV_one _ _) fun W0 M0 => ?_
 refine aw_seq ?_
 refine aw_region eqok [] [] [] [0, 1, 5] [5] [] ⟨[(0, .av (.one (lst 4 TSlot.c l))), (1, .av (.one (.clo 121 0 (fun _ => default)))), (5, tP 5 0)], [(5, .cells [.clo 122 0 (fun _ => default)] 233)]⟩ .nil kr .nil <| ath_n <| aw_seq ?_
 refine aw_region eqok [] [] [] [0, 1, 5, 7] [5] [] ⟨[(0, .av (.one (lst 4 TSlot.c l))), (1, .av (.one (.clo 121 0 (fun _ => default)))), (5, tP 5 0), (7, .av (.one (vN)))], [(5, .cells [.clo 122 0 (fun _ => default)] 233)]⟩ .nil kr .nil <| ath_n ?_
 refine aw_seq <| aw_seq ?_
 refine aw_region eqok [] [] [] [1, 5, 7, 10, 11, 12] [5] [] ⟨[(1, .av (.one (.clo 121 0 (fun _ => default)))), (5, tP 5 0), (7, .av (.one (vN))), (10, .av (.one (lst 4 TSlot.c l))), (11, tI ((l.length : Int))), (12, tI 0)], [(5, .cells [.clo 122 0 (fun _ => default)] 233)]⟩ .nil kr .nil <| ath_n <| aw_block ?_
 refine aw_cv (Cv.trans (cv_ghost (⟨[(1, .av (.one (.clo 121 0 (fun _ => default)))), (5, tP 5 0), (7, .av (.one (.own 100000 4 0))), (10, .av (.one (lst 4 TSlot.c l))), (11, tI ((l.length : Int))), (12, tI 0)], [(100000, .row 4 0 (fun _ _ => default) 165), (5, .cells [.clo 122 0 (fun _ => default)] 233)]⟩) 100000 4 (fun _ _ => default) 165 [(7, [0])] [] (K := []) (fun k x h => by cases h) rfl kr kr) (Cv.trans (cv_ce (⟨[(1, .av (.one (.clo 121 0 (fun _ => default)))), (5, tP 5 0), (7, .av (.one (.own 100000 4 ((([] : List TSlot)).length)))), (10, .av (.one (lst 4 TSlot.c l))), (11, tI ((l.length : Int))), (12, tI 0)], [(100000, .row 4 ((([] : List TSlot)).length) (rowF TSlot.c (([] : List TSlot))) 165), (5, .cells [.clo 122 0 (fun _ => default)] 233)]⟩) (.cons ⟨rfl, .refl _⟩ (.cons ⟨rfl, .refl _⟩ (.cons ⟨rfl, .av (.one (.own _ _ au3))⟩ lr))) (.cons ⟨rfl, bke_told 165 (told_nil 4 (fun _ _ => default) TSlot.c)⟩ lr)) (Cv.trans (cv_keep [1, 5, 7, 10, 11, 12] [5, 100000] (⟨[(1, .av (.one (.clo 121 0 (fun _ => default)))), (5, tP 5 0), (7, .av (.one (.own 100000 4 ((([] : List TSlot)).length)))), (10, .av (.one (lst 4 TSlot.c l))), (11, tI ((l.length : Int))), (12, tI 0)], [(5, .cells [.clo 122 0 (fun _ => default)] 233), (100000, .row 4 ((([] : List TSlot)).length) (rowF TSlot.c (([] : List TSlot))) 165)]⟩) kr) (Cv.refl _)))) ?_
 refine aw_loopC (ι := Nat × List TSlot × Int) (fun x => ⟨[(1, .av (.one (.clo 121 0 (fun _ => default)))), (5, tP 5 0), (7, .av (.one (.own 100000 4 x.2.1.length))), (10, .av (.one (lst 4 TSlot.c l))), (11, tI ((l.length : Int))), (12, tI x.2.2)], [(5, .cells [.clo 122 0 (fun _ => default)] 233), (100000, .row 4 x.2.1.length (rowF TSlot.c x.2.1) 165)]⟩) (fun x => ((((l.length : Int))) - x.2.2).toNat < x.1 /\ (0 <= x.2.2 /\ (x.2.2 <= ((l.length : Int)) \/ x.2.2 = 0) /\ (x.2.1.length : Int) <= 0 + 1 * (x.2.2 - 0)) /\ FsortedS_l0 l x.1 x.2.1 x.2.2 = FsortedS l) (fun x => x.1) ?_ (((((l.length : Int))) - 0).toNat + 1, ([] : List TSlot), 0) ⟨Nat.lt_succ_self _, ⟨(by show 0 <= 0; first | trivial | omega | exact at0 | exact at1 | exact at2 | (simp; omega) | simp), (by show (0 <= ((l.length : Int)) \/ 0 = 0); first | trivial | omega | exact at0 | exact at1 | exact at2 | (simp; omega) | simp), (by show ((([] : List TSlot)).length : Int) <= 0 + 1 * (0 - 0); first | trivial | omega | exact at0 | exact at1 | exact at2 | (simp; omega) | simp)⟩, (by simp only [FsortedS, cond_true, cond_false])⟩
 rintro ⟨n0, out, v12⟩ ⟨hn, hinv, hF⟩
 have hm0 : ((((l.length : Int))) - v12).toNat < n0 := hn; have hinv0 : 0 <= v12 /\ (v12 <= ((l.length : Int)) \/ v12 = 0) /\ (out.length : Int) <= 0 + 1 * (v12 - 0) := hinv; have hF0 : FsortedS_l0 l n0 out v12 = FsortedS l := hF; clear hn hinv hF
 cases n0 with
 | zero => exact absurd hm0 (Nat.not_lt_zero _)
 | succ n0 =>
  refine aw_seq ?_
  refine aw_region eqok [] [] [] [1, 5, 7, 10, 11, 12, 13] [5, 100000] [] ⟨[(1, .av (.one (.clo 121 0 (fun _ => default)))), (5, tP 5 0), (7, .av (.one (.own 100000 4 out.length))), (10, .av (.one (lst 4 TSlot.c l))), (11, tI ((l.length : Int))), (12, tI v12), (13, tB (decide ((v12 : Int) < ((l.length : Int)))))], [(5, .cells [.clo 122 0 (fun _ => default)] 233), (100000, .row 4 out.length (rowF TSlot.c out) 165)]⟩ .nil kr .nil <| ath_n <| aw_seq ?_
  refine aw_cond (decide ((v12 : Int) < ((l.length : Int)))) kr (fun h1 => ?_) (fun h1 => ?_)
  ·have g1 := of_decide_eq_true h1
   refine aw_skip <| ath_n ?_
   refine aw_seq <| aw_block <| aw_seq ?_
   refine aw_region eqok [] [] [] [1, 5, 7, 9, 10, 11, 12] [5, 9, 100000] [0 <= (v12 : Int) /\ (v12 : Int) < ((l.length : Nat) : Int)] ⟨[(1, .av (.one (.clo 121 0 (fun _ => default)))), (5, tP 5 0), (7, .av (.one (.own 100000 4 out.length))), (9, tP 9 0), (10, .av (.one (lst 4 TSlot.c l))), (11, tI ((l.length : Int))), (12, tI v12)], [(5, .cells [.clo 122 0 (fun _ => default)] 233), (9, .cells (TSlot.c (l.getD v12.toNat default)) 112), (100000, .row 4 out.length (rowF TSlot.c out) 165)]⟩ .nil kr (.cons au0 .nil) <| ath_n ?_
   refine aw_region eqok [] [] [(19, casS (l.getD v12.toNat default))] [1, 5, 7, 10, 11, 12] [5, 21] [Same (casS (l.getD v12.toNat default)).2.1, out.length = out.length, out.length + 1 <= maxLen, (out.length + 1) * 48 <= 140737488355328] ⟨[(1, .av (.one (.clo 121 0 (fun _ => default)))), (5, tP 5 0), (7, .av (.one (.own 21 4 (out.length + 1)))), (10, .av (.one (lst 4 TSlot.c l))), (11, tI ((l.length : Int))), (12, tI v12)], [(5, .cells [.clo 122 0 (fun _ => default)] 233), (21, .row 4 (out.length + 1) (fun i_ j_ => if i_ < out.length then (rowF TSlot.c out) i_ j_ else (colsC 4 1 [.i ((FasS (l.getD v12.toNat default)).Id), .i (((FasS (l.getD v12.toNat default)).Shape).Kind), lst 7 TEdge.c (((FasS (l.getD v12.toNat default)).Shape).Edges), .i (((FasS (l.getD v12.toNat default)).Shape).R)]) (i_ - out.length) j_) 165)]⟩ (.cons (okasS (l.getD v12.toNat default)) .nil) kr (.cons rfl (.cons rfl (.cons au4 (.cons au4 .nil)))) <| abl_n <| ath_n ?_
   refine aw_cv (Cv.trans (cv_ce (⟨[(1, .av (.one (.clo 121 0 (fun _ => default)))), (5, tP 5 0), (7, .av (.one (.own 21 4 ((out ++ [FasS (l.getD v12.toNat default)]).length)))), (10, .av (.one (lst 4 TSlot.c l))), (11, tI ((l.length : Int))), (12, tI v12)], [(5, .cells [.clo 122 0 (fun _ => default)] 233), (21, .row 4 ((out ++ [FasS (l.getD v12.toNat default)]).length) (rowF TSlot.c (out ++ [FasS (l.getD v12.toNat default)])) 165)]⟩) (.cons ⟨rfl, .refl _⟩ (.cons ⟨rfl, .refl _⟩ (.cons ⟨rfl, .av (.one (.own _ _ au3))⟩ lr))) (.cons ⟨rfl, .refl _⟩ (.cons ⟨rfl, bke_told 165 (told_app (told_rfl 4 TSlot.c out) (told_lit (c := TSlot.c) (xs := ([FasS (l.getD v12.toNat default)] : List TSlot)) rfl kr))⟩ .nil))) (Cv.refl _)) ?_
   refine aw_region eqok [] [] [] [1, 5, 7, 10, 11, 12] [5, 21] [] ⟨[(1, .av (.one (.clo 121 0 (fun _ => default)))), (5, tP 5 0), (7, .av (.one (.own 21 4 ((out ++ [FasS (l.getD v12.toNat default)]).length)))), (10, .av (.one (lst 4 TSlot.c l))), (11, tI ((l.length : Int))), (12, tI (W64 (v12 + 1)))], [(5, .cells [.clo 122 0 (fun _ => default)] 233), (21, .row 4 ((out ++ [FasS (l.getD v12.toNat default)]).length) (rowF TSlot.c (out ++ [FasS (l.getD v12.toNat default)])) 165)]⟩ .nil kr .nil ?_
   (try rw [(show W64 (v12 + 1) = v12 + 1 from W64_id (by omega) au5)])
   refine ath_n ?_
   refine ⟨(n0, out ++ [FasS (l.getD v12.toNat default)], v12 + 1), ⟨?_, ?_, (by rw [<- hF0]; simp only [FsortedS_l0, h1, cond_true, cond_false])⟩, Nat.lt_succ_self _, Cv.trans (cv_ren (⟨[(1, .av (.one (.clo 121 0 (fun _ => default)))), (5, tP 5 0), (7, .av (.one (.own 100000 4 ((out ++ [FasS (l.getD v12.toNat default)]).length)))), (10, .av (.one (lst 4 TSlot.c l))), (11, tI ((l.length : Int))), (12, tI (v12 + 1))], [(5, .cells [.clo 122 0 (fun _ => default)] 233), (100000, .row 4 ((out ++ [FasS (l.getD v12.toNat default)]).length) (rowF TSlot.c (out ++ [FasS (l.getD v12.toNat default)])) 165)]⟩) 21 100000 (K := []) (fun k x h => by cases h) rfl rfl kr kr) (cv_eq kr)⟩
   ·show ((((l.length : Int))) - (v12 + 1)).toNat < n0; omega
   ·exact ⟨(by show 0 <= (v12 + 1); first | trivial | omega | exact at0 | exact at1 | exact at2 | (simp; omega) | simp), (by show ((v12 + 1) <= ((l.length : Int)) \/ (v12 + 1) = 0); first | trivial | omega | exact at0 | exact at1 | exact at2 | (simp; omega) | simp), (by show ((out ++ [FasS (l.getD v12.toNat default)]).length : Int) <= 0 + 1 * ((v12 + 1) - 0); first | trivial | omega | exact at0 | exact at1 | exact at2 | (simp; omega) | simp)⟩
  ·have g1 := of_decide_eq_false h1
   refine aw_exit <| ath_e ?_
   refine ath_e <| abl_hit ?_
   refine ath_n <| aw_seq ?_
   refine aw_cv (Cv.trans (cv_fix (⟨[(1, .av (.one (.clo 121 0 (fun _ => default)))), (5, .av (.one (.eptr 1 1 (fun _ j_ => ([.clo 122 0 (fun _ => default)] : List Cl).getD j_ default) 0 0))), (7, .av (.one (.own 100000 4 out.length))), (10, .av (.one (lst 4 TSlot.c l))), (11, tI ((l.length : Int))), (12, tI v12), (13, tB (decide ((v12 : Int) < ((l.length : Int)))))], [(100000, .row 4 out.length (rowF TSlot.c out) 165)]⟩) 5 [.clo 122 0 (fun _ => default)] 233 (K := []) (fun k x h => by cases h) kr kr kr kr) (Cv.refl _)) ?_
   refine aw_region eqok [] [] [(25, (Z0D out))] [7] [100000] [Same (Z0D out).2.1, SameB (.row 4 out.length (rowF TSlot.c out) 165)] ⟨[(7, .av (.one (.own 100000 4 out.length)))], [(100000, .row 4 out.length (rowF TSlot.c (FSrtS out)) 165)]⟩ (.cons (callOk_wrR (fun _ _ => kr) kr (pSrtS out au2)) .nil) kr (.cons rfl (.cons rfl .nil)) <| ath_n ?_
   refine aw_cv (Cv.trans (cv_ce (⟨[(7, .av (.one (.own 100000 4 ((FSrtS out).length))))], [(100000, .row 4 ((FSrtS out).length) (rowF TSlot.c (FSrtS out)) 165)]⟩) (.cons ⟨rfl, .av (.one (.own _ _ (FSrtS_len out au2).symm))⟩ .nil) (.cons ⟨rfl, bke_told 165 (⟨(FSrtS_len out au2).symm, fun _ _ _ _ => .refl _⟩)⟩ .nil)) (Cv.refl _)) <| aw_seq ?_
   refine aw_region eqok [] [] [] [6] [100000] [] ⟨[(6, .av (.one (.own 100000 4 ((FSrtS out).length))))], [(100000, .row 4 ((FSrtS out).length) (rowF TSlot.c (FSrtS out)) 165)]⟩ .nil kr .nil <| ath_n <| aw_ret ?_
   exact ⟨_, Cv.refl _, .inl rfl, .av (.one (.own 100000 4 ((FSrtS out).length))), by kernel_rfl, frE (c := TSlot.c) (xs := FSrtS out) (by rw [<- hF0]; first | (simp only [FsortedS_l0, h1, cond_true, cond_false] <;> rfl)) kr⟩
def Z0E (b : TBoard) : FuncId × List Av × Ef := (120, [.one (lst 4 TSlot.c b.Slots), .one (.clo 121 0 (fun _ => default)), .one (.clo 122 0 (fun _ => default))], .new [] (.row 4 (FsortedS b.Slots).length (rowF TSlot.c (FsortedS b.Slots)) 165) (fun d => .av (.one (.own d 4 (FsortedS b.Slots).length))))
def Fslots (b : TBoard) : (List TSlot) := FsortedS b.Slots
theorem qslots (b : TBoard) (hl : b.Slots.length < 20) : Fr Tryz.prog 64 [.agg (TBoard.c b)] (.row 4 (Fslots b).length (rowF TSlot.c (Fslots b)) 165) (fun d => .av (.one (.own d 4 (Fslots b).length))) := by
 refine fr_of_awF Tryz.func64 rfl kr (ownV_one _ _) fun W0 M0 => ?_
 refine aw_seq ?_
 refine aw_region eqok [] [] [] [1] [1] [] ⟨[(1, tP 1 0)], [(1, .cells (TBoard.c b) 41)]⟩ .nil kr .nil <| ath_n <| aw_seq ?_
 refine aw_region eqok [] [] [(5, (Z0E b))] [2] [5] [Same (Z0E b).2.1] ⟨[(2, .av (.one (.own 5 4 ((FsortedS b.Slots).length))))], [(5, .row 4 ((FsortedS b.Slots).length) (rowF TSlot.c (FsortedS b.Slots)) 165)]⟩ (.cons (callOk_fr (fun _ _ => kr) (qsortedS b.Slots au2)) .nil) kr (.cons rfl .nil) <| ath_n <| aw_ret ?_
 exact ⟨_, Cv.refl _, .inl rfl, .av (.one (.own 5 4 ((FsortedS b.Slots).length))), by kernel_rfl, frE (c := TSlot.c) (xs := FsortedS b.Slots) (by rfl) kr⟩
def cslots (b : TBoard) : FuncId × List Av × Ef := (64, [.agg (TBoard.c b)], .new [] (.row 4 (Fslots b).length (rowF TSlot.c (Fslots b)) 165) (fun d => .av (.one (.own d 4 (Fslots b).length))))
theorem okslots (b : TBoard) (hl : b.Slots.length < 20) : CallOk Tryz.prog (cslots b).1 (cslots b).2.1 (cslots b).2.2 := callOk_fr (fun _ _ => kr) (qslots b hl)
theorem FsortedS_eq (l : List TSlot) : FsortedS l = isortB (fun x y => decide (FcmpS x y < 0)) l := by
 unfold FsortedS
 have h := cp_l l (FsortedS_l0 l) (fun acc _ => FSrtS acc) (fun m acc v => by
  rw [FsortedS_l0, Int.toNat_natCast]
  rfl) l.length 0 ((((l.length : Int)) - 0).toNat + 1) [] rfl (Nat.zero_le _) (by omega)
 rw [List.drop_zero, List.nil_append] at h
 exact h.trans (FSrtS_eq l)
theorem Fslots_eq (b : TBoard) : Fslots b = isortB (fun x y => decide (FcmpS x y < 0)) b.Slots := FsortedS_eq _
theorem Fslots_mem {b : TBoard} {x : TSlot} : x ∈ Fslots b ↔ x ∈ b.Slots := by rw [Fslots_eq]; exact isortB_mem _ _ _
theorem Fslots_len (b : TBoard) : (Fslots b).length = b.Slots.length := by rw [Fslots_eq]; exact isortB_len _ _
end
section
open Go.RowKit
def twoB (q r : Loc) (b : Nat) : Prop := only q b \/ only r b
def WrA (P : Program) (f : FuncId) (vs : List Av) (sz len : Nat) (F : Nat -> Nat -> Cl) (tyr tyq : TypeId) (len' : Nat) (F' : Nat -> Nat -> Cl) : Prop :=
 ∀ (M : Nat -> Option Obj) (σ : Nat -> Loc) (w : World) (args : List Value), (∀ b o, M b = some o -> w.heap[b]? = some o) -> BlkOk M σ w (σ 1000) (.cells [.own 1001 sz len] tyq) -> M (σ 1000).b = none -> BlkOk M σ w (σ 1001) (.row sz len F tyr) -> ((σ 1001).nil = true \/ M (σ 1001).b = none) -> ((σ 1001).nil = true \/ (σ 1000).b ≠ (σ 1001).b) -> L2 (RA M σ) (vs ++ [.one (.ptr 1000 0)]) args ->
  Calls P f args.toArray w fun en w' => ∃ U, en = .returned U /\ ∃ M' x, Keep w w' M M' (twoB (σ 1000) (σ 1001)) /\ (x.nil = true \/ ((only (σ 1001) x.b \/ w.heap.size <= x.b) /\ M' x.b = none /\ x.b ≠ (σ 1000).b)) /\
   (∀ (σ' : Nat -> Loc) d, σ' d = x -> BlkOk M' σ' w' (σ 1000) (.cells [.own d sz len'] tyq)) /\ ∀ σ', BlkOk M' σ' w' x (.row sz len' F' tyr)
section
variable {P : Program}
theorem get_two {q r : Nat} {bq br : Blk} (hqr : q ≠ r) {n : Nat} {b : Blk} (h : get [(q, bq), (r, br)] n = some b) : (n = q /\ b = bq) \/ (n = r /\ b = br) := by
 simp only [get, beqN] at h
 by_cases h1 : q = n
 ·simp [h1] at h; exact .inl ⟨h1.symm, h.symm⟩
 ·by_cases h2 : r = n
  ·simp [h1, h2] at h; exact .inr ⟨h2.symm, h.symm⟩
  ·simp [h1, h2] at h
theorem wrA_of_awF {f : FuncId} {fn : Func} {c : Code} (hf : P.funcs[f]? = some fn) (hb : fn.body = some c) {vs : List Av} {sz len len' : Nat} {F F' : Nat -> Nat -> Cl} {tyr tyq : TypeId} (hN : Nat.ble (vs.length + 1) fn.ntmps = true) (hK : Nat.ble fn.ntmps 1000 = true)
  (h : ∀ (W0 : World) (M0 : Nat -> Option Obj) (X : Nat -> Option Loc), (∀ k x, X k = some x -> memO [1000, 1001] k = true) -> AWp P none fn.ntmps W0 X M0 c (EndQ P fn.ntmps W0 X M0 fn fun r' s' => ∃ d b, Nat.beq d 1000 = false /\ get s'.h 1000 = some (.cells [.own d sz len'] tyq) /\ get s'.h d = some b /\ BlkE b (.row sz len' F' tyr)) ⟨entryT 0 (vs ++ [.one (.ptr 1000 0)]), [(1000, .cells [.own 1001 sz len] tyq), (1001, .row sz len F tyr)]⟩) : WrA P f vs sz len F tyr tyq len' F' := by
 intro M σ w args himm hbq hMq hbr hMr hne hargs
 have hK' := Nat.le_of_ble_eq_true hK
 have hN' : (vs ++ [Av.one (.ptr 1000 0)]).length <= fn.ntmps := by have := Nat.le_of_ble_eq_true hN; simpa using this
 have hqn : (σ 1000).nil = false := hbq.1
 obtain ⟨X, hX⟩ : ∃ X : Nat -> Option Loc, X = fun k => bif Nat.beq k 1000 then some (σ 1000) else bif Nat.beq k 1001 && !(σ 1001).nil then some (σ 1001) else none := ⟨_, rfl⟩
 have hX0 : X 1000 = some (σ 1000) := by rw [hX]; rfl
 have pins : ∀ n x, X n = some x -> (n = 1000 /\ x = σ 1000) \/ (n = 1001 /\ (σ 1001).nil = false /\ x = σ 1001) := fun n x hx => by
  rw [hX] at hx
  simp only at hx
  cases h1 : Nat.beq n 1000 with
  | true => rw [h1] at hx; simp at hx; exact .inl ⟨Nat.eq_of_beq_eq_true h1, hx.symm⟩
  | false =>
   rw [h1] at hx
   cases h2 : Nat.beq n 1001 with
   | false => rw [h2] at hx; simp at hx
   | true =>
    rw [h2] at hx
    cases h3 : (σ 1001).nil with
    | true => rw [h3] at hx; simp at hx
    | false => rw [h3] at hx; simp at hx; exact .inr ⟨Nat.eq_of_beq_eq_true h2, rfl, hx.symm⟩
 have hX1 : (σ 1001).nil = false -> X 1001 = some (σ 1001) := fun h3 => by rw [hX]; simp [h3]; rfl
 have hXK : ∀ k x, X k = some x -> memO [1000, 1001] k = true := fun k x hk => by
  rcases pins k x hk with ⟨rfl, _⟩ | ⟨rfl, _⟩ <;> rfl
 have hin : ∀ b, inX X b -> twoB (σ 1000) (σ 1001) b := fun b ⟨n, x, h1, h2⟩ => by
  rcases pins n x h1 with ⟨_, rfl⟩ | ⟨_, h3, rfl⟩
  ·exact .inl ⟨hqn, h2.symm⟩
  ·exact .inr ⟨h3, h2.symm⟩
 refine calls_of_aw (X := X) (σ := σ) (h0 := [(1000, .cells [.own 1001 sz len] tyq), (1001, .row sz len F tyr)]) hf hb hN' himm hargs (fun n b hn => ?_) (fun n b hn => ?_) (fun n x hx => ?_) (fun n m b c hn hm hnm => ?_) (aw_cvend (h w M X hXK)) ?_
 ·rcases get_two (by decide) hn with ⟨rfl, rfl⟩ | ⟨rfl, rfl⟩
  ·exact hbq
  ·exact hbr
 ·rcases get_two (by decide) hn with ⟨rfl, rfl⟩ | ⟨rfl, rfl⟩
  ·exact .inr ⟨hMq, 1000, _, hX0, rfl⟩
  ·cases h3 : (σ 1001).nil with
   | true => exact .inl rfl
   | false =>
    rcases hMr with h4 | h4
    ·rw [h3] at h4; cases h4
    ·exact .inr ⟨h4, 1001, _, hX1 h3, rfl⟩
 ·rcases pins n x hx with ⟨rfl, rfl⟩ | ⟨rfl, _, rfl⟩
  ·exact ⟨hK', rfl⟩
  ·exact ⟨by omega, rfl⟩
 ·rcases get_two (by decide) hn with ⟨rfl, rfl⟩ | ⟨rfl, rfl⟩ <;> rcases get_two (by decide) hm with ⟨rfl, rfl⟩ | ⟨rfl, rfl⟩
  ·exact absurd rfl hnm
  ·rcases hne with h4 | h4
   ·exact .inr (.inl h4)
   ·exact .inr (.inr h4)
  ·rcases hne with h4 | h4
   ·exact .inl h4
   ·exact .inr (.inr (Ne.symm h4))
  ·exact absurd rfl hnm
 ·rintro r' s' M' σ' a' w' U ⟨d, b, hd, h1, h2, h3⟩ hs hR
  have hdn : d ≠ 1000 := fun e => by subst e; rw [Nat.beq_refl] at hd; cases hd
  have hp := (hs.pin 1000 _ hX0).2
  refine ⟨U, rfl, M', σ' d, ⟨hs.os, hs.tape, hs.output, hs.size, fun b hb hx => hs.old b hb fun h4 => hx (hin b h4), hs.sub, hs.new, hs.imm⟩, ?_, fun σ2 d2 e2 => ?_, fun σ2 => (BlkOk_E h3 (hs.blk d b h2) : BlkOk M' σ' w' (σ' d) (.row sz len' F' tyr))⟩
  ·cases hnil : (σ' d).nil with
   | true => exact .inl rfl
   | false =>
    have hq : (σ' d).b ≠ (σ 1000).b := by
     rcases hs.inj d 1000 b _ h2 h1 hdn with h4 | h4 | h4
     ·rw [hnil] at h4; cases h4
     ·rw [hp, hqn] at h4; cases h4
     ·rw [hp] at h4; exact h4
    rcases hs.loc d b h2 with h4 | ⟨h4, h5⟩
    ·rw [hnil] at h4; cases h4
    ·refine .inr ⟨?_, h4, hq⟩
     rcases h5 with h5 | h5
     ·exact .inr h5
     ·rcases hin _ h5 with h6 | h6
      ·exact absurd h6.2 hq
      ·exact .inl h6
  ·have hb1 := hs.blk 1000 _ h1
   rw [hp] at hb1
   obtain ⟨g0, cc, g1, g2⟩ := hb1
   refine ⟨g0, cc, g1, ?_⟩
   cases g2 with
   | cons g3 g4 =>
    cases g4
    refine .cons ?_ .nil
    unfold R at g3 ⊢
    rw [e2]; exact g3
section
variable {V : Env P} {rd : Option Nat} {N : Nat} {W0 : World} {X : Nat → Option Loc} {M0 M : Nat → Option Obj} {σ : Nat → Loc} {w : World} {a : Act} {Q : Exit → AS → Prop} {s : AS}
def callAok (q r : Nat) (dst : Option Nat) (s : AS) : Bool := !Nat.beq q r && s.t.all (fun p => p.2.no r && (match dst with | some d => !Nat.beq p.1 d | none => true)) && s.h.all fun p => Nat.beq p.1 q || p.2.no r
def setA (q r : Nat) (bq br : Blk) (s : AS) : AS := ⟨s.t, put (put s.h q bq) r br⟩
theorem sim_callA {K : List Nat} {q r : Nat} {dst : Option Nat} {sz len len' : Nat} {F F' : Nat -> Nat -> Cl} {tyr tyq : TypeId} {x : Loc} {M' : Nat -> Option Obj} {w' : World} {U : Value} (hX : ∀ k x, X k = some x -> memO K k = true) (hK : notK K r = true) (hok : callAok q r dst s = true) (hq : get s.h q = some (.cells [.own r sz len] tyq)) (hr : get s.h r = some (.row sz len F tyr))
  (hs : Sim N W0 X M0 M σ (get s.t) (get s.h) a w) (hk : Keep w w' M M' (twoB (σ q) (σ r))) (hx : x.nil = true \/ ((only (σ r) x.b \/ w.heap.size <= x.b) /\ M' x.b = none /\ x.b ≠ (σ q).b)) (hbq : ∀ (σ' : Nat -> Loc) d, σ' d = x -> BlkOk M' σ' w' (σ q) (.cells [.own d sz len'] tyq)) (hbr : ∀ σ', BlkOk M' σ' w' x (.row sz len' F' tyr)) :
  Sim N W0 X M0 M' (upd σ r x) (get (setA q r (.cells [.own r sz len'] tyq) (.row sz len' F' tyr) s).t) (get (setA q r (.cells [.own r sz len'] tyq) (.row sz len' F' tyr) s).h) (a.put dst U) w' := by
 unfold callAok at hok
 simp only [Bool.and_eq_true, Bool.not_eq_true'] at hok
 obtain ⟨⟨hqr', ht⟩, hh⟩ := hok
 have hqr : q ≠ r := fun e => by subst e; rw [Nat.beq_refl] at hqr'; cases hqr'
 have hqn : (σ q).nil = false := (hs.blk q _ hq).1
 have ht' : ∀ i v, get s.t i = some v -> v.no r = true /\ (∀ d, dst = some d -> i ≠ d) := fun i v hv => by
  have h1 := List.all_eq_true.1 ht (i, v) (get_mem hv)
  simp only [Bool.and_eq_true] at h1
  refine ⟨h1.1, fun d hd e => ?_⟩
  subst hd e
  have := h1.2
  simp [Nat.beq_refl] at this
 have hh' : ∀ n b, get s.h n = some b -> n ≠ q -> b.no r = true := fun n b hb hn => by
  have h1 := List.all_eq_true.1 hh (n, b) (get_mem hb)
  simp only [Bool.or_eq_true] at h1
  rcases h1 with h1 | h1
  ·exact absurd (Nat.eq_of_beq_eq_true h1) hn
  ·exact h1
 have hXr : ∀ k u, X k = some u -> k ≠ r := fun k u hk' e => by
  subst e
  have h1 := List.all_eq_true.1 hK k (memO_mem (hX k u hk'))
  simp [Nat.beq_refl] at h1
 have hg : ∀ n, get (setA q r (.cells [.own r sz len'] tyq) (.row sz len' F' tyr) s).h n = if r = n then some (.row sz len' F' tyr) else if q = n then some (.cells [.own r sz len'] tyq) else get s.h n := fun n => by
  show get (put (put s.h q _) r _) n = _
  rw [get_put, get_put]
 have hlt : ∀ n b, get s.h n = some b -> (σ n).nil = false -> (σ n).b < w.heap.size := fun n b hb hn => (hs.blk n b hb).lt hn
 have hup : ∀ n, n ≠ r -> upd σ r x n = σ n := fun n hn => upd_ne _ _ hn
 have hMn : ∀ b, b < w.heap.size -> M b = none -> M' b = none := fun b hb h0 => by
  cases h1 : M' b with
  | none => rfl
  | some o => have := hk.new b o h1 h0; omega
 have hsame : ∀ n b, get s.h n = some b -> n ≠ q -> n ≠ r -> (σ n).nil = false -> w'.heap[(σ n).b]? = w.heap[(σ n).b]? := fun n b hb h1 h2 hn => hk.old _ (hlt n b hb hn) fun h3 => by
  rcases h3 with h3 | h3
  ·rcases hs.inj n q b _ hb hq h1 with h4 | h4 | h4
   ·rw [hn] at h4; cases h4
   ·rw [hqn] at h4; cases h4
   ·exact h4 h3.2
  ·rcases hs.inj n r b _ hb hr h2 with h4 | h4 | h4
   ·rw [hn] at h4; cases h4
   ·rw [h3.1] at h4; cases h4
   ·exact h4 h3.2
 refine ⟨hk.os.trans hs.os, hk.tape.trans hs.tape, hk.output.trans hs.output, Nat.le_trans hs.size hk.size, fun b hb hnx => ?_, fun b o h => hk.sub b o (hs.sub b o h), fun b o h h0 => ?_, fun n u hu => ⟨(hs.pin n u hu).1, by rw [hup n (hXr n u hu)]; exact (hs.pin n u hu).2⟩, ?_, ?_, fun i v hv => ?_, hk.imm, fun n b hb => ?_, fun n b hb => ?_, fun n m b c hb hc hnm => ?_⟩
 ·refine (hk.old b (Nat.lt_of_lt_of_le hb hs.size) fun h3 => ?_).trans (hs.old b hb hnx)
  rcases h3 with h3 | h3
  ·rcases hs.loc q _ hq with h4 | ⟨_, h4 | h4⟩
   ·rw [hqn] at h4; cases h4
   ·rw [<- h3.2] at h4; omega
   ·rw [<- h3.2] at h4; exact hnx h4
  ·rcases hs.loc r _ hr with h4 | ⟨_, h4 | h4⟩
   ·rw [h3.1] at h4; cases h4
   ·rw [<- h3.2] at h4; omega
   ·rw [<- h3.2] at h4; exact hnx h4
 ·cases h1 : M b with
  | some o' => exact hs.new b o' h1 h0
  | none => exact Nat.le_trans hs.size (hk.new b o h h1)
 ·have := hs.defers.mono hk.sub
  cases dst <;> exact this
 ·cases dst with
  | none => exact hs.room
  | some d => simpa [Act.put] using hs.room
 ·have h1 := ht' i v hv
  have h2 : (a.put dst U).tmps.getD i undef = a.tmps.getD i undef := by
   cases dst with
   | none => rfl
   | some d => simp [Act.put, Array.getD_eq_getD_getElem?, Array.getElem?_setIfInBounds, Ne.symm (h1.2 d rfl)]
  rw [h2]
  exact RT_mono hk.sub (fun d hd => hup d fun e => by subst e; rw [h1.1] at hd; cases hd) (hs.tmps i v hv)
 ·rw [hg] at hb
  by_cases h1 : r = n
  ·subst h1
   simp only [if_true, Option.some.injEq] at hb
   subst hb
   rw [upd_same]
   exact hbr _
  ·simp only [if_neg h1] at hb
   rw [hup n (Ne.symm h1)]
   by_cases h2 : q = n
   ·subst h2
    simp only [if_true, Option.some.injEq] at hb
    subst hb
    exact hbq _ r (upd_same _ _ _)
   ·simp only [if_neg h2] at hb
    exact (hs.blk n b hb).mono hk.sub (fun d hd => hup d fun e => by subst e; rw [hh' n b hb (Ne.symm h2)] at hd; cases hd) (hsame n b hb (Ne.symm h2) (Ne.symm h1))
 ·rw [hg] at hb
  by_cases h1 : r = n
  ·subst h1
   rw [upd_same]
   rcases hx with h3 | ⟨h3, h4, h5⟩
   ·exact .inl h3
   ·refine .inr ⟨h4, ?_⟩
    rcases h3 with h3 | h3
    ·rcases hs.loc r _ hr with h6 | ⟨_, h6⟩
     ·rw [h3.1] at h6; cases h6
     ·rw [h3.2]; exact h6
    ·exact .inl (Nat.le_trans hs.size h3)
  ·rw [hup n (Ne.symm h1)]
   obtain ⟨b0, hb0⟩ : ∃ b0, get s.h n = some b0 := by
    simp only [if_neg h1] at hb
    by_cases h2 : q = n
    ·subst h2; exact ⟨_, hq⟩
    ·simp only [if_neg h2] at hb; exact ⟨_, hb⟩
   cases hn : (σ n).nil with
   | true => exact .inl rfl
   | false =>
    rcases hs.loc n b0 hb0 with h6 | ⟨h6, h7⟩
    ·rw [hn] at h6; cases h6
    ·exact .inr ⟨hMn _ (hlt n b0 hb0 hn) h6, h7⟩
 ·have hold : ∀ n b, get (setA q r (.cells [.own r sz len'] tyq) (.row sz len' F' tyr) s).h n = some b -> n ≠ r -> ∃ b0, get s.h n = some b0 := fun n b hb h1 => by
   rw [hg] at hb
   simp only [if_neg (Ne.symm h1)] at hb
   by_cases h2 : q = n
   ·subst h2; exact ⟨_, hq⟩
   ·simp only [if_neg h2] at hb; exact ⟨_, hb⟩
  have hrm : ∀ m b0, get s.h m = some b0 -> m ≠ r -> x.nil = true \/ (σ m).nil = true \/ x.b ≠ (σ m).b := fun m b0 hb0 hm => by
   rcases hx with h3 | ⟨h3, h4, h5⟩
   ·exact .inl h3
   ·cases hn : (σ m).nil with
    | true => exact .inr (.inl rfl)
    | false =>
     refine .inr (.inr ?_)
     rcases h3 with h3 | h3
     ·rcases hs.inj m r b0 _ hb0 hr hm with h6 | h6 | h6
      ·rw [hn] at h6; cases h6
      ·rw [h3.1] at h6; cases h6
      ·rw [h3.2]; exact Ne.symm h6
     ·have := hlt m b0 hb0 hn
      omega
  by_cases h1 : n = r
  ·subst h1
   obtain ⟨c0, hc0⟩ := hold m c hc (Ne.symm hnm)
   rw [upd_same, hup m (Ne.symm hnm)]
   exact hrm m c0 hc0 (Ne.symm hnm)
  ·obtain ⟨b0, hb0⟩ := hold n b hb h1
   rw [hup n h1]
   by_cases h2 : m = r
   ·subst h2
    rw [upd_same]
    rcases hrm n b0 hb0 h1 with h3 | h3 | h3
    ·exact .inr (.inl h3)
    ·exact .inl h3
    ·exact .inr (.inr (Ne.symm h3))
   ·obtain ⟨c0, hc0⟩ := hold m c hc h2
    rw [hup m h2]
    exact hs.inj n m b0 c0 hb0 hc0 hnm
end
end
end
section
open Go.RowKit Go.MapKept
section
variable {P : Program} {V : Env P} {rd : Option Nat} {N : Nat} {W0 : World} {X : Nat → Option Loc} {M0 M : Nat → Option Obj} {σ : Nat → Loc} {w : World} {a : Act} {Q : Exit → AS → Prop} {s : AS}
structure CallA (P : Program) (o : Oper) (s : AS) (q r sz len : Nat) (F : Nat -> Nat -> Cl) (tyr tyq : TypeId) (len' : Nat) (F' : Nat -> Nat -> Cl) : Prop where
 op : ∃ c f g k caps vs, o.op = .call c /\ c.callee = .value f /\ evT (get s.t) f = some (.av (.one (.clo g k caps))) /\ capList k caps = [.one (.ptr q 0)] /\ argsC (evT (get s.t)) c.args.toList = some vs /\ vs.all Av.dv = true /\ (∀ args w, (callFunc g args).run P w = .ok (.enter g args) w) /\ WrA P g vs sz len F tyr tyq len' F'
 gd : o.guard = none
 ok : callAok q r o.dst s = true
 hq : get s.h q = some (.cells [.own r sz len] tyq)
 hr : get s.h r = some (.row sz len F tyr)
theorem callA_wp {K : List Nat} {o : Oper} {q r sz len len' : Nat} {F F' : Nat -> Nat -> Cl} {tyr tyq : TypeId} (hX : ∀ k x, X k = some x -> memO K k = true) (hK : notK K r = true) (hc : CallA P o s q r sz len F tyr tyq len' F') (hs : Sim N W0 X M0 M σ (get s.t) (get s.h) a w) {Kk : Act -> World -> Prop} {Q' : Exit -> Act -> World -> Prop}
  (h : ∀ M' σ' a' w', Sim N W0 X M0 M' σ' (get (setA q r (.cells [.own r sz len'] tyq) (.row sz len' F' tyr) s).t) (get (setA q r (.cells [.own r sz len'] tyq) (.row sz len' F' tyr) s).h) a' w' -> Kk a' w') : o.wpIn (FW rd) 0 P a w Kk Q' := by
 obtain ⟨⟨c, f, g, k, caps, vs, ho, hcf, hf, hcl, hxs, hdv, heg, hW⟩, hgd, hok, hq, hr⟩ := hc
 have hqn : (σ q).nil = false := (hs.blk q _ hq).1
 have hqr : q ≠ r := fun e => by
  unfold callAok at hok
  subst e
  simp [Nat.beq_refl] at hok
 have hev : ∀ x v, evT (get s.t) x = some v -> RT M σ v (a.eval x) := fun x v hv => evT_ok hs.tmps hv
 obtain ⟨caps', hfv, hsz, hcaps⟩ := hev f _ hf
 have hargs := args_ok hev _ _ hxs
 have hcl2 : L2 (RA M σ) (capList k caps) caps'.toList := by
  refine L2.of (by simp [capList, hsz]) fun i x y hx hy => ?_
  have hi : i < k := by have := (List.getElem?_eq_some_iff.1 hx).1; simpa [capList] using this
  have := hcaps i hi
  simp only [capList, List.getElem?_map, List.getElem?_range hi, Option.map_some, Option.some.injEq] at hx
  subst hx
  have hy' : caps'.getD i undef = y := by
   simp only [Array.getD_eq_getD_getElem?]
   rw [<- Array.getElem?_toList, hy]; rfl
  rw [hy'] at this
  exact this
 rw [hcl] at hcl2
 have hmap : c.args.map a.eval = (c.args.toList.map a.eval).toArray := by apply Array.ext'; simp
 have happ : (c.args.toList.map a.eval).toArray ++ caps' = (c.args.toList.map a.eval ++ caps'.toList).toArray := by apply Array.ext'; simp
 have hres : (resolve a.eval c o.type).run P w = .ok { target := .fn (.func g) caps', args := (c.args.toList.map a.eval).toArray } w := by
  simp only [resolve, hcf, hfv, Deferred.ofValue, hmap]
  simp
 let σ2 : Nat -> Loc := upd (upd σ 1000 (σ q)) 1001 (σ r)
 have e0 : σ2 1000 = σ q := by show upd (upd σ 1000 (σ q)) 1001 (σ r) 1000 = _; rw [upd_ne _ _ (by decide), upd_same]
 have e1 : σ2 1001 = σ r := upd_same _ _ _
 have hbq := hs.blk q _ hq
 have hbq2 : BlkOk M σ2 w (σ2 1000) (.cells [.own 1001 sz len] tyq) := by
  rw [e0]
  obtain ⟨g0, cc, g1, g2⟩ := hbq
  refine ⟨g0, cc, g1, ?_⟩
  cases g2 with
  | cons g3 g4 =>
   cases g4
   refine .cons ?_ .nil
   unfold R at g3 ⊢
   rw [e1]; exact g3
 have hMq : M (σ2 1000).b = none := by
  rw [e0]
  rcases hs.loc q _ hq with h1 | h1
  ·rw [hqn] at h1; cases h1
  ·exact h1.1
 have hMr : (σ2 1001).nil = true \/ M (σ2 1001).b = none := by
  rw [e1]
  exact (hs.loc r _ hr).imp id And.left
 have hne : (σ2 1001).nil = true \/ (σ2 1000).b ≠ (σ2 1001).b := by
  rw [e0, e1]
  rcases hs.inj q r _ _ hq hr hqr with h1 | h1 | h1
  ·rw [hqn] at h1; cases h1
  ·exact .inl h1
  ·exact .inr h1
 have hL : L2 (RA M σ2) (vs ++ [.one (.ptr 1000 0)]) (c.args.toList.map a.eval ++ caps'.toList) := by
  refine L2.append (hargs.mono fun x hx u hu => RT_any (r := .av x) (List.all_eq_true.1 hdv x hx) hu) ?_
  generalize caps'.toList = cl at hcl2
  cases hcl2 with
  | cons h1 h2 =>
   cases h2
   refine .cons ?_ .nil
   have h1 : _ = Value.pointer (some ⟨(σ q).b, 0, none⟩) := h1
   subst h1
   show Value.pointer (some ⟨(σ q).b, 0, none⟩) = Value.pointer (some ⟨(σ2 1000).b, 0, none⟩)
   rw [e0]
 have hd : Does P o a w fun U w' => ∃ M' x, Keep w w' M M' (twoB (σ q) (σ r)) /\ (x.nil = true \/ ((only (σ r) x.b \/ w.heap.size <= x.b) /\ M' x.b = none /\ x.b ≠ (σ q).b)) /\ (∀ (σ' : Nat -> Loc) d, σ' d = x -> BlkOk M' σ' w' (σ q) (.cells [.own d sz len'] tyq)) /\ ∀ σ', BlkOk M' σ' w' x (.row sz len' F' tyr) := by
  refine .inr (.inr ⟨g, (c.args.toList.map a.eval ++ caps'.toList).toArray, ?_, ?_⟩)
  ·simp only [execOp, ho, Sem.run_bind, hres, Result.andThen_ok, invoke, happ]
   exact heg _ _
  ·refine (hW M σ2 w _ hs.imm hbq2 hMq (by rw [e1]; exact hs.blk r _ hr) hMr hne hL).mono ?_
   rintro en w' ⟨U, rfl, M', x, h1, h2, h3, h4⟩
   rw [e0, e1] at h1 h2
   rw [e0] at h3
   exact ⟨U, rfl, M', x, h1, h2, h3, h4⟩
 refine hd.wp (fun U w' ⟨M', x, h1, h2, h3, h4⟩ => h M' _ _ w' (sim_callA hX hK hok hq hr hs h1 h2 h3 h4)) (fun c' hc' => by rw [ho] at hc'; cases hc')
theorem awl_callA {K : List Nat} {ops : Array Oper} {o : Oper} {l : List Oper} {Kk : AS -> Prop} {q r sz len len' : Nat} {F F' : Nat -> Nat -> Cl} {tyr tyq : TypeId} (S : AS) (hX : ∀ k x, X k = some x -> memO K k = true) (hK : notK K r = true) (hc : CallA P o s q r sz len F tyr tyq len' F') (hS : setA q r (.cells [.own r sz len'] tyq) (.row sz len' F' tyr) s = S)
  (h : AWL P rd N W0 X M0 ops l Kk S) : AWL P rd N W0 X M0 ops (o :: l) Kk s := by
 subst hS
 intro M σ a w hs Q' hQ'
 refine wpListIn_step fun K0 hK' => ?_
 rw [if_pos (by simp [Region.wanted, hc.gd])]
 exact callA_wp hX hK hc hs fun M' σ' a' w' h1 => hK' _ _ (h M' σ' a' w' h1 Q' hQ')
theorem aw_callAdraw {K : List Nat} (hm : P.follows .mixedOrders = true) {E : TypeId -> Option (List Kd)} (hE : EqOk P ⟨fun _ => none, E, fun _ => false, fun _ => none⟩) {id : Nat} {l : List Oper} (k : Nat) {o : Oper} (ho1 : l[k]? = some o) (hk1 : Nat.beq (k + 1) l.length = true) (ow : List Nat) (qs : List (Nat × (Bool × Nat))) (tbl : List (Nat × FuncId × List Av × Ef)) (ts ns : List Nat) (cs : List Prop) (S1 S : AS) (htbl : TblOk P tbl)
  (hr1 : runK P ⟨getO tbl, E, memO ow, get qs⟩ N (l.take k) ts ns s = some (cs, S1)) (hd : drawB P ⟨getO tbl, E, memO ow, get qs⟩ N (l.take k) s = true) (hc : AllP cs) (hms : maskB (l.take k) o [] = true) {q r sz len len' : Nat} {F F' : Nat -> Nat -> Cl} {tyr tyq : TypeId} (hX : ∀ k x, X k = some x -> memO K k = true) (hK : notK K r = true) (hca : CallA P o S1 q r sz len F tyr tyq len' F')
  (hS : setA q r (.cells [.own r sz len'] tyq) (.row sz len' F' tyr) S1 = S) (h : Q .normal S) : AWp P rd N W0 X M0 (.region id l.toArray true) Q s := by
 have hl : l = l.take k ++ [o] := by
  obtain ⟨hk, ho2⟩ := List.getElem?_eq_some_iff.1 ho1
  have hk2 := Nat.eq_of_beq_eq_true hk1
  have h3 : l.drop (k + 1) = [] := List.drop_eq_nil_of_le (by omega)
  have h4 := List.take_append_drop k l
  rw [List.drop_eq_getElem_cons hk, h3, ho2] at h4
  exact h4.symm
 clear ho1 hk1
 generalize hl1 : l.take k = l1 at *
 subst hl hS
 have hV := htbl.env (O := memO ow) (q := get qs) hE
 simp only [maskB, Bool.and_eq_true] at hms
 obtain ⟨⟨⟨hback, hk⟩, hlt⟩, hgs⟩ := hms
 have hguard : ∀ x ∈ l1 ++ [o], x.guard = none := fun x hx => by
  have := List.all_eq_true.1 hgs x hx
  cases hg : x.guard with
  | none => rfl
  | some _ => rw [hg] at this; cases this
 intro M σ a w hs
 unfold runK at hr1
 split at hr1
 ·rename_i cs1 s1 h1
  simp only [Option.some.injEq, Prod.mk.injEq] at hr1
  obtain ⟨rfl, rfl⟩ := hr1
  obtain ⟨e1, hruns⟩ := stN_of_run (s0 := s) l1 0 s s1 cs1 (fun j => by rw [Nat.zero_add]) rfl h1 hc
  simp only [Nat.zero_add] at e1 hruns
  obtain ⟨hback1, hord⟩ := ordered_of hd
  have hrep : ∀ (n j : Nat), (Array.replicate n false).getD j false = false := fun n j => by
   by_cases hj' : j < n
   ·simp [hj']
   ·simp [hj']
  have hs0 : Sim N W0 X M0 M σ (get s.t) (get s.h) a { w with drawn := w.drawn + 1 } := ⟨hs.os, hs.tape, hs.output, hs.size, hs.old, hs.sub, hs.new, hs.pin, hs.defers, hs.room, hs.tmps, hs.imm, fun n b hb => (hs.blk n b hb).mono (fun _ _ h => h) (fun _ _ => rfl) (fun _ => rfl), hs.loc, hs.inj⟩
  have hinv : InvL P ⟨getO tbl, E, memO ow, get qs⟩ N W0 X M0 l1 s (Array.replicate (l1 ++ [o]).toArray.size false) a { w with drawn := w.drawn + 1 } :=
   ⟨M, σ, get s.t, get s.h, hs0, fun x => ⟨0, Nat.zero_le _, fun j o hj hd => ⟨fun hh => (by rw [hrep] at hh; cases hh), fun hh => absurd hh (by omega)⟩, rfl⟩, fun m => ⟨0, Nat.zero_le _, fun j o hj hd => ⟨fun hh => (by rw [hrep] at hh; cases hh), fun hh => absurd hh (by omega)⟩, rfl⟩⟩
  refine wpIn_region_any hm (head_any (l2 := []) hV hruns hback1 hord hback (fun j hj => List.all_eq_true.1 hk j (List.mem_range.2 hj)) (fun i h3 h4 => by simp at h4; omega) (fun x hx => hguard x (List.mem_append_left _ hx)) (fun f L a1 w1 hsz hall hcnt hsim => ?_) _ _ a _ (by simp) (fun j oj _ hd => by rw [hrep] at hd; cases hd) (fun j _ => hrep _ j) (Nat.le_trans List.countP_le_length (by simp)) hinv)
  obtain ⟨M1, σ1, hs2⟩ := hsim
  rw [<- e1] at hs2
  have hs2 := sim_keep hs2 ts ns
  have hok : (l1 ++ [o]).toArray[l1.length]? = some o := by simp
  unfold wpOpIn
  rw [hok]
  have hw : ∀ ys, Region.wanted o ys = true := fun ys => by simp [Region.wanted, hguard o (by simp)]
  simp only [hw, if_true]
  refine callA_wp hX hK hca hs2 fun M' σ' a' w' h5 => ?_
  exact tail_any hback (by simp) hsz hall hcnt (fun x hx => by cases hx) (fun _ => ⟨_, M', σ', h, h5⟩) (fun u hu => by cases hu)
 ·cases hr1
end
end
section
open Go.RowKit
structure BrdOk (b : TBoard) : Prop where
 parts : b.Parts.length < 20
 tracks : b.Tracks.length < 20
 vias : b.Vias.length < 20
 slots : b.Slots.length < 20
 nets : (b.Nets.length : Int) <= 1000000
 pins : ∀ n ∈ b.Nets, (n.Pins.length : Int) <= 1000000
 ted : ∀ t ∈ b.Tracks, (t.Shape.Edges.length : Int) <= 1000000
 sed : ∀ s ∈ b.Slots, (s.Shape.Edges.length : Int) <= 1000000
theorem ted_at {b : TBoard} (h : BrdOk b) (k : Nat) : (((Ftracks b).getD k default).Shape.Edges.length : Int) <= 1000000 := getD_of (p := fun t : TTrack => (t.Shape.Edges.length : Int) <= 1000000) (by decide) (fun x hx => h.ted x (Ftracks_mem.1 hx)) k
theorem sed_at {b : TBoard} (h : BrdOk b) (k : Nat) : (((Fslots b).getD k default).Shape.Edges.length : Int) <= 1000000 := getD_of (p := fun t : TSlot => (t.Shape.Edges.length : Int) <= 1000000) (by decide) (fun x hx => h.sed x (Fslots_mem.1 hx)) k
theorem get_pads_len2 {types : List TType} (h : TypesOk types) (name : ByteArray) : ((FGet types name).1.Pads.length : Int) <= 1000000 := by rw [FGet_eq]; exact get_pads_len h name
def itemOf (b : TBoard) (v : List (TPin × ByteArray)) (x : TPlaced × TPad) : TItem := TItem.mk x.1.Id x.2.Name 1 (bif mhas eqTPin v (TPin.mk x.1.Ref x.2.Name) then (v.getD (mfind eqTPin v (TPin.mk x.1.Ref x.2.Name)) default).2 else ⟨#[]⟩) (bif decide (x.2.Drill = 0) then Fside b x.1 else 1) (bif decide (x.2.Drill = 0) then Fside b x.1 else b.Layers) (FMoveS x.2.Shape (FMotion x.1))
def netsP (v : List (TPin × ByteArray)) (n : TNet) : List (TPin × ByteArray) := n.Pins.foldl (fun v p => mput eqTPin v p n.Name) v
def netsM (b : TBoard) : List (TPin × ByteArray) := b.Nets.reverse.foldl netsP []
theorem FPads_eq (b : TBoard) (types : List TType) : FPads b types = (padsL b types).map (itemOf b (netsM b)) := by
 have h2 : ∀ v K0, FPads_r2 b types v K0 (padsL b types).length 0 [] = (padsL b types).map (itemOf b v) := fun v K0 => by
  have := fold_r (padsL b types) (fun acc x => acc ++ [itemOf b v x]) (FPads_r2 b types v K0) id (fun x acc => by rw [FPads_r2]; rfl) (fun m x acc hx => by rw [FPads_r2]; rfl) (padsL b types).length 0 [] (by omega)
  rw [this, List.drop_zero, foldl_app, List.nil_append]; rfl
 have hrev : ∀ x, x < b.Nets.reverse.length -> b.Nets.getD (b.Nets.length - 1 - x) default = b.Nets.reverse.getD x default := fun x hx => by
  rw [List.length_reverse] at hx
  rw [List.getD_eq_getElem?_getD, List.getD_eq_getElem?_getD, List.getElem?_reverse hx]
 unfold FPads
 have := fold_r b.Nets.reverse netsP (FPads_r0 b types) (fun v => (padsL b types).map (itemOf b v)) (fun x acc => by rw [FPads_r0]; exact h2 _ _) (fun m x acc hx => by
  rw [FPads_r0, hrev x hx]
  have h1 := fold_l (b.Nets.reverse.getD x default).Pins (fun v p => mput eqTPin v p (b.Nets.reverse.getD x default).Name) (FPads_l1 b types acc x (FPads_r0 b types m (x + 1))) (fun v _ => FPads_r0 b types m (x + 1) v) (fun m v k => by rw [FPads_l1, hrev x hx, Int.toNat_natCast]) (b.Nets.reverse.getD x default).Pins.length 0 ((((b.Nets.reverse.getD x default).Pins.length : Int) - 0).toNat + 1) acc rfl (Nat.zero_le _) (by omega)
  rw [List.drop_zero] at h1
  exact h1) b.Nets.length 0 [] (by rw [List.length_reverse]; omega)
 rw [this, List.drop_zero]; rfl
theorem FPads_len (b : TBoard) (types : List TType) : (FPads b types).length = (padsL b types).length := by rw [FPads_eq, List.length_map]
def Fcloned (s : TShape) : TShape := s
def ccloned (s : TShape) : FuncId × List Av × Ef := (53, [.agg (TShape.c s)], .val [] (.av (.agg (TShape.c (Fcloned s)))))
theorem pcloned (s : TShape) (h0 : (s.Edges.length : Int) <= 1000000) : Pure Tryz.prog 53 (ccloned s).2.1 (.av (.agg (TShape.c (Fcloned s)))) := by
 refine pure_of_awF Tryz.func53 rfl kr kr fun W0 M0 => ?_
 refine aw_seq ?_
 refine aw_region eqok [] [] [] [1, 2] [1, 2] [] ⟨[(1, tP 1 0), (2, tP 2 0)], [(1, .cells (TShape.c s) 28), (2, .cells [.i 0, vN, .i 0] 28)]⟩ .nil kr .nil <| ath_n <| aw_seq ?_
 refine aw_region eqok [] [] [(5, ccloneE s.Edges)] [1, 2] [1, 2, 5] [Same (ccloneE s.Edges).2.1] ⟨[(1, tP 1 0), (2, tP 2 0)], [(1, .cells [.i s.Kind, .own 5 7 ((s.Edges).length), .i s.R] 28), (2, .cells [.i 0, vN, .i 0] 28), (5, .row 7 ((s.Edges).length) (rowF TEdge.c (s.Edges)) 68)]⟩ (.cons (okcloneE s.Edges au2) .nil) kr (.cons rfl .nil) <| ath_n ?_
 refine aw_cv (Cv.trans (cv_ce (⟨[(1, tP 1 0), (2, tP 2 0)], [(1, .cells [.i s.Kind, .own 5 7 s.Edges.length, .i s.R] 28), (2, .cells [.i 0, vN, .i 0] 28), (5, .row 7 s.Edges.length (rowF TEdge.c s.Edges) 68)]⟩) lr (.cons ⟨rfl, .cells _ (.cons (.refl _) (.cons (.own _ _ au3) (.cons (.refl _) .nil)))⟩ (.cons ⟨rfl, .refl _⟩ (.cons ⟨rfl, bke_told 68 (told_rfl 7 TEdge.c (s.Edges))⟩ .nil)))) (Cv.refl _)) <| aw_seq ?_
 refine aw_region eqok [] [] [] [2] [2, 5] [] ⟨[(2, tP 2 0)], [(2, .cells [.i s.Kind, .own 5 7 s.Edges.length, .i s.R] 28), (5, .row 7 s.Edges.length (rowF TEdge.c s.Edges) 68)]⟩ .nil kr .nil <| ath_n <| aw_ret ?_
 exact ⟨_, Cv.trans (cv_fz (⟨[(2, tP 2 0)], [(2, .cells (TShape.c s) 28)]⟩) 5 7 s.Edges.length (rowF TEdge.c s.Edges) 68 (K := []) (fun k x h => by cases h) kr kr (.cons ⟨rfl, rfl⟩ .nil) kr) (Cv.refl _), .inl rfl, .av (.agg (TShape.c s)), by kernel_rfl, tve_eq (by rfl)⟩
theorem okcloned (s : TShape) (h0 : (s.Edges.length : Int) <= 1000000) : CallOk Tryz.prog (ccloned s).1 (ccloned s).2.1 (ccloned s).2.2 := callOk_pure (fun _ _ => kr) fun _ => pcloned s h0
def FDiscS (p : TPoint) (r : Int) : TShape := TShape.mk 1 [TEdge.mk 1 p p (TPoint.mk 0 0)] r
def cDiscS (p : TPoint) (r : Int) : FuncId × List Av × Ef := (38, [.agg (TPoint.c p), .one (.i r)], .val [] (.av (.agg (TShape.c (FDiscS p r)))))
theorem pDiscS (p : TPoint) (r : Int) : Pure Tryz.prog 38 (cDiscS p r).2.1 (.av (.agg (TShape.c (FDiscS p r)))) := by
 refine pure_of_awF Tryz.func38 rfl kr kr fun W0 M0 => ?_
 refine aw_seq ?_
 refine aw_region eqok [] [] [] [1, 2, 4] [2, 4] [] ⟨[(1, tI r), (2, tP 2 0), (4, tP 4 0)], [(2, .cells (TPoint.c p) 66), (4, .cells [.i 0, vN, .i 0] 28)]⟩ .nil kr .nil <| ath_n <| aw_seq ?_
 refine aw_region eqok [] [] [] [4] [4] [] ⟨[(4, tP 4 0)], [(4, .cells [.i 1, .list true 7 1 (colsC 7 1 [.i 1, .i p.X, .i p.Y, .i p.X, .i p.Y, .i 0, .i 0]), .i r] 28)]⟩ .nil kr .nil <| ath_n <| aw_ret ?_
 exact ⟨_, Cv.refl _, .inl rfl, .av (.agg [.i 1, .list true 7 1 (colsC 7 1 [.i 1, .i p.X, .i p.Y, .i p.X, .i p.Y, .i 0, .i 0]), .i r]), by kernel_rfl, tve_of (y := .av (.agg [.i 1, lst 7 TEdge.c [TEdge.mk 1 p p (TPoint.mk 0 0)], .i r])) (.av (.agg (.cons (.refl _) (.cons (cle_told true (told_lit (c := TEdge.c) (xs := ([TEdge.mk 1 p p (TPoint.mk 0 0)] : List TEdge)) rfl kr)) (.cons (.refl _) .nil))))) (by rfl)⟩
theorem okDiscS (p : TPoint) (r : Int) : CallOk Tryz.prog (cDiscS p r).1 (cDiscS p r).2.1 (cDiscS p r).2.2 := callOk_pure (fun _ _ => kr) fun _ => pDiscS p r
def Z0F (b : TBoard) (v39 : Int) : TShape := FDiscS (((Fvias b).getD v39.toNat default).At) (((Fvias b).getD v39.toNat default).R)
def Z0G (b : TBoard) (v16 : Int) : TShape := ((Ftracks b).getD v16.toNat default).Shape
def FAll_l1 (b : TBoard) (types : (List TType)) (out : List TItem) (v16 : Int) (K0 : List TItem -> Int -> (List TItem)) : Nat -> List TItem -> Int -> (List TItem)
 | 0, _, _ => default
 | n1 + 1, out', v39 => bif decide ((v39 : Int) < ((((Fvias b).length : Nat) : Int))) then ((FAll_l1 b types out v16 K0 n1) (out' ++ [TItem.mk (((Fvias b).getD v39.toNat default).Id) (⟨#[]⟩) 3 (((Fvias b).getD v39.toNat default).Net) (((Fvias b).getD v39.toNat default).From) (((Fvias b).getD v39.toNat default).To) (Z0F b v39)]) (v39 + 1)) else (out')
def FAll_l0 (b : TBoard) (types : (List TType)) : Nat -> List TItem -> Int -> (List TItem)
 | 0, _, _ => default
 | n0 + 1, out, v16 => bif decide ((v16 : Int) < ((((Ftracks b).length : Nat) : Int))) then ((FAll_l0 b types n0) (out ++ [TItem.mk (((Ftracks b).getD v16.toNat default).Id) (⟨#[]⟩) 2 (((Ftracks b).getD v16.toNat default).Net) (((Ftracks b).getD v16.toNat default).Layer) (((Ftracks b).getD v16.toNat default).Layer) (Fcloned (Z0G b v16))]) (v16 + 1)) else (FAll_l1 b types out v16 (FAll_l0 b types n0) (((((((Fvias b).length : Nat) : Int))) - 0).toNat + 1) out 0)
def FAll (b : TBoard) (types : (List TType)) : (List TItem) := FAll_l0 b types (((((((Ftracks b).length : Nat) : Int))) - 0).toNat + 1) (FPads b types) 0
theorem qAll (b : TBoard) (types : (List TType)) (hb : BrdOk b) (ht : TypesOk types) : Fr Tryz.prog 14 [.agg (TBoard.c b), .one (lst 3 TType.c types)] (.row 9 (FAll b types).length (rowF TItem.c (FAll b types)) 61) (fun d => .av (.one (.own d 9 (FAll b types).length))) := by
 refine fr_of_awF Tryz.func14 rfl kr (ownV_one _ _) fun W0 M0 => ?_
 have hpl := padsL_len hb.parts ht
 have hp1 := FPads_len b types
 have ht1 := Ftracks_len b
 have hv1 := Fvias_len b
 have hb1 := hb.tracks
 have hb2 := hb.vias
 refine aw_seq ?_
 refine aw_region eqok [] [] [] [1, 2] [2] [] ⟨[(1, .av (.one (lst 3 TType.c types))), (2, tP 2 0)], [(2, .cells (TBoard.c b) 41)]⟩ .nil kr .nil <| ath_n <| aw_seq ?_
 refine aw_region eqok [] [] [(12, ceI [.agg (TBoard.c b), .one (lst 3 TType.c types)] (cPads b types))] [2, 5] [2, 12] [Same (ceI [.agg (TBoard.c b), .one (lst 3 TType.c types)] (cPads b types)).2.1] ⟨[(2, tP 2 0), (5, .av (.one (.own 12 9 ((FPads b types).length))))], [(2, .cells (TBoard.c b) 41), (12, .row 9 ((FPads b types).length) (rowF TItem.c (FPads b types)) 61)]⟩ (.cons (callOk_ce (okPads b types au6 au6 au6 au6 au6) (.cons (.agg (.cons (.refl _) (.cons (.refl _) (.cons (.refl _) (.cons (.refl _) (.cons (.refl _) (.cons (.refl _) (.cons (.refl _) (.cons (.refl _) (.cons (.refl _) (.cons (.refl _) (.cons (.refl _) (.cons (.refl _) (.cons (.any _) (.cons (.refl _) (.cons (.refl _) .nil)))))))))))))))) (.cons (AvE.refl _) .nil))) .nil) kr (.cons rfl .nil) <| ath_n ?_
 refine aw_seq <| aw_seq ?_
 refine aw_region eqok [] [] [(14, ctracks b)] [2, 5, 14, 15, 16] [2, 12, 14] [Same (ctracks b).2.1] ⟨[(2, tP 2 0), (5, .av (.one (.own 12 9 ((FPads b types).length)))), (14, .av (.one (.own 14 6 ((Ftracks b).length)))), (15, tI ((((Ftracks b).length : Nat) : Int))), (16, tI 0)], [(2, .cells (TBoard.c b) 41), (12, .row 9 ((FPads b types).length) (rowF TItem.c (FPads b types)) 61), (14, .row 6 ((Ftracks b).length) (rowF TTrack.c (Ftracks b)) 150)]⟩ (.cons (oktracks b au6) .nil) kr (.cons rfl .nil) <| ath_n <| aw_block ?_
 refine aw_loopC (ι := Nat × List TItem × Int) (fun x => ⟨[(2, tP 2 0), (5, .av (.one (.own 12 9 x.2.1.length))), (14, .av (.one (.own 14 6 ((Ftracks b).length)))), (15, tI ((((Ftracks b).length : Nat) : Int))), (16, tI x.2.2)], [(2, .cells (TBoard.c b) 41), (12, .row 9 x.2.1.length (rowF TItem.c x.2.1) 61), (14, .row 6 ((Ftracks b).length) (rowF TTrack.c (Ftracks b)) 150)]⟩) (fun x => ((((((Ftracks b).length : Nat) : Int))) - x.2.2).toNat < x.1 /\ (0 <= x.2.2 /\ (x.2.2 <= ((((Ftracks b).length : Nat) : Int)) \/ x.2.2 = 0) /\ (x.2.1.length : Int) <= ((FPads b types).length : Int) + 1 * (x.2.2 - 0)) /\ FAll_l0 b types x.1 x.2.1 x.2.2 = FAll b types) (fun x => x.1) ?_ (((((((Ftracks b).length : Nat) : Int))) - 0).toNat + 1, FPads b types, 0) ⟨Nat.lt_succ_self _, ⟨(by show 0 <= 0; first | trivial | omega | exact at0 | exact at1 | exact at2 | (simp; omega) | simp), (by show (0 <= ((((Ftracks b).length : Nat) : Int)) \/ 0 = 0); first | trivial | omega | exact at0 | exact at1 | exact at2 | (simp; omega) | simp), (by show ((FPads b types).length : Int) <= ((FPads b types).length : Int) + 1 * (0 - 0); first | trivial | omega | exact at0 | exact at1 | exact at2 | (simp; omega) | simp)⟩, (by simp only [FAll, cond_true, cond_false])⟩
 rintro ⟨n0, out, v16⟩ ⟨hn, hinv, hF⟩
 have hm0 : ((((((Ftracks b).length : Nat) : Int))) - v16).toNat < n0 := hn; have hinv0 : 0 <= v16 /\ (v16 <= ((((Ftracks b).length : Nat) : Int)) \/ v16 = 0) /\ (out.length : Int) <= ((FPads b types).length : Int) + 1 * (v16 - 0) := hinv; have hF0 : FAll_l0 b types n0 out v16 = FAll b types := hF; clear hn hinv hF
 cases n0 with
 | zero => exact absurd hm0 (Nat.not_lt_zero _)
 | succ n0 =>
  refine aw_seq ?_
  refine aw_region eqok [] [] [] [2, 5, 14, 15, 16, 17] [2, 12, 14] [] ⟨[(2, tP 2 0), (5, .av (.one (.own 12 9 out.length))), (14, .av (.one (.own 14 6 ((Ftracks b).length)))), (15, tI ((((Ftracks b).length : Nat) : Int))), (16, tI v16), (17, tB (decide ((v16 : Int) < ((((Ftracks b).length : Nat) : Int)))))], [(2, .cells (TBoard.c b) 41), (12, .row 9 out.length (rowF TItem.c out) 61), (14, .row 6 ((Ftracks b).length) (rowF TTrack.c (Ftracks b)) 150)]⟩ .nil kr .nil <| ath_n <| aw_seq ?_
  refine aw_cond (decide ((v16 : Int) < ((((Ftracks b).length : Nat) : Int)))) kr (fun h1 => ?_) (fun h1 => ?_)
  ·have g1 := of_decide_eq_true h1
   refine aw_skip <| ath_n ?_
   refine aw_seq <| aw_block <| aw_seq ?_
   refine aw_region eqok [] [] [] [2, 5, 7, 14, 15, 16] [2, 7, 12, 14] [0 <= (v16 : Int) /\ (v16 : Int) < (((Ftracks b).length : Nat) : Int), v16.toNat < (Ftracks b).length] ⟨[(2, tP 2 0), (5, .av (.one (.own 12 9 out.length))), (7, tP 7 0), (14, .av (.one (.own 14 6 ((Ftracks b).length)))), (15, tI ((((Ftracks b).length : Nat) : Int))), (16, tI v16)], [(2, .cells (TBoard.c b) 41), (7, .cells (TTrack.c ((Ftracks b).getD v16.toNat default)) 150), (12, .row 9 out.length (rowF TItem.c out) 61), (14, .row 6 ((Ftracks b).length) (rowF TTrack.c (Ftracks b)) 150)]⟩ .nil kr (.cons au0 (.cons au0 .nil)) <| ath_n ?_
   refine aw_draw mixed eqok [] [] [(31, ccloned (Z0G b v16))] [2, 5, 14, 15, 16] [2, 14, 34] [Same (ccloned (Z0G b v16)).2.1, out.length = out.length, out.length + 1 <= maxLen, (out.length + 1) * 104 <= 140737488355328] ⟨[(2, tP 2 0), (5, .av (.one (.own 34 9 (out.length + 1)))), (14, .av (.one (.own 14 6 ((Ftracks b).length)))), (15, tI ((((Ftracks b).length : Nat) : Int))), (16, tI v16)], [(2, .cells (TBoard.c b) 41), (14, .row 6 ((Ftracks b).length) (rowF TTrack.c (Ftracks b)) 150), (34, .row 9 (out.length + 1) (fun i_ j_ => if i_ < out.length then (rowF TItem.c out) i_ j_ else (colsC 9 1 [.i (((Ftracks b).getD v16.toNat default).Id), .s (⟨#[]⟩), .i 2, .s (((Ftracks b).getD v16.toNat default).Net), .i (((Ftracks b).getD v16.toNat default).Layer), .i (((Ftracks b).getD v16.toNat default).Layer), .i ((Fcloned (Z0G b v16)).Kind), lst 7 TEdge.c ((Fcloned (Z0G b v16)).Edges), .i ((Fcloned (Z0G b v16)).R)]) (i_ - out.length) j_) 61)]⟩ (.cons (okcloned (Z0G b v16) au6) .nil) kr kr (.cons rfl (.cons rfl (.cons au4 (.cons au4 .nil)))) <| abl_n <| ath_n ?_
   refine aw_cv (Cv.trans (cv_ce (⟨[(2, tP 2 0), (5, .av (.one (.own 34 9 ((out ++ [TItem.mk (((Ftracks b).getD v16.toNat default).Id) (⟨#[]⟩) 2 (((Ftracks b).getD v16.toNat default).Net) (((Ftracks b).getD v16.toNat default).Layer) (((Ftracks b).getD v16.toNat default).Layer) (Fcloned (Z0G b v16))]).length)))), (14, .av (.one (.own 14 6 ((Ftracks b).length)))), (15, tI ((((Ftracks b).length : Nat) : Int))), (16, tI v16)], [(2, .cells (TBoard.c b) 41), (14, .row 6 ((Ftracks b).length) (rowF TTrack.c (Ftracks b)) 150), (34, .row 9 ((out ++ [TItem.mk (((Ftracks b).getD v16.toNat default).Id) (⟨#[]⟩) 2 (((Ftracks b).getD v16.toNat default).Net) (((Ftracks b).getD v16.toNat default).Layer) (((Ftracks b).getD v16.toNat default).Layer) (Fcloned (Z0G b v16))]).length) (rowF TItem.c (out ++ [TItem.mk (((Ftracks b).getD v16.toNat default).Id) (⟨#[]⟩) 2 (((Ftracks b).getD v16.toNat default).Net) (((Ftracks b).getD v16.toNat default).Layer) (((Ftracks b).getD v16.toNat default).Layer) (Fcloned (Z0G b v16))])) 61)]⟩) (.cons ⟨rfl, .refl _⟩ (.cons ⟨rfl, .av (.one (.own _ _ au3))⟩ lr)) (.cons ⟨rfl, .refl _⟩ (.cons ⟨rfl, .refl _⟩ (.cons ⟨rfl, bke_told 61 (told_app (told_rfl 9 TItem.c out) (told_lit (c := TItem.c) (xs := ([TItem.mk (((Ftracks b).getD v16.toNat default).Id) (⟨#[]⟩) 2 (((Ftracks b).getD v16.toNat default).Net) (((Ftracks b).getD v16.toNat default).Layer) (((Ftracks b).getD v16.toNat default).Layer) (Fcloned (Z0G b v16))] : List TItem)) rfl kr))⟩ .nil)))) (Cv.refl _)) ?_
   refine aw_region eqok [] [] [] [2, 5, 14, 15, 16] [2, 14, 34] [] ⟨[(2, tP 2 0), (5, .av (.one (.own 34 9 ((out ++ [TItem.mk (((Ftracks b).getD v16.toNat default).Id) (⟨#[]⟩) 2 (((Ftracks b).getD v16.toNat default).Net) (((Ftracks b).getD v16.toNat default).Layer) (((Ftracks b).getD v16.toNat default).Layer) (Fcloned (Z0G b v16))]).length)))), (14, .av (.one (.own 14 6 ((Ftracks b).length)))), (15, tI ((((Ftracks b).length : Nat) : Int))), (16, tI (W64 (v16 + 1)))], [(2, .cells (TBoard.c b) 41), (14, .row 6 ((Ftracks b).length) (rowF TTrack.c (Ftracks b)) 150), (34, .row 9 ((out ++ [TItem.mk (((Ftracks b).getD v16.toNat default).Id) (⟨#[]⟩) 2 (((Ftracks b).getD v16.toNat default).Net) (((Ftracks b).getD v16.toNat default).Layer) (((Ftracks b).getD v16.toNat default).Layer) (Fcloned (Z0G b v16))]).length) (rowF TItem.c (out ++ [TItem.mk (((Ftracks b).getD v16.toNat default).Id) (⟨#[]⟩) 2 (((Ftracks b).getD v16.toNat default).Net) (((Ftracks b).getD v16.toNat default).Layer) (((Ftracks b).getD v16.toNat default).Layer) (Fcloned (Z0G b v16))])) 61)]⟩ .nil kr .nil ?_
   (try rw [(show W64 (v16 + 1) = v16 + 1 from W64_id (by omega) au5)])
   refine ath_n ?_
   refine ⟨(n0, out ++ [TItem.mk (((Ftracks b).getD v16.toNat default).Id) (⟨#[]⟩) 2 (((Ftracks b).getD v16.toNat default).Net) (((Ftracks b).getD v16.toNat default).Layer) (((Ftracks b).getD v16.toNat default).Layer) (Fcloned (Z0G b v16))], v16 + 1), ⟨?_, ?_, (by rw [<- hF0]; simp only [FAll_l0, h1, cond_true, cond_false])⟩, Nat.lt_succ_self _, Cv.trans (cv_ren (⟨[(2, tP 2 0), (5, .av (.one (.own 12 9 ((out ++ [TItem.mk (((Ftracks b).getD v16.toNat default).Id) (⟨#[]⟩) 2 (((Ftracks b).getD v16.toNat default).Net) (((Ftracks b).getD v16.toNat default).Layer) (((Ftracks b).getD v16.toNat default).Layer) (Fcloned (Z0G b v16))]).length)))), (14, .av (.one (.own 14 6 ((Ftracks b).length)))), (15, tI ((((Ftracks b).length : Nat) : Int))), (16, tI (v16 + 1))], [(2, .cells (TBoard.c b) 41), (14, .row 6 ((Ftracks b).length) (rowF TTrack.c (Ftracks b)) 150), (12, .row 9 ((out ++ [TItem.mk (((Ftracks b).getD v16.toNat default).Id) (⟨#[]⟩) 2 (((Ftracks b).getD v16.toNat default).Net) (((Ftracks b).getD v16.toNat default).Layer) (((Ftracks b).getD v16.toNat default).Layer) (Fcloned (Z0G b v16))]).length) (rowF TItem.c (out ++ [TItem.mk (((Ftracks b).getD v16.toNat default).Id) (⟨#[]⟩) 2 (((Ftracks b).getD v16.toNat default).Net) (((Ftracks b).getD v16.toNat default).Layer) (((Ftracks b).getD v16.toNat default).Layer) (Fcloned (Z0G b v16))])) 61)]⟩) 34 12 (K := []) (fun k x h => by cases h) rfl rfl kr kr) (Cv.trans (cv_keep [2, 5, 14, 15, 16] [2, 12, 14] (⟨[(2, tP 2 0), (5, .av (.one (.own 12 9 ((out ++ [TItem.mk (((Ftracks b).getD v16.toNat default).Id) (⟨#[]⟩) 2 (((Ftracks b).getD v16.toNat default).Net) (((Ftracks b).getD v16.toNat default).Layer) (((Ftracks b).getD v16.toNat default).Layer) (Fcloned (Z0G b v16))]).length)))), (14, .av (.one (.own 14 6 ((Ftracks b).length)))), (15, tI ((((Ftracks b).length : Nat) : Int))), (16, tI (v16 + 1))], [(2, .cells (TBoard.c b) 41), (12, .row 9 ((out ++ [TItem.mk (((Ftracks b).getD v16.toNat default).Id) (⟨#[]⟩) 2 (((Ftracks b).getD v16.toNat default).Net) (((Ftracks b).getD v16.toNat default).Layer) (((Ftracks b).getD v16.toNat default).Layer) (Fcloned (Z0G b v16))]).length) (rowF TItem.c (out ++ [TItem.mk (((Ftracks b).getD v16.toNat default).Id) (⟨#[]⟩) 2 (((Ftracks b).getD v16.toNat default).Net) (((Ftracks b).getD v16.toNat default).Layer) (((Ftracks b).getD v16.toNat default).Layer) (Fcloned (Z0G b v16))])) 61), (14, .row 6 ((Ftracks b).length) (rowF TTrack.c (Ftracks b)) 150)]⟩) kr) (cv_eq kr))⟩
   ·show ((((((Ftracks b).length : Nat) : Int))) - (v16 + 1)).toNat < n0; omega
   ·exact ⟨(by show 0 <= (v16 + 1); first | trivial | omega | exact at0 | exact at1 | exact at2 | (simp; omega) | simp), (by show ((v16 + 1) <= ((((Ftracks b).length : Nat) : Int)) \/ (v16 + 1) = 0); first | trivial | omega | exact at0 | exact at1 | exact at2 | (simp; omega) | simp), (by show ((out ++ [TItem.mk (((Ftracks b).getD v16.toNat default).Id) (⟨#[]⟩) 2 (((Ftracks b).getD v16.toNat default).Net) (((Ftracks b).getD v16.toNat default).Layer) (((Ftracks b).getD v16.toNat default).Layer) (Fcloned (Z0G b v16))]).length : Int) <= ((FPads b types).length : Int) + 1 * ((v16 + 1) - 0); first | trivial | omega | exact at0 | exact at1 | exact at2 | (simp; omega) | simp)⟩
  ·have g1 := of_decide_eq_false h1
   refine aw_exit <| ath_e ?_
   refine ath_e <| abl_hit ?_
   refine ath_n <| aw_seq <| aw_seq ?_
   refine aw_region eqok [] [] [(37, cvias b)] [5, 37, 38, 39] [12, 37] [Same (cvias b).2.1] ⟨[(5, .av (.one (.own 12 9 out.length))), (37, .av (.one (.own 37 8 ((Fvias b).length)))), (38, tI ((((Fvias b).length : Nat) : Int))), (39, tI 0)], [(12, .row 9 out.length (rowF TItem.c out) 61), (37, .row 8 ((Fvias b).length) (rowF TVia.c (Fvias b)) 154)]⟩ (.cons (okvias b au6) .nil) kr (.cons rfl .nil) <| ath_n <| aw_block ?_
   refine aw_loopC (ι := Nat × List TItem × Int) (fun x => ⟨[(5, .av (.one (.own 12 9 x.2.1.length))), (37, .av (.one (.own 37 8 ((Fvias b).length)))), (38, tI ((((Fvias b).length : Nat) : Int))), (39, tI x.2.2)], [(12, .row 9 x.2.1.length (rowF TItem.c x.2.1) 61), (37, .row 8 ((Fvias b).length) (rowF TVia.c (Fvias b)) 154)]⟩) (fun x => ((((((Fvias b).length : Nat) : Int))) - x.2.2).toNat < x.1 /\ (0 <= x.2.2 /\ (x.2.2 <= ((((Fvias b).length : Nat) : Int)) \/ x.2.2 = 0) /\ (x.2.1.length : Int) <= (out.length : Int) + 1 * (x.2.2 - 0)) /\ FAll_l1 b types out v16 (FAll_l0 b types n0) x.1 x.2.1 x.2.2 = FAll b types) (fun x => x.1) ?_ (((((((Fvias b).length : Nat) : Int))) - 0).toNat + 1, out, 0) ⟨Nat.lt_succ_self _, ⟨(by show 0 <= 0; first | trivial | omega | exact at0 | exact at1 | exact at2 | (simp; omega) | simp), (by show (0 <= ((((Fvias b).length : Nat) : Int)) \/ 0 = 0); first | trivial | omega | exact at0 | exact at1 | exact at2 | (simp; omega) | simp), (by show (out.length : Int) <= (out.length : Int) + 1 * (0 - 0); first | trivial | omega | exact at0 | exact at1 | exact at2 | (simp; omega) | simp)⟩, (by rw [<- hF0]; simp only [FAll_l0, h1, cond_true, cond_false])⟩
   rintro ⟨n1, out', v39⟩ ⟨hn, hinv, hF⟩
   have hm1 : ((((((Fvias b).length : Nat) : Int))) - v39).toNat < n1 := hn; have hinv1 : 0 <= v39 /\ (v39 <= ((((Fvias b).length : Nat) : Int)) \/ v39 = 0) /\ (out'.length : Int) <= (out.length : Int) + 1 * (v39 - 0) := hinv; have hF1 : FAll_l1 b types out v16 (FAll_l0 b types n0) n1 out' v39 = FAll b types := hF; clear hn hinv hF
   cases n1 with
   | zero => exact absurd hm1 (Nat.not_lt_zero _)
   | succ n1 =>
    refine aw_seq ?_
    refine aw_region eqok [] [] [] [5, 37, 38, 39, 40] [12, 37] [] ⟨[(5, .av (.one (.own 12 9 out'.length))), (37, .av (.one (.own 37 8 ((Fvias b).length)))), (38, tI ((((Fvias b).length : Nat) : Int))), (39, tI v39), (40, tB (decide ((v39 : Int) < ((((Fvias b).length : Nat) : Int)))))], [(12, .row 9 out'.length (rowF TItem.c out') 61), (37, .row 8 ((Fvias b).length) (rowF TVia.c (Fvias b)) 154)]⟩ .nil kr .nil <| ath_n <| aw_seq ?_
    refine aw_cond (decide ((v39 : Int) < ((((Fvias b).length : Nat) : Int)))) kr (fun h2 => ?_) (fun h2 => ?_)
    ·have g2 := of_decide_eq_true h2
     refine aw_skip <| ath_n ?_
     refine aw_seq <| aw_block <| aw_seq ?_
     refine aw_region eqok [] [] [] [5, 9, 37, 38, 39] [9, 12, 37] [0 <= (v39 : Int) /\ (v39 : Int) < (((Fvias b).length : Nat) : Int), v39.toNat < (Fvias b).length] ⟨[(5, .av (.one (.own 12 9 out'.length))), (9, tP 9 0), (37, .av (.one (.own 37 8 ((Fvias b).length)))), (38, tI ((((Fvias b).length : Nat) : Int))), (39, tI v39)], [(9, .cells (TVia.c ((Fvias b).getD v39.toNat default)) 154), (12, .row 9 out'.length (rowF TItem.c out') 61), (37, .row 8 ((Fvias b).length) (rowF TVia.c (Fvias b)) 154)]⟩ .nil kr (.cons au0 (.cons au0 .nil)) <| ath_n ?_
     refine aw_draw mixed eqok [] [] [(56, cDiscS (((Fvias b).getD v39.toNat default).At) (((Fvias b).getD v39.toNat default).R))] [5, 37, 38, 39] [37, 59] [Same (cDiscS (((Fvias b).getD v39.toNat default).At) (((Fvias b).getD v39.toNat default).R)).2.1, out'.length = out'.length, out'.length + 1 <= maxLen, (out'.length + 1) * 104 <= 140737488355328] ⟨[(5, .av (.one (.own 59 9 (out'.length + 1)))), (37, .av (.one (.own 37 8 ((Fvias b).length)))), (38, tI ((((Fvias b).length : Nat) : Int))), (39, tI v39)], [(37, .row 8 ((Fvias b).length) (rowF TVia.c (Fvias b)) 154), (59, .row 9 (out'.length + 1) (fun i_ j_ => if i_ < out'.length then (rowF TItem.c out') i_ j_ else (colsC 9 1 [.i (((Fvias b).getD v39.toNat default).Id), .s (⟨#[]⟩), .i 3, .s (((Fvias b).getD v39.toNat default).Net), .i (((Fvias b).getD v39.toNat default).From), .i (((Fvias b).getD v39.toNat default).To), .i ((Z0F b v39).Kind), lst 7 TEdge.c ((Z0F b v39).Edges), .i ((Z0F b v39).R)]) (i_ - out'.length) j_) 61)]⟩ (.cons (okDiscS (((Fvias b).getD v39.toNat default).At) (((Fvias b).getD v39.toNat default).R)) .nil) kr kr (.cons rfl (.cons rfl (.cons au4 (.cons au4 .nil)))) <| abl_n <| ath_n ?_
     refine aw_cv (Cv.trans (cv_ce (⟨[(5, .av (.one (.own 59 9 ((out' ++ [TItem.mk (((Fvias b).getD v39.toNat default).Id) (⟨#[]⟩) 3 (((Fvias b).getD v39.toNat default).Net) (((Fvias b).getD v39.toNat default).From) (((Fvias b).getD v39.toNat default).To) (Z0F b v39)]).length)))), (37, .av (.one (.own 37 8 ((Fvias b).length)))), (38, tI ((((Fvias b).length : Nat) : Int))), (39, tI v39)], [(37, .row 8 ((Fvias b).length) (rowF TVia.c (Fvias b)) 154), (59, .row 9 ((out' ++ [TItem.mk (((Fvias b).getD v39.toNat default).Id) (⟨#[]⟩) 3 (((Fvias b).getD v39.toNat default).Net) (((Fvias b).getD v39.toNat default).From) (((Fvias b).getD v39.toNat default).To) (Z0F b v39)]).length) (rowF TItem.c (out' ++ [TItem.mk (((Fvias b).getD v39.toNat default).Id) (⟨#[]⟩) 3 (((Fvias b).getD v39.toNat default).Net) (((Fvias b).getD v39.toNat default).From) (((Fvias b).getD v39.toNat default).To) (Z0F b v39)])) 61)]⟩) (.cons ⟨rfl, .av (.one (.own _ _ au3))⟩ lr) (.cons ⟨rfl, .refl _⟩ (.cons ⟨rfl, bke_told 61 (told_app (told_rfl 9 TItem.c out') (told_lit (c := TItem.c) (xs := ([TItem.mk (((Fvias b).getD v39.toNat default).Id) (⟨#[]⟩) 3 (((Fvias b).getD v39.toNat default).Net) (((Fvias b).getD v39.toNat default).From) (((Fvias b).getD v39.toNat default).To) (Z0F b v39)] : List TItem)) rfl kr))⟩ .nil))) (Cv.refl _)) ?_
     refine aw_region eqok [] [] [] [5, 37, 38, 39] [37, 59] [] ⟨[(5, .av (.one (.own 59 9 ((out' ++ [TItem.mk (((Fvias b).getD v39.toNat default).Id) (⟨#[]⟩) 3 (((Fvias b).getD v39.toNat default).Net) (((Fvias b).getD v39.toNat default).From) (((Fvias b).getD v39.toNat default).To) (Z0F b v39)]).length)))), (37, .av (.one (.own 37 8 ((Fvias b).length)))), (38, tI ((((Fvias b).length : Nat) : Int))), (39, tI (W64 (v39 + 1)))], [(37, .row 8 ((Fvias b).length) (rowF TVia.c (Fvias b)) 154), (59, .row 9 ((out' ++ [TItem.mk (((Fvias b).getD v39.toNat default).Id) (⟨#[]⟩) 3 (((Fvias b).getD v39.toNat default).Net) (((Fvias b).getD v39.toNat default).From) (((Fvias b).getD v39.toNat default).To) (Z0F b v39)]).length) (rowF TItem.c (out' ++ [TItem.mk (((Fvias b).getD v39.toNat default).Id) (⟨#[]⟩) 3 (((Fvias b).getD v39.toNat default).Net) (((Fvias b).getD v39.toNat default).From) (((Fvias b).getD v39.toNat default).To) (Z0F b v39)])) 61)]⟩ .nil kr .nil ?_
     (try rw [(show W64 (v39 + 1) = v39 + 1 from W64_id (by omega) au5)])
     refine ath_n ?_
     refine ⟨(n1, out' ++ [TItem.mk (((Fvias b).getD v39.toNat default).Id) (⟨#[]⟩) 3 (((Fvias b).getD v39.toNat default).Net) (((Fvias b).getD v39.toNat default).From) (((Fvias b).getD v39.toNat default).To) (Z0F b v39)], v39 + 1), ⟨?_, ?_, (by rw [<- hF1]; simp only [FAll_l1, h2, cond_true, cond_false])⟩, Nat.lt_succ_self _, Cv.trans (cv_ren (⟨[(5, .av (.one (.own 12 9 ((out' ++ [TItem.mk (((Fvias b).getD v39.toNat default).Id) (⟨#[]⟩) 3 (((Fvias b).getD v39.toNat default).Net) (((Fvias b).getD v39.toNat default).From) (((Fvias b).getD v39.toNat default).To) (Z0F b v39)]).length)))), (37, .av (.one (.own 37 8 ((Fvias b).length)))), (38, tI ((((Fvias b).length : Nat) : Int))), (39, tI (v39 + 1))], [(37, .row 8 ((Fvias b).length) (rowF TVia.c (Fvias b)) 154), (12, .row 9 ((out' ++ [TItem.mk (((Fvias b).getD v39.toNat default).Id) (⟨#[]⟩) 3 (((Fvias b).getD v39.toNat default).Net) (((Fvias b).getD v39.toNat default).From) (((Fvias b).getD v39.toNat default).To) (Z0F b v39)]).length) (rowF TItem.c (out' ++ [TItem.mk (((Fvias b).getD v39.toNat default).Id) (⟨#[]⟩) 3 (((Fvias b).getD v39.toNat default).Net) (((Fvias b).getD v39.toNat default).From) (((Fvias b).getD v39.toNat default).To) (Z0F b v39)])) 61)]⟩) 59 12 (K := []) (fun k x h => by cases h) rfl rfl kr kr) (Cv.trans (cv_keep [5, 37, 38, 39] [12, 37] (⟨[(5, .av (.one (.own 12 9 ((out' ++ [TItem.mk (((Fvias b).getD v39.toNat default).Id) (⟨#[]⟩) 3 (((Fvias b).getD v39.toNat default).Net) (((Fvias b).getD v39.toNat default).From) (((Fvias b).getD v39.toNat default).To) (Z0F b v39)]).length)))), (37, .av (.one (.own 37 8 ((Fvias b).length)))), (38, tI ((((Fvias b).length : Nat) : Int))), (39, tI (v39 + 1))], [(12, .row 9 ((out' ++ [TItem.mk (((Fvias b).getD v39.toNat default).Id) (⟨#[]⟩) 3 (((Fvias b).getD v39.toNat default).Net) (((Fvias b).getD v39.toNat default).From) (((Fvias b).getD v39.toNat default).To) (Z0F b v39)]).length) (rowF TItem.c (out' ++ [TItem.mk (((Fvias b).getD v39.toNat default).Id) (⟨#[]⟩) 3 (((Fvias b).getD v39.toNat default).Net) (((Fvias b).getD v39.toNat default).From) (((Fvias b).getD v39.toNat default).To) (Z0F b v39)])) 61), (37, .row 8 ((Fvias b).length) (rowF TVia.c (Fvias b)) 154)]⟩) kr) (cv_eq kr))⟩
     ·show ((((((Fvias b).length : Nat) : Int))) - (v39 + 1)).toNat < n1; omega
     ·exact ⟨(by show 0 <= (v39 + 1); first | trivial | omega | exact at0 | exact at1 | exact at2 | (simp; omega) | simp), (by show ((v39 + 1) <= ((((Fvias b).length : Nat) : Int)) \/ (v39 + 1) = 0); first | trivial | omega | exact at0 | exact at1 | exact at2 | (simp; omega) | simp), (by show ((out' ++ [TItem.mk (((Fvias b).getD v39.toNat default).Id) (⟨#[]⟩) 3 (((Fvias b).getD v39.toNat default).Net) (((Fvias b).getD v39.toNat default).From) (((Fvias b).getD v39.toNat default).To) (Z0F b v39)]).length : Int) <= (out.length : Int) + 1 * ((v39 + 1) - 0); first | trivial | omega | exact at0 | exact at1 | exact at2 | (simp; omega) | simp)⟩
    ·have g2 := of_decide_eq_false h2
     refine aw_exit <| ath_e ?_
     refine ath_e <| abl_hit ?_
     refine ath_n <| aw_seq ?_
     refine aw_region eqok [] [] [] [4] [12] [] ⟨[(4, .av (.one (.own 12 9 out'.length)))], [(12, .row 9 out'.length (rowF TItem.c out') 61)]⟩ .nil kr .nil <| ath_n <| aw_ret ?_
     exact ⟨_, Cv.refl _, .inl rfl, .av (.one (.own 12 9 out'.length)), by kernel_rfl, frE (c := TItem.c) (xs := out') (by rw [<- hF1]; first | (simp only [FAll_l1, h2, cond_true, cond_false] <;> rfl)) kr⟩
def Fplated (l : (List THole)) (at_ : TPoint) (drill : Int) (from_ : Int) (to_ : Int) : (List THole) := l ++ [THole.mk (FDiscS at_ (W64 (Int.tdiv drill 2))) from_ to_ true]
theorem pplated (l : (List THole)) (at_ : TPoint) (drill : Int) (from_ : Int) (to_ : Int) (hl : l.length < 30000000) : WrA Tryz.prog 60 [.agg (TPoint.c at_), .one (.i drill), .one (.i from_), .one (.i to_)] 6 l.length (rowF THole.c l) 70 53 (Fplated l at_ drill from_ to_).length (rowF THole.c (Fplated l at_ drill from_ to_)) := by
 refine wrA_of_awF Tryz.func60 rfl kr kr fun W0 M0 X hX => ?_
 refine aw_seq ?_
 refine aw_region eqok [] [] [] [1, 2, 3, 4, 5] [5, 1000, 1001] [] ⟨[(1, tI drill), (2, tI from_), (3, tI to_), (4, tP 1000 0), (5, tP 5 0)], [(5, .cells (TPoint.c at_) 66), (1000, .cells [.own 1001 6 l.length] 53), (1001, .row 6 l.length (rowF THole.c l) 70)]⟩ .nil kr .nil <| ath_n ?_
 refine aw_draw mixed eqok [] [] [(13, cDiscS at_ (W64 (Int.tdiv drill 2)))] [] [18, 1000] [(2 : Int) ≠ 0, Same (cDiscS at_ (W64 (Int.tdiv drill 2))).2.1, l.length = l.length, l.length + 1 <= maxLen, (l.length + 1) * 64 <= 140737488355328] ⟨[], [(18, .row 6 (l.length + 1) (fun i_ j_ => if i_ < l.length then (rowF THole.c l) i_ j_ else (colsC 6 1 [.i ((FDiscS at_ (W64 (Int.tdiv drill 2))).Kind), lst 7 TEdge.c ((FDiscS at_ (W64 (Int.tdiv drill 2))).Edges), .i ((FDiscS at_ (W64 (Int.tdiv drill 2))).R), .i from_, .i to_, .b true]) (i_ - l.length) j_) 70), (1000, .cells [.own 18 6 (l.length + 1)] 53)]⟩ (.cons (okDiscS at_ (W64 (Int.tdiv drill 2))) .nil) kr kr (.cons au8 (.cons rfl (.cons rfl (.cons au4 (.cons au4 .nil))))) ?_
 exact ⟨_, Cv.trans (cv_ce (⟨[], [(18, .row 6 ((l ++ [THole.mk (FDiscS at_ (W64 (Int.tdiv drill 2))) from_ to_ true]).length) (rowF THole.c (l ++ [THole.mk (FDiscS at_ (W64 (Int.tdiv drill 2))) from_ to_ true])) 70), (1000, .cells [.own 18 6 ((l ++ [THole.mk (FDiscS at_ (W64 (Int.tdiv drill 2))) from_ to_ true]).length)] 53)]⟩) .nil (.cons ⟨rfl, bke_told 70 (told_app (told_rfl 6 THole.c l) (told_lit (c := THole.c) (xs := ([THole.mk (FDiscS at_ (W64 (Int.tdiv drill 2))) from_ to_ true] : List THole)) rfl kr))⟩ (.cons ⟨rfl, .cells _ (.cons (.own _ _ au3) .nil)⟩ .nil))) (Cv.refl _), .inr rfl, .tup [], by kernel_rfl, 18, .row 6 ((l ++ [THole.mk (FDiscS at_ (W64 (Int.tdiv drill 2))) from_ to_ true]).length) (rowF THole.c (l ++ [THole.mk (FDiscS at_ (W64 (Int.tdiv drill 2))) from_ to_ true])) 70, by kernel_rfl, by kernel_rfl, by kernel_rfl, bke_eq (by rfl)⟩
theorem Fplated_len (l : List THole) (a : TPoint) (x f t : Int) : (Fplated l a x f t).length = l.length + 1 := by unfold Fplated; rw [List.length_append]; rfl
theorem plated_bif (c : Bool) (l : List THole) (a : TPoint) (x f t : Int) : ((bif c then Fplated l a x f t else l).length : Int) <= (l.length : Int) + 1 := by
 cases c with
 | true => rw [cond_true, Fplated_len]; omega
 | false => rw [cond_false]; omega
theorem plated_le (l : List THole) (a : TPoint) (x f t : Int) : ((Fplated l a x f t).length : Int) <= (l.length : Int) + 1 := by rw [Fplated_len]; omega
def FHoles_l1 (b : TBoard) (types : (List TType)) (v5_0 : List THole) (v21 : Int) (K0 : List THole -> Int -> (List THole)) : Nat -> List THole -> Int -> (List THole)
 | 0, _, _ => default
 | n1 + 1, v5_0', v35 => bif decide ((v35 : Int) < (((((FGet types (((Fparts b).getD v21.toNat default).Type')).1).Pads).length : Int))) then ((FHoles_l1 b types v5_0 v21 K0 n1) (bif !decide (((((((FGet types (((Fparts b).getD v21.toNat default).Type')).1).Pads).getD v35.toNat default).Drill) : Int) = 0) then (Fplated v5_0' (FvecApply (FMotion ((Fparts b).getD v21.toNat default)) (((((FGet types (((Fparts b).getD v21.toNat default).Type')).1).Pads).getD v35.toNat default).At)) (((((FGet types (((Fparts b).getD v21.toNat default).Type')).1).Pads).getD v35.toNat default).Drill) 1 b.Layers) else v5_0') (v35 + 1)) else (K0 v5_0' (v21 + 1))
def FHoles_l3 (b : TBoard) (types : (List TType)) (v5_0 : List THole) (v21 : Int) (v5_0' : List THole) (v58 : Int) (K0 : List THole -> Int -> (List THole)) (K1 : List THole -> Int -> (List THole)) : Nat -> List THole -> Int -> (List THole)
 | 0, _, _ => default
 | n3 + 1, v5_0'', v76 => bif decide ((v76 : Int) < ((((Fslots b).length : Nat) : Int))) then ((FHoles_l3 b types v5_0 v21 v5_0' v58 K0 K1 n3) (v5_0'' ++ [THole.mk (Fcloned (((Fslots b).getD v76.toNat default).Shape)) 1 b.Layers false]) (v76 + 1)) else (v5_0'')
def FHoles_l2 (b : TBoard) (types : (List TType)) (v5_0 : List THole) (v21 : Int) (K0 : List THole -> Int -> (List THole)) : Nat -> List THole -> Int -> (List THole)
 | 0, _, _ => default
 | n2 + 1, v5_0', v58 => bif decide ((v58 : Int) < ((((Fvias b).length : Nat) : Int))) then ((FHoles_l2 b types v5_0 v21 K0 n2) (Fplated v5_0' (((Fvias b).getD v58.toNat default).At) (((Fvias b).getD v58.toNat default).Drill) (((Fvias b).getD v58.toNat default).From) (((Fvias b).getD v58.toNat default).To)) (v58 + 1)) else (FHoles_l3 b types v5_0 v21 v5_0' v58 K0 (FHoles_l2 b types v5_0 v21 K0 n2) (((((((Fslots b).length : Nat) : Int))) - 0).toNat + 1) v5_0' 0)
def FHoles_l0 (b : TBoard) (types : (List TType)) : Nat -> List THole -> Int -> (List THole)
 | 0, _, _ => default
 | n0 + 1, v5_0, v21 => bif decide ((v21 : Int) < ((((Fparts b).length : Nat) : Int))) then (FHoles_l1 b types v5_0 v21 (FHoles_l0 b types n0) ((((((((FGet types (((Fparts b).getD v21.toNat default).Type')).1).Pads).length : Int))) - 0).toNat + 1) v5_0 0) else (FHoles_l2 b types v5_0 v21 (FHoles_l0 b types n0) (((((((Fvias b).length : Nat) : Int))) - 0).toNat + 1) v5_0 0)
def FHoles (b : TBoard) (types : (List TType)) : (List THole) := FHoles_l0 b types (((((((Fparts b).length : Nat) : Int))) - 0).toNat + 1) (([] : List THole)) 0
theorem qHoles (b : TBoard) (types : (List TType)) (hb : BrdOk b) (ht : TypesOk types) : Fr Tryz.prog 17 [.agg (TBoard.c b), .one (lst 3 TType.c types)] (.row 6 (FHoles b types).length (rowF THole.c (FHoles b types)) 70) (fun d => .av (.one (.own d 6 (FHoles b types).length))) := by
 refine fr_of_awF Tryz.func17 rfl kr (ownV_one _ _) fun W0 M0 => ?_
 have ht1 := Fparts_len b
 have hv1 := Fvias_len b
 have hs1 := Fslots_len b
 have hb1 := hb.parts
 have hb2 := hb.vias
 have hb3 := hb.slots
 refine aw_seq ?_
 refine aw_region eqok [] [] [] [1, 2] [2] [] ⟨[(1, .av (.one (lst 3 TType.c types))), (2, tP 2 0)], [(2, .cells (TBoard.c b) 41)]⟩ .nil kr .nil <| ath_n <| aw_seq ?_
 refine aw_region eqok [] [] [] [1, 2, 5] [2, 5] [] ⟨[(1, .av (.one (lst 3 TType.c types))), (2, tP 2 0), (5, tP 5 0)], [(2, .cells (TBoard.c b) 41), (5, .cells [vN] 53)]⟩ .nil kr .nil <| ath_n <| aw_seq ?_
 refine aw_region eqok [] [] [] [1, 2, 5, 6] [2, 5] [] ⟨[(1, .av (.one (lst 3 TType.c types))), (2, tP 2 0), (5, tP 5 0), (6, .av (.one (.clo 60 1 (listF [.ptr 5 0]))))], [(2, .cells (TBoard.c b) 41), (5, .cells [vN] 53)]⟩ .nil kr .nil <| ath_n ?_
 refine aw_seq <| aw_seq ?_
 refine aw_region eqok [] [] [(19, cparts b)] [1, 2, 5, 6, 19, 20, 21] [2, 5, 19] [Same (cparts b).2.1] ⟨[(1, .av (.one (lst 3 TType.c types))), (2, tP 2 0), (5, tP 5 0), (6, .av (.one (.clo 60 1 (listF [.ptr 5 0])))), (19, .av (.one (.own 19 7 ((Fparts b).length)))), (20, tI ((((Fparts b).length : Nat) : Int))), (21, tI 0)], [(2, .cells (TBoard.c b) 41), (5, .cells [vN] 53), (19, .row 7 ((Fparts b).length) (rowF TPlaced.c (Fparts b)) 160)]⟩ (.cons (okparts b au6) .nil) kr (.cons rfl .nil) <| ath_n <| aw_block ?_
 refine aw_cv (Cv.trans (cv_ghost (⟨[(1, .av (.one (lst 3 TType.c types))), (2, tP 2 0), (5, tP 5 0), (6, .av (.one (.clo 60 1 (listF [.ptr 5 0])))), (19, .av (.one (.own 19 7 ((Fparts b).length)))), (20, tI ((((Fparts b).length : Nat) : Int))), (21, tI 0)], [(100000, .row 6 0 (fun _ _ => default) 70), (2, .cells (TBoard.c b) 41), (5, .cells [.own 100000 6 0] 53), (19, .row 7 ((Fparts b).length) (rowF TPlaced.c (Fparts b)) 160)]⟩) 100000 6 (fun _ _ => default) 70 [] [(5, [0])] (K := []) (fun k x h => by cases h) rfl kr kr) (Cv.trans (cv_ce (⟨[(1, .av (.one (lst 3 TType.c types))), (2, tP 2 0), (5, tP 5 0), (6, .av (.one (.clo 60 1 (listF [.ptr 5 0])))), (19, .av (.one (.own 19 7 ((Fparts b).length)))), (20, tI ((((Fparts b).length : Nat) : Int))), (21, tI 0)], [(100000, .row 6 ((([] : List THole)).length) (rowF THole.c (([] : List THole))) 70), (2, .cells (TBoard.c b) 41), (5, .cells [.own 100000 6 ((([] : List THole)).length)] 53), (19, .row 7 ((Fparts b).length) (rowF TPlaced.c (Fparts b)) 160)]⟩) lr (.cons ⟨rfl, bke_told 70 (told_nil 6 (fun _ _ => default) THole.c)⟩ (.cons ⟨rfl, .refl _⟩ (.cons ⟨rfl, .cells _ (.cons (.own _ _ au3) .nil)⟩ lr)))) (Cv.trans (cv_keep [1, 2, 5, 6, 19, 20, 21] [2, 5, 19, 100000] (⟨[(1, .av (.one (lst 3 TType.c types))), (2, tP 2 0), (5, tP 5 0), (6, .av (.one (.clo 60 1 (listF [.ptr 5 0])))), (19, .av (.one (.own 19 7 ((Fparts b).length)))), (20, tI ((((Fparts b).length : Nat) : Int))), (21, tI 0)], [(2, .cells (TBoard.c b) 41), (5, .cells [.own 100000 6 ((([] : List THole)).length)] 53), (19, .row 7 ((Fparts b).length) (rowF TPlaced.c (Fparts b)) 160), (100000, .row 6 ((([] : List THole)).length) (rowF THole.c (([] : List THole))) 70)]⟩) kr) (Cv.refl _)))) ?_
 refine aw_loopC (ι := Nat × List THole × Int) (fun x => ⟨[(1, .av (.one (lst 3 TType.c types))), (2, tP 2 0), (5, tP 5 0), (6, .av (.one (.clo 60 1 (listF [.ptr 5 0])))), (19, .av (.one (.own 19 7 ((Fparts b).length)))), (20, tI ((((Fparts b).length : Nat) : Int))), (21, tI x.2.2)], [(2, .cells (TBoard.c b) 41), (5, .cells [.own 100000 6 x.2.1.length] 53), (19, .row 7 ((Fparts b).length) (rowF TPlaced.c (Fparts b)) 160), (100000, .row 6 x.2.1.length (rowF THole.c x.2.1) 70)]⟩) (fun x => ((((((Fparts b).length : Nat) : Int))) - x.2.2).toNat < x.1 /\ ((x.2.1.length : Int) <= 1000000 * x.2.2 /\ 0 <= x.2.2 /\ (x.2.2 <= ((((Fparts b).length : Nat) : Int)) \/ x.2.2 = 0)) /\ FHoles_l0 b types x.1 x.2.1 x.2.2 = FHoles b types) (fun x => x.1) ?_ (((((((Fparts b).length : Nat) : Int))) - 0).toNat + 1, ([] : List THole), 0) ⟨Nat.lt_succ_self _, ⟨(by show ((([] : List THole)).length : Int) <= 1000000 * 0; first | trivial | omega | exact at0 | exact at1 | exact at2 | (simp; omega) | simp), (by show 0 <= 0; first | trivial | omega | exact at0 | exact at1 | exact at2 | (simp; omega) | simp), (by show (0 <= ((((Fparts b).length : Nat) : Int)) \/ 0 = 0); first | trivial | omega | exact at0 | exact at1 | exact at2 | (simp; omega) | simp)⟩, (by simp only [FHoles, cond_true, cond_false])⟩
 rintro ⟨n0, v5_0, v21⟩ ⟨hn, hinv, hF⟩
 have hm0 : ((((((Fparts b).length : Nat) : Int))) - v21).toNat < n0 := hn; have hinv0 : (v5_0.length : Int) <= 1000000 * v21 /\ 0 <= v21 /\ (v21 <= ((((Fparts b).length : Nat) : Int)) \/ v21 = 0) := hinv; have hF0 : FHoles_l0 b types n0 v5_0 v21 = FHoles b types := hF; clear hn hinv hF
 cases n0 with
 | zero => exact absurd hm0 (Nat.not_lt_zero _)
 | succ n0 =>
  refine aw_seq ?_
  refine aw_region eqok [] [] [] [1, 2, 5, 6, 19, 20, 21, 22] [2, 5, 19, 100000] [] ⟨[(1, .av (.one (lst 3 TType.c types))), (2, tP 2 0), (5, tP 5 0), (6, .av (.one (.clo 60 1 (listF [.ptr 5 0])))), (19, .av (.one (.own 19 7 ((Fparts b).length)))), (20, tI ((((Fparts b).length : Nat) : Int))), (21, tI v21), (22, tB (decide ((v21 : Int) < ((((Fparts b).length : Nat) : Int)))))], [(2, .cells (TBoard.c b) 41), (5, .cells [.own 100000 6 v5_0.length] 53), (19, .row 7 ((Fparts b).length) (rowF TPlaced.c (Fparts b)) 160), (100000, .row 6 v5_0.length (rowF THole.c v5_0) 70)]⟩ .nil kr .nil <| ath_n <| aw_seq ?_
  refine aw_cond (decide ((v21 : Int) < ((((Fparts b).length : Nat) : Int)))) kr (fun h1 => ?_) (fun h1 => ?_)
  ·have g1 := of_decide_eq_true h1
   refine aw_skip <| ath_n ?_
   refine aw_seq <| aw_block <| aw_seq ?_
   refine aw_region eqok [] [] [] [1, 2, 5, 6, 8, 19, 20, 21] [2, 5, 8, 19, 100000] [0 <= (v21 : Int) /\ (v21 : Int) < (((Fparts b).length : Nat) : Int), v21.toNat < (Fparts b).length] ⟨[(1, .av (.one (lst 3 TType.c types))), (2, tP 2 0), (5, tP 5 0), (6, .av (.one (.clo 60 1 (listF [.ptr 5 0])))), (8, tP 8 0), (19, .av (.one (.own 19 7 ((Fparts b).length)))), (20, tI ((((Fparts b).length : Nat) : Int))), (21, tI v21)], [(2, .cells (TBoard.c b) 41), (5, .cells [.own 100000 6 v5_0.length] 53), (8, .cells (TPlaced.c ((Fparts b).getD v21.toNat default)) 160), (19, .row 7 ((Fparts b).length) (rowF TPlaced.c (Fparts b)) 160), (100000, .row 6 v5_0.length (rowF THole.c v5_0) 70)]⟩ .nil kr (.cons au0 (.cons au0 .nil)) <| ath_n <| aw_seq ?_
   refine aw_region eqok [] [] [(29, cGet types (((Fparts b).getD v21.toNat default).Type'))] [1, 2, 5, 6, 8, 9, 19, 20, 21] [2, 5, 8, 9, 19, 100000] [Same (cGet types (((Fparts b).getD v21.toNat default).Type')).2.1] ⟨[(1, .av (.one (lst 3 TType.c types))), (2, tP 2 0), (5, tP 5 0), (6, .av (.one (.clo 60 1 (listF [.ptr 5 0])))), (8, tP 8 0), (9, tP 9 0), (19, .av (.one (.own 19 7 ((Fparts b).length)))), (20, tI ((((Fparts b).length : Nat) : Int))), (21, tI v21)], [(2, .cells (TBoard.c b) 41), (5, .cells [.own 100000 6 v5_0.length] 53), (8, .cells (TPlaced.c ((Fparts b).getD v21.toNat default)) 160), (9, .cells (TType.c ((FGet types (((Fparts b).getD v21.toNat default).Type')).1)) 82), (19, .row 7 ((Fparts b).length) (rowF TPlaced.c (Fparts b)) 160), (100000, .row 6 v5_0.length (rowF THole.c v5_0) 70)]⟩ (.cons (okGet types (((Fparts b).getD v21.toNat default).Type') au6) .nil) kr (.cons rfl .nil) <| ath_n <| aw_seq ?_
   refine aw_region eqok [] [] [] [1, 2, 5, 6, 8, 19, 20, 21, 33, 34, 35] [2, 5, 8, 19, 100000] [] ⟨[(1, .av (.one (lst 3 TType.c types))), (2, tP 2 0), (5, tP 5 0), (6, .av (.one (.clo 60 1 (listF [.ptr 5 0])))), (8, tP 8 0), (19, .av (.one (.own 19 7 ((Fparts b).length)))), (20, tI ((((Fparts b).length : Nat) : Int))), (21, tI v21), (33, .av (.one (lst 7 TPad.c (((FGet types (((Fparts b).getD v21.toNat default).Type')).1).Pads)))), (34, tI (((((FGet types (((Fparts b).getD v21.toNat default).Type')).1).Pads).length : Int))), (35, tI 0)], [(2, .cells (TBoard.c b) 41), (5, .cells [.own 100000 6 v5_0.length] 53), (8, .cells (TPlaced.c ((Fparts b).getD v21.toNat default)) 160), (19, .row 7 ((Fparts b).length) (rowF TPlaced.c (Fparts b)) 160), (100000, .row 6 v5_0.length (rowF THole.c v5_0) 70)]⟩ .nil kr .nil <| ath_n <| aw_block ?_
   refine aw_loopC (ι := Nat × List THole × Int) (fun x => ⟨[(1, .av (.one (lst 3 TType.c types))), (2, tP 2 0), (5, tP 5 0), (6, .av (.one (.clo 60 1 (listF [.ptr 5 0])))), (8, tP 8 0), (19, .av (.one (.own 19 7 ((Fparts b).length)))), (20, tI ((((Fparts b).length : Nat) : Int))), (21, tI v21), (33, .av (.one (lst 7 TPad.c (((FGet types (((Fparts b).getD v21.toNat default).Type')).1).Pads)))), (34, tI (((((FGet types (((Fparts b).getD v21.toNat default).Type')).1).Pads).length : Int))), (35, tI x.2.2)], [(2, .cells (TBoard.c b) 41), (5, .cells [.own 100000 6 x.2.1.length] 53), (8, .cells (TPlaced.c ((Fparts b).getD v21.toNat default)) 160), (19, .row 7 ((Fparts b).length) (rowF TPlaced.c (Fparts b)) 160), (100000, .row 6 x.2.1.length (rowF THole.c x.2.1) 70)]⟩) (fun x => (((((((FGet types (((Fparts b).getD v21.toNat default).Type')).1).Pads).length : Int))) - x.2.2).toNat < x.1 /\ ((x.2.1.length : Int) <= 1000000 * v21 + x.2.2 /\ 0 <= x.2.2 /\ (x.2.2 <= (((((FGet types (((Fparts b).getD v21.toNat default).Type')).1).Pads).length : Int)) \/ x.2.2 = 0)) /\ FHoles_l1 b types v5_0 v21 (FHoles_l0 b types n0) x.1 x.2.1 x.2.2 = FHoles b types) (fun x => x.1) ?_ ((((((((FGet types (((Fparts b).getD v21.toNat default).Type')).1).Pads).length : Int))) - 0).toNat + 1, v5_0, 0) ⟨Nat.lt_succ_self _, ⟨(by show (v5_0.length : Int) <= 1000000 * v21 + 0; first | trivial | omega | exact at0 | exact at1 | exact at2 | (simp; omega) | simp), (by show 0 <= 0; first | trivial | omega | exact at0 | exact at1 | exact at2 | (simp; omega) | simp), (by show (0 <= (((((FGet types (((Fparts b).getD v21.toNat default).Type')).1).Pads).length : Int)) \/ 0 = 0); first | trivial | omega | exact at0 | exact at1 | exact at2 | (simp; omega) | simp)⟩, (by rw [<- hF0]; simp only [FHoles_l0, h1, cond_true, cond_false])⟩
   rintro ⟨n1, v5_0', v35⟩ ⟨hn, hinv, hF⟩
   have hm1 : (((((((FGet types (((Fparts b).getD v21.toNat default).Type')).1).Pads).length : Int))) - v35).toNat < n1 := hn; have hinv1 : (v5_0'.length : Int) <= 1000000 * v21 + v35 /\ 0 <= v35 /\ (v35 <= (((((FGet types (((Fparts b).getD v21.toNat default).Type')).1).Pads).length : Int)) \/ v35 = 0) := hinv; have hF1 : FHoles_l1 b types v5_0 v21 (FHoles_l0 b types n0) n1 v5_0' v35 = FHoles b types := hF; clear hn hinv hF
   cases n1 with
   | zero => exact absurd hm1 (Nat.not_lt_zero _)
   | succ n1 =>
    have hpp := get_pads_len2 ht ((Fparts b).getD v21.toNat default).Type'
    refine aw_seq ?_
    refine aw_region eqok [] [] [] [1, 2, 5, 6, 8, 19, 20, 21, 33, 34, 35, 36] [2, 5, 8, 19, 100000] [] ⟨[(1, .av (.one (lst 3 TType.c types))), (2, tP 2 0), (5, tP 5 0), (6, .av (.one (.clo 60 1 (listF [.ptr 5 0])))), (8, tP 8 0), (19, .av (.one (.own 19 7 ((Fparts b).length)))), (20, tI ((((Fparts b).length : Nat) : Int))), (21, tI v21), (33, .av (.one (lst 7 TPad.c (((FGet types (((Fparts b).getD v21.toNat default).Type')).1).Pads)))), (34, tI (((((FGet types (((Fparts b).getD v21.toNat default).Type')).1).Pads).length : Int))), (35, tI v35), (36, tB (decide ((v35 : Int) < (((((FGet types (((Fparts b).getD v21.toNat default).Type')).1).Pads).length : Int)))))], [(2, .cells (TBoard.c b) 41), (5, .cells [.own 100000 6 v5_0'.length] 53), (8, .cells (TPlaced.c ((Fparts b).getD v21.toNat default)) 160), (19, .row 7 ((Fparts b).length) (rowF TPlaced.c (Fparts b)) 160), (100000, .row 6 v5_0'.length (rowF THole.c v5_0') 70)]⟩ .nil kr .nil <| ath_n <| aw_seq ?_
    refine aw_cond (decide ((v35 : Int) < (((((FGet types (((Fparts b).getD v21.toNat default).Type')).1).Pads).length : Int)))) kr (fun h2 => ?_) (fun h2 => ?_)
    ·have g2 := of_decide_eq_true h2
     refine aw_skip <| ath_n <| aw_seq ?_
     refine aw_joinC (⟨[(1, .av (.one (lst 3 TType.c types))), (2, tP 2 0), (5, tP 5 0), (6, .av (.one (.clo 60 1 (listF [.ptr 5 0])))), (8, tP 8 0), (19, .av (.one (.own 19 7 ((Fparts b).length)))), (20, tI ((((Fparts b).length : Nat) : Int))), (21, tI v21), (33, .av (.one (lst 7 TPad.c (((FGet types (((Fparts b).getD v21.toNat default).Type')).1).Pads)))), (34, tI (((((FGet types (((Fparts b).getD v21.toNat default).Type')).1).Pads).length : Int))), (35, tI v35)], [(2, .cells (TBoard.c b) 41), (5, .cells [.own 100000 6 ((bif !decide (((((((FGet types (((Fparts b).getD v21.toNat default).Type')).1).Pads).getD v35.toNat default).Drill) : Int) = 0) then (Fplated v5_0' (FvecApply (FMotion ((Fparts b).getD v21.toNat default)) (((((FGet types (((Fparts b).getD v21.toNat default).Type')).1).Pads).getD v35.toNat default).At)) (((((FGet types (((Fparts b).getD v21.toNat default).Type')).1).Pads).getD v35.toNat default).Drill) 1 b.Layers) else v5_0').length)] 53), (8, .cells (TPlaced.c ((Fparts b).getD v21.toNat default)) 160), (19, .row 7 ((Fparts b).length) (rowF TPlaced.c (Fparts b)) 160), (100000, .row 6 ((bif !decide (((((((FGet types (((Fparts b).getD v21.toNat default).Type')).1).Pads).getD v35.toNat default).Drill) : Int) = 0) then (Fplated v5_0' (FvecApply (FMotion ((Fparts b).getD v21.toNat default)) (((((FGet types (((Fparts b).getD v21.toNat default).Type')).1).Pads).getD v35.toNat default).At)) (((((FGet types (((Fparts b).getD v21.toNat default).Type')).1).Pads).getD v35.toNat default).Drill) 1 b.Layers) else v5_0').length) (rowF THole.c (bif !decide (((((((FGet types (((Fparts b).getD v21.toNat default).Type')).1).Pads).getD v35.toNat default).Drill) : Int) = 0) then (Fplated v5_0' (FvecApply (FMotion ((Fparts b).getD v21.toNat default)) (((((FGet types (((Fparts b).getD v21.toNat default).Type')).1).Pads).getD v35.toNat default).At)) (((((FGet types (((Fparts b).getD v21.toNat default).Type')).1).Pads).getD v35.toNat default).Drill) 1 b.Layers) else v5_0')) 70)]⟩) ?_ ?_
     ·refine aw_block <| aw_seq ?_
      refine aw_region eqok [] [] [] [1, 2, 5, 6, 8, 12, 19, 20, 21, 33, 34, 35] [2, 5, 8, 12, 19, 100000] [0 <= (v35 : Int) /\ (v35 : Int) < (((((FGet types (((Fparts b).getD v21.toNat default).Type')).1).Pads).length : Nat) : Int)] ⟨[(1, .av (.one (lst 3 TType.c types))), (2, tP 2 0), (5, tP 5 0), (6, .av (.one (.clo 60 1 (listF [.ptr 5 0])))), (8, tP 8 0), (12, tP 12 0), (19, .av (.one (.own 19 7 ((Fparts b).length)))), (20, tI ((((Fparts b).length : Nat) : Int))), (21, tI v21), (33, .av (.one (lst 7 TPad.c (((FGet types (((Fparts b).getD v21.toNat default).Type')).1).Pads)))), (34, tI (((((FGet types (((Fparts b).getD v21.toNat default).Type')).1).Pads).length : Int))), (35, tI v35)], [(2, .cells (TBoard.c b) 41), (5, .cells [.own 100000 6 v5_0'.length] 53), (8, .cells (TPlaced.c ((Fparts b).getD v21.toNat default)) 160), (12, .cells (TPad.c ((((FGet types (((Fparts b).getD v21.toNat default).Type')).1).Pads).getD v35.toNat default)) 102), (19, .row 7 ((Fparts b).length) (rowF TPlaced.c (Fparts b)) 160), (100000, .row 6 v5_0'.length (rowF THole.c v5_0') 70)]⟩ .nil kr (.cons au0 .nil) <| ath_n <| aw_seq ?_
      refine aw_region eqok [] [] [] [1, 2, 5, 6, 8, 12, 19, 20, 21, 33, 34, 35, 41] [2, 5, 8, 12, 19, 100000] [] ⟨[(1, .av (.one (lst 3 TType.c types))), (2, tP 2 0), (5, tP 5 0), (6, .av (.one (.clo 60 1 (listF [.ptr 5 0])))), (8, tP 8 0), (12, tP 12 0), (19, .av (.one (.own 19 7 ((Fparts b).length)))), (20, tI ((((Fparts b).length : Nat) : Int))), (21, tI v21), (33, .av (.one (lst 7 TPad.c (((FGet types (((Fparts b).getD v21.toNat default).Type')).1).Pads)))), (34, tI (((((FGet types (((Fparts b).getD v21.toNat default).Type')).1).Pads).length : Int))), (35, tI v35), (41, tB (!decide (((((((FGet types (((Fparts b).getD v21.toNat default).Type')).1).Pads).getD v35.toNat default).Drill) : Int) = 0)))], [(2, .cells (TBoard.c b) 41), (5, .cells [.own 100000 6 v5_0'.length] 53), (8, .cells (TPlaced.c ((Fparts b).getD v21.toNat default)) 160), (12, .cells (TPad.c ((((FGet types (((Fparts b).getD v21.toNat default).Type')).1).Pads).getD v35.toNat default)) 102), (19, .row 7 ((Fparts b).length) (rowF TPlaced.c (Fparts b)) 160), (100000, .row 6 v5_0'.length (rowF THole.c v5_0') 70)]⟩ .nil kr .nil <| ath_n ?_
      refine aw_cond (!decide (((((((FGet types (((Fparts b).getD v21.toNat default).Type')).1).Pads).getD v35.toNat default).Drill) : Int) = 0)) kr (fun h3 => ?_) (fun h3 => ?_)
      ·have g3 := of_not_decide_true h3
       refine aw_callAdraw (q := 5) (r := 100000) mixed eqok 10 rfl kr [] [] [(44, cMotion ((Fparts b).getD v21.toNat default)), (47, cvecApply (FMotion ((Fparts b).getD v21.toNat default)) (((((FGet types (((Fparts b).getD v21.toNat default).Type')).1).Pads).getD v35.toNat default).At))] [1, 2, 5, 6, 8, 19, 20, 21, 33, 34, 35, 42, 47, 49, 51] [2, 5, 8, 19, 100000] [Same (cMotion ((Fparts b).getD v21.toNat default)).2.1, Same (cvecApply (FMotion ((Fparts b).getD v21.toNat default)) (((((FGet types (((Fparts b).getD v21.toNat default).Type')).1).Pads).getD v35.toNat default).At)).2.1] ⟨[(1, .av (.one (lst 3 TType.c types))), (2, tP 2 0), (5, tP 5 0), (6, .av (.one (.clo 60 1 (listF [.ptr 5 0])))), (8, tP 8 0), (19, .av (.one (.own 19 7 ((Fparts b).length)))), (20, tI ((((Fparts b).length : Nat) : Int))), (21, tI v21), (33, .av (.one (lst 7 TPad.c (((FGet types (((Fparts b).getD v21.toNat default).Type')).1).Pads)))), (34, tI (((((FGet types (((Fparts b).getD v21.toNat default).Type')).1).Pads).length : Int))), (35, tI v35), (42, .av (.one (.clo 60 1 (listF [.ptr 5 0])))), (47, .av (.agg (TPoint.c (FvecApply (FMotion ((Fparts b).getD v21.toNat default)) (((((FGet types (((Fparts b).getD v21.toNat default).Type')).1).Pads).getD v35.toNat default).At))))), (49, tI (((((FGet types (((Fparts b).getD v21.toNat default).Type')).1).Pads).getD v35.toNat default).Drill)), (51, tI b.Layers)], [(2, .cells (TBoard.c b) 41), (5, .cells [.own 100000 6 v5_0'.length] 53), (8, .cells (TPlaced.c ((Fparts b).getD v21.toNat default)) 160), (19, .row 7 ((Fparts b).length) (rowF TPlaced.c (Fparts b)) 160), (100000, .row 6 v5_0'.length (rowF THole.c v5_0') 70)]⟩ ⟨[(1, .av (.one (lst 3 TType.c types))), (2, tP 2 0), (5, tP 5 0), (6, .av (.one (.clo 60 1 (listF [.ptr 5 0])))), (8, tP 8 0), (19, .av (.one (.own 19 7 ((Fparts b).length)))), (20, tI ((((Fparts b).length : Nat) : Int))), (21, tI v21), (33, .av (.one (lst 7 TPad.c (((FGet types (((Fparts b).getD v21.toNat default).Type')).1).Pads)))), (34, tI (((((FGet types (((Fparts b).getD v21.toNat default).Type')).1).Pads).length : Int))), (35, tI v35), (42, .av (.one (.clo 60 1 (listF [.ptr 5 0])))), (47, .av (.agg (TPoint.c (FvecApply (FMotion ((Fparts b).getD v21.toNat default)) (((((FGet types (((Fparts b).getD v21.toNat default).Type')).1).Pads).getD v35.toNat default).At))))), (49, tI (((((FGet types (((Fparts b).getD v21.toNat default).Type')).1).Pads).getD v35.toNat default).Drill)), (51, tI b.Layers)], [(2, .cells (TBoard.c b) 41), (5, .cells [.own 100000 6 ((Fplated v5_0' (FvecApply (FMotion ((Fparts b).getD v21.toNat default)) (((((FGet types (((Fparts b).getD v21.toNat default).Type')).1).Pads).getD v35.toNat default).At)) (((((FGet types (((Fparts b).getD v21.toNat default).Type')).1).Pads).getD v35.toNat default).Drill) 1 b.Layers).length)] 53), (8, .cells (TPlaced.c ((Fparts b).getD v21.toNat default)) 160), (19, .row 7 ((Fparts b).length) (rowF TPlaced.c (Fparts b)) 160), (100000, .row 6 ((Fplated v5_0' (FvecApply (FMotion ((Fparts b).getD v21.toNat default)) (((((FGet types (((Fparts b).getD v21.toNat default).Type')).1).Pads).getD v35.toNat default).At)) (((((FGet types (((Fparts b).getD v21.toNat default).Type')).1).Pads).getD v35.toNat default).Drill) 1 b.Layers).length) (rowF THole.c (Fplated v5_0' (FvecApply (FMotion ((Fparts b).getD v21.toNat default)) (((((FGet types (((Fparts b).getD v21.toNat default).Type')).1).Pads).getD v35.toNat default).At)) (((((FGet types (((Fparts b).getD v21.toNat default).Type')).1).Pads).getD v35.toNat default).Drill) 1 b.Layers)) 70)]⟩ (.cons (okMotion ((Fparts b).getD v21.toNat default)) (.cons (okvecApply (FMotion ((Fparts b).getD v21.toNat default)) (((((FGet types (((Fparts b).getD v21.toNat default).Type')).1).Pads).getD v35.toNat default).At)) .nil)) kr kr (.cons rfl (.cons rfl .nil)) kr (K := []) (fun k x h => by cases h) kr ⟨⟨_, _, 60, 1, listF [.ptr 5 0], [.agg (TPoint.c (FvecApply (FMotion ((Fparts b).getD v21.toNat default)) (((((FGet types (((Fparts b).getD v21.toNat default).Type')).1).Pads).getD v35.toNat default).At))), .one (.i (((((FGet types (((Fparts b).getD v21.toNat default).Type')).1).Pads).getD v35.toNat default).Drill)), .one (.i 1), .one (.i b.Layers)], rfl, rfl, by kernel_rfl, rfl, by kernel_rfl, by kernel_rfl, fun _ _ => by kernel_rfl, pplated v5_0' (FvecApply (FMotion ((Fparts b).getD v21.toNat default)) (((((FGet types (((Fparts b).getD v21.toNat default).Type')).1).Pads).getD v35.toNat default).At)) (((((FGet types (((Fparts b).getD v21.toNat default).Type')).1).Pads).getD v35.toNat default).Drill) 1 b.Layers au6⟩, rfl, by kernel_rfl, by kernel_rfl, by kernel_rfl⟩ kr <| abl_n <| ath_n ?_
       refine Cv.trans (cv_keep [1, 2, 5, 6, 8, 19, 20, 21, 33, 34, 35] [2, 5, 8, 19, 100000] (⟨[(1, .av (.one (lst 3 TType.c types))), (2, tP 2 0), (5, tP 5 0), (6, .av (.one (.clo 60 1 (listF [.ptr 5 0])))), (8, tP 8 0), (19, .av (.one (.own 19 7 ((Fparts b).length)))), (20, tI ((((Fparts b).length : Nat) : Int))), (21, tI v21), (33, .av (.one (lst 7 TPad.c (((FGet types (((Fparts b).getD v21.toNat default).Type')).1).Pads)))), (34, tI (((((FGet types (((Fparts b).getD v21.toNat default).Type')).1).Pads).length : Int))), (35, tI v35)], [(2, .cells (TBoard.c b) 41), (5, .cells [.own 100000 6 ((Fplated v5_0' (FvecApply (FMotion ((Fparts b).getD v21.toNat default)) (((((FGet types (((Fparts b).getD v21.toNat default).Type')).1).Pads).getD v35.toNat default).At)) (((((FGet types (((Fparts b).getD v21.toNat default).Type')).1).Pads).getD v35.toNat default).Drill) 1 b.Layers).length)] 53), (8, .cells (TPlaced.c ((Fparts b).getD v21.toNat default)) 160), (19, .row 7 ((Fparts b).length) (rowF TPlaced.c (Fparts b)) 160), (100000, .row 6 ((Fplated v5_0' (FvecApply (FMotion ((Fparts b).getD v21.toNat default)) (((((FGet types (((Fparts b).getD v21.toNat default).Type')).1).Pads).getD v35.toNat default).At)) (((((FGet types (((Fparts b).getD v21.toNat default).Type')).1).Pads).getD v35.toNat default).Drill) 1 b.Layers).length) (rowF THole.c (Fplated v5_0' (FvecApply (FMotion ((Fparts b).getD v21.toNat default)) (((((FGet types (((Fparts b).getD v21.toNat default).Type')).1).Pads).getD v35.toNat default).At)) (((((FGet types (((Fparts b).getD v21.toNat default).Type')).1).Pads).getD v35.toNat default).Drill) 1 b.Layers)) 70)]⟩) kr) (cv_eq ?_)
       first | rfl | (simp only [h3, cond_true, cond_false] <;> rfl)
      ·have g3 := of_not_decide_false h3
       refine aw_skip <| abl_n <| ath_n ?_
       refine Cv.trans (cv_keep [1, 2, 5, 6, 8, 19, 20, 21, 33, 34, 35] [2, 5, 8, 19, 100000] (⟨[(1, .av (.one (lst 3 TType.c types))), (2, tP 2 0), (5, tP 5 0), (6, .av (.one (.clo 60 1 (listF [.ptr 5 0])))), (8, tP 8 0), (19, .av (.one (.own 19 7 ((Fparts b).length)))), (20, tI ((((Fparts b).length : Nat) : Int))), (21, tI v21), (33, .av (.one (lst 7 TPad.c (((FGet types (((Fparts b).getD v21.toNat default).Type')).1).Pads)))), (34, tI (((((FGet types (((Fparts b).getD v21.toNat default).Type')).1).Pads).length : Int))), (35, tI v35)], [(2, .cells (TBoard.c b) 41), (5, .cells [.own 100000 6 v5_0'.length] 53), (8, .cells (TPlaced.c ((Fparts b).getD v21.toNat default)) 160), (19, .row 7 ((Fparts b).length) (rowF TPlaced.c (Fparts b)) 160), (100000, .row 6 v5_0'.length (rowF THole.c v5_0') 70)]⟩) kr) (cv_eq ?_)
       first | rfl | (simp only [h3, cond_true, cond_false] <;> rfl)
     refine aw_region eqok [] [] [] [1, 2, 5, 6, 8, 19, 20, 21, 33, 34, 35] [2, 5, 8, 19, 100000] [] ⟨[(1, .av (.one (lst 3 TType.c types))), (2, tP 2 0), (5, tP 5 0), (6, .av (.one (.clo 60 1 (listF [.ptr 5 0])))), (8, tP 8 0), (19, .av (.one (.own 19 7 ((Fparts b).length)))), (20, tI ((((Fparts b).length : Nat) : Int))), (21, tI v21), (33, .av (.one (lst 7 TPad.c (((FGet types (((Fparts b).getD v21.toNat default).Type')).1).Pads)))), (34, tI (((((FGet types (((Fparts b).getD v21.toNat default).Type')).1).Pads).length : Int))), (35, tI (W64 (v35 + 1)))], [(2, .cells (TBoard.c b) 41), (5, .cells [.own 100000 6 ((bif !decide (((((((FGet types (((Fparts b).getD v21.toNat default).Type')).1).Pads).getD v35.toNat default).Drill) : Int) = 0) then (Fplated v5_0' (FvecApply (FMotion ((Fparts b).getD v21.toNat default)) (((((FGet types (((Fparts b).getD v21.toNat default).Type')).1).Pads).getD v35.toNat default).At)) (((((FGet types (((Fparts b).getD v21.toNat default).Type')).1).Pads).getD v35.toNat default).Drill) 1 b.Layers) else v5_0').length)] 53), (8, .cells (TPlaced.c ((Fparts b).getD v21.toNat default)) 160), (19, .row 7 ((Fparts b).length) (rowF TPlaced.c (Fparts b)) 160), (100000, .row 6 ((bif !decide (((((((FGet types (((Fparts b).getD v21.toNat default).Type')).1).Pads).getD v35.toNat default).Drill) : Int) = 0) then (Fplated v5_0' (FvecApply (FMotion ((Fparts b).getD v21.toNat default)) (((((FGet types (((Fparts b).getD v21.toNat default).Type')).1).Pads).getD v35.toNat default).At)) (((((FGet types (((Fparts b).getD v21.toNat default).Type')).1).Pads).getD v35.toNat default).Drill) 1 b.Layers) else v5_0').length) (rowF THole.c (bif !decide (((((((FGet types (((Fparts b).getD v21.toNat default).Type')).1).Pads).getD v35.toNat default).Drill) : Int) = 0) then (Fplated v5_0' (FvecApply (FMotion ((Fparts b).getD v21.toNat default)) (((((FGet types (((Fparts b).getD v21.toNat default).Type')).1).Pads).getD v35.toNat default).At)) (((((FGet types (((Fparts b).getD v21.toNat default).Type')).1).Pads).getD v35.toNat default).Drill) 1 b.Layers) else v5_0')) 70)]⟩ .nil kr .nil ?_
     (try rw [(show W64 (v35 + 1) = v35 + 1 from W64_id (by omega) au5)])
     refine ath_n ?_
     refine ⟨(n1, bif !decide (((((((FGet types (((Fparts b).getD v21.toNat default).Type')).1).Pads).getD v35.toNat default).Drill) : Int) = 0) then (Fplated v5_0' (FvecApply (FMotion ((Fparts b).getD v21.toNat default)) (((((FGet types (((Fparts b).getD v21.toNat default).Type')).1).Pads).getD v35.toNat default).At)) (((((FGet types (((Fparts b).getD v21.toNat default).Type')).1).Pads).getD v35.toNat default).Drill) 1 b.Layers) else v5_0', v35 + 1), ⟨?_, ?_, (by rw [<- hF1]; simp only [FHoles_l1, h2, cond_true, cond_false])⟩, Nat.lt_succ_self _, cv_eq kr⟩
     ·show (((((((FGet types (((Fparts b).getD v21.toNat default).Type')).1).Pads).length : Int))) - (v35 + 1)).toNat < n1; omega
     ·exact (by show ((bif !decide (((((((FGet types (((Fparts b).getD v21.toNat default).Type')).1).Pads).getD v35.toNat default).Drill) : Int) = 0) then (Fplated v5_0' (FvecApply (FMotion ((Fparts b).getD v21.toNat default)) (((((FGet types (((Fparts b).getD v21.toNat default).Type')).1).Pads).getD v35.toNat default).At)) (((((FGet types (((Fparts b).getD v21.toNat default).Type')).1).Pads).getD v35.toNat default).Drill) 1 b.Layers) else v5_0').length : Int) <= 1000000 * v21 + (v35 + 1) /\ 0 <= (v35 + 1) /\ ((v35 + 1) <= (((((FGet types (((Fparts b).getD v21.toNat default).Type')).1).Pads).length : Int)) \/ (v35 + 1) = 0); (first | (refine ⟨?_, by omega, by omega⟩) | skip); first | omega | (refine Int.le_trans (plated_bif _ _ _ _ _ _) ?_; omega) | (refine Int.le_trans (plated_le _ _ _ _ _) ?_; omega) | exact at0)
    ·have g2 := of_decide_eq_false h2
     refine aw_exit <| ath_e ?_
     refine ath_e <| abl_hit ?_
     refine abl_n <| ath_n ?_
     refine aw_region eqok [] [] [] [1, 2, 5, 6, 19, 20, 21] [2, 5, 19, 100000] [] ⟨[(1, .av (.one (lst 3 TType.c types))), (2, tP 2 0), (5, tP 5 0), (6, .av (.one (.clo 60 1 (listF [.ptr 5 0])))), (19, .av (.one (.own 19 7 ((Fparts b).length)))), (20, tI ((((Fparts b).length : Nat) : Int))), (21, tI (W64 (v21 + 1)))], [(2, .cells (TBoard.c b) 41), (5, .cells [.own 100000 6 v5_0'.length] 53), (19, .row 7 ((Fparts b).length) (rowF TPlaced.c (Fparts b)) 160), (100000, .row 6 v5_0'.length (rowF THole.c v5_0') 70)]⟩ .nil kr .nil ?_
     (try rw [(show W64 (v21 + 1) = v21 + 1 from W64_id (by omega) au5)])
     refine ath_n ?_
     refine ⟨(n0, v5_0', v21 + 1), ⟨?_, ?_, (by rw [<- hF1]; simp only [FHoles_l1, h2, cond_true, cond_false])⟩, Nat.lt_succ_self _, cv_eq kr⟩
     ·show ((((((Fparts b).length : Nat) : Int))) - (v21 + 1)).toNat < n0; omega
     ·exact (by show (v5_0'.length : Int) <= 1000000 * (v21 + 1) /\ 0 <= (v21 + 1) /\ ((v21 + 1) <= ((((Fparts b).length : Nat) : Int)) \/ (v21 + 1) = 0); (first | (refine ⟨?_, by omega, by omega⟩) | skip); first | omega | (refine Int.le_trans (plated_bif _ _ _ _ _ _) ?_; omega) | (refine Int.le_trans (plated_le _ _ _ _ _) ?_; omega) | exact at0)
  ·have g1 := of_decide_eq_false h1
   refine aw_exit <| ath_e ?_
   refine ath_e <| abl_hit ?_
   refine ath_n <| aw_seq <| aw_seq ?_
   refine aw_region eqok [] [] [(56, cvias b)] [2, 5, 6, 56, 57, 58] [2, 5, 56, 100000] [Same (cvias b).2.1] ⟨[(2, tP 2 0), (5, tP 5 0), (6, .av (.one (.clo 60 1 (listF [.ptr 5 0])))), (56, .av (.one (.own 56 8 ((Fvias b).length)))), (57, tI ((((Fvias b).length : Nat) : Int))), (58, tI 0)], [(2, .cells (TBoard.c b) 41), (5, .cells [.own 100000 6 v5_0.length] 53), (56, .row 8 ((Fvias b).length) (rowF TVia.c (Fvias b)) 154), (100000, .row 6 v5_0.length (rowF THole.c v5_0) 70)]⟩ (.cons (okvias b au6) .nil) kr (.cons rfl .nil) <| ath_n <| aw_block ?_
   refine aw_loopC (ι := Nat × List THole × Int) (fun x => ⟨[(2, tP 2 0), (5, tP 5 0), (6, .av (.one (.clo 60 1 (listF [.ptr 5 0])))), (56, .av (.one (.own 56 8 ((Fvias b).length)))), (57, tI ((((Fvias b).length : Nat) : Int))), (58, tI x.2.2)], [(2, .cells (TBoard.c b) 41), (5, .cells [.own 100000 6 x.2.1.length] 53), (56, .row 8 ((Fvias b).length) (rowF TVia.c (Fvias b)) 154), (100000, .row 6 x.2.1.length (rowF THole.c x.2.1) 70)]⟩) (fun x => ((((((Fvias b).length : Nat) : Int))) - x.2.2).toNat < x.1 /\ ((x.2.1.length : Int) <= 20000000 + x.2.2 /\ 0 <= x.2.2 /\ (x.2.2 <= ((((Fvias b).length : Nat) : Int)) \/ x.2.2 = 0)) /\ FHoles_l2 b types v5_0 v21 (FHoles_l0 b types n0) x.1 x.2.1 x.2.2 = FHoles b types) (fun x => x.1) ?_ (((((((Fvias b).length : Nat) : Int))) - 0).toNat + 1, v5_0, 0) ⟨Nat.lt_succ_self _, ⟨(by show (v5_0.length : Int) <= 20000000 + 0; first | trivial | omega | exact at0 | exact at1 | exact at2 | (simp; omega) | simp), (by show 0 <= 0; first | trivial | omega | exact at0 | exact at1 | exact at2 | (simp; omega) | simp), (by show (0 <= ((((Fvias b).length : Nat) : Int)) \/ 0 = 0); first | trivial | omega | exact at0 | exact at1 | exact at2 | (simp; omega) | simp)⟩, (by rw [<- hF0]; simp only [FHoles_l0, h1, cond_true, cond_false])⟩
   rintro ⟨n2, v5_0', v58⟩ ⟨hn, hinv, hF⟩
   have hm2 : ((((((Fvias b).length : Nat) : Int))) - v58).toNat < n2 := hn; have hinv2 : (v5_0'.length : Int) <= 20000000 + v58 /\ 0 <= v58 /\ (v58 <= ((((Fvias b).length : Nat) : Int)) \/ v58 = 0) := hinv; have hF2 : FHoles_l2 b types v5_0 v21 (FHoles_l0 b types n0) n2 v5_0' v58 = FHoles b types := hF; clear hn hinv hF
   cases n2 with
   | zero => exact absurd hm2 (Nat.not_lt_zero _)
   | succ n2 =>
    refine aw_seq ?_
    refine aw_region eqok [] [] [] [2, 5, 6, 56, 57, 58, 59] [2, 5, 56, 100000] [] ⟨[(2, tP 2 0), (5, tP 5 0), (6, .av (.one (.clo 60 1 (listF [.ptr 5 0])))), (56, .av (.one (.own 56 8 ((Fvias b).length)))), (57, tI ((((Fvias b).length : Nat) : Int))), (58, tI v58), (59, tB (decide ((v58 : Int) < ((((Fvias b).length : Nat) : Int)))))], [(2, .cells (TBoard.c b) 41), (5, .cells [.own 100000 6 v5_0'.length] 53), (56, .row 8 ((Fvias b).length) (rowF TVia.c (Fvias b)) 154), (100000, .row 6 v5_0'.length (rowF THole.c v5_0') 70)]⟩ .nil kr .nil <| ath_n <| aw_seq ?_
    refine aw_cond (decide ((v58 : Int) < ((((Fvias b).length : Nat) : Int)))) kr (fun h2 => ?_) (fun h2 => ?_)
    ·have g2 := of_decide_eq_true h2
     refine aw_skip <| ath_n ?_
     refine aw_seq <| aw_block <| aw_seq ?_
     refine aw_region eqok [] [] [] [2, 5, 6, 14, 56, 57, 58] [2, 5, 14, 56, 100000] [0 <= (v58 : Int) /\ (v58 : Int) < (((Fvias b).length : Nat) : Int), v58.toNat < (Fvias b).length] ⟨[(2, tP 2 0), (5, tP 5 0), (6, .av (.one (.clo 60 1 (listF [.ptr 5 0])))), (14, tP 14 0), (56, .av (.one (.own 56 8 ((Fvias b).length)))), (57, tI ((((Fvias b).length : Nat) : Int))), (58, tI v58)], [(2, .cells (TBoard.c b) 41), (5, .cells [.own 100000 6 v5_0'.length] 53), (14, .cells (TVia.c ((Fvias b).getD v58.toNat default)) 154), (56, .row 8 ((Fvias b).length) (rowF TVia.c (Fvias b)) 154), (100000, .row 6 v5_0'.length (rowF THole.c v5_0') 70)]⟩ .nil kr (.cons au0 (.cons au0 .nil)) <| ath_n ?_
     refine aw_regionL ?_
     refine awl_run eqok 9 [] [] [] [2, 5, 6, 56, 57, 58, 62, 64, 66, 68, 70] [2, 5, 56, 100000] [] ⟨[(2, tP 2 0), (5, tP 5 0), (6, .av (.one (.clo 60 1 (listF [.ptr 5 0])))), (56, .av (.one (.own 56 8 ((Fvias b).length)))), (57, tI ((((Fvias b).length : Nat) : Int))), (58, tI v58), (62, .av (.one (.clo 60 1 (listF [.ptr 5 0])))), (64, .av (.agg (TPoint.c (((Fvias b).getD v58.toNat default).At)))), (66, tI (((Fvias b).getD v58.toNat default).Drill)), (68, tI (((Fvias b).getD v58.toNat default).From)), (70, tI (((Fvias b).getD v58.toNat default).To))], [(2, .cells (TBoard.c b) 41), (5, .cells [.own 100000 6 v5_0'.length] 53), (56, .row 8 ((Fvias b).length) (rowF TVia.c (Fvias b)) 154), (100000, .row 6 v5_0'.length (rowF THole.c v5_0') 70)]⟩ .nil kr .nil ?_
     refine awl_callA (q := 5) (r := 100000) (⟨[(2, tP 2 0), (5, tP 5 0), (6, .av (.one (.clo 60 1 (listF [.ptr 5 0])))), (56, .av (.one (.own 56 8 ((Fvias b).length)))), (57, tI ((((Fvias b).length : Nat) : Int))), (58, tI v58), (62, .av (.one (.clo 60 1 (listF [.ptr 5 0])))), (64, .av (.agg (TPoint.c (((Fvias b).getD v58.toNat default).At)))), (66, tI (((Fvias b).getD v58.toNat default).Drill)), (68, tI (((Fvias b).getD v58.toNat default).From)), (70, tI (((Fvias b).getD v58.toNat default).To))], [(2, .cells (TBoard.c b) 41), (5, .cells [.own 100000 6 ((Fplated v5_0' (((Fvias b).getD v58.toNat default).At) (((Fvias b).getD v58.toNat default).Drill) (((Fvias b).getD v58.toNat default).From) (((Fvias b).getD v58.toNat default).To)).length)] 53), (56, .row 8 ((Fvias b).length) (rowF TVia.c (Fvias b)) 154), (100000, .row 6 ((Fplated v5_0' (((Fvias b).getD v58.toNat default).At) (((Fvias b).getD v58.toNat default).Drill) (((Fvias b).getD v58.toNat default).From) (((Fvias b).getD v58.toNat default).To)).length) (rowF THole.c (Fplated v5_0' (((Fvias b).getD v58.toNat default).At) (((Fvias b).getD v58.toNat default).Drill) (((Fvias b).getD v58.toNat default).From) (((Fvias b).getD v58.toNat default).To))) 70)]⟩) (K := []) (fun k x h => by cases h) kr ⟨⟨_, _, 60, 1, listF [.ptr 5 0], [.agg (TPoint.c (((Fvias b).getD v58.toNat default).At)), .one (.i (((Fvias b).getD v58.toNat default).Drill)), .one (.i (((Fvias b).getD v58.toNat default).From)), .one (.i (((Fvias b).getD v58.toNat default).To))], rfl, rfl, by kernel_rfl, rfl, by kernel_rfl, by kernel_rfl, fun _ _ => by kernel_rfl, pplated v5_0' (((Fvias b).getD v58.toNat default).At) (((Fvias b).getD v58.toNat default).Drill) (((Fvias b).getD v58.toNat default).From) (((Fvias b).getD v58.toNat default).To) au6⟩, rfl, by kernel_rfl, by kernel_rfl, by kernel_rfl⟩ kr ?_
     refine awl_last eqok [] [] [] [2, 5, 6, 56, 57, 58] [2, 5, 56, 100000] [] ⟨[(2, tP 2 0), (5, tP 5 0), (6, .av (.one (.clo 60 1 (listF [.ptr 5 0])))), (56, .av (.one (.own 56 8 ((Fvias b).length)))), (57, tI ((((Fvias b).length : Nat) : Int))), (58, tI v58)], [(2, .cells (TBoard.c b) 41), (5, .cells [.own 100000 6 ((Fplated v5_0' (((Fvias b).getD v58.toNat default).At) (((Fvias b).getD v58.toNat default).Drill) (((Fvias b).getD v58.toNat default).From) (((Fvias b).getD v58.toNat default).To)).length)] 53), (56, .row 8 ((Fvias b).length) (rowF TVia.c (Fvias b)) 154), (100000, .row 6 ((Fplated v5_0' (((Fvias b).getD v58.toNat default).At) (((Fvias b).getD v58.toNat default).Drill) (((Fvias b).getD v58.toNat default).From) (((Fvias b).getD v58.toNat default).To)).length) (rowF THole.c (Fplated v5_0' (((Fvias b).getD v58.toNat default).At) (((Fvias b).getD v58.toNat default).Drill) (((Fvias b).getD v58.toNat default).From) (((Fvias b).getD v58.toNat default).To))) 70)]⟩ .nil kr .nil <| abl_n <| ath_n ?_
     refine aw_region eqok [] [] [] [2, 5, 6, 56, 57, 58] [2, 5, 56, 100000] [] ⟨[(2, tP 2 0), (5, tP 5 0), (6, .av (.one (.clo 60 1 (listF [.ptr 5 0])))), (56, .av (.one (.own 56 8 ((Fvias b).length)))), (57, tI ((((Fvias b).length : Nat) : Int))), (58, tI (W64 (v58 + 1)))], [(2, .cells (TBoard.c b) 41), (5, .cells [.own 100000 6 ((Fplated v5_0' (((Fvias b).getD v58.toNat default).At) (((Fvias b).getD v58.toNat default).Drill) (((Fvias b).getD v58.toNat default).From) (((Fvias b).getD v58.toNat default).To)).length)] 53), (56, .row 8 ((Fvias b).length) (rowF TVia.c (Fvias b)) 154), (100000, .row 6 ((Fplated v5_0' (((Fvias b).getD v58.toNat default).At) (((Fvias b).getD v58.toNat default).Drill) (((Fvias b).getD v58.toNat default).From) (((Fvias b).getD v58.toNat default).To)).length) (rowF THole.c (Fplated v5_0' (((Fvias b).getD v58.toNat default).At) (((Fvias b).getD v58.toNat default).Drill) (((Fvias b).getD v58.toNat default).From) (((Fvias b).getD v58.toNat default).To))) 70)]⟩ .nil kr .nil ?_
     (try rw [(show W64 (v58 + 1) = v58 + 1 from W64_id (by omega) au5)])
     refine ath_n ?_
     refine ⟨(n2, Fplated v5_0' (((Fvias b).getD v58.toNat default).At) (((Fvias b).getD v58.toNat default).Drill) (((Fvias b).getD v58.toNat default).From) (((Fvias b).getD v58.toNat default).To), v58 + 1), ⟨?_, ?_, (by rw [<- hF2]; simp only [FHoles_l2, h2, cond_true, cond_false])⟩, Nat.lt_succ_self _, cv_eq kr⟩
     ·show ((((((Fvias b).length : Nat) : Int))) - (v58 + 1)).toNat < n2; omega
     ·exact (by show ((Fplated v5_0' (((Fvias b).getD v58.toNat default).At) (((Fvias b).getD v58.toNat default).Drill) (((Fvias b).getD v58.toNat default).From) (((Fvias b).getD v58.toNat default).To)).length : Int) <= 20000000 + (v58 + 1) /\ 0 <= (v58 + 1) /\ ((v58 + 1) <= ((((Fvias b).length : Nat) : Int)) \/ (v58 + 1) = 0); (first | (refine ⟨?_, by omega, by omega⟩) | skip); first | omega | (refine Int.le_trans (plated_bif _ _ _ _ _ _) ?_; omega) | (refine Int.le_trans (plated_le _ _ _ _ _) ?_; omega) | exact at0)
    ·have g2 := of_decide_eq_false h2
     refine aw_exit <| ath_e ?_
     refine ath_e <| abl_hit ?_
     refine ath_n <| aw_seq <| aw_seq ?_
     refine aw_region eqok [] [] [(74, cslots b)] [2, 5, 74, 75, 76] [2, 5, 74, 100000] [Same (cslots b).2.1] ⟨[(2, tP 2 0), (5, tP 5 0), (74, .av (.one (.own 74 4 ((Fslots b).length)))), (75, tI ((((Fslots b).length : Nat) : Int))), (76, tI 0)], [(2, .cells (TBoard.c b) 41), (5, .cells [.own 100000 6 v5_0'.length] 53), (74, .row 4 ((Fslots b).length) (rowF TSlot.c (Fslots b)) 165), (100000, .row 6 v5_0'.length (rowF THole.c v5_0') 70)]⟩ (.cons (okslots b au6) .nil) kr (.cons rfl .nil) <| ath_n <| aw_block ?_
     refine aw_loopC (ι := Nat × List THole × Int) (fun x => ⟨[(2, tP 2 0), (5, tP 5 0), (74, .av (.one (.own 74 4 ((Fslots b).length)))), (75, tI ((((Fslots b).length : Nat) : Int))), (76, tI x.2.2)], [(2, .cells (TBoard.c b) 41), (5, .cells [.own 100000 6 x.2.1.length] 53), (74, .row 4 ((Fslots b).length) (rowF TSlot.c (Fslots b)) 165), (100000, .row 6 x.2.1.length (rowF THole.c x.2.1) 70)]⟩) (fun x => ((((((Fslots b).length : Nat) : Int))) - x.2.2).toNat < x.1 /\ ((x.2.1.length : Int) <= 20000020 + x.2.2 /\ 0 <= x.2.2 /\ (x.2.2 <= ((((Fslots b).length : Nat) : Int)) \/ x.2.2 = 0) /\ (x.2.1.length : Int) <= (v5_0'.length : Int) + 1 * (x.2.2 - 0)) /\ FHoles_l3 b types v5_0 v21 v5_0' v58 (FHoles_l0 b types n0) (FHoles_l2 b types v5_0 v21 (FHoles_l0 b types n0) n2) x.1 x.2.1 x.2.2 = FHoles b types) (fun x => x.1) ?_ (((((((Fslots b).length : Nat) : Int))) - 0).toNat + 1, v5_0', 0) ⟨Nat.lt_succ_self _, ⟨(by show (v5_0'.length : Int) <= 20000020 + 0; first | trivial | omega | exact at0 | exact at1 | exact at2 | (simp; omega) | simp), (by show 0 <= 0; first | trivial | omega | exact at0 | exact at1 | exact at2 | (simp; omega) | simp), (by show (0 <= ((((Fslots b).length : Nat) : Int)) \/ 0 = 0); first | trivial | omega | exact at0 | exact at1 | exact at2 | (simp; omega) | simp), (by show (v5_0'.length : Int) <= (v5_0'.length : Int) + 1 * (0 - 0); first | trivial | omega | exact at0 | exact at1 | exact at2 | (simp; omega) | simp)⟩, (by rw [<- hF2]; simp only [FHoles_l2, h2, cond_true, cond_false])⟩
     rintro ⟨n3, v5_0'', v76⟩ ⟨hn, hinv, hF⟩
     have hm3 : ((((((Fslots b).length : Nat) : Int))) - v76).toNat < n3 := hn; have hinv3 : (v5_0''.length : Int) <= 20000020 + v76 /\ 0 <= v76 /\ (v76 <= ((((Fslots b).length : Nat) : Int)) \/ v76 = 0) /\ (v5_0''.length : Int) <= (v5_0'.length : Int) + 1 * (v76 - 0) := hinv; have hF3 : FHoles_l3 b types v5_0 v21 v5_0' v58 (FHoles_l0 b types n0) (FHoles_l2 b types v5_0 v21 (FHoles_l0 b types n0) n2) n3 v5_0'' v76 = FHoles b types := hF; clear hn hinv hF
     cases n3 with
     | zero => exact absurd hm3 (Nat.not_lt_zero _)
     | succ n3 =>
      refine aw_seq ?_
      refine aw_region eqok [] [] [] [2, 5, 74, 75, 76, 77] [2, 5, 74, 100000] [] ⟨[(2, tP 2 0), (5, tP 5 0), (74, .av (.one (.own 74 4 ((Fslots b).length)))), (75, tI ((((Fslots b).length : Nat) : Int))), (76, tI v76), (77, tB (decide ((v76 : Int) < ((((Fslots b).length : Nat) : Int)))))], [(2, .cells (TBoard.c b) 41), (5, .cells [.own 100000 6 v5_0''.length] 53), (74, .row 4 ((Fslots b).length) (rowF TSlot.c (Fslots b)) 165), (100000, .row 6 v5_0''.length (rowF THole.c v5_0'') 70)]⟩ .nil kr .nil <| ath_n <| aw_seq ?_
      refine aw_cond (decide ((v76 : Int) < ((((Fslots b).length : Nat) : Int)))) kr (fun h3 => ?_) (fun h3 => ?_)
      ·have g3 := of_decide_eq_true h3
       refine aw_skip <| ath_n ?_
       refine aw_seq <| aw_block <| aw_seq ?_
       refine aw_region eqok [] [] [] [2, 5, 16, 74, 75, 76] [2, 5, 16, 74, 100000] [0 <= (v76 : Int) /\ (v76 : Int) < (((Fslots b).length : Nat) : Int), v76.toNat < (Fslots b).length] ⟨[(2, tP 2 0), (5, tP 5 0), (16, tP 16 0), (74, .av (.one (.own 74 4 ((Fslots b).length)))), (75, tI ((((Fslots b).length : Nat) : Int))), (76, tI v76)], [(2, .cells (TBoard.c b) 41), (5, .cells [.own 100000 6 v5_0''.length] 53), (16, .cells (TSlot.c ((Fslots b).getD v76.toNat default)) 165), (74, .row 4 ((Fslots b).length) (rowF TSlot.c (Fslots b)) 165), (100000, .row 6 v5_0''.length (rowF THole.c v5_0'') 70)]⟩ .nil kr (.cons au0 (.cons au0 .nil)) <| ath_n ?_
       refine aw_draw mixed eqok [] [] [(83, ccloned (((Fslots b).getD v76.toNat default).Shape))] [2, 5, 74, 75, 76] [2, 5, 74, 88] [Same (ccloned (((Fslots b).getD v76.toNat default).Shape)).2.1, v5_0''.length = v5_0''.length, v5_0''.length + 1 <= maxLen, (v5_0''.length + 1) * 64 <= 140737488355328] ⟨[(2, tP 2 0), (5, tP 5 0), (74, .av (.one (.own 74 4 ((Fslots b).length)))), (75, tI ((((Fslots b).length : Nat) : Int))), (76, tI v76)], [(2, .cells (TBoard.c b) 41), (5, .cells [.own 88 6 (v5_0''.length + 1)] 53), (74, .row 4 ((Fslots b).length) (rowF TSlot.c (Fslots b)) 165), (88, .row 6 (v5_0''.length + 1) (fun i_ j_ => if i_ < v5_0''.length then (rowF THole.c v5_0'') i_ j_ else (colsC 6 1 [.i ((Fcloned (((Fslots b).getD v76.toNat default).Shape)).Kind), lst 7 TEdge.c ((Fcloned (((Fslots b).getD v76.toNat default).Shape)).Edges), .i ((Fcloned (((Fslots b).getD v76.toNat default).Shape)).R), .i 1, .i b.Layers, .b false]) (i_ - v5_0''.length) j_) 70)]⟩ (.cons (okcloned (((Fslots b).getD v76.toNat default).Shape) au6) .nil) kr kr (.cons rfl (.cons rfl (.cons au4 (.cons au4 .nil)))) <| abl_n <| ath_n ?_
       refine aw_cv (Cv.trans (cv_ce (⟨[(2, tP 2 0), (5, tP 5 0), (74, .av (.one (.own 74 4 ((Fslots b).length)))), (75, tI ((((Fslots b).length : Nat) : Int))), (76, tI v76)], [(2, .cells (TBoard.c b) 41), (5, .cells [.own 88 6 ((v5_0'' ++ [THole.mk (Fcloned (((Fslots b).getD v76.toNat default).Shape)) 1 b.Layers false]).length)] 53), (74, .row 4 ((Fslots b).length) (rowF TSlot.c (Fslots b)) 165), (88, .row 6 ((v5_0'' ++ [THole.mk (Fcloned (((Fslots b).getD v76.toNat default).Shape)) 1 b.Layers false]).length) (rowF THole.c (v5_0'' ++ [THole.mk (Fcloned (((Fslots b).getD v76.toNat default).Shape)) 1 b.Layers false])) 70)]⟩) lr (.cons ⟨rfl, .refl _⟩ (.cons ⟨rfl, .cells _ (.cons (.own _ _ au3) .nil)⟩ (.cons ⟨rfl, .refl _⟩ (.cons ⟨rfl, bke_told 70 (told_app (told_rfl 6 THole.c v5_0'') (told_lit (c := THole.c) (xs := ([THole.mk (Fcloned (((Fslots b).getD v76.toNat default).Shape)) 1 b.Layers false] : List THole)) rfl kr))⟩ .nil))))) (Cv.refl _)) ?_
       refine aw_region eqok [] [] [] [2, 5, 74, 75, 76] [2, 5, 74, 88] [] ⟨[(2, tP 2 0), (5, tP 5 0), (74, .av (.one (.own 74 4 ((Fslots b).length)))), (75, tI ((((Fslots b).length : Nat) : Int))), (76, tI (W64 (v76 + 1)))], [(2, .cells (TBoard.c b) 41), (5, .cells [.own 88 6 ((v5_0'' ++ [THole.mk (Fcloned (((Fslots b).getD v76.toNat default).Shape)) 1 b.Layers false]).length)] 53), (74, .row 4 ((Fslots b).length) (rowF TSlot.c (Fslots b)) 165), (88, .row 6 ((v5_0'' ++ [THole.mk (Fcloned (((Fslots b).getD v76.toNat default).Shape)) 1 b.Layers false]).length) (rowF THole.c (v5_0'' ++ [THole.mk (Fcloned (((Fslots b).getD v76.toNat default).Shape)) 1 b.Layers false])) 70)]⟩ .nil kr .nil ?_
       (try rw [(show W64 (v76 + 1) = v76 + 1 from W64_id (by omega) au5)])
       refine ath_n ?_
       refine ⟨(n3, v5_0'' ++ [THole.mk (Fcloned (((Fslots b).getD v76.toNat default).Shape)) 1 b.Layers false], v76 + 1), ⟨?_, ?_, (by rw [<- hF3]; simp only [FHoles_l3, h3, cond_true, cond_false])⟩, Nat.lt_succ_self _, Cv.trans (cv_ren (⟨[(2, tP 2 0), (5, tP 5 0), (74, .av (.one (.own 74 4 ((Fslots b).length)))), (75, tI ((((Fslots b).length : Nat) : Int))), (76, tI (v76 + 1))], [(2, .cells (TBoard.c b) 41), (5, .cells [.own 100000 6 ((v5_0'' ++ [THole.mk (Fcloned (((Fslots b).getD v76.toNat default).Shape)) 1 b.Layers false]).length)] 53), (74, .row 4 ((Fslots b).length) (rowF TSlot.c (Fslots b)) 165), (100000, .row 6 ((v5_0'' ++ [THole.mk (Fcloned (((Fslots b).getD v76.toNat default).Shape)) 1 b.Layers false]).length) (rowF THole.c (v5_0'' ++ [THole.mk (Fcloned (((Fslots b).getD v76.toNat default).Shape)) 1 b.Layers false])) 70)]⟩) 88 100000 (K := []) (fun k x h => by cases h) rfl rfl kr kr) (cv_eq kr)⟩
       ·show ((((((Fslots b).length : Nat) : Int))) - (v76 + 1)).toNat < n3; omega
       ·exact (by show ((v5_0'' ++ [THole.mk (Fcloned (((Fslots b).getD v76.toNat default).Shape)) 1 b.Layers false]).length : Int) <= 20000020 + (v76 + 1) /\ 0 <= (v76 + 1) /\ ((v76 + 1) <= ((((Fslots b).length : Nat) : Int)) \/ (v76 + 1) = 0) /\ ((v5_0'' ++ [THole.mk (Fcloned (((Fslots b).getD v76.toNat default).Shape)) 1 b.Layers false]).length : Int) <= (v5_0'.length : Int) + 1 * ((v76 + 1) - 0); (first | (refine ⟨?_, by omega, by omega⟩) | skip); first | omega | (refine Int.le_trans (plated_bif _ _ _ _ _ _) ?_; omega) | (refine Int.le_trans (plated_le _ _ _ _ _) ?_; omega) | exact at0)
      ·have g3 := of_decide_eq_false h3
       refine aw_exit <| ath_e ?_
       refine ath_e <| abl_hit ?_
       refine ath_n <| aw_seq ?_
       refine aw_region eqok [] [] [] [4] [100000] [] ⟨[(4, .av (.one (.own 100000 6 v5_0''.length)))], [(100000, .row 6 v5_0''.length (rowF THole.c v5_0'') 70)]⟩ .nil kr .nil <| ath_n <| aw_ret ?_
       exact ⟨_, Cv.refl _, .inl rfl, .av (.one (.own 100000 6 v5_0''.length)), by kernel_rfl, frE (c := THole.c) (xs := v5_0'') (by rw [<- hF3]; first | (simp only [FHoles_l3, h3, cond_true, cond_false] <;> rfl)) kr⟩
end
end Go.Proofs.YtheobjkgllmnmaaGreat
